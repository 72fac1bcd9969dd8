/- Contracts by evaluation, part 1. -/
import Derived.Test.YtejiomhoflnboaaDoorAxM
import Derived.Test.YtejiomhoflnboaaDoorPush
namespace Go.Proofs.YtejiomhoflnboaaDoor
open Go.ChangeShapes Go.WideShapes Go.ChangeAt Go.RowKit
set_option maxRecDepth 100000
set_option linter.unusedSimpArgs false
set_option linter.unusedVariables false
theorem bxor_self (a : Bool) : bxor a a = false := by cases a <;> simp [bxor]
theorem getb_setb {l : List Bool} {i j : Int} {x : Bool} (h0 : 0 ≤ i) (h1 : i < ilen l) (h2 : 0 ≤ j) : getb (setb l i x) j = if j = i then x else getb l j := by
  unfold ilen at h1
  unfold getb setb
  by_cases h : j = i
  · subst h; simp [List.getD_eq_getElem?_getD, List.getElem?_set, show j.toNat < l.length by omega]
  · rw [if_neg h]; simp [List.getD_eq_getElem?_getD, List.getElem?_set, show ¬ i.toNat = j.toNat by omega]
theorem bools_ext {l m : List Bool} (h : ilen l = ilen m) (hx : ∀ j, 0 ≤ j → j < ilen l → getb l j = getb m j) : l = m := by
  unfold ilen at h hx
  refine List.ext_getElem (by omega) fun i h1 h2 => ?_
  have e1 := hx i (by omega) (by omega)
  simpa [getb, List.getD_eq_getElem?_getD, h1, h2] using e1
def eqBo (l m : List Bool) : Bool := decide (ilen l = ilen m) && allN (ilen l) fun j => getb l j == getb m j
theorem eqBo_same (l : List Bool) : eqBo l l = true := by
  unfold eqBo
  rw [allN_mk fun j _ _ => by simp]
  simp
def eqBB (l m : List (List Bool)) : Bool := decide (ilen l = ilen m) && allN (ilen l) fun j => eqBo (getl l j) (getl m j)
theorem eqBB_same (l : List (List Bool)) : eqBB l l = true := by
  unfold eqBB
  rw [allN_mk fun j _ _ => eqBo_same _]
  simp
theorem bxor_f {a b : Bool} : (bxor a b = false) = (a = b) := by cases a <;> cases b <;> simp [bxor]
theorem bxor_t {a b : Bool} : (bxor a b = true) = (a ≠ b) := by cases a <;> cases b <;> simp [bxor]
theorem getl_setl {α : Type} {l : List (List α)} {i j : Int} {x : List α} (h0 : 0 ≤ i) (h1 : i < ilen l) (h2 : 0 ≤ j) : getl (setl l i x) j = if j = i then x else getl l j := by
  unfold ilen at h1
  unfold getl setl
  by_cases h : j = i
  · subst h; simp [List.getD_eq_getElem?_getD, List.getElem?_set, show j.toNat < l.length by omega]
  · rw [if_neg h]; simp [List.getD_eq_getElem?_getD, List.getElem?_set, show ¬ i.toNat = j.toNat by omega]
theorem lists_ext {α : Type} {l m : List (List α)} (h : ilen l = ilen m) (hx : ∀ j, 0 ≤ j → j < ilen l → getl l j = getl m j) : l = m := by
  unfold ilen at h hx
  refine List.ext_getElem (by omega) fun i h1 h2 => ?_
  have e1 := hx i (by omega) (by omega)
  simpa [getl, List.getD_eq_getElem?_getD, h1, h2] using e1
theorem getl_len {α : Type} {l : List (List α)} (h : ∀ m ∈ l, ilen m ≤ 9223372036854775807) {j : Int} (h0 : 0 ≤ j) (h1 : j < ilen l) : ilen (getl l j) ≤ 9223372036854775807 := by
  unfold ilen at h1
  unfold getl
  rw [List.getD_eq_getElem?_getD, List.getElem?_eq_getElem (by omega)]
  exact h _ (List.getElem_mem _)
def degW (d : Int) : Int := irem (iadd (irem d 360) 360) 360
def crW (a1 a2 b1 b2 c1 c2 : Int) : Int := isub (imul (isub b1 a1) (isub c2 a2)) (imul (isub b2 a2) (isub c1 a1))
def cr (l : List Pt) (i j k : Int) : Int := crW (getx l i) (gety l i) (getx l j) (gety l j) (getx l k) (gety l k)
def nx (l : List Pt) (i : Int) : Int := (i + 1).tmod (ilen l)
def convE (l : List Pt) (i j : Int) : Bool := decide (j = i ∨ j = nx l i ∨ 0 < cr l i (nx l i) j)
def convB (l : List Pt) : Bool := inB (ilen l) 3 8 && allB l && allN (ilen l) fun i => allN (ilen l) fun j => convE l i j
theorem nx_in {l : List Pt} {i : Int} (h0 : 0 ≤ i) (h1 : i < ilen l) : 0 ≤ nx l i ∧ nx l i < ilen l ∧ ((i + 1 < ilen l ∧ nx l i = i + 1) ∨ (i + 1 = ilen l ∧ nx l i = 0)) := by
  have e : nx l i = (i + 1) % ilen l := Int.tmod_eq_emod_of_nonneg (by omega)
  rcases Int.lt_or_le (i + 1) (ilen l) with h | h
  · rw [e, Int.emod_eq_of_lt (by omega) h]; omega
  · have h2 : i + 1 = ilen l := by omega
    rw [e, h2, Int.emod_self]; omega
theorem allN_up {f : Int → Bool} {k : Int} (h : ∀ j, 0 ≤ j → j < k → f j = true) (hk : f k = true) : ∀ j, 0 ≤ j → j < k + 1 → f j = true := by
  intro j h0 h1
  rcases Int.lt_or_le j k with h2 | h2
  · exact h j h0 h2
  · rw [show j = k by omega]; exact hk
theorem upTo {P : Int → Prop} {k : Int} (h : ∀ j, 0 ≤ j → j < k → P j) (hk : P k) : ∀ j, 0 ≤ j → j < k + 1 → P j := by
  intro j h0 h1
  rcases Int.lt_or_le j k with h2 | h2
  · exact h j h0 h2
  · rw [show j = k by omega]; exact hk
theorem iadd_1 {k n : Int} (h0 : 0 ≤ k) (h1 : k < n) (h2 : n ≤ 9223372036854775807) : iadd k 1 = k + 1 := iadd_e (by omega) (by omega)
theorem mul20 {x y : Int} (hx : -20000 ≤ x ∧ x ≤ 20000) (hy : -20000 ≤ y ∧ y ≤ 20000) : -400000000 ≤ x * y ∧ x * y ≤ 400000000 := by
  have h := mul_box hx.1 hx.2 hy.1 hy.2
  generalize x * y = z at *
  have e1 : min (min ((-20000 : Int) * -20000) (-20000 * 20000)) (min (20000 * -20000) (20000 * 20000)) = -400000000 := by decide
  have e2 : max (max ((-20000 : Int) * -20000) (-20000 * 20000)) (max (20000 * -20000) (20000 * 20000)) = 400000000 := by decide
  rw [e1, e2] at h
  exact h
theorem crW_e {a1 a2 b1 b2 c1 c2 : Int} (ha : vB a1 a2 = true) (hb : vB b1 b2 = true) (hc : vB c1 c2 = true) : crW a1 a2 b1 b2 c1 c2 = crs (a1, a2) (b1, b2) (c1, c2) := by
  unfold vB at ha hb hc
  simp only [Bool.and_eq_true] at ha hb hc
  have a1' := inB_true ha.1; have a2' := inB_true ha.2; have b1' := inB_true hb.1; have b2' := inB_true hb.2; have c1' := inB_true hc.1; have c2' := inB_true hc.2
  unfold crW crs
  rw [isub_e (a := b1) (by omega) (by omega), isub_e (a := c2) (by omega) (by omega), isub_e (a := b2) (by omega) (by omega), isub_e (a := c1) (by omega) (by omega)]
  have m1 := mul20 (x := b1 - a1) (y := c2 - a2) (by omega) (by omega)
  have m2 := mul20 (x := b2 - a2) (y := c1 - a1) (by omega) (by omega)
  rw [imul_e (a := b1 - a1) (by omega) (by omega), imul_e (a := b2 - a2) (by omega) (by omega), isub_e (by omega) (by omega)]
def P (l : List Pt) (i : Int) : Pt := (getx l i, gety l i)
theorem sgn_01 (z : Int) : -1 ≤ sgn z ∧ sgn z ≤ 1 := by unfold sgn; split <;> (try split) <;> omega
theorem ieq_sgn (z : Int) : ieq (sgn z) 0 = decide (z = 0) := by
  unfold ieq
  congr 1
  simp only [eq_iff_iff]
  unfold sgn; split <;> (try split) <;> omega
theorem imul_sgn (x y : Int) : imul (sgn x) (sgn y) = sgn x * sgn y := by
  have s1 := sgn_01 x; have s2 := sgn_01 y
  have := mul20 (x := sgn x) (y := sgn y) (by omega) (by omega)
  exact imul_e (by omega) (by omega)
theorem sgn_0 (z : Int) : sgn z = 0 ↔ z = 0 := by unfold sgn; split <;> (try split) <;> omega
def btW (a1 a2 b1 b2 p1 p2 : Int) : Bool := inB p1 (min a1 b1) (max a1 b1) && inB p2 (min a2 b2) (max a2 b2)
theorem btW_e (a1 a2 b1 b2 p1 p2 : Int) : btW a1 a2 b1 b2 p1 p2 = btw (a1, a2) (b1, b2) (p1, p2) := by
  unfold btW btw inB
  simp only [← Bool.decide_and]
  congr 1
  simp only [eq_iff_iff]
  constructor
  · rintro ⟨⟨h1, h2⟩, h3, h4⟩; exact ⟨h1, h2, h3, h4⟩
  · rintro ⟨h1, h2, h3, h4⟩; exact ⟨⟨h1, h2⟩, h3, h4⟩
def nearB (x y : Int) : Bool := inB x (-1000) 1000 && inB y (-1000) 1000
def idxN (n : Int) (f : Int → Bool) : Int := foldN n (fun s i => if s < 0 ∧ f i = true then i else s) (-1)
theorem idxN_no {f : Int → Bool} {k : Nat} (h : ∀ j, 0 ≤ j → j < (k : Int) → f j = false) : idxN k f = -1 := by
  induction k with
  | zero => rfl
  | succ k ih =>
    have e : ((k + 1 : Nat) : Int) = (k : Int) + 1 := by omega
    have := ih (fun j h0 h1 => h j h0 (by omega))
    unfold idxN at this ⊢
    rw [e, foldN_1 (by omega), this, h k (by omega) (by omega)]
    simp
theorem idxN_keep {f : Int → Bool} {i : Int} (hi : 0 ≤ i) {n : Nat} (h : idxN n f = i) (m : Nat) : idxN ((n + m : Nat) : Int) f = i := by
  induction m with
  | zero => exact h
  | succ m ih =>
    have e : ((n + (m + 1) : Nat) : Int) = ((n + m : Nat) : Int) + 1 := by omega
    unfold idxN at ih ⊢
    rw [e, foldN_1 (by omega), ih, if_neg (by omega)]
theorem idxN_at {f : Int → Bool} {k n : Int} (h0 : 0 ≤ k) (h1 : k < n) (h : ∀ j, 0 ≤ j → j < k → f j = false) (hk : f k = true) : idxN n f = k := by
  obtain ⟨a, rfl⟩ := Int.eq_ofNat_of_zero_le h0
  obtain ⟨b, hb⟩ := Int.eq_ofNat_of_zero_le (show 0 ≤ n - (a + 1) by omega)
  have e : n = ((a + 1 + b : Nat) : Int) := by omega
  rw [e]
  refine idxN_keep h0 ?_ b
  have := idxN_no h
  have e2 : ((a + 1 : Nat) : Int) = (a : Int) + 1 := by omega
  unfold idxN at this ⊢
  rw [e2, foldN_1 (by omega), this, if_pos ⟨by omega, hk⟩]
theorem idxN_any {f : Int → Bool} {n : Int} (h0 : 0 ≤ n) : ile 0 (idxN n f) = anyN n f := by
  obtain ⟨a, rfl⟩ := Int.eq_ofNat_of_zero_le h0
  clear h0
  induction a with
  | zero => simp [idxN, foldN, anyN, ile]
  | succ a ih =>
    have e : ((a + 1 : Nat) : Int) = (a : Int) + 1 := by omega
    have hs : anyN ((a + 1 : Nat) : Int) f = (anyN a f || f a) := by
      unfold anyN
      rw [show ((a + 1 : Nat) : Int).toNat = a + 1 by omega, show ((a : Nat) : Int).toNat = a by omega, List.range_succ, List.any_append]
      simp
    rw [hs, ← ih]
    unfold idxN
    rw [e, foldN_1 (by omega)]
    generalize foldN (a : Int) (fun s i => if s < 0 ∧ f i = true then i else s) (-1) = s
    unfold ile
    by_cases hs0 : s < 0
    · cases hf : f a with
      | true => simp [hs0, hf]
      | false => simp [hs0, hf]
    · simp [hs0]; omega
def sqE (a1 a2 b1 b2 : Int) : Int := (a1 - b1) * (a1 - b1) + (a2 - b2) * (a2 - b2)
def alE (p1 p2 a1 a2 b1 b2 : Int) : Int := (p1 - a1) * (b1 - a1) + (p2 - a2) * (b2 - a2)
def ssqE (p1 p2 a1 a2 b1 b2 : Int) : Int := if alE p1 p2 a1 a2 b1 b2 ≤ 0 then sqE p1 p2 a1 a2 else if sqE a1 a2 b1 b2 ≤ alE p1 p2 a1 a2 b1 b2 then sqE p1 p2 b1 b2 else (crs (a1, a2) (b1, b2) (p1, p2) * crs (a1, a2) (b1, b2) (p1, p2)).tdiv (sqE a1 a2 b1 b2)
theorem near_bd {x y : Int} (h : nearB x y = true) : -1000 ≤ x ∧ x ≤ 1000 ∧ -1000 ≤ y ∧ y ≤ 1000 := by
  unfold nearB at h
  simp only [Bool.and_eq_true] at h
  have a1 := inB_true h.1; have a2 := inB_true h.2
  omega
theorem mul4 {x y : Int} (hx : -8000000 ≤ x ∧ x ≤ 8000000) (hy : -8000000 ≤ y ∧ y ≤ 8000000) : imul x y = x * y := by
  have h := mul_box hx.1 hx.2 hy.1 hy.2
  have e1 : min (min ((-8000000 : Int) * -8000000) (-8000000 * 8000000)) (min (8000000 * -8000000) (8000000 * 8000000)) = -64000000000000 := by decide
  have e2 : max (max ((-8000000 : Int) * -8000000) (-8000000 * 8000000)) (max (8000000 * -8000000) (8000000 * 8000000)) = 64000000000000 := by decide
  rw [e1, e2] at h
  exact imul_e (by omega) (by omega)
theorem mul2 {x y : Int} (hx : -2000 ≤ x ∧ x ≤ 2000) (hy : -2000 ≤ y ∧ y ≤ 2000) : imul x y = x * y ∧ -4000000 ≤ x * y ∧ x * y ≤ 4000000 := by
  refine ⟨mul4 (by omega) (by omega), ?_⟩
  have h := mul_box hx.1 hx.2 hy.1 hy.2
  generalize x * y = z at *
  have e1 : min (min ((-2000 : Int) * -2000) (-2000 * 2000)) (min (2000 * -2000) (2000 * 2000)) = -4000000 := by decide
  have e2 : max (max ((-2000 : Int) * -2000) (-2000 * 2000)) (max (2000 * -2000) (2000 * 2000)) = 4000000 := by decide
  rw [e1, e2] at h
  exact h
theorem sub_n {x y : Int} (hx : -1000 ≤ x ∧ x ≤ 1000) (hy : -1000 ≤ y ∧ y ≤ 1000) : isub x y = x - y := isub_e (by omega) (by omega)
theorem near_v {x y : Int} (h : nearB x y = true) : vB x y = true := by
  have := near_bd h
  exact vB_mk (by omega)
theorem crs_bd {a1 a2 b1 b2 c1 c2 : Int} (ha : nearB a1 a2 = true) (hb : nearB b1 b2 = true) (hc : nearB c1 c2 = true) : -8000000 ≤ crs (a1, a2) (b1, b2) (c1, c2) ∧ crs (a1, a2) (b1, b2) (c1, c2) ≤ 8000000 := by
  have := near_bd ha; have := near_bd hb; have := near_bd hc
  have m1 := mul2 (x := b1 - a1) (y := c2 - a2) (by omega) (by omega)
  have m2 := mul2 (x := b2 - a2) (y := c1 - a1) (by omega) (by omega)
  unfold crs
  dsimp only
  omega
theorem sq_w {a1 a2 b1 b2 : Int} (ha : nearB a1 a2 = true) (hb : nearB b1 b2 = true) : iadd (imul (isub a1 b1) (isub a1 b1)) (imul (isub a2 b2) (isub a2 b2)) = sqE a1 a2 b1 b2 ∧ 0 ≤ sqE a1 a2 b1 b2 ∧ sqE a1 a2 b1 b2 ≤ 8000000 := by
  have := near_bd ha; have := near_bd hb
  have m1 := mul2 (x := a1 - b1) (y := a1 - b1) (by omega) (by omega)
  have m2 := mul2 (x := a2 - b2) (y := a2 - b2) (by omega) (by omega)
  have q1 : 0 ≤ (a1 - b1) * (a1 - b1) := by rcases Int.le_total 0 (a1 - b1) with h | h; exact Int.mul_nonneg h h; exact Int.mul_nonneg_of_nonpos_of_nonpos h h
  have q2 : 0 ≤ (a2 - b2) * (a2 - b2) := by rcases Int.le_total 0 (a2 - b2) with h | h; exact Int.mul_nonneg h h; exact Int.mul_nonneg_of_nonpos_of_nonpos h h
  rw [sub_n (by omega) (by omega), sub_n (by omega) (by omega), m1.1, m2.1]
  unfold sqE
  exact ⟨iadd_e (by omega) (by omega), by omega, by omega⟩
theorem al_w {p1 p2 a1 a2 b1 b2 : Int} (hp : nearB p1 p2 = true) (ha : nearB a1 a2 = true) (hb : nearB b1 b2 = true) : iadd (imul (isub p1 a1) (isub b1 a1)) (imul (isub p2 a2) (isub b2 a2)) = alE p1 p2 a1 a2 b1 b2 := by
  have := near_bd ha; have := near_bd hb; have := near_bd hp
  have m1 := mul2 (x := p1 - a1) (y := b1 - a1) (by omega) (by omega)
  have m2 := mul2 (x := p2 - a2) (y := b2 - a2) (by omega) (by omega)
  rw [sub_n (by omega) (by omega), sub_n (x := b1) (by omega) (by omega), sub_n (x := p2) (by omega) (by omega), sub_n (x := b2) (by omega) (by omega), m1.1, m2.1]
  unfold alE
  exact iadd_e (by omega) (by omega)
theorem sqE_comm (a1 a2 b1 b2 : Int) : sqE a1 a2 b1 b2 = sqE b1 b2 a1 a2 := by unfold sqE; grind
theorem mul4b {x y : Int} (hx : -8000000 ≤ x ∧ x ≤ 8000000) (hy : -8000000 ≤ y ∧ y ≤ 8000000) : -64000000000000 ≤ x * y ∧ x * y ≤ 64000000000000 := by
  have h := mul_box hx.1 hx.2 hy.1 hy.2
  have e1 : min (min ((-8000000 : Int) * -8000000) (-8000000 * 8000000)) (min (8000000 * -8000000) (8000000 * 8000000)) = -64000000000000 := by decide
  have e2 : max (max ((-8000000 : Int) * -8000000) (-8000000 * 8000000)) (max (8000000 * -8000000) (8000000 * 8000000)) = 64000000000000 := by decide
  rw [e1, e2] at h
  exact h
theorem sqE_0 (a1 a2 b1 b2 : Int) : 0 ≤ sqE a1 a2 b1 b2 := by
  have q : ∀ x : Int, 0 ≤ x * x := fun x => by rcases Int.le_total 0 x with h | h; exact Int.mul_nonneg h h; exact Int.mul_nonneg_of_nonpos_of_nonpos h h
  have := q (a1 - b1); have := q (a2 - b2)
  unfold sqE; omega
theorem ssqE_0 (p1 p2 a1 a2 b1 b2 : Int) : 0 ≤ ssqE p1 p2 a1 a2 b1 b2 := by
  have q : ∀ x : Int, 0 ≤ x * x := fun x => by rcases Int.le_total 0 x with h | h; exact Int.mul_nonneg h h; exact Int.mul_nonneg_of_nonpos_of_nonpos h h
  unfold ssqE
  split
  · exact sqE_0 ..
  · split
    · exact sqE_0 ..
    · exact Int.tdiv_nonneg (q _) (sqE_0 ..)
def ssQ (p1 p2 a1 a2 b1 b2 : Int) : Int := if nearB p1 p2 && nearB a1 a2 && nearB b1 b2 then ssqE p1 p2 a1 a2 b1 b2 else -1
theorem ssQ_e {p1 p2 a1 a2 b1 b2 : Int} (hp : nearB p1 p2 = true) (ha : nearB a1 a2 = true) (hb : nearB b1 b2 = true) : ssQ p1 p2 a1 a2 b1 b2 = ssqE p1 p2 a1 a2 b1 b2 := by unfold ssQ; rw [hp, ha, hb]; rfl
theorem ssQ_0 {p1 p2 a1 a2 b1 b2 : Int} (h : 0 ≤ ssQ p1 p2 a1 a2 b1 b2) : nearB p1 p2 = true ∧ nearB a1 a2 = true ∧ nearB b1 b2 = true := by
  unfold ssQ at h
  cases h1 : nearB p1 p2 <;> cases h2 : nearB a1 a2 <;> cases h3 : nearB b1 b2 <;> simp [h1, h2, h3] at h ⊢
theorem vB_bd {x y : Int} (h : vB x y = true) : -10000 ≤ x ∧ x ≤ 10000 ∧ -10000 ≤ y ∧ y ≤ 10000 := by
  unfold vB at h
  simp only [Bool.and_eq_true] at h
  have a1 := inB_true h.1; have a2 := inB_true h.2
  omega
theorem sq_v {a1 a2 b1 b2 : Int} (ha : vB a1 a2 = true) (hb : vB b1 b2 = true) : iadd (imul (isub a1 b1) (isub a1 b1)) (imul (isub a2 b2) (isub a2 b2)) = sqE a1 a2 b1 b2 ∧ sqE a1 a2 b1 b2 ≤ 800000000 := by
  have := vB_bd ha; have := vB_bd hb
  have m1 := mul20 (x := a1 - b1) (y := a1 - b1) (by omega) (by omega)
  have m2 := mul20 (x := a2 - b2) (y := a2 - b2) (by omega) (by omega)
  rw [isub_e (by omega) (by omega), isub_e (by omega) (by omega), imul_e (by omega) (by omega), imul_e (by omega) (by omega)]
  unfold sqE
  exact ⟨iadd_e (by omega) (by omega), by omega⟩
def dcv (t : Int) (f : Int → Int) : Nat → Int → Int
  | 0, k => f k
  | m + 1, k => (64 - t) * dcv t f m k + t * dcv t f m (k + 1)
def p64 : Nat → Int
  | 0 => 1
  | m + 1 => p64 m * 64
theorem p64_pos : ∀ m, 1 ≤ p64 m
  | 0 => by decide
  | m + 1 => by have := p64_pos m; unfold p64; omega
theorem p64_le {m : Nat} (h : m ≤ 3) : p64 m ≤ 262144 := by
  rcases (by omega : m = 0 ∨ m = 1 ∨ m = 2 ∨ m = 3) with rfl | rfl | rfl | rfl <;> decide
theorem p64_even {m : Nat} (h : 1 ≤ m) : ∃ c, p64 m = 2 * c ∧ 1 ≤ c := by
  obtain ⟨q, rfl⟩ : ∃ q, m = q + 1 := ⟨m - 1, by omega⟩
  have := p64_pos q
  exact ⟨p64 q * 32, by show p64 q * 64 = _; omega, by omega⟩
theorem dcv_bd {t : Int} {f : Int → Int} {n lo hi : Int} (ht0 : 0 ≤ t) (ht1 : t ≤ 64) (hf : ∀ j, 0 ≤ j → j < n → lo ≤ f j ∧ f j ≤ hi) :
    ∀ (m : Nat) (k : Int), 0 ≤ k → k + m < n → lo * p64 m ≤ dcv t f m k ∧ dcv t f m k ≤ hi * p64 m
  | 0, k, h0, h1 => by
    have := hf k h0 (by omega)
    unfold dcv p64; omega
  | m + 1, k, h0, h1 => by
    obtain ⟨a1, a2⟩ := dcv_bd ht0 ht1 hf m k h0 (by omega)
    obtain ⟨b1, b2⟩ := dcv_bd ht0 ht1 hf m (k + 1) (by omega) (by omega)
    unfold dcv p64
    have e : ∀ x : Int, x * (p64 m * 64) = (64 - t) * (x * p64 m) + t * (x * p64 m) := fun x => by
      rw [← Int.add_mul, show 64 - t + t = 64 by omega, Int.mul_comm 64, Int.mul_assoc]
    rw [e lo, e hi]
    exact ⟨Int.add_le_add (Int.mul_le_mul_of_nonneg_left a1 (by omega)) (Int.mul_le_mul_of_nonneg_left b1 ht0),
      Int.add_le_add (Int.mul_le_mul_of_nonneg_left a2 (by omega)) (Int.mul_le_mul_of_nonneg_left b2 ht0)⟩
/-- the parts of a step stay small -/
theorem dcv_parts {t : Int} {f : Int → Int} {n : Int} (ht0 : 0 ≤ t) (ht1 : t ≤ 64) (hn : n ≤ 4) (hf : ∀ j, 0 ≤ j → j < n → -10000 ≤ f j ∧ f j ≤ 10000) {m : Nat} {k : Int} (h0 : 0 ≤ k) (h1 : k + m < n) :
    (-2621440000 ≤ dcv t f m k ∧ dcv t f m k ≤ 2621440000) ∧ (-167772160000 ≤ (64 - t) * dcv t f m k ∧ (64 - t) * dcv t f m k ≤ 167772160000) ∧ (-167772160000 ≤ t * dcv t f m k ∧ t * dcv t f m k ≤ 167772160000) := by
  obtain ⟨a1, a2⟩ := dcv_bd ht0 ht1 hf m k h0 h1
  have hp := p64_le (m := m) (by omega)
  have hp0 := p64_pos m
  have b1 : -2621440000 ≤ dcv t f m k := by omega
  have b2 : dcv t f m k ≤ 2621440000 := by omega
  have key : ∀ s : Int, 0 ≤ s → s ≤ 64 → -167772160000 ≤ s * dcv t f m k ∧ s * dcv t f m k ≤ 167772160000 := fun s s0 s1 => by
    have c1 := Int.mul_le_mul_of_nonneg_left b1 s0
    have c2 := Int.mul_le_mul_of_nonneg_left b2 s0
    constructor
    · refine Int.le_trans ?_ c1; omega
    · refine Int.le_trans c2 ?_; omega
  exact ⟨⟨b1, b2⟩, key _ (by omega) (by omega), key _ ht0 ht1⟩
theorem dcv_0 (f : Int → Int) : ∀ (m : Nat) (k : Int), dcv 0 f m k = f k * p64 m
  | 0, k => by unfold dcv p64; omega
  | m + 1, k => by
    show (64 - 0) * dcv 0 f m k + 0 * dcv 0 f m (k + 1) = f k * (p64 m * 64)
    rw [dcv_0 f m k]; generalize f k = x; generalize p64 m = y; grind
theorem dcv_64 (f : Int → Int) : ∀ (m : Nat) (k : Int), dcv 64 f m k = f (k + m) * p64 m
  | 0, k => by simp [dcv, p64]
  | m + 1, k => by
    show (64 - 64) * dcv 64 f m k + 64 * dcv 64 f m (k + 1) = f (k + ((m + 1 : Nat) : Int)) * (p64 m * 64)
    rw [dcv_64 f m k, dcv_64 f m (k + 1), show k + 1 + (m : Int) = k + ((m + 1 : Nat) : Int) by omega]; generalize f (k + ((m + 1 : Nat) : Int)) = x; generalize p64 m = y; grind
theorem dcv_rev (t c : Int) (f g : Int → Int) (n : Int) (hg : ∀ j, 0 ≤ j → j < n → g j = f (n - 1 - j)) : ∀ (m : Nat) (k : Int), 0 ≤ k → k + m < n → dcv (64 - t) g m k = dcv t f m (n - 1 - m - k)
  | 0, k, h0, h1 => by unfold dcv; rw [hg k h0 (by omega)]; congr 1; omega
  | m + 1, k, h0, h1 => by
    unfold dcv
    rw [dcv_rev t c f g n hg m k h0 (by omega), dcv_rev t c f g n hg m (k + 1) (by omega) (by omega)]
    rw [show 64 - (64 - t) = t by omega, show n - 1 - ((m + 1 : Nat) : Int) - k = n - 1 - m - (k + 1) by omega, show n - 1 - (m : Int) - (k + 1) + 1 = n - 1 - m - k by omega]
    omega
theorem dcv_congr {t n : Int} {f g : Int → Int} (h : ∀ j, 0 ≤ j → j < n → f j = g j) : ∀ (m : Nat) (k : Int), 0 ≤ k → k + m < n → dcv t f m k = dcv t g m k
  | 0, k, h0, h1 => h k h0 (by omega)
  | m + 1, k, h0, h1 => by unfold dcv; rw [dcv_congr h m k h0 (by omega), dcv_congr h m (k + 1) (by omega) (by omega)]
/-- the rounded value -/
def rnd (a b : Int) : Int := (2 * a + b) / (2 * b)
def cvN (n t : Int) (f : Int → Int) : Int := rnd (dcv t f (n - 1).toNat 0) (p64 (n - 1).toNat)
theorem rnd_even {a b c : Int} (hb : b = 2 * c) : rnd a b = (a + b / 2) / b := by
  unfold rnd
  subst hb
  rw [show 2 * c / 2 = c by omega, show 2 * a + 2 * c = 2 * (a + c) by omega, Int.mul_ediv_mul_of_pos _ _ (by omega : (0:Int) < 2)]
theorem rnd_1 (a : Int) : rnd a 1 = a := by unfold rnd; omega
theorem rnd_mul {x p : Int} (hp : 1 ≤ p) : rnd (x * p) p = x := by
  unfold rnd
  have : 2 * (x * p) + p = p + x * (2 * p) := by rw [Int.mul_left_comm]; omega
  rw [this, Int.add_mul_ediv_right _ _ (by omega), Int.ediv_eq_zero_of_lt (by omega) (by omega)]; omega
theorem rnd_mono {a b p : Int} (hp : 1 ≤ p) (h : a ≤ b) : rnd a p ≤ rnd b p := Int.ediv_le_ediv (by omega) (by omega)
theorem cvN_in {n t lo hi : Int} {f : Int → Int} (hn : 1 ≤ n) (ht0 : 0 ≤ t) (ht1 : t ≤ 64) (hf : ∀ j, 0 ≤ j → j < n → lo ≤ f j ∧ f j ≤ hi) : lo ≤ cvN n t f ∧ cvN n t f ≤ hi := by
  obtain ⟨a1, a2⟩ := dcv_bd ht0 ht1 hf (n - 1).toNat 0 (by omega) (by omega)
  have hp := p64_pos (n - 1).toNat
  unfold cvN
  exact ⟨by have := rnd_mono hp a1; rwa [rnd_mul hp] at this, by have := rnd_mono hp a2; rwa [rnd_mul hp] at this⟩
theorem cvN_0 {n : Int} (f : Int → Int) : cvN n 0 f = f 0 := by unfold cvN; rw [dcv_0, rnd_mul (p64_pos _)]
theorem cvN_64 {n : Int} (hn : 1 ≤ n) (f : Int → Int) : cvN n 64 f = f (n - 1) := by unfold cvN; rw [dcv_64, rnd_mul (p64_pos _)]; congr 1; omega
theorem cvN_rev {n t : Int} {f g : Int → Int} (hn : 1 ≤ n) (hg : ∀ j, 0 ≤ j → j < n → g j = f (n - 1 - j)) : cvN n (64 - t) g = cvN n t f := by
  unfold cvN; rw [dcv_rev t 0 f g n hg _ 0 (by omega) (by omega)]; congr 2; omega
/-- two control points: a line -/
theorem cvN_line {a b k : Int} (f : Int → Int) (h0 : f 0 = a) (h1 : f 1 = b) : cvN 2 (4 * k) f = a + (k * (b - a) + 8) / 16 := by
  unfold cvN
  have e : dcv (4 * k) f (2 - 1 : Int).toNat 0 = 64 * a + 4 * (k * (b - a)) := by
    show (64 - 4 * k) * f 0 + 4 * k * f (0 + 1) = _
    rw [show (0 : Int) + 1 = 1 from rfl, h0, h1, Int.sub_mul, Int.mul_sub, Int.mul_assoc, Int.mul_assoc]; omega
  rw [e, show p64 (2 - 1 : Int).toNat = 64 from rfl]
  unfold rnd
  generalize k * (b - a) = d
  omega
theorem floor_e {a b : Int} (hb : 1 ≤ b) : (a.tmod b < 0 → a.tdiv b - 1 = a / b) ∧ (0 ≤ a.tmod b → a.tdiv b = a / b) := by
  rcases Int.le_total 0 a with h | h
  · have e1 : a.tmod b = a % b := Int.tmod_eq_emod_of_nonneg h
    have e2 : a.tdiv b = a / b := Int.tdiv_eq_ediv_of_nonneg h
    have := Int.emod_nonneg a (show b ≠ 0 by omega)
    exact ⟨fun h => by omega, fun _ => e2⟩
  · obtain ⟨c, rfl⟩ : ∃ c, a = -c := ⟨-a, by omega⟩
    have hc : 0 ≤ c := by omega
    have e1 : (-c).tmod b = -(c % b) := by rw [Int.neg_tmod, Int.tmod_eq_emod_of_nonneg hc]
    have e2 : (-c).tdiv b = -(c / b) := by rw [Int.neg_tdiv, Int.tdiv_eq_ediv_of_nonneg hc]
    have m0 := Int.emod_nonneg c (show b ≠ 0 by omega)
    have m1 := Int.emod_lt_of_pos c (show 0 < b by omega)
    have m2 := Int.emod_add_mul_ediv c b
    rw [e1, e2]
    refine ⟨fun h => ?_, fun h => ?_⟩
    · refine (((Int.ediv_emod_unique (r := b - c % b) (q := -(c / b) - 1) (show 0 < b by omega)).2 ⟨?_, by omega, by omega⟩).1).symm
      rw [Int.mul_sub, Int.mul_neg]; omega
    · refine (((Int.ediv_emod_unique (r := 0) (q := -(c / b)) (show 0 < b by omega)).2 ⟨?_, by omega, by omega⟩).1).symm
      rw [Int.mul_neg]; omega
theorem tdiv_bd {a b : Int} (hb : 1 ≤ b) (h1 : -9223372036854775807 ≤ a) (h2 : a ≤ 9223372036854775807) : iquo a b = a.tdiv b ∧ (a.tmod b < 0 → isub (a.tdiv b) 1 = a.tdiv b - 1) := by
  refine ⟨iquo_e (by omega) (by omega) hb, fun _ => ?_⟩
  have : -9223372036854775807 ≤ a.tdiv b ∧ a.tdiv b ≤ 9223372036854775807 := by
    rcases Int.le_total 0 a with h | h
    · rw [Int.tdiv_eq_ediv_of_nonneg h]
      have := Int.ediv_nonneg h (show 0 ≤ b by omega)
      have := Int.ediv_le_self b h
      omega
    · obtain ⟨c, rfl⟩ : ∃ c, a = -c := ⟨-a, by omega⟩
      rw [Int.neg_tdiv, Int.tdiv_eq_ediv_of_nonneg (show 0 ≤ c by omega)]
      have := Int.ediv_nonneg (show 0 ≤ c by omega) (show 0 ≤ b by omega)
      have := Int.ediv_le_self b (show 0 ≤ c by omega)
      omega
  exact isub_e (by omega) (by omega)
theorem tmod_emod (d : Int) : (-360 < d.tmod 360 ∧ d.tmod 360 < 360) ∧ (d.tmod 360 < 0 → d.tmod 360 + 360 = d % 360) ∧ (0 ≤ d.tmod 360 → d.tmod 360 = d % 360) := by
  rcases Int.le_total 0 d with h | h
  · have := Int.tmod_eq_emod_of_nonneg (b := 360) h; omega
  · obtain ⟨c, rfl⟩ : ∃ c, d = -c := ⟨-d, by omega⟩
    have e1 : (-c).tmod 360 = -(c % 360) := by rw [Int.neg_tmod, Int.tmod_eq_emod_of_nonneg (by omega)]
    omega
theorem degW_e (d : Int) : degW d = d % 360 := by
  obtain ⟨h1, h2, h3⟩ := tmod_emod d
  unfold degW
  rw [irem_e, irem_e, iadd_e (by omega) (by omega), Int.tmod_eq_emod_of_nonneg (by omega)]
  omega
def cosF (d : Int) : Int := sinF (d % 360 + 90)
theorem sinF_bd (d : Int) : -4096 ≤ sinF d ∧ sinF d ≤ 4096 := by
  have m0 := Int.emod_nonneg d (show (360 : Int) ≠ 0 by omega)
  have m1 := Int.emod_lt_of_pos d (show (0 : Int) < 360 by omega)
  unfold sinF
  split
  · have := sinN_in (k := d % 360) (by omega) (by omega); omega
  · split
    · have := sinN_in (k := 180 - d % 360) (by omega) (by omega); omega
    · split
      · have := sinN_in (k := d % 360 - 180) (by omega) (by omega); omega
      · have := sinN_in (k := 360 - d % 360) (by omega) (by omega); omega
theorem cosF_bd (d : Int) : -4096 ≤ cosF d ∧ cosF d ≤ 4096 := sinF_bd _
def rnd4 (n : Int) : Int := (n + 2048) / 4096
theorem rnd_4 (n : Int) : rnd n 4096 = rnd4 n := by unfold rnd rnd4; omega
theorem mul40 {x y a : Int} (h0 : 0 ≤ a) (hx : -a ≤ x ∧ x ≤ a) (hy : -4096 ≤ y ∧ y ≤ 4096) : -(a * 4096) ≤ x * y ∧ x * y ≤ a * 4096 := by
  have h := mul_box hx.1 hx.2 hy.1 hy.2
  have e1 : (-a) * (-4096 : Int) = a * 4096 := by omega
  have e2 : (-a) * (4096 : Int) = -(a * 4096) := by omega
  have e3 : a * (-4096 : Int) = -(a * 4096) := by omega
  rw [e1, e2, e3] at h
  omega
def rotX (x y d : Int) : Int := rnd4 (x * cosF d - y * sinF d)
def rotY (x y d : Int) : Int := rnd4 (x * sinF d + y * cosF d)
theorem rot_0 (x d : Int) : rotX x 0 d = rnd4 (x * cosF d) ∧ rotY x 0 d = rnd4 (x * sinF d) := by
  unfold rotX rotY; simp
theorem rnd4_bd {x s a : Int} (h0 : 0 ≤ a) (hx : -a ≤ x ∧ x ≤ a) (hs : -4096 ≤ s ∧ s ≤ 4096) : -a ≤ rnd4 (x * s) ∧ rnd4 (x * s) ≤ a := by
  have := mul40 h0 hx hs
  unfold rnd4
  omega
def armE (a1 a2 a3 : List Int) (k : Int) : Bool := inB (geti a1 k) 1 500 && inB (geti a2 k) (-180) 180 && inB (geti a3 k) (geti a2 k) 180
def armB (a1 a2 a3 : List Int) : Bool := inB (ilen a1) 1 4 && decide (ilen a2 = ilen a1) && decide (ilen a3 = ilen a1) && allN (ilen a1) (armE a1 a2 a3)
def gsB (a1 a2 a3 : List Int) (s : Int) : Bool := armB a1 a2 a3 && decide (ilen a1 = 2) && inB s 1 360
def gsN (a2 a3 : List Int) (s i : Int) : Int := iadd (iquo (isub (geti a3 i) (geti a2 i)) s) 1
def gsK (a1 a2 a3 : List Int) (s i : Int) : Int := if gsB a1 a2 a3 s = true ∧ gsN a2 a3 s 0 ≤ 20 ∧ gsN a2 a3 s 1 ≤ 20 then gsN a2 a3 s i else 0
theorem armB_len {a1 a2 a3 : List Int} (h : armB a1 a2 a3 = true) : ilen a2 = ilen a1 ∧ ilen a3 = ilen a1 := by
  unfold armB at h
  simp only [Bool.and_eq_true, decide_eq_true_eq] at h
  exact ⟨h.1.1.2, h.1.2⟩
theorem armB_at {a1 a2 a3 : List Int} (h : armB a1 a2 a3 = true) {i : Int} (h0 : 0 ≤ i) (h1 : i < ilen a1) : (-180 ≤ geti a2 i ∧ geti a2 i ≤ 180) ∧ geti a2 i ≤ geti a3 i ∧ geti a3 i ≤ 180 := by
  unfold armB at h
  simp only [Bool.and_eq_true] at h
  have := allN_iff.1 h.2 i h0 h1
  unfold armE at this
  simp only [Bool.and_eq_true] at this
  have b1 := inB_true this.1.2; have b2 := inB_true this.2
  omega
theorem gsB_parts {a1 a2 a3 : List Int} {s : Int} (h : gsB a1 a2 a3 s = true) : armB a1 a2 a3 = true ∧ ilen a1 = 2 ∧ 1 ≤ s ∧ s ≤ 360 := by
  unfold gsB at h
  simp only [Bool.and_eq_true, decide_eq_true_eq] at h
  have := inB_true h.2
  exact ⟨h.1.1, h.1.2, this.1, this.2⟩
theorem gsN_e {a1 a2 a3 : List Int} {s i : Int} (h : gsB a1 a2 a3 s = true) (h0 : 0 ≤ i) (h1 : i < 2) : gsN a2 a3 s i = (geti a3 i - geti a2 i) / s + 1 ∧ 0 ≤ (geti a3 i - geti a2 i) / s ∧ (geti a3 i - geti a2 i) / s ≤ 360 ∧ (geti a3 i - geti a2 i) / s * s ≤ geti a3 i - geti a2 i := by
  obtain ⟨ha, hl, s1, s2⟩ := gsB_parts h
  obtain ⟨b1, b2, b3⟩ := armB_at ha h0 (by omega)
  have e1 : isub (geti a3 i) (geti a2 i) = geti a3 i - geti a2 i := isub_e (by omega) (by omega)
  have q0 : 0 ≤ (geti a3 i - geti a2 i) / s := Int.ediv_nonneg (by omega) (by omega)
  have q1 : (geti a3 i - geti a2 i) / s ≤ 360 := by
    have := Int.ediv_le_self (a := geti a3 i - geti a2 i) s (by omega)
    omega
  unfold gsN
  rw [e1, iquo_e (by omega) (by omega) s1, Int.tdiv_eq_ediv_of_nonneg (by omega), iadd_e (by omega) (by omega)]
  exact ⟨rfl, q0, q1, Int.ediv_mul_le _ (by omega)⟩
theorem gsK_cases (a1 a2 a3 : List Int) (s : Int) : (gsK a1 a2 a3 s 0 = 0 ∧ gsK a1 a2 a3 s 1 = 0) ∨ (gsB a1 a2 a3 s = true ∧ gsN a2 a3 s 0 ≤ 20 ∧ gsN a2 a3 s 1 ≤ 20 ∧ gsK a1 a2 a3 s 0 = gsN a2 a3 s 0 ∧ gsK a1 a2 a3 s 1 = gsN a2 a3 s 1 ∧ 1 ≤ gsN a2 a3 s 0 ∧ 1 ≤ gsN a2 a3 s 1) := by
  unfold gsK
  by_cases h : gsB a1 a2 a3 s = true ∧ gsN a2 a3 s 0 ≤ 20 ∧ gsN a2 a3 s 1 ≤ 20
  · rw [if_pos h, if_pos h]
    have h0 := gsN_e h.1 (i := 0) (by omega) (by omega)
    have h1 := gsN_e h.1 (i := 1) (by omega) (by omega)
    exact .inr ⟨h.1, h.2.1, h.2.2, rfl, rfl, by omega, by omega⟩
  · rw [if_neg h, if_neg h]; exact .inl ⟨rfl, rfl⟩
theorem div_anti {d s t : Int} (hd : 0 ≤ d) (hs : 1 ≤ s) (ht : s ≤ t) : d / t ≤ d / s := by
  refine (Int.le_ediv_iff_mul_le (by omega)).2 ?_
  have h1 : d / t * t ≤ d := Int.ediv_mul_le _ (by omega)
  have h0 : 0 ≤ d / t := Int.ediv_nonneg hd (by omega)
  have := Int.mul_le_mul_of_nonneg_left ht h0
  omega
theorem gsK_less {a1 a2 a3 : List Int} {s : Int} (hs : 0 ≤ s ∧ s ≤ 361) (h : gsK a1 a2 a3 s 0 ≠ 0) :
    (1 ≤ gsK a1 a2 a3 s 0 ∧ 1 ≤ gsK a1 a2 a3 s 1) ∧ (gsK a1 a2 a3 (min 360 (s + 1)) 0 ≤ gsK a1 a2 a3 s 0 ∧ gsK a1 a2 a3 (min 360 (s + 1)) 1 ≤ gsK a1 a2 a3 s 1) ∧ 1 ≤ gsK a1 a2 a3 (min 360 (s + 1)) 0 ∧ gsK a1 a2 a3 s 0 ≤ 20 ∧ gsK a1 a2 a3 s 1 ≤ 20 := by
  rcases gsK_cases a1 a2 a3 s with ⟨h0, _⟩ | ⟨hB, g0, g1, e0, e1, m0, m1⟩
  · exact absurd h0 h
  obtain ⟨ha, hl, s1, s2⟩ := gsB_parts hB
  have hB' : gsB a1 a2 a3 (min 360 (s + 1)) = true := by
    unfold gsB
    rw [ha, hl]; unfold inB; simp; omega
  obtain ⟨b1, b2, b3⟩ := armB_at ha (i := 0) (by omega) (by omega)
  obtain ⟨c1, c2, c3⟩ := armB_at ha (i := 1) (by omega) (by omega)
  have p0 := (gsN_e hB (i := 0) (by omega) (by omega)).1
  have p1 := (gsN_e hB (i := 1) (by omega) (by omega)).1
  have q0 := gsN_e hB' (i := 0) (by omega) (by omega)
  have q1 := gsN_e hB' (i := 1) (by omega) (by omega)
  have d0 := div_anti (d := geti a3 0 - geti a2 0) (s := s) (t := min 360 (s + 1)) (by omega) s1 (by omega)
  have d1 := div_anti (d := geti a3 1 - geti a2 1) (s := s) (t := min 360 (s + 1)) (by omega) s1 (by omega)
  rcases gsK_cases a1 a2 a3 (min 360 (s + 1)) with ⟨h0, h1⟩ | ⟨_, _, _, f0, f1, _, _⟩
  · exfalso
    unfold gsK at h0
    rw [if_pos ⟨hB', by omega, by omega⟩] at h0
    omega
  · omega
def cjB (a1 a2 a3 : List Int) (s c1 c2 : Int) : Bool := inB c1 0 (isub (gsK a1 a2 a3 s 0) 1) && inB c2 0 (isub (gsK a1 a2 a3 s 1) 1)
def cjL (a1 a2 a3 : List Int) (s c1 c2 : Int) : List Int := if cjB a1 a2 a3 s c1 c2 then [iadd (geti a2 0) (imul c1 s), iadd (geti a2 1) (imul c2 s)] else []
theorem cj_parts {a1 a2 a3 : List Int} {s c1 c2 : Int} (h : cjB a1 a2 a3 s c1 c2 = true) : gsB a1 a2 a3 s = true ∧ ilen a2 = 2 ∧ ilen a3 = 2 ∧ (0 ≤ c1 ∧ c1 ≤ 19 ∧ c1 ≤ (geti a3 0 - geti a2 0) / s) ∧ (0 ≤ c2 ∧ c2 ≤ 19 ∧ c2 ≤ (geti a3 1 - geti a2 1) / s) ∧ gsK a1 a2 a3 s 0 = gsN a2 a3 s 0 ∧ gsK a1 a2 a3 s 1 = gsN a2 a3 s 1 := by
  unfold cjB at h
  simp only [Bool.and_eq_true] at h
  have b1 := inB_true h.1; have b2 := inB_true h.2
  rcases gsK_cases a1 a2 a3 s with ⟨h0, h1⟩ | ⟨hB, g0, g1, e0, e1, m0, m1⟩
  · rw [h0] at b1
    have : isub 0 1 = -1 := isub_e (by omega) (by omega)
    omega
  · obtain ⟨ha, hl, s1, s2⟩ := gsB_parts hB
    obtain ⟨l2, l3⟩ := armB_len ha
    have q0 := gsN_e hB (i := 0) (by omega) (by omega)
    have q1 := gsN_e hB (i := 1) (by omega) (by omega)
    rw [e0, isub_e (by omega) (by omega)] at b1
    rw [e1, isub_e (by omega) (by omega)] at b2
    exact ⟨hB, by omega, by omega, by omega, by omega, e0, e1⟩
theorem cj_val {a1 a2 a3 : List Int} {s c1 c2 : Int} (h : cjB a1 a2 a3 s c1 c2 = true) :
    cjL a1 a2 a3 s c1 c2 = [geti a2 0 + c1 * s, geti a2 1 + c2 * s] ∧ (iadd (geti a2 0) (imul c1 s) = geti a2 0 + c1 * s) ∧ (geti a2 0 ≤ geti a2 0 + c1 * s ∧ geti a2 0 + c1 * s ≤ geti a3 0) ∧ (geti a2 1 ≤ geti a2 1 + c2 * s ∧ geti a2 1 + c2 * s ≤ geti a3 1) := by
  obtain ⟨hB, l2, l3, p1, p2, -, -⟩ := cj_parts h
  obtain ⟨ha, hl, s1, s2⟩ := gsB_parts hB
  obtain ⟨b1, b2, b3⟩ := armB_at ha (i := 0) (by omega) (by omega)
  obtain ⟨d1, d2, d3⟩ := armB_at ha (i := 1) (by omega) (by omega)
  have q0 := gsN_e hB (i := 0) (by omega) (by omega)
  have q1 := gsN_e hB (i := 1) (by omega) (by omega)
  have m1 : 0 ≤ c1 * s := Int.mul_nonneg p1.1 (by omega)
  have m2 : 0 ≤ c2 * s := Int.mul_nonneg p2.1 (by omega)
  have n1 := Int.mul_le_mul_of_nonneg_right p1.2.2 (show 0 ≤ s by omega)
  have n2 := Int.mul_le_mul_of_nonneg_right p2.2.2 (show 0 ≤ s by omega)
  have w1 : imul c1 s = c1 * s := imul_e (by omega) (by omega)
  have w2 : imul c2 s = c2 * s := imul_e (by omega) (by omega)
  have v1 : iadd (geti a2 0) (c1 * s) = geti a2 0 + c1 * s := iadd_e (by omega) (by omega)
  have v2 : iadd (geti a2 1) (c2 * s) = geti a2 1 + c2 * s := iadd_e (by omega) (by omega)
  unfold cjL
  rw [if_pos h, w1, w2, v1, v2]
  exact ⟨rfl, rfl, by omega, by omega⟩
def jvB (a1 a2 a3 j : List Int) : Bool := armB a1 a2 a3 && decide (ilen j = ilen a1) && allN (ilen j) fun k => inB (geti j k) (geti a2 k) (geti a3 k)
def insE (l : List Pt) (p1 p2 i : Int) : Bool := decide (0 ≤ crW (getx l i) (gety l i) (getx l (nx l i)) (gety l (nx l i)) p1 p2)
def insB (l : List Pt) (p1 p2 : Int) : Bool := allN (ilen l) (insE l p1 p2)
def orB (a1 a2 b1 b2 c1 c2 : Int) : Int := if vB a1 a2 && vB b1 b2 && vB c1 c2 then sgn (crW a1 a2 b1 b2 c1 c2) else 0
def orI (l : List Pt) (i j : Int) : Int := orB (getx l i) (gety l i) (getx l (nx l i)) (gety l (nx l i)) (getx l j) (gety l j)
def convF (l : List Pt) (i j : Int) : Bool := decide (j = i ∨ j = nx l i ∨ orI l i j = 1)
def convS (l : List Pt) : Bool := inB (ilen l) 3 8 && allN (ilen l) fun i => allN (ilen l) fun j => convF l i j
theorem convS_eq (l : List Pt) : convS l = convB l := by
  unfold convS convB
  cases h1 : inB (ilen l) 3 8 with
  | false => rfl
  | true =>
    have hl := inB_true h1
    simp only [Bool.true_and]
    cases h2 : allB l with
    | true =>
      simp only [Bool.true_and]
      refine allN_congr fun i i0 i1 => allN_congr fun j j0 j1 => ?_
      rw [allB_N] at h2
      have hv := allN_iff.1 h2
      obtain ⟨n0, n1, _⟩ := nx_in i0 i1
      have e : orI l i j = sgn (cr l i (nx l i) j) := by unfold orI orB cr; rw [hv i i0 i1, hv _ n0 n1, hv j j0 j1]; rfl
      unfold convF convE
      rw [e]
      have : (sgn (cr l i (nx l i) j) = 1) ↔ 0 < cr l i (nx l i) j := by unfold sgn; split <;> (try split) <;> omega
      simp only [this]
    | false =>
      simp only [Bool.false_and]
      rw [allB_N] at h2
      obtain ⟨j, j0, j1, hj⟩ : ∃ j, 0 ≤ j ∧ j < ilen l ∧ vB (getx l j) (gety l j) = false := by
        apply Classical.byContradiction
        intro hn
        rw [allN_mk fun j j0 j1 => by cases e : vB (getx l j) (gety l j) with | true => rfl | false => exact absurd ⟨j, j0, j1, e⟩ hn] at h2
        cases h2
      obtain ⟨n0, n1, n2⟩ := nx_in j0 j1
      obtain ⟨m0, m1, m2⟩ := nx_in n0 n1
      refine allN_no (nx l j) n0 n1 (allN_no j j0 j1 ?_)
      have e : orI l (nx l j) j = 0 := by unfold orI orB; rw [hj]; simp
      unfold convF
      rw [e]
      simp only [decide_eq_false_iff_not]
      omega
def hitE (l : List Pt) (a1 a2 b1 b2 i : Int) : Bool := meetB (a1, a2) (b1, b2) (getx l i, gety l i) (getx l (nx l i), gety l (nx l i))
def hitB (l : List Pt) (a1 a2 b1 b2 : Int) : Bool := insB l a1 a2 || insB l b1 b2 || anyN (ilen l) (hitE l a1 a2 b1 b2)
theorem allB_at {l : List Pt} (h : allB l = true) {i : Int} (h0 : 0 ≤ i) (h1 : i < ilen l) : vB (getx l i) (gety l i) = true := by
  rw [allB_N] at h; exact allN_iff.1 h i h0 h1
theorem convB_all {l : List Pt} (h : convB l = true) : 3 ≤ ilen l ∧ ilen l ≤ 8 ∧ allB l = true := by
  unfold convB at h
  simp only [Bool.and_eq_true] at h
  exact ⟨(inB_true h.1.1).1, (inB_true h.1.1).2, h.1.2⟩
theorem allB_2 (a1 a2 b1 b2 : Int) : allB [(a1, a2), (b1, b2)] = (vB a1 a2 && vB b1 b2) := by simp [allB]
def dirK (J : List Int) (k : Int) : Int := foldN k (fun a i => a + geti J i) 0
def apX (L J : List Int) (k : Int) : Int := foldN k (fun a i => a + rotX (geti L i) 0 (dirK J (i + 1))) 0
def apY (L J : List Int) (k : Int) : Int := foldN k (fun a i => a + rotY (geti L i) 0 (dirK J (i + 1))) 0
def apL (L J : List Int) (n : Int) : List Pt := (List.range n.toNat).map fun (i : Nat) => (apX L J i, apY L J i)
theorem dirK_1 {J : List Int} {k : Int} (h : 0 ≤ k) : dirK J (k + 1) = dirK J k + geti J k := foldN_1 h
theorem apX_1 {L J : List Int} {k : Int} (h : 0 ≤ k) : apX L J (k + 1) = apX L J k + rotX (geti L k) 0 (dirK J (k + 1)) := foldN_1 h
theorem apY_1 {L J : List Int} {k : Int} (h : 0 ≤ k) : apY L J (k + 1) = apY L J k + rotY (geti L k) 0 (dirK J (k + 1)) := foldN_1 h
theorem dirK_bd {J : List Int} {n : Int} (h : ∀ j, 0 ≤ j → j < n → -180 ≤ geti J j ∧ geti J j ≤ 180) : ∀ k : Nat, (k : Int) ≤ n → -(180 * (k : Int)) ≤ dirK J k ∧ dirK J k ≤ 180 * (k : Int)
  | 0, _ => by
    have : dirK J ((0 : Nat) : Int) = 0 := rfl
    rw [this]; omega
  | k + 1, hk => by
    have ih := dirK_bd h k (by omega)
    have hj := h k (by omega) (by omega)
    rw [show ((k + 1 : Nat) : Int) = (k : Int) + 1 by omega, dirK_1 (by omega)]
    omega
theorem ap_bd {L J : List Int} {n : Int} (h : ∀ j, 0 ≤ j → j < n → 1 ≤ geti L j ∧ geti L j ≤ 500) : ∀ k : Nat, (k : Int) ≤ n → (-(500 * (k : Int)) ≤ apX L J k ∧ apX L J k ≤ 500 * (k : Int)) ∧ (-(500 * (k : Int)) ≤ apY L J k ∧ apY L J k ≤ 500 * (k : Int))
  | 0, _ => by
    have h1 : apX L J ((0 : Nat) : Int) = 0 := rfl
    have h2 : apY L J ((0 : Nat) : Int) = 0 := rfl
    rw [h1, h2]; omega
  | k + 1, hk => by
    have ih := ap_bd (J := J) h k (by omega)
    have hl := h k (by omega) (by omega)
    rw [show ((k + 1 : Nat) : Int) = (k : Int) + 1 by omega, apX_1 (by omega), apY_1 (by omega)]
    obtain ⟨e1, e2⟩ := rot_0 (geti L k) (dirK J ((k : Int) + 1))
    have q1 := rnd4_bd (x := geti L k) (s := cosF (dirK J ((k : Int) + 1))) (a := 500) (by omega) (by omega) (cosF_bd _)
    have q2 := rnd4_bd (x := geti L k) (s := sinF (dirK J ((k : Int) + 1))) (a := 500) (by omega) (by omega) (sinF_bd _)
    rw [e1, e2]
    omega
theorem apL_len {L J : List Int} {n : Int} (h : 0 ≤ n) : ilen (apL L J n) = n := by unfold ilen apL; simp; omega
theorem apL_s {L J : List Int} {k : Int} (h : 0 ≤ k) : iapp (apL L J k) [(apX L J k, apY L J k)] = apL L J (k + 1) := by
  unfold iapp apL
  rw [show (k + 1).toNat = k.toNat + 1 by omega, List.range_succ, List.map_append]
  simp [Int.toNat_of_nonneg h]
theorem apL_get {L J : List Int} {n k : Int} (h0 : 0 ≤ k) (h1 : k < n) : getx (apL L J n) k = apX L J k ∧ gety (apL L J n) k = apY L J k := by
  obtain ⟨h, e1, e2⟩ := get_at (l := apL L J n) h0 (by rw [apL_len (by omega)]; exact h1)
  have e : (apL L J n)[k.toNat] = (apX L J k, apY L J k) := by simp [apL, Int.toNat_of_nonneg h0]
  rw [e1, e2, e]
  exact ⟨rfl, rfl⟩
theorem jv_p {a1 a2 a3 j : List Int} (h : jvB a1 a2 a3 j = true) : armB a1 a2 a3 = true ∧ ilen j = ilen a1 ∧ (1 ≤ ilen a1 ∧ ilen a1 ≤ 4) ∧ (∀ k, 0 ≤ k → k < ilen a1 → 1 ≤ geti a1 k ∧ geti a1 k ≤ 500) ∧ ∀ k, 0 ≤ k → k < ilen a1 → (-180 ≤ geti j k ∧ geti j k ≤ 180) := by
  unfold jvB at h
  simp only [Bool.and_eq_true, decide_eq_true_eq] at h
  obtain ⟨⟨ha, hl⟩, hx⟩ := h
  have ha0 := ha
  unfold armB at ha0
  simp only [Bool.and_eq_true] at ha0
  refine ⟨ha, hl, inB_true ha0.1.1.1, fun k k0 k1 => ?_, fun k k0 k1 => ?_⟩
  · have := allN_iff.1 ha0.2 k k0 k1
    unfold armE at this
    simp only [Bool.and_eq_true] at this
    exact inB_true this.1.1
  · have b := inB_true (allN_iff.1 hx k k0 (by omega))
    have := armB_at ha k0 (by omega)
    omega
theorem jv_bd {a1 a2 a3 j : List Int} (h : jvB a1 a2 a3 j = true) {k : Int} (h0 : 0 ≤ k) (h1 : k ≤ ilen a1) : (-720 ≤ dirK j k ∧ dirK j k ≤ 720) ∧ (-2000 ≤ apX a1 j k ∧ apX a1 j k ≤ 2000) ∧ (-2000 ≤ apY a1 j k ∧ apY a1 j k ≤ 2000) := by
  obtain ⟨_, _, hl, hb, hd⟩ := jv_p h
  have q1 := dirK_bd hd k.toNat (by omega)
  have q2 := ap_bd (J := j) hb k.toNat (by omega)
  rw [Int.toNat_of_nonneg h0] at q1 q2
  omega
theorem jv_vB {a1 a2 a3 j : List Int} (h : jvB a1 a2 a3 j = true) {k : Int} (h0 : 0 ≤ k) (h1 : k ≤ ilen a1) : vB (apX a1 j k) (apY a1 j k) = true := by
  have := jv_bd h h0 h1
  exact vB_mk (by omega)
def segM (L J : List Int) (i m : Int) : Bool := meetB (apX L J i, apY L J i) (apX L J (i + 1), apY L J (i + 1)) (apX L J m, apY L J m) (apX L J (m + 1), apY L J (m + 1))
def scE (L J : List Int) (i m : Int) : Bool := !(decide (i + 2 ≤ m) && segM L J i m)
def scB (a1 a2 a3 j : List Int) : Bool := jvB a1 a2 a3 j && allN (ilen a1) fun i => allN (ilen a1) (scE a1 j i)
def acE (L J : List Int) (l : List Pt) (i : Int) : Bool := !(hitB l (apX L J i) (apY L J i) (apX L J (i + 1)) (apY L J (i + 1)))
def acN (L J : List Int) (l : List (List Pt)) (i : Int) : Bool := allN (ilen l) fun o => acE L J (getl l o) i
def acB (L J : List Int) (l : List (List Pt)) : Bool := allN (ilen L) (acN L J l)
def sceneB (l : List (List Pt)) : Bool := ile (ilen l) 6 && allN (ilen l) fun i => convB (getl l i)
theorem scene_at {l : List (List Pt)} (h : sceneB l = true) : ilen l ≤ 6 ∧ ∀ o, 0 ≤ o → o < ilen l → convB (getl l o) = true ∧ allB (getl l o) = true := by
  unfold sceneB at h
  simp only [Bool.and_eq_true] at h
  refine ⟨by simpa [ile] using h.1, fun o o0 o1 => ?_⟩
  have := allN_iff.1 h.2 o o0 o1
  exact ⟨this, (convB_all this).2.2⟩
theorem cj_jv {a1 a2 a3 : List Int} {s a b : Int} (hB : cjB a1 a2 a3 s a b = true) : jvB a1 a2 a3 (cjL a1 a2 a3 s a b) = true := by
  obtain ⟨hg, l2, l3, p1, p2, -, -⟩ := cj_parts hB
  obtain ⟨ha, hl, s1, s2⟩ := gsB_parts hg
  obtain ⟨e1, e2, b1, b2⟩ := cj_val hB
  have hl2 : ilen (cjL a1 a2 a3 s a b) = 2 := by rw [e1]; simp [ilen]
  have g0 : geti (cjL a1 a2 a3 s a b) 0 = geti a2 0 + a * s := by rw [e1]; simp [geti]
  have g1 : geti (cjL a1 a2 a3 s a b) 1 = geti a2 1 + b * s := by rw [e1]; simp [geti]
  unfold jvB
  rw [ha, hl2, hl]
  simp only [decide_true, Bool.true_and]
  refine allN_iff.2 fun i i0 i1 => ?_
  rcases (by omega : i = 0 ∨ i = 1) with rfl | rfl
  · rw [g0]; exact inB_mk (by omega) (by omega)
  · rw [g1]; exact inB_mk (by omega) (by omega)
def fcJ (a2 : List Int) (s i j : Int) : List Int := [geti a2 0 + i * s, geti a2 1 + j * s]
def fcR (a1 a2 : List Int) (l : List (List Pt)) (s i k : Int) : List Bool := (List.range k.toNat).map fun (j : Nat) => acB a1 (fcJ a2 s i j) l
def fcT (a1 a2 : List Int) (l : List (List Pt)) (s n k : Int) : List (List Bool) := (List.range k.toNat).map fun (i : Nat) => fcR a1 a2 l s i n
def fcL (a1 a2 a3 : List Int) (s : Int) (l : List (List Pt)) : List (List Bool) := if sceneB l = true then fcT a1 a2 l s (gsK a1 a2 a3 s 1) (gsK a1 a2 a3 s 0) else []
theorem fcR_len {a1 a2 : List Int} {l : List (List Pt)} {s i k : Int} (h : 0 ≤ k) : ilen (fcR a1 a2 l s i k) = k := by unfold ilen fcR; simp; omega
theorem fcT_len {a1 a2 : List Int} {l : List (List Pt)} {s n k : Int} (h : 0 ≤ k) : ilen (fcT a1 a2 l s n k) = k := by unfold ilen fcT; simp; omega
theorem fcR_s {a1 a2 : List Int} {l : List (List Pt)} {s i k : Int} (h : 0 ≤ k) : iapp (fcR a1 a2 l s i k) [acB a1 (fcJ a2 s i k) l] = fcR a1 a2 l s i (k + 1) := by
  unfold iapp fcR
  rw [show (k + 1).toNat = k.toNat + 1 by omega, List.range_succ, List.map_append]
  simp [Int.toNat_of_nonneg h]
theorem fcT_s {a1 a2 : List Int} {l : List (List Pt)} {s n k : Int} (h : 0 ≤ k) : iapp (fcT a1 a2 l s n k) [fcR a1 a2 l s k n] = fcT a1 a2 l s n (k + 1) := by
  unfold iapp fcT
  rw [show (k + 1).toNat = k.toNat + 1 by omega, List.range_succ, List.map_append]
  simp [Int.toNat_of_nonneg h]
theorem fcT_get {a1 a2 : List Int} {l : List (List Pt)} {s n k i : Int} (h0 : 0 ≤ i) (h1 : i < k) : getl (fcT a1 a2 l s n k) i = fcR a1 a2 l s i n := by
  unfold getl fcT
  have : i.toNat < k.toNat := by omega
  simp [List.getD_eq_getElem?_getD, this, Int.toNat_of_nonneg h0]
theorem cj_in {a1 a2 a3 : List Int} {s i j : Int} (i0 : 0 ≤ i) (i1 : i < gsK a1 a2 a3 s 0) (j0 : 0 ≤ j) (j1 : j < gsK a1 a2 a3 s 1) : cjB a1 a2 a3 s i j = true ∧ cjL a1 a2 a3 s i j = fcJ a2 s i j ∧ (gsK a1 a2 a3 s 0 ≤ 20 ∧ gsK a1 a2 a3 s 1 ≤ 20) := by
  rcases gsK_cases a1 a2 a3 s with ⟨h0, _⟩ | ⟨hB, g0, g1, e0, e1, m0, m1⟩
  · omega
  have hb : cjB a1 a2 a3 s i j = true := by
    unfold cjB
    rw [isub_e (by omega) (by omega), isub_e (by omega) (by omega), inB_mk (by omega) (by omega), inB_mk (by omega) (by omega)]; rfl
  exact ⟨hb, (cj_val hb).1, by omega, by omega⟩
def g_laws_FnExactFreeCells : List AV → Option Sg
  | [.agg [.view (.ints a1), .view (.ints a2), .view (.ints a3)], .s (.int s), .s (.view (.ptss l))] => some ⟨True, [.s (.bool (true))]⟩
  | _ => none
def szI (k n : Int) : Int := if k ≤ n then n - k else -1
def g_laws_szIntS : List AV → Option Sg
  | [.s (.view (.ints l)), .s (.int n)] => some ⟨0 ≤ n ∧ n ≤ 1048576, [.s (.int (szI (ilen l) n))]⟩
  | _ => none
def sig_laws_szIntS : FuncId → List AV → Option Sg := sigL []
def xs_laws_szIntS : XS := ⟨xsigL [], ysigL []⟩
theorem sig_laws_szIntS_ok : SigOK sig_laws_szIntS := sigL_nil
theorem xs_laws_szIntS_ok : XSigOK xs_laws_szIntS := ⟨xsigL_nil, ysigL_nil⟩
theorem V_laws_szIntS (l : List Int) (n : Int) : ((true = true) ∧ ((True) ∧ True) ∧ (true = true) ∧ ((True) ∧ (True) ∧ (True) ∧ (True) ∧ (True) ∧ True) ∧ (true = true) ∧ ((True) ∧ (True) ∧ True) ∧ ((ilt (isub n (ilen l)) (0 : Int)) = true → ((true = true) ∧ ((True) ∧ True) ∧ (((-1 : Int) : Int) = (szI (ilen l) n)) ∧ True)) ∧ ((ilt (isub n (ilen l)) (0 : Int)) = false → ((true = true) ∧ ((True) ∧ (True) ∧ True) ∧ (((isub n (ilen l)) : Int) = (szI (ilen l) n)) ∧ True))) = ev sig_laws_szIntS xs_laws_szIntS Tryd.f24.ntmps (fun b => []) (codeOf Tryd.f24) 0 (initS [.s (.view (.ints l)), .s (.int n)]) (retK Tryd.f24.results.toList [.s (.int (szI (ilen l) n))]) := by kernel_rfl
set_option maxHeartbeats 400000 in
theorem F_laws_szIntS : FunOK 24 g_laws_szIntS := by
  refine fun_F (by kernel_rfl) Tryd.func24 rfl (by kernel_rfl) sig_laws_szIntS_ok xs_laws_szIntS_ok ?_
  intro avs sg h hn hl
  unfold g_laws_szIntS at h
  split at h
  · rename_i l n
    injection h with h; subst h
    refine ⟨by kernel_rfl, fun b => [], Eq.mp (V_laws_szIntS l n) ?_⟩
    simp only [true_and, and_true, implies_true, and_self, forall_const, true_implies, lenA, lenL, SV.lenOK, Cont.lenOK] at hn hl ⊢
    simp only [ilt_t, ilt_f, ile_t, ile_f, ieq_t, ieq_f, bnot_e, band_e, bite_and, bite_or, NLt_e, NLe_e, NNe_e, NIs_e, imax_e, imin_e, irem_e, Bool.not_eq_true', Bool.not_eq_false', Bool.and_eq_true, Bool.or_eq_true, Bool.or_eq_false_iff, Bool.and_eq_false_iff, Cont.pts.injEq, Cont.ints.injEq, Cont.bools.injEq, Cont.ptss.injEq, Cont.intss.injEq, Cont.boolss.injEq, true_and, and_true, implies_true]
    have := ilen_0 l
    rw [isub_e (by omega) (by omega)]
    unfold szI
    refine ⟨fun h => ?_, fun h => ?_⟩
    · rw [if_neg (by omega)]
    · rw [if_pos (by omega)]
  · cases h
def eqPt (p1 p2 q1 q2 : Int) : Bool := decide (p1 = q1) && decide (p2 = q2)
theorem eqPt_same (p q : Int) : eqPt p q p q = true := by simp [eqPt]
def eqL (l m : List Pt) : Bool := decide (ilen l = ilen m) && allN (ilen l) fun j => eqPt (getx l j) (gety l j) (getx m j) (gety m j)
theorem eqL_same (l : List Pt) : eqL l l = true := by
  unfold eqL
  rw [allN_mk fun j _ _ => eqPt_same _ _]
  simp
def eqLL (l m : List (List Pt)) : Bool := decide (ilen l = ilen m) && allN (ilen l) fun j => eqL (getl l j) (getl m j)
theorem eqLL_same (l : List (List Pt)) : eqLL l l = true := by
  unfold eqLL
  rw [allN_mk fun j _ _ => eqL_same _]
  simp
theorem szI_e {k n : Int} (h : 0 ≤ szI k n) : k ≤ n ∧ szI k n = n - k := by
  unfold szI at h ⊢
  split at h
  · rename_i h1; rw [if_pos h1]; exact ⟨h1, rfl⟩
  · omega
def s_laws_szArm (a1 : List Int) (a2 : List Int) (a3 : List Int) (n : Int) : SgY := ⟨0 ≤ n ∧ n ≤ 1048576, [.int], (fun | [.int k] => k < 0 ∨ (0 ≤ k ∧ k ≤ n ∧ ilen a1 ≤ n ∧ ilen a2 ≤ n ∧ ilen a3 ≤ n) | _ => False), (fun | [.int k] => [.s (.int (k))] | _ => [])⟩
def g_laws_szArm : List AV → Option SgY
  | [.agg [.view (.ints a1), .view (.ints a2), .view (.ints a3)], .s (.int n)] => some (s_laws_szArm a1 a2 a3 n)
  | _ => none
def sig_laws_szArm : FuncId → List AV → Option Sg := sigL [(24, g_laws_szIntS)]
def xs_laws_szArm : XS := ⟨xsigL [], ysigL []⟩
theorem sig_laws_szArm_ok : SigOK sig_laws_szArm := sigL_cons F_laws_szIntS sigL_nil
theorem xs_laws_szArm_ok : XSigOK xs_laws_szArm := ⟨xsigL_nil, ysigL_nil⟩
theorem V_laws_szArm (a1 : List Int) (a2 : List Int) (a3 : List Int) (n : Int) : ((true = true) ∧ ((True) ∧ (True) ∧ True) ∧ (true = true) ∧ ((True) ∧ (True) ∧ (True) ∧ ((0 ≤ n ∧ n ≤ 1048576)) ∧ (True) ∧ True) ∧ (true = true) ∧ ((True) ∧ (True) ∧ True) ∧ ((ilt (szI (ilen a1) n) (0 : Int)) = true → ((true = true) ∧ ((True) ∧ True) ∧ ∃ k : Int, ((k < 0 ∨ (0 ≤ k ∧ k ≤ n ∧ ilen a1 ≤ n ∧ ilen a2 ≤ n ∧ ilen a3 ≤ n)) ∧ ((((-1 : Int) : Int) = (k)) ∧ True)))) ∧ ((ilt (szI (ilen a1) n) (0 : Int)) = false → ((true = true) ∧ ((True) ∧ (True) ∧ (True) ∧ ((0 ≤ (szI (ilen a1) n) ∧ (szI (ilen a1) n) ≤ 1048576)) ∧ (True) ∧ True) ∧ (true = true) ∧ ((True) ∧ (True) ∧ True) ∧ ((ilt (szI (ilen a2) (szI (ilen a1) n)) (0 : Int)) = true → ((true = true) ∧ ((True) ∧ True) ∧ ∃ k : Int, ((k < 0 ∨ (0 ≤ k ∧ k ≤ n ∧ ilen a1 ≤ n ∧ ilen a2 ≤ n ∧ ilen a3 ≤ n)) ∧ ((((-1 : Int) : Int) = (k)) ∧ True)))) ∧ ((ilt (szI (ilen a2) (szI (ilen a1) n)) (0 : Int)) = false → ((true = true) ∧ ((True) ∧ (True) ∧ (True) ∧ ((0 ≤ (szI (ilen a2) (szI (ilen a1) n)) ∧ (szI (ilen a2) (szI (ilen a1) n)) ≤ 1048576)) ∧ (True) ∧ True) ∧ (true = true) ∧ ((True) ∧ (True) ∧ True) ∧ ((ilt (szI (ilen a3) (szI (ilen a2) (szI (ilen a1) n))) (0 : Int)) = true → ((true = true) ∧ ((True) ∧ True) ∧ ∃ k : Int, ((k < 0 ∨ (0 ≤ k ∧ k ≤ n ∧ ilen a1 ≤ n ∧ ilen a2 ≤ n ∧ ilen a3 ≤ n)) ∧ ((((-1 : Int) : Int) = (k)) ∧ True)))) ∧ ((ilt (szI (ilen a3) (szI (ilen a2) (szI (ilen a1) n))) (0 : Int)) = false → ((true = true) ∧ ((True) ∧ (True) ∧ True) ∧ ∃ k : Int, ((k < 0 ∨ (0 ≤ k ∧ k ≤ n ∧ ilen a1 ≤ n ∧ ilen a2 ≤ n ∧ ilen a3 ≤ n)) ∧ ((((szI (ilen a3) (szI (ilen a2) (szI (ilen a1) n))) : Int) = (k)) ∧ True))))))))) = (fun sg => ev sig_laws_szArm xs_laws_szArm Tryd.f5.ntmps (fun b => []) (codeOf Tryd.f5) 0 (initS [.agg [.view (.ints a1), .view (.ints a2), .view (.ints a3)], .s (.int n)]) (retY Tryd.f5.results.toList sg.kinds sg.post sg.ret)) (s_laws_szArm a1 a2 a3 n) := by kernel_rfl
set_option maxHeartbeats 400000 in
theorem F_laws_szArm : FunY 5 g_laws_szArm := by
  refine fun_Y (by kernel_rfl) Tryd.func5 rfl (by kernel_rfl) sig_laws_szArm_ok xs_laws_szArm_ok ?_
  intro avs sg h hn hl
  unfold g_laws_szArm at h
  split at h
  · rename_i a1 a2 a3 n
    injection h with h; subst h
    refine ⟨by kernel_rfl, fun b => [], Eq.mp (V_laws_szArm a1 a2 a3 n) ?_⟩
    simp only [true_and, and_true, implies_true, and_self, forall_const, true_implies, lenA, lenL, SV.lenOK, Cont.lenOK, s_laws_szArm] at hn hl ⊢
    have q1 := ilen_0 a1; have q2 := ilen_0 a2; have q3 := ilen_0 a3
    simp only [ilt_t, ilt_f, ile_t, ile_f, ieq_t, ieq_f, bnot_e, band_e, bite_and, bite_or, NLt_e, NLe_e, NNe_e, NIs_e, imax_e, imin_e, irem_e, Bool.not_eq_true', Bool.not_eq_false', Bool.and_eq_true, Bool.or_eq_true, Bool.or_eq_false_iff, Bool.and_eq_false_iff, Cont.pts.injEq, Cont.ints.injEq, Cont.bools.injEq, Cont.ptss.injEq, Cont.intss.injEq, Cont.boolss.injEq, true_and, and_true, implies_true]
    refine ⟨hn, fun h => ⟨-1, .inl (by omega), rfl⟩, fun h1 => ?_⟩
    obtain ⟨e1, e2⟩ := szI_e h1
    rw [e2] at h1 ⊢
    refine ⟨by omega, fun h => ⟨-1, .inl (by omega), rfl⟩, fun h2 => ?_⟩
    obtain ⟨f1, f2⟩ := szI_e h2
    rw [f2] at h2 ⊢
    refine ⟨by omega, fun h => ⟨-1, .inl (by omega), rfl⟩, fun h3 => ?_⟩
    obtain ⟨g1, g2⟩ := szI_e h3
    exact ⟨_, .inr ⟨h3, by omega, by omega, by omega, by omega⟩, rfl⟩
  · cases h
def g_laws_szPointS : List AV → Option Sg
  | [.s (.view (.pts l)), .s (.int n)] => some ⟨0 ≤ n ∧ n ≤ 1048576, [.s (.int (szI (ilen l) n))]⟩
  | _ => none
def sig_laws_szPointS : FuncId → List AV → Option Sg := sigL []
def xs_laws_szPointS : XS := ⟨xsigL [], ysigL []⟩
theorem sig_laws_szPointS_ok : SigOK sig_laws_szPointS := sigL_nil
theorem xs_laws_szPointS_ok : XSigOK xs_laws_szPointS := ⟨xsigL_nil, ysigL_nil⟩
theorem V_laws_szPointS (l : List Pt) (n : Int) : ((true = true) ∧ ((True) ∧ True) ∧ (true = true) ∧ ((True) ∧ (True) ∧ (True) ∧ (True) ∧ (True) ∧ True) ∧ (true = true) ∧ ((True) ∧ (True) ∧ True) ∧ ((ilt (isub n (ilen l)) (0 : Int)) = true → ((true = true) ∧ ((True) ∧ True) ∧ (((-1 : Int) : Int) = (szI (ilen l) n)) ∧ True)) ∧ ((ilt (isub n (ilen l)) (0 : Int)) = false → ((true = true) ∧ ((True) ∧ (True) ∧ True) ∧ (((isub n (ilen l)) : Int) = (szI (ilen l) n)) ∧ True))) = ev sig_laws_szPointS xs_laws_szPointS Tryd.f25.ntmps (fun b => []) (codeOf Tryd.f25) 0 (initS [.s (.view (.pts l)), .s (.int n)]) (retK Tryd.f25.results.toList [.s (.int (szI (ilen l) n))]) := by kernel_rfl
set_option maxHeartbeats 400000 in
theorem F_laws_szPointS : FunOK 25 g_laws_szPointS := by
  refine fun_F (by kernel_rfl) Tryd.func25 rfl (by kernel_rfl) sig_laws_szPointS_ok xs_laws_szPointS_ok ?_
  intro avs sg h hn hl
  unfold g_laws_szPointS at h
  split at h
  · rename_i l n
    injection h with h; subst h
    refine ⟨by kernel_rfl, fun b => [], Eq.mp (V_laws_szPointS l n) ?_⟩
    simp only [true_and, and_true, implies_true, and_self, forall_const, true_implies, lenA, lenL, SV.lenOK, Cont.lenOK] at hn hl ⊢
    simp only [ilt_t, ilt_f, ile_t, ile_f, ieq_t, ieq_f, bnot_e, band_e, bite_and, bite_or, NLt_e, NLe_e, NNe_e, NIs_e, imax_e, imin_e, irem_e, Bool.not_eq_true', Bool.not_eq_false', Bool.and_eq_true, Bool.or_eq_true, Bool.or_eq_false_iff, Bool.and_eq_false_iff, Cont.pts.injEq, Cont.ints.injEq, Cont.bools.injEq, Cont.ptss.injEq, Cont.intss.injEq, Cont.boolss.injEq, true_and, and_true, implies_true]
    have := ilen_0 l
    rw [isub_e (by omega) (by omega)]
    unfold szI
    refine ⟨fun h => ?_, fun h => ?_⟩
    · rw [if_neg (by omega)]
    · rw [if_pos (by omega)]
  · cases h
def s_laws_szPointSS (l : List (List Pt)) (n : Int) : SgY := ⟨0 ≤ n ∧ n ≤ 1048576, [.int], (fun | [.int k] => k < 0 ∨ (0 ≤ k ∧ k ≤ n ∧ ilen l ≤ n ∧ ∀ i, 0 ≤ i → i < ilen l → ilen (getl l i) ≤ n) | _ => False), (fun | [.int k] => [.s (.int (k))] | _ => [])⟩
def g_laws_szPointSS : List AV → Option SgY
  | [.s (.view (.ptss l)), .s (.int n)] => some (s_laws_szPointSS l n)
  | _ => none
def sig_laws_szPointSS : FuncId → List AV → Option Sg := sigL [(25, g_laws_szPointS)]
def xs_laws_szPointSS : XS := ⟨xsigL [], ysigL []⟩
theorem sig_laws_szPointSS_ok : SigOK sig_laws_szPointSS := sigL_cons F_laws_szPointS sigL_nil
theorem xs_laws_szPointSS_ok : XSigOK xs_laws_szPointSS := ⟨xsigL_nil, ysigL_nil⟩
theorem V_laws_szPointSS (l : List (List Pt)) (n : Int) : ((true = true) ∧ ((True) ∧ True) ∧ (true = true) ∧ ((True) ∧ (True) ∧ (True) ∧ (True) ∧ (True) ∧ True) ∧ (true = true) ∧ ((True) ∧ (True) ∧ True) ∧ ((ilt (isub n (ilen l)) (0 : Int)) = true → ((true = true) ∧ ((True) ∧ True) ∧ ∃ k : Int, ((k < 0 ∨ (0 ≤ k ∧ k ≤ n ∧ ilen l ≤ n ∧ ∀ i, 0 ≤ i → i < ilen l → ilen (getl l i) ≤ n)) ∧ ((((-1 : Int) : Int) = (k)) ∧ True)))) ∧ ((ilt (isub n (ilen l)) (0 : Int)) = false → ((true = true) ∧ ((True) ∧ True) ∧ ∃ (I1 : List GV → Prop) (μ1 : List GV → Nat), (((true = true) ∧ ((((0 : Int) : Int) = (0 : Int)) ∧ (((isub n (ilen l)) : Int) = (isub n (ilen l))) ∧ (((0 : Int) : Int) = (0 : Int)) ∧ (((isub n (ilen l)) : Int) = (isub n (ilen l))) ∧ (((ilt (isub n (ilen l)) (0 : Int)) : Bool) = (ilt (isub n (ilen l)) (0 : Int))) ∧ ((n : Int) = n) ∧ ((Cont.ptss l) = (Cont.ptss l)) ∧ (((ilen l) : Int) = (ilen l)) ∧ (((isub n (ilen l)) : Int) = (isub n (ilen l))) ∧ ((Cont.ptss l) = (Cont.ptss l)) ∧ True) ∧ (True)) ∧ (([GK.int, GK.int, GK.int] : List GK) = ([GK.int, GK.int, GK.int] : List GK)) ∧ I1 [GV.int (0 : Int), GV.int (isub n (ilen l)), GV.int (0 : Int)]) ∧ (∀ i1_0 : Int, ∀ i1_1 : Int, ∀ i1_2 : Int, I1 [GV.int i1_0, GV.int i1_1, GV.int i1_2] → ((true = true) ∧ ((True) ∧ (True) ∧ (True) ∧ (True) ∧ True) ∧ ((ilt i1_0 (ilen l)) = true → ((true = true) ∧ ((True) ∧ (True) ∧ (NLe 0 i1_0 ∧ NLt i1_0 (ilen l)) ∧ (True) ∧ (True) ∧ ((0 ≤ i1_1 ∧ i1_1 ≤ 1048576)) ∧ (True) ∧ True) ∧ (true = true) ∧ ((True) ∧ (True) ∧ True) ∧ ((ilt (szI (ilen (getl l i1_0)) i1_1) (0 : Int)) = true → ((true = true) ∧ ((True) ∧ True) ∧ ∃ k : Int, ((k < 0 ∨ (0 ≤ k ∧ k ≤ n ∧ ilen l ≤ n ∧ ∀ i, 0 ≤ i → i < ilen l → ilen (getl l i) ≤ n)) ∧ ((((-1 : Int) : Int) = (k)) ∧ True)))) ∧ ((ilt (szI (ilen (getl l i1_0)) i1_1) (0 : Int)) = false → ((true = true) ∧ ((True) ∧ (True) ∧ (True) ∧ True) ∧ ((true = true) ∧ (((i1_2 : Int) = i1_2) ∧ (((szI (ilen (getl l i1_0)) i1_1) : Int) = (szI (ilen (getl l i1_0)) i1_1)) ∧ (((iadd i1_0 (1 : Int)) : Int) = (iadd i1_0 (1 : Int))) ∧ (((isub n (ilen l)) : Int) = (isub n (ilen l))) ∧ (((ilt (isub n (ilen l)) (0 : Int)) : Bool) = (ilt (isub n (ilen l)) (0 : Int))) ∧ ((n : Int) = n) ∧ ((Cont.ptss l) = (Cont.ptss l)) ∧ (((ilen l) : Int) = (ilen l)) ∧ (((isub n (ilen l)) : Int) = (isub n (ilen l))) ∧ ((Cont.ptss l) = (Cont.ptss l)) ∧ True) ∧ (True)) ∧ ((([GK.int, GK.int, GK.int] : List GK) = ([GK.int, GK.int, GK.int] : List GK)) ∧ I1 [GV.int (iadd i1_0 (1 : Int)), GV.int (szI (ilen (getl l i1_0)) i1_1), GV.int i1_2] ∧ μ1 [GV.int (iadd i1_0 (1 : Int)), GV.int (szI (ilen (getl l i1_0)) i1_1), GV.int i1_2] < μ1 [GV.int i1_0, GV.int i1_1, GV.int i1_2]))))) ∧ ((ilt i1_0 (ilen l)) = false → ((true = true) ∧ ((True) ∧ (True) ∧ True) ∧ ∃ k : Int, ((k < 0 ∨ (0 ≤ k ∧ k ≤ n ∧ ilen l ≤ n ∧ ∀ i, 0 ≤ i → i < ilen l → ilen (getl l i) ≤ n)) ∧ (((i1_1 : Int) = (k)) ∧ True))))))))) = (fun sg => ev sig_laws_szPointSS xs_laws_szPointSS Tryd.f6.ntmps (fun b => if b == 0 then [.v 5, .v 1, .v 4] else []) (codeOf Tryd.f6) 0 (initS [.s (.view (.ptss l)), .s (.int n)]) (retY Tryd.f6.results.toList sg.kinds sg.post sg.ret)) (s_laws_szPointSS l n) := by kernel_rfl
set_option maxHeartbeats 400000 in
theorem F_laws_szPointSS : FunY 6 g_laws_szPointSS := by
  refine fun_Y (by kernel_rfl) Tryd.func6 rfl (by kernel_rfl) sig_laws_szPointSS_ok xs_laws_szPointSS_ok ?_
  intro avs sg h hn hl
  unfold g_laws_szPointSS at h
  split at h
  · rename_i l n
    injection h with h; subst h
    refine ⟨by kernel_rfl, fun b => if b == 0 then [.v 5, .v 1, .v 4] else [], Eq.mp (V_laws_szPointSS l n) ?_⟩
    simp only [true_and, and_true, implies_true, and_self, forall_const, true_implies, lenA, lenL, SV.lenOK, Cont.lenOK, s_laws_szPointSS] at hn hl ⊢
    have h0 := ilen_0 l
    simp only [ilt_t, ilt_f, ile_t, ile_f, ieq_t, ieq_f, bnot_e, band_e, bite_and, bite_or, NLt_e, NLe_e, NNe_e, NIs_e, imax_e, imin_e, irem_e, Bool.not_eq_true', Bool.not_eq_false', Bool.and_eq_true, Bool.or_eq_true, Bool.or_eq_false_iff, Bool.and_eq_false_iff, Cont.pts.injEq, Cont.ints.injEq, Cont.bools.injEq, Cont.ptss.injEq, Cont.intss.injEq, Cont.boolss.injEq, true_and, and_true, implies_true]
    rw [isub_e (by omega) (by omega)]
    refine ⟨fun h => ⟨-1, .inl (by omega), rfl⟩, fun h => ?_⟩
    refine ⟨fun | .int k :: .int s :: _ => 0 ≤ k ∧ k ≤ ilen l ∧ 0 ≤ s ∧ s ≤ n ∧ (∀ i, 0 ≤ i → i < k → ilen (getl l i) ≤ n) | _ => False, fun | .int k :: _ => (ilen l - k).toNat | _ => 0, ?_, ?_⟩
    · exact ⟨Int.le_refl 0, h0, by omega, by omega, fun j h0 h1 => absurd h1 (by omega)⟩
    · rintro k s _ ⟨hk0, hk1, hs0, hs1, hk⟩
      simp only [ilt_t, ilt_f, ile_t, ile_f, ieq_t, ieq_f, bnot_e, band_e, bite_and, bite_or, NLt_e, NLe_e, NNe_e, NIs_e, imax_e, imin_e, irem_e, Bool.not_eq_true', Bool.not_eq_false', Bool.and_eq_true, Bool.or_eq_true, Bool.or_eq_false_iff, Bool.and_eq_false_iff, Cont.pts.injEq, Cont.ints.injEq, Cont.bools.injEq, Cont.ptss.injEq, Cont.intss.injEq, Cont.boolss.injEq, true_and, and_true, implies_true]
      refine ⟨fun hkn => ⟨⟨⟨hk0, hkn⟩, by omega, by omega⟩, fun hx => ⟨-1, .inl (by omega), rfl⟩, fun hx => ?_⟩, fun hkn => ?_⟩
      · obtain ⟨q1, q2⟩ := szI_e hx
        have q3 := ilen_0 (getl l k)
        rw [iadd_1 hk0 hkn hl.1, q2]
        exact ⟨⟨by omega, by omega, by omega, by omega, upTo hk (by omega)⟩, by omega⟩
      · exact ⟨s, .inr ⟨hs0, hs1, by omega, fun i i0 i1 => hk i i0 (by omega)⟩, rfl⟩
  · cases h
def g_laws_toIntS : List AV → Option Sg
  | [.s (.view (.ints l))] => some ⟨ilen l ≤ 100000000, [.nrow 3 (.ints (l))]⟩
  | _ => none
def sig_laws_toIntS : FuncId → List AV → Option Sg := sigL []
def xs_laws_toIntS : XS := ⟨xsigL [], ysigL []⟩
theorem sig_laws_toIntS_ok : SigOK sig_laws_toIntS := sigL_nil
theorem xs_laws_toIntS_ok : XSigOK xs_laws_toIntS := ⟨xsigL_nil, ysigL_nil⟩
theorem V_laws_toIntS (l : List Int) : ((true = true) ∧ ((True) ∧ True) ∧ (true = true) ∧ ((True) ∧ (True) ∧ (NLe 0 (ilen l) ∧ NLe (ilen l) 100000000 ∧ NIs (ieq (ilen l) (ilen l)) true) ∧ (True) ∧ True) ∧ (true = true) ∧ ((True) ∧ True) ∧ ∃ (I1 : List GV → Prop) (μ1 : List GV → Nat), (((true = true) ∧ ((((0 : Int) : Int) = (0 : Int)) ∧ ((Cont.ints l) = (Cont.ints l)) ∧ (((ilen l) : Int) = (ilen l)) ∧ (true = true) ∧ (true = true) ∧ ((Cont.ints l) = (Cont.ints l)) ∧ True) ∧ (((true = true) ∧ ((Cont.ints (irep (ilen l) 0)) = (Cont.ints (irep (ilen l) 0)))) ∧ ((true = true) ∧ ((Cont.ints []) = (Cont.ints []))) ∧ True)) ∧ (([GK.int, GK.ints] : List GK) = ([GK.int, GK.ints] : List GK)) ∧ I1 [GV.int (0 : Int), GV.ints (irep (ilen l) 0)]) ∧ (∀ i1_0 : Int, ∀ l1_1 : List Int, I1 [GV.int i1_0, GV.ints l1_1] → ((true = true) ∧ ((True) ∧ (True) ∧ (True) ∧ (True) ∧ True) ∧ ((ilt i1_0 (ilen l)) = true → ((true = true) ∧ ((True) ∧ (True) ∧ (True) ∧ (True) ∧ (NLe 0 i1_0 ∧ NLt i1_0 (ilen l)) ∧ (True) ∧ (NLe 0 i1_0 ∧ NLt i1_0 (ilen l1_1)) ∧ True) ∧ (NLt i1_0 (ilen l1_1)) ∧ (true = true) ∧ ((True) ∧ (True) ∧ (True) ∧ True) ∧ ((true = true) ∧ ((((iadd i1_0 (1 : Int)) : Int) = (iadd i1_0 (1 : Int))) ∧ ((Cont.ints l) = (Cont.ints l)) ∧ (((ilen l) : Int) = (ilen l)) ∧ (true = true) ∧ (true = true) ∧ ((Cont.ints l) = (Cont.ints l)) ∧ True) ∧ (((true = true) ∧ ((Cont.ints (seti l1_1 i1_0 (geti l i1_0))) = (Cont.ints (seti l1_1 i1_0 (geti l i1_0))))) ∧ ((true = true) ∧ ((Cont.ints []) = (Cont.ints []))) ∧ True)) ∧ ((([GK.int, GK.ints] : List GK) = ([GK.int, GK.ints] : List GK)) ∧ I1 [GV.int (iadd i1_0 (1 : Int)), GV.ints (seti l1_1 i1_0 (geti l i1_0))] ∧ μ1 [GV.int (iadd i1_0 (1 : Int)), GV.ints (seti l1_1 i1_0 (geti l i1_0))] < μ1 [GV.int i1_0, GV.ints l1_1]))) ∧ ((ilt i1_0 (ilen l)) = false → ((true = true) ∧ ((True) ∧ (True) ∧ True) ∧ ((true = true) ∧ ((Cont.ints l1_1) = (Cont.ints (l)))) ∧ True))))) = ev sig_laws_toIntS xs_laws_toIntS Tryd.f29.ntmps (fun b => if b == 0 then [.v 4, .b 3] else []) (codeOf Tryd.f29) 0 (initS [.s (.view (.ints l))]) (retK Tryd.f29.results.toList [.nrow 3 (.ints (l))]) := by kernel_rfl
set_option maxHeartbeats 400000 in
theorem F_laws_toIntS : FunOK 29 g_laws_toIntS := by
  refine fun_F (by kernel_rfl) Tryd.func29 rfl (by kernel_rfl) sig_laws_toIntS_ok xs_laws_toIntS_ok ?_
  intro avs sg h hn hl
  unfold g_laws_toIntS at h
  split at h
  · rename_i l
    injection h with h; subst h
    refine ⟨by kernel_rfl, fun b => if b == 0 then [.v 4, .b 3] else [], Eq.mp (V_laws_toIntS l) ?_⟩
    simp only [true_and, and_true, implies_true, and_self, forall_const, true_implies, lenA, lenL, SV.lenOK, Cont.lenOK] at hn hl ⊢
    simp only [ilt_t, ilt_f, ile_t, ile_f, ieq_t, ieq_f, bnot_e, band_e, bite_and, bite_or, NLt_e, NLe_e, NNe_e, NIs_e, imax_e, imin_e, irem_e, Bool.not_eq_true', Bool.not_eq_false', Bool.and_eq_true, Bool.or_eq_true, Bool.or_eq_false_iff, Bool.and_eq_false_iff, Cont.pts.injEq, Cont.ints.injEq, Cont.bools.injEq, Cont.ptss.injEq, Cont.intss.injEq, Cont.boolss.injEq, true_and, and_true, implies_true]
    have h0 := ilen_0 l
    refine ⟨⟨h0, hn⟩, ?_⟩
    refine ⟨fun | [.int k, .ints m] => 0 ≤ k ∧ k ≤ ilen l ∧ ilen m = ilen l ∧ ∀ j, 0 ≤ j → j < k → geti m j = geti l j | _ => False, fun | [.int k, .ints m] => (ilen l - k).toNat | _ => 0, ?_, ?_⟩
    · exact ⟨Int.le_refl 0, h0, ilen_rep _ h0, fun j h0 h1 => absurd h1 (by omega)⟩
    · rintro k m ⟨hk0, hk1, hm, hk⟩
      refine ⟨fun hc => ?_, fun hc => ?_⟩
      · rw [iadd_e (by omega) (by omega)]
        refine ⟨⟨⟨hk0, hc⟩, hk0, by omega⟩, by omega, ⟨by omega, by omega, by rw [ilen_seti]; exact hm, fun j j0 j1 => ?_⟩, by dsimp only; omega⟩
        rw [geti_seti hk0 (by omega) j0]
        by_cases hj : j = k
        · simp only [hj, if_pos, and_self]
        · simp only [if_neg hj]; exact hk j j0 (by omega)
      · rw [ints_ext (l := m) (m := l) hm fun j j0 j1 => hk j j0 (by omega)]
  · cases h
def g_laws_toArm : List AV → Option Sg
  | [.agg [.view (.ints a1), .view (.ints a2), .view (.ints a3)]] => some ⟨ilen a1 ≤ 100000000 ∧ ilen a2 ≤ 100000000 ∧ ilen a3 ≤ 100000000, [.agg [.view (.ints (a1)), .view (.ints (a2)), .view (.ints (a3))]]⟩
  | _ => none
def sig_laws_toArm : FuncId → List AV → Option Sg := sigL [(29, g_laws_toIntS)]
def xs_laws_toArm : XS := ⟨xsigL [], ysigL []⟩
theorem sig_laws_toArm_ok : SigOK sig_laws_toArm := sigL_cons F_laws_toIntS sigL_nil
theorem xs_laws_toArm_ok : XSigOK xs_laws_toArm := ⟨xsigL_nil, ysigL_nil⟩
theorem V_laws_toArm (a1 : List Int) (a2 : List Int) (a3 : List Int) : ((true = true) ∧ ((True) ∧ (True) ∧ True) ∧ (true = true) ∧ ((True) ∧ True) ∧ (true = true) ∧ ((True) ∧ (True) ∧ ((ilen a1 ≤ 100000000)) ∧ (True) ∧ True) ∧ (True) ∧ (true = true) ∧ ((True) ∧ (True) ∧ ((ilen a2 ≤ 100000000)) ∧ (True) ∧ True) ∧ (True) ∧ (true = true) ∧ ((True) ∧ (True) ∧ ((ilen a3 ≤ 100000000)) ∧ (True) ∧ True) ∧ (True) ∧ (true = true) ∧ ((True) ∧ True) ∧ (True) ∧ (((true = true) ∧ ((Cont.ints (a1)) = (Cont.ints (a1)))) ∧ ((true = true) ∧ ((Cont.ints (a2)) = (Cont.ints (a2)))) ∧ ((true = true) ∧ ((Cont.ints (a3)) = (Cont.ints (a3)))) ∧ True) ∧ True) = ev sig_laws_toArm xs_laws_toArm Tryd.f8.ntmps (fun b => []) (codeOf Tryd.f8) 0 (initS [.agg [.view (.ints a1), .view (.ints a2), .view (.ints a3)]]) (retK Tryd.f8.results.toList [.agg [.view (.ints (a1)), .view (.ints (a2)), .view (.ints (a3))]]) := by kernel_rfl
set_option maxHeartbeats 400000 in
theorem F_laws_toArm : FunOK 8 g_laws_toArm := by
  refine fun_F (by kernel_rfl) Tryd.func8 rfl (by kernel_rfl) sig_laws_toArm_ok xs_laws_toArm_ok ?_
  intro avs sg h hn hl
  unfold g_laws_toArm at h
  split at h
  · rename_i a1 a2 a3
    injection h with h; subst h
    refine ⟨by kernel_rfl, fun b => [], Eq.mp (V_laws_toArm a1 a2 a3) ?_⟩
    simp only [true_and, and_true, implies_true, and_self, forall_const, true_implies, lenA, lenL, SV.lenOK, Cont.lenOK] at hn hl ⊢
    exact ⟨hn.1, hn.2.1, hn.2.2⟩
  · cases h
def g_laws_toPoint : List AV → Option Sg
  | [.agg [.int p1, .int p2]] => some ⟨True, [.agg [.int (p1), .int (p2)]]⟩
  | _ => none
def sig_laws_toPoint : FuncId → List AV → Option Sg := sigL []
def xs_laws_toPoint : XS := ⟨xsigL [], ysigL []⟩
theorem sig_laws_toPoint_ok : SigOK sig_laws_toPoint := sigL_nil
theorem xs_laws_toPoint_ok : XSigOK xs_laws_toPoint := ⟨xsigL_nil, ysigL_nil⟩
theorem V_laws_toPoint (p1 : Int) (p2 : Int) : ((true = true) ∧ ((True) ∧ (True) ∧ True) ∧ (true = true) ∧ ((True) ∧ True) ∧ (true = true) ∧ ((True) ∧ (True) ∧ (True) ∧ True) ∧ (True) ∧ (true = true) ∧ ((True) ∧ (True) ∧ (True) ∧ True) ∧ (True) ∧ (true = true) ∧ ((True) ∧ True) ∧ (True) ∧ (((p1 : Int) = (p1)) ∧ ((p2 : Int) = (p2)) ∧ True) ∧ True) = ev sig_laws_toPoint xs_laws_toPoint Tryd.f57.ntmps (fun b => []) (codeOf Tryd.f57) 0 (initS [.agg [.int p1, .int p2]]) (retK Tryd.f57.results.toList [.agg [.int (p1), .int (p2)]]) := by kernel_rfl
set_option maxHeartbeats 400000 in
theorem F_laws_toPoint : FunOK 57 g_laws_toPoint := by
  refine fun_F (by kernel_rfl) Tryd.func57 rfl (by kernel_rfl) sig_laws_toPoint_ok xs_laws_toPoint_ok ?_
  intro avs sg h hn hl
  unfold g_laws_toPoint at h
  split at h
  · rename_i p1 p2
    injection h with h; subst h
    refine ⟨by kernel_rfl, fun b => [], Eq.mp (V_laws_toPoint p1 p2) ?_⟩
    simp only [true_and, and_true, implies_true, and_self, forall_const, true_implies, lenA, lenL, SV.lenOK, Cont.lenOK] at hn hl ⊢
  · cases h
def g_laws_toPointS : List AV → Option Sg
  | [.s (.view (.pts l))] => some ⟨ilen l ≤ 100000000, [.nrow 75 (.pts (l))]⟩
  | _ => none
def sig_laws_toPointS : FuncId → List AV → Option Sg := sigL [(57, g_laws_toPoint)]
def xs_laws_toPointS : XS := ⟨xsigL [], ysigL []⟩
theorem sig_laws_toPointS_ok : SigOK sig_laws_toPointS := sigL_cons F_laws_toPoint sigL_nil
theorem xs_laws_toPointS_ok : XSigOK xs_laws_toPointS := ⟨xsigL_nil, ysigL_nil⟩
theorem V_laws_toPointS (l : List Pt) : ((true = true) ∧ ((True) ∧ True) ∧ (true = true) ∧ ((True) ∧ (True) ∧ (NLe 0 (ilen l) ∧ NLe (ilen l) 100000000 ∧ NIs (ieq (ilen l) (ilen l)) true) ∧ (True) ∧ True) ∧ (true = true) ∧ ((True) ∧ True) ∧ ∃ (I1 : List GV → Prop) (μ1 : List GV → Nat), (((true = true) ∧ ((((0 : Int) : Int) = (0 : Int)) ∧ ((Cont.pts l) = (Cont.pts l)) ∧ (((ilen l) : Int) = (ilen l)) ∧ (true = true) ∧ (true = true) ∧ ((Cont.pts l) = (Cont.pts l)) ∧ True) ∧ (((true = true) ∧ ((Cont.pts (irep (ilen l) (0, 0))) = (Cont.pts (irep (ilen l) (0, 0))))) ∧ ((true = true) ∧ ((Cont.pts []) = (Cont.pts []))) ∧ True)) ∧ (([GK.int, GK.pts] : List GK) = ([GK.int, GK.pts] : List GK)) ∧ I1 [GV.int (0 : Int), GV.pts (irep (ilen l) (0, 0))]) ∧ (∀ i1_0 : Int, ∀ l1_1 : List Pt, I1 [GV.int i1_0, GV.pts l1_1] → ((true = true) ∧ ((True) ∧ (True) ∧ (True) ∧ (True) ∧ True) ∧ ((ilt i1_0 (ilen l)) = true → ((true = true) ∧ ((True) ∧ (True) ∧ (True) ∧ (True) ∧ (NLe 0 i1_0 ∧ NLt i1_0 (ilen l)) ∧ (True) ∧ ((True)) ∧ (NLe 0 i1_0 ∧ NLt i1_0 (ilen l1_1)) ∧ True) ∧ (NLt i1_0 (ilen l1_1)) ∧ (true = true) ∧ ((True) ∧ (True) ∧ (True) ∧ True) ∧ ((true = true) ∧ ((((iadd i1_0 (1 : Int)) : Int) = (iadd i1_0 (1 : Int))) ∧ ((Cont.pts l) = (Cont.pts l)) ∧ (((ilen l) : Int) = (ilen l)) ∧ (true = true) ∧ (true = true) ∧ ((Cont.pts l) = (Cont.pts l)) ∧ True) ∧ (((true = true) ∧ ((Cont.pts (setp l1_1 i1_0 ((getx l i1_0)) ((gety l i1_0)))) = (Cont.pts (setp l1_1 i1_0 ((getx l i1_0)) ((gety l i1_0)))))) ∧ ((true = true) ∧ ((Cont.pts []) = (Cont.pts []))) ∧ True)) ∧ ((([GK.int, GK.pts] : List GK) = ([GK.int, GK.pts] : List GK)) ∧ I1 [GV.int (iadd i1_0 (1 : Int)), GV.pts (setp l1_1 i1_0 ((getx l i1_0)) ((gety l i1_0)))] ∧ μ1 [GV.int (iadd i1_0 (1 : Int)), GV.pts (setp l1_1 i1_0 ((getx l i1_0)) ((gety l i1_0)))] < μ1 [GV.int i1_0, GV.pts l1_1]))) ∧ ((ilt i1_0 (ilen l)) = false → ((true = true) ∧ ((True) ∧ (True) ∧ True) ∧ ((true = true) ∧ ((Cont.pts l1_1) = (Cont.pts (l)))) ∧ True))))) = ev sig_laws_toPointS xs_laws_toPointS Tryd.f30.ntmps (fun b => if b == 0 then [.v 4, .b 3] else []) (codeOf Tryd.f30) 0 (initS [.s (.view (.pts l))]) (retK Tryd.f30.results.toList [.nrow 75 (.pts (l))]) := by kernel_rfl
set_option maxHeartbeats 400000 in
theorem F_laws_toPointS : FunOK 30 g_laws_toPointS := by
  refine fun_F (by kernel_rfl) Tryd.func30 rfl (by kernel_rfl) sig_laws_toPointS_ok xs_laws_toPointS_ok ?_
  intro avs sg h hn hl
  unfold g_laws_toPointS at h
  split at h
  · rename_i l
    injection h with h; subst h
    refine ⟨by kernel_rfl, fun b => if b == 0 then [.v 4, .b 3] else [], Eq.mp (V_laws_toPointS l) ?_⟩
    simp only [true_and, and_true, implies_true, and_self, forall_const, true_implies, lenA, lenL, SV.lenOK, Cont.lenOK] at hn hl ⊢
    simp only [ilt_t, ilt_f, ile_t, ile_f, ieq_t, ieq_f, bnot_e, band_e, bite_and, bite_or, NLt_e, NLe_e, NNe_e, NIs_e, imax_e, imin_e, irem_e, Bool.not_eq_true', Bool.not_eq_false', Bool.and_eq_true, Bool.or_eq_true, Bool.or_eq_false_iff, Bool.and_eq_false_iff, Cont.pts.injEq, Cont.ints.injEq, Cont.bools.injEq, Cont.ptss.injEq, Cont.intss.injEq, Cont.boolss.injEq, true_and, and_true, implies_true]
    have h0 := ilen_0 l
    refine ⟨⟨h0, hn⟩, ?_⟩
    refine ⟨fun | [.int k, .pts m] => 0 ≤ k ∧ k ≤ ilen l ∧ ilen m = ilen l ∧ ∀ j, 0 ≤ j → j < k → getx m j = getx l j ∧ gety m j = gety l j | _ => False, fun | [.int k, .pts m] => (ilen l - k).toNat | _ => 0, ?_, ?_⟩
    · exact ⟨Int.le_refl 0, h0, ilen_rep _ h0, fun j h0 h1 => absurd h1 (by omega)⟩
    · rintro k m ⟨hk0, hk1, hm, hk⟩
      refine ⟨fun hc => ?_, fun hc => ?_⟩
      · rw [iadd_e (by omega) (by omega)]
        refine ⟨⟨⟨hk0, hc⟩, hk0, by omega⟩, by omega, ⟨by omega, by omega, by rw [ilen_setp]; exact hm, fun j j0 j1 => ?_⟩, by dsimp only; omega⟩
        rw [getx_setp hk0 (by omega) j0, gety_setp hk0 (by omega) j0]
        by_cases hj : j = k
        · simp only [hj, if_pos, and_self]
        · simp only [if_neg hj]; exact hk j j0 (by omega)
      · rw [pts_ext (l := m) (m := l) hm fun j j0 j1 => hk j j0 (by omega)]
  · cases h
def g_laws_toPointSS : List AV → Option Sg
  | [.s (.view (.ptss l))] => some ⟨ilen l ≤ 100000000 ∧ ∀ i, 0 ≤ i → i < ilen l → ilen (getl l i) ≤ 100000000, [.nrow 56 (.ptss (l))]⟩
  | _ => none
def sig_laws_toPointSS : FuncId → List AV → Option Sg := sigL [(30, g_laws_toPointS)]
def xs_laws_toPointSS : XS := ⟨xsigL [], ysigL []⟩
theorem sig_laws_toPointSS_ok : SigOK sig_laws_toPointSS := sigL_cons F_laws_toPointS sigL_nil
theorem xs_laws_toPointSS_ok : XSigOK xs_laws_toPointSS := ⟨xsigL_nil, ysigL_nil⟩
theorem V_laws_toPointSS (l : List (List Pt)) : ((true = true) ∧ ((True) ∧ True) ∧ (true = true) ∧ ((True) ∧ (True) ∧ (NLe 0 (ilen l) ∧ NLe (ilen l) 100000000 ∧ NIs (ieq (ilen l) (ilen l)) true) ∧ (True) ∧ True) ∧ (true = true) ∧ ((True) ∧ True) ∧ ∃ (I1 : List GV → Prop) (μ1 : List GV → Nat), (((true = true) ∧ ((((0 : Int) : Int) = (0 : Int)) ∧ ((Cont.ptss l) = (Cont.ptss l)) ∧ (((ilen l) : Int) = (ilen l)) ∧ (true = true) ∧ (true = true) ∧ ((Cont.ptss l) = (Cont.ptss l)) ∧ True) ∧ (((true = true) ∧ ((Cont.ptss (irep (ilen l) [])) = (Cont.ptss (irep (ilen l) [])))) ∧ ((true = true) ∧ ((Cont.ptss []) = (Cont.ptss []))) ∧ True)) ∧ (([GK.int, GK.ptss] : List GK) = ([GK.int, GK.ptss] : List GK)) ∧ I1 [GV.int (0 : Int), GV.ptss (irep (ilen l) [])]) ∧ (∀ i1_0 : Int, ∀ l1_1 : List (List Pt), I1 [GV.int i1_0, GV.ptss l1_1] → ((true = true) ∧ ((True) ∧ (True) ∧ (True) ∧ (True) ∧ True) ∧ ((ilt i1_0 (ilen l)) = true → ((true = true) ∧ ((True) ∧ (True) ∧ (True) ∧ (True) ∧ (NLe 0 i1_0 ∧ NLt i1_0 (ilen l)) ∧ (True) ∧ ((ilen (getl l i1_0) ≤ 100000000)) ∧ (NLe 0 i1_0 ∧ NLt i1_0 (ilen l1_1)) ∧ True) ∧ (NLt i1_0 (ilen l1_1)) ∧ (true = true) ∧ ((True) ∧ (True) ∧ (True) ∧ True) ∧ ((true = true) ∧ ((((iadd i1_0 (1 : Int)) : Int) = (iadd i1_0 (1 : Int))) ∧ ((Cont.ptss l) = (Cont.ptss l)) ∧ (((ilen l) : Int) = (ilen l)) ∧ (true = true) ∧ (true = true) ∧ ((Cont.ptss l) = (Cont.ptss l)) ∧ True) ∧ (((true = true) ∧ ((Cont.ptss (setl l1_1 i1_0 ((getl l i1_0)))) = (Cont.ptss (setl l1_1 i1_0 ((getl l i1_0)))))) ∧ ((true = true) ∧ ((Cont.ptss []) = (Cont.ptss []))) ∧ True)) ∧ ((([GK.int, GK.ptss] : List GK) = ([GK.int, GK.ptss] : List GK)) ∧ I1 [GV.int (iadd i1_0 (1 : Int)), GV.ptss (setl l1_1 i1_0 ((getl l i1_0)))] ∧ μ1 [GV.int (iadd i1_0 (1 : Int)), GV.ptss (setl l1_1 i1_0 ((getl l i1_0)))] < μ1 [GV.int i1_0, GV.ptss l1_1]))) ∧ ((ilt i1_0 (ilen l)) = false → ((true = true) ∧ ((True) ∧ (True) ∧ True) ∧ ((true = true) ∧ ((Cont.ptss l1_1) = (Cont.ptss (l)))) ∧ True))))) = ev sig_laws_toPointSS xs_laws_toPointSS Tryd.f9.ntmps (fun b => if b == 0 then [.v 4, .b 3] else []) (codeOf Tryd.f9) 0 (initS [.s (.view (.ptss l))]) (retK Tryd.f9.results.toList [.nrow 56 (.ptss (l))]) := by kernel_rfl
set_option maxHeartbeats 400000 in
theorem F_laws_toPointSS : FunOK 9 g_laws_toPointSS := by
  refine fun_F (by kernel_rfl) Tryd.func9 rfl (by kernel_rfl) sig_laws_toPointSS_ok xs_laws_toPointSS_ok ?_
  intro avs sg h hn hl
  unfold g_laws_toPointSS at h
  split at h
  · rename_i l
    injection h with h; subst h
    refine ⟨by kernel_rfl, fun b => if b == 0 then [.v 4, .b 3] else [], Eq.mp (V_laws_toPointSS l) ?_⟩
    simp only [true_and, and_true, implies_true, and_self, forall_const, true_implies, lenA, lenL, SV.lenOK, Cont.lenOK] at hn hl ⊢
    have h0 := ilen_0 l
    simp only [ilt_t, ilt_f, ile_t, ile_f, ieq_t, ieq_f, bnot_e, band_e, bite_and, bite_or, NLt_e, NLe_e, NNe_e, NIs_e, imax_e, imin_e, irem_e, Bool.not_eq_true', Bool.not_eq_false', Bool.and_eq_true, Bool.or_eq_true, Bool.or_eq_false_iff, Bool.and_eq_false_iff, Cont.pts.injEq, Cont.ints.injEq, Cont.bools.injEq, Cont.ptss.injEq, Cont.intss.injEq, Cont.boolss.injEq, true_and, and_true, implies_true]
    refine ⟨⟨h0, hn.1⟩, ?_⟩
    refine ⟨fun | [.int k, .ptss m] => 0 ≤ k ∧ k ≤ ilen l ∧ ilen m = ilen l ∧ (∀ i, 0 ≤ i → i < k → getl m i = getl l i) | _ => False, fun | .int k :: _ => (ilen l - k).toNat | _ => 0, ?_, ?_⟩
    · exact ⟨Int.le_refl 0, h0, ilen_rep _ h0, fun j h0 h1 => absurd h1 (by omega)⟩
    · rintro k m ⟨hk0, hk1, hm, hk⟩
      simp only [ilt_t, ilt_f, ile_t, ile_f, ieq_t, ieq_f, bnot_e, band_e, bite_and, bite_or, NLt_e, NLe_e, NNe_e, NIs_e, imax_e, imin_e, irem_e, Bool.not_eq_true', Bool.not_eq_false', Bool.and_eq_true, Bool.or_eq_true, Bool.or_eq_false_iff, Bool.and_eq_false_iff, Cont.pts.injEq, Cont.ints.injEq, Cont.bools.injEq, Cont.ptss.injEq, Cont.intss.injEq, Cont.boolss.injEq, true_and, and_true, implies_true]
      refine ⟨fun hkn => ?_, fun hkn => ?_⟩
      · rw [iadd_1 hk0 hkn hl.1]
        refine ⟨⟨⟨hk0, hkn⟩, hn.2 k hk0 hkn, hk0, by omega⟩, by omega, ⟨by omega, by omega, by rw [ilen_setl]; exact hm, fun j j0 j1 => ?_⟩, by omega⟩
        rw [getl_setl hk0 (by omega) j0]
        by_cases hj : j = k
        · simp [hj]
        · rw [if_neg hj]; exact hk j j0 (by omega)
      · exact lists_ext hm fun j j0 j1 => hk j j0 (by omega)
  · cases h
theorem inB_eq (n lo hi : Int) : inB n lo hi = (ile lo n && ile n hi) := by
  unfold inB ile
  by_cases h1 : lo ≤ n <;> by_cases h2 : n ≤ hi <;> simp [h1, h2]
def g_spec_l1In : List AV → Option Sg
  | [.s (.int n), .s (.int lo), .s (.int hi)] => some ⟨True, [.s (.bool (inB n lo hi))]⟩
  | _ => none
def sig_spec_l1In : FuncId → List AV → Option Sg := sigL []
def xs_spec_l1In : XS := ⟨xsigL [], ysigL []⟩
theorem sig_spec_l1In_ok : SigOK sig_spec_l1In := sigL_nil
theorem xs_spec_l1In_ok : XSigOK xs_spec_l1In := ⟨xsigL_nil, ysigL_nil⟩
theorem V_spec_l1In (n : Int) (lo : Int) (hi : Int) : ((true = true) ∧ ((True) ∧ True) ∧ (true = true) ∧ ((True) ∧ (True) ∧ (True) ∧ (True) ∧ (NIs (ile lo n) true → True) ∧ (NIs (ile lo n) true → True) ∧ (NIs (ile lo n) true → True) ∧ (True) ∧ (True) ∧ True) ∧ (((bite (ile lo n) (ile n hi) false) : Bool) = (inB n lo hi)) ∧ True) = ev sig_spec_l1In xs_spec_l1In Tryd.f51.ntmps (fun b => []) (codeOf Tryd.f51) 0 (initS [.s (.int n), .s (.int lo), .s (.int hi)]) (retK Tryd.f51.results.toList [.s (.bool (inB n lo hi))]) := by kernel_rfl
set_option maxHeartbeats 400000 in
theorem F_spec_l1In : FunOK 51 g_spec_l1In := by
  refine fun_F (by kernel_rfl) Tryd.func51 rfl (by kernel_rfl) sig_spec_l1In_ok xs_spec_l1In_ok ?_
  intro avs sg h hn hl
  unfold g_spec_l1In at h
  split at h
  · rename_i n lo hi
    injection h with h; subst h
    refine ⟨by kernel_rfl, fun b => [], Eq.mp (V_spec_l1In n lo hi) ?_⟩
    simp only [true_and, and_true, implies_true, and_self, forall_const, true_implies, lenA, lenL, SV.lenOK, Cont.lenOK] at hn hl ⊢
    simp only [bite_and, inB_eq]
  · cases h
def g_spec_ArmValid : List AV → Option Sg
  | [.agg [.view (.ints a1), .view (.ints a2), .view (.ints a3)]] => some ⟨True, [.s (.bool (armB a1 a2 a3))]⟩
  | _ => none
def sig_spec_ArmValid : FuncId → List AV → Option Sg := sigL [(51, g_spec_l1In)]
def xs_spec_ArmValid : XS := ⟨xsigL [], ysigL []⟩
theorem sig_spec_ArmValid_ok : SigOK sig_spec_ArmValid := sigL_cons F_spec_l1In sigL_nil
theorem xs_spec_ArmValid_ok : XSigOK xs_spec_ArmValid := ⟨xsigL_nil, ysigL_nil⟩
theorem V_spec_ArmValid (a1 : List Int) (a2 : List Int) (a3 : List Int) : ((true = true) ∧ ((True) ∧ (True) ∧ True) ∧ (true = true) ∧ ((True) ∧ (True) ∧ (True) ∧ (True) ∧ True) ∧ (true = true) ∧ ((True) ∧ ((True)) ∧ (True) ∧ (True) ∧ (NIs (bnot (inB (ilen a1) (1 : Int) (4 : Int))) false → True) ∧ (NIs (bnot (inB (ilen a1) (1 : Int) (4 : Int))) false → True) ∧ (NIs (bnot (inB (ilen a1) (1 : Int) (4 : Int))) false → True) ∧ (NIs (bnot (inB (ilen a1) (1 : Int) (4 : Int))) false → True) ∧ (NIs (bnot (inB (ilen a1) (1 : Int) (4 : Int))) false → True) ∧ (True) ∧ (True) ∧ (NIs (bite (bnot (inB (ilen a1) (1 : Int) (4 : Int))) true (bnot (ieq (ilen a2) (ilen a1)))) false → True) ∧ (NIs (bite (bnot (inB (ilen a1) (1 : Int) (4 : Int))) true (bnot (ieq (ilen a2) (ilen a1)))) false → True) ∧ (NIs (bite (bnot (inB (ilen a1) (1 : Int) (4 : Int))) true (bnot (ieq (ilen a2) (ilen a1)))) false → True) ∧ (NIs (bite (bnot (inB (ilen a1) (1 : Int) (4 : Int))) true (bnot (ieq (ilen a2) (ilen a1)))) false → True) ∧ (NIs (bite (bnot (inB (ilen a1) (1 : Int) (4 : Int))) true (bnot (ieq (ilen a2) (ilen a1)))) false → True) ∧ (True) ∧ True) ∧ ((bite (bite (bnot (inB (ilen a1) (1 : Int) (4 : Int))) true (bnot (ieq (ilen a2) (ilen a1)))) true (bnot (ieq (ilen a3) (ilen a1)))) = true → ((true = true) ∧ ((True) ∧ True) ∧ ((false : Bool) = (armB a1 a2 a3)) ∧ True)) ∧ ((bite (bite (bnot (inB (ilen a1) (1 : Int) (4 : Int))) true (bnot (ieq (ilen a2) (ilen a1)))) true (bnot (ieq (ilen a3) (ilen a1)))) = false → ((true = true) ∧ ((True) ∧ True) ∧ ∃ (I1 : List GV → Prop) (μ1 : List GV → Nat), (((true = true) ∧ (((false : Bool) = false) ∧ (((0 : Int) : Int) = (0 : Int)) ∧ (((ilen a1) : Int) = (ilen a1)) ∧ (((inB (ilen a1) (1 : Int) (4 : Int)) : Bool) = (inB (ilen a1) (1 : Int) (4 : Int))) ∧ (((bnot (inB (ilen a1) (1 : Int) (4 : Int))) : Bool) = (bnot (inB (ilen a1) (1 : Int) (4 : Int)))) ∧ (((bnot (inB (ilen a1) (1 : Int) (4 : Int))) : Bool) = (bnot (inB (ilen a1) (1 : Int) (4 : Int)))) ∧ (((bite (bnot (inB (ilen a1) (1 : Int) (4 : Int))) true (bnot (ieq (ilen a2) (ilen a1)))) : Bool) = (bite (bnot (inB (ilen a1) (1 : Int) (4 : Int))) true (bnot (ieq (ilen a2) (ilen a1))))) ∧ (((bite (bnot (inB (ilen a1) (1 : Int) (4 : Int))) true (bnot (ieq (ilen a2) (ilen a1)))) : Bool) = (bite (bnot (inB (ilen a1) (1 : Int) (4 : Int))) true (bnot (ieq (ilen a2) (ilen a1))))) ∧ (((bite (bite (bnot (inB (ilen a1) (1 : Int) (4 : Int))) true (bnot (ieq (ilen a2) (ilen a1)))) true (bnot (ieq (ilen a3) (ilen a1)))) : Bool) = (bite (bite (bnot (inB (ilen a1) (1 : Int) (4 : Int))) true (bnot (ieq (ilen a2) (ilen a1)))) true (bnot (ieq (ilen a3) (ilen a1))))) ∧ (true = true) ∧ ((Cont.ints a1) = (Cont.ints a1)) ∧ (((ilen a1) : Int) = (ilen a1)) ∧ (((ilen a1) : Int) = (ilen a1)) ∧ (true = true) ∧ (((Cont.ints a1) = (Cont.ints a1)) ∧ ((Cont.ints a2) = (Cont.ints a2)) ∧ ((Cont.ints a3) = (Cont.ints a3)) ∧ True) ∧ True) ∧ ((((Cont.ints a1) = (Cont.ints a1)) ∧ ((Cont.ints a2) = (Cont.ints a2)) ∧ ((Cont.ints a3) = (Cont.ints a3)) ∧ True) ∧ True)) ∧ (([GK.int, GK.bool] : List GK) = ([GK.int, GK.bool] : List GK)) ∧ I1 [GV.int (0 : Int), GV.bool false]) ∧ (∀ i1_0 : Int, ∀ b1_1 : Bool, I1 [GV.int i1_0, GV.bool b1_1] → ((true = true) ∧ ((True) ∧ (True) ∧ (True) ∧ True) ∧ ((ilt i1_0 (ilen a1)) = true → ((true = true) ∧ ((True) ∧ (True) ∧ (True) ∧ (NLe 0 i1_0 ∧ NLt i1_0 (ilen a1)) ∧ (True) ∧ ((True)) ∧ (True) ∧ (True) ∧ (NIs (bnot (inB (geti a1 i1_0) (1 : Int) (500 : Int))) false → True) ∧ (NIs (bnot (inB (geti a1 i1_0) (1 : Int) (500 : Int))) false → True) ∧ (NIs (bnot (inB (geti a1 i1_0) (1 : Int) (500 : Int))) false → True) ∧ (NIs (bnot (inB (geti a1 i1_0) (1 : Int) (500 : Int))) false → (NLe 0 i1_0 ∧ NLt i1_0 (ilen a2))) ∧ (NIs (bnot (inB (geti a1 i1_0) (1 : Int) (500 : Int))) false → True) ∧ (NIs (bnot (inB (geti a1 i1_0) (1 : Int) (500 : Int))) false → (True)) ∧ (NIs (bnot (inB (geti a1 i1_0) (1 : Int) (500 : Int))) false → True) ∧ (True) ∧ (True) ∧ (NIs (bite (bnot (inB (geti a1 i1_0) (1 : Int) (500 : Int))) true (bnot (inB (geti a2 i1_0) (-180 : Int) (180 : Int)))) false → True) ∧ (NIs (bite (bnot (inB (geti a1 i1_0) (1 : Int) (500 : Int))) true (bnot (inB (geti a2 i1_0) (-180 : Int) (180 : Int)))) false → True) ∧ (NIs (bite (bnot (inB (geti a1 i1_0) (1 : Int) (500 : Int))) true (bnot (inB (geti a2 i1_0) (-180 : Int) (180 : Int)))) false → True) ∧ (NIs (bite (bnot (inB (geti a1 i1_0) (1 : Int) (500 : Int))) true (bnot (inB (geti a2 i1_0) (-180 : Int) (180 : Int)))) false → (NLe 0 i1_0 ∧ NLt i1_0 (ilen a3))) ∧ (NIs (bite (bnot (inB (geti a1 i1_0) (1 : Int) (500 : Int))) true (bnot (inB (geti a2 i1_0) (-180 : Int) (180 : Int)))) false → True) ∧ (NIs (bite (bnot (inB (geti a1 i1_0) (1 : Int) (500 : Int))) true (bnot (inB (geti a2 i1_0) (-180 : Int) (180 : Int)))) false → True) ∧ (NIs (bite (bnot (inB (geti a1 i1_0) (1 : Int) (500 : Int))) true (bnot (inB (geti a2 i1_0) (-180 : Int) (180 : Int)))) false → True) ∧ (NIs (bite (bnot (inB (geti a1 i1_0) (1 : Int) (500 : Int))) true (bnot (inB (geti a2 i1_0) (-180 : Int) (180 : Int)))) false → True) ∧ (NIs (bite (bnot (inB (geti a1 i1_0) (1 : Int) (500 : Int))) true (bnot (inB (geti a2 i1_0) (-180 : Int) (180 : Int)))) false → (NLe 0 i1_0 ∧ NLt i1_0 (ilen a2))) ∧ (NIs (bite (bnot (inB (geti a1 i1_0) (1 : Int) (500 : Int))) true (bnot (inB (geti a2 i1_0) (-180 : Int) (180 : Int)))) false → True) ∧ (NIs (bite (bnot (inB (geti a1 i1_0) (1 : Int) (500 : Int))) true (bnot (inB (geti a2 i1_0) (-180 : Int) (180 : Int)))) false → (True)) ∧ (NIs (bite (bnot (inB (geti a1 i1_0) (1 : Int) (500 : Int))) true (bnot (inB (geti a2 i1_0) (-180 : Int) (180 : Int)))) false → True) ∧ (True) ∧ True) ∧ ((bite (bite (bnot (inB (geti a1 i1_0) (1 : Int) (500 : Int))) true (bnot (inB (geti a2 i1_0) (-180 : Int) (180 : Int)))) true (bnot (inB (geti a3 i1_0) (geti a2 i1_0) (180 : Int)))) = true → ((true = true) ∧ ((True) ∧ True) ∧ ((false : Bool) = (armB a1 a2 a3)) ∧ True)) ∧ ((bite (bite (bnot (inB (geti a1 i1_0) (1 : Int) (500 : Int))) true (bnot (inB (geti a2 i1_0) (-180 : Int) (180 : Int)))) true (bnot (inB (geti a3 i1_0) (geti a2 i1_0) (180 : Int)))) = false → ((true = true) ∧ ((True) ∧ (True) ∧ (True) ∧ True) ∧ ((true = true) ∧ (((b1_1 : Bool) = b1_1) ∧ (((iadd i1_0 (1 : Int)) : Int) = (iadd i1_0 (1 : Int))) ∧ (((ilen a1) : Int) = (ilen a1)) ∧ (((inB (ilen a1) (1 : Int) (4 : Int)) : Bool) = (inB (ilen a1) (1 : Int) (4 : Int))) ∧ (((bnot (inB (ilen a1) (1 : Int) (4 : Int))) : Bool) = (bnot (inB (ilen a1) (1 : Int) (4 : Int)))) ∧ (((bnot (inB (ilen a1) (1 : Int) (4 : Int))) : Bool) = (bnot (inB (ilen a1) (1 : Int) (4 : Int)))) ∧ (((bite (bnot (inB (ilen a1) (1 : Int) (4 : Int))) true (bnot (ieq (ilen a2) (ilen a1)))) : Bool) = (bite (bnot (inB (ilen a1) (1 : Int) (4 : Int))) true (bnot (ieq (ilen a2) (ilen a1))))) ∧ (((bite (bnot (inB (ilen a1) (1 : Int) (4 : Int))) true (bnot (ieq (ilen a2) (ilen a1)))) : Bool) = (bite (bnot (inB (ilen a1) (1 : Int) (4 : Int))) true (bnot (ieq (ilen a2) (ilen a1))))) ∧ (((bite (bite (bnot (inB (ilen a1) (1 : Int) (4 : Int))) true (bnot (ieq (ilen a2) (ilen a1)))) true (bnot (ieq (ilen a3) (ilen a1)))) : Bool) = (bite (bite (bnot (inB (ilen a1) (1 : Int) (4 : Int))) true (bnot (ieq (ilen a2) (ilen a1)))) true (bnot (ieq (ilen a3) (ilen a1))))) ∧ (true = true) ∧ ((Cont.ints a1) = (Cont.ints a1)) ∧ (((ilen a1) : Int) = (ilen a1)) ∧ (((ilen a1) : Int) = (ilen a1)) ∧ (true = true) ∧ (((Cont.ints a1) = (Cont.ints a1)) ∧ ((Cont.ints a2) = (Cont.ints a2)) ∧ ((Cont.ints a3) = (Cont.ints a3)) ∧ True) ∧ True) ∧ ((((Cont.ints a1) = (Cont.ints a1)) ∧ ((Cont.ints a2) = (Cont.ints a2)) ∧ ((Cont.ints a3) = (Cont.ints a3)) ∧ True) ∧ True)) ∧ ((([GK.int, GK.bool] : List GK) = ([GK.int, GK.bool] : List GK)) ∧ I1 [GV.int (iadd i1_0 (1 : Int)), GV.bool b1_1] ∧ μ1 [GV.int (iadd i1_0 (1 : Int)), GV.bool b1_1] < μ1 [GV.int i1_0, GV.bool b1_1]))))) ∧ ((ilt i1_0 (ilen a1)) = false → ((true = true) ∧ ((True) ∧ True) ∧ ((true : Bool) = (armB a1 a2 a3)) ∧ True))))))) = ev sig_spec_ArmValid xs_spec_ArmValid Tryd.f45.ntmps (fun b => if b == 0 then [.v 4, .v 2] else []) (codeOf Tryd.f45) 0 (initS [.agg [.view (.ints a1), .view (.ints a2), .view (.ints a3)]]) (retK Tryd.f45.results.toList [.s (.bool (armB a1 a2 a3))]) := by kernel_rfl
set_option maxHeartbeats 400000 in
theorem F_spec_ArmValid : FunOK 45 g_spec_ArmValid := by
  refine fun_F (by kernel_rfl) Tryd.func45 rfl (by kernel_rfl) sig_spec_ArmValid_ok xs_spec_ArmValid_ok ?_
  intro avs sg h hn hl
  unfold g_spec_ArmValid at h
  split at h
  · rename_i a1 a2 a3
    injection h with h; subst h
    refine ⟨by kernel_rfl, fun b => if b == 0 then [.v 4, .v 2] else [], Eq.mp (V_spec_ArmValid a1 a2 a3) ?_⟩
    simp only [true_and, and_true, implies_true, and_self, forall_const, true_implies, lenA, lenL, SV.lenOK, Cont.lenOK] at hn hl ⊢
    have h0 := ilen_0 a1
    simp only [ilt_t, ilt_f, ile_t, ile_f, ieq_t, ieq_f, bnot_e, band_e, bite_and, bite_or, NLt_e, NLe_e, NNe_e, NIs_e, imax_e, imin_e, irem_e, Bool.not_eq_true', Bool.not_eq_false', Bool.and_eq_true, Bool.or_eq_true, Bool.or_eq_false_iff, Bool.and_eq_false_iff, Cont.pts.injEq, Cont.ints.injEq, Cont.bools.injEq, Cont.ptss.injEq, Cont.intss.injEq, Cont.boolss.injEq, true_and, and_true, implies_true]
    refine ⟨fun h => ?_, fun h => ?_⟩
    · unfold armB
      rcases h with (h | h) | h <;> simp [h]
    · obtain ⟨⟨c1, c2⟩, c3⟩ := h
      refine ⟨fun | .int k :: _ => 0 ≤ k ∧ k ≤ ilen a1 ∧ (∀ j, 0 ≤ j → j < k → armE a1 a2 a3 j = true) | _ => False, fun | .int k :: _ => (ilen a1 - k).toNat | _ => 0, ?_, ?_⟩
      · exact ⟨Int.le_refl 0, h0, fun j h0 h1 => absurd h1 (by omega)⟩
      · rintro k _ ⟨hk0, hk1, hk⟩
        simp only [ilt_t, ilt_f, ile_t, ile_f, ieq_t, ieq_f, bnot_e, band_e, bite_and, bite_or, NLt_e, NLe_e, NNe_e, NIs_e, imax_e, imin_e, irem_e, Bool.not_eq_true', Bool.not_eq_false', Bool.and_eq_true, Bool.or_eq_true, Bool.or_eq_false_iff, Bool.and_eq_false_iff, Cont.pts.injEq, Cont.ints.injEq, Cont.bools.injEq, Cont.ptss.injEq, Cont.intss.injEq, Cont.boolss.injEq, true_and, and_true, implies_true]
        refine ⟨fun hc => ⟨⟨⟨hk0, hc⟩, fun _ => ⟨hk0, by omega⟩, fun _ => ⟨hk0, by omega⟩, fun _ => ⟨hk0, by omega⟩⟩, fun hv => ?_, fun hv => ?_⟩, fun hc => ?_⟩
        · have hE : armE a1 a2 a3 k = false := by unfold armE; rcases hv with (hv | hv) | hv <;> simp [hv]
          unfold armB; rw [allN_no k hk0 hc hE]; simp
        · have hE : armE a1 a2 a3 k = true := by unfold armE; rw [hv.1.1, hv.1.2, hv.2]; rfl
          rw [iadd_1 hk0 hc hl.1]
          exact ⟨⟨by omega, by omega, upTo hk hE⟩, by omega⟩
        · unfold armB; rw [allN_mk fun j h0 h1 => hk j h0 (by omega), c1]; simp [c2, c3]
  · cases h
def g_spec_l11Size : List AV → Option Sg
  | [.agg [.view (.ints a1), .view (.ints a2), .view (.ints a3)], .s (.int s)] => some ⟨True, [.s (.int (gsK a1 a2 a3 s 0)), .s (.int (gsK a1 a2 a3 s 1))]⟩
  | _ => none
def sig_spec_l11Size : FuncId → List AV → Option Sg := sigL [(45, g_spec_ArmValid), (51, g_spec_l1In)]
def xs_spec_l11Size : XS := ⟨xsigL [], ysigL []⟩
theorem sig_spec_l11Size_ok : SigOK sig_spec_l11Size := sigL_cons F_spec_ArmValid (sigL_cons F_spec_l1In sigL_nil)
theorem xs_spec_l11Size_ok : XSigOK xs_spec_l11Size := ⟨xsigL_nil, ysigL_nil⟩
theorem V_spec_l11Size (a1 : List Int) (a2 : List Int) (a3 : List Int) (s : Int) : ((true = true) ∧ ((True) ∧ (True) ∧ (True) ∧ True) ∧ (true = true) ∧ ((True) ∧ ((True)) ∧ (True) ∧ (True) ∧ (NIs (bnot (armB a1 a2 a3)) false → True) ∧ (NIs (bnot (armB a1 a2 a3)) false → True) ∧ (NIs (bnot (armB a1 a2 a3)) false → True) ∧ (NIs (bnot (armB a1 a2 a3)) false → True) ∧ (True) ∧ (True) ∧ (NIs (bite (bnot (armB a1 a2 a3)) true (bnot (ieq (ilen a1) (2 : Int)))) false → True) ∧ (NIs (bite (bnot (armB a1 a2 a3)) true (bnot (ieq (ilen a1) (2 : Int)))) false → (True)) ∧ (NIs (bite (bnot (armB a1 a2 a3)) true (bnot (ieq (ilen a1) (2 : Int)))) false → True) ∧ (True) ∧ True) ∧ ((bite (bite (bnot (armB a1 a2 a3)) true (bnot (ieq (ilen a1) (2 : Int)))) true (bnot (inB s (1 : Int) (360 : Int)))) = true → ((true = true) ∧ ((True) ∧ (True) ∧ True) ∧ (((0 : Int) : Int) = (gsK a1 a2 a3 s 0)) ∧ (((0 : Int) : Int) = (gsK a1 a2 a3 s 1)) ∧ True)) ∧ ((bite (bite (bnot (armB a1 a2 a3)) true (bnot (ieq (ilen a1) (2 : Int)))) true (bnot (inB s (1 : Int) (360 : Int)))) = false → ((true = true) ∧ ((True) ∧ (True) ∧ (NLe 0 (0 : Int) ∧ NLt (0 : Int) (ilen a3)) ∧ (True) ∧ (True) ∧ (True) ∧ (NLe 0 (0 : Int) ∧ NLt (0 : Int) (ilen a2)) ∧ (True) ∧ (True) ∧ (True) ∧ (NNe s 0) ∧ (True) ∧ (True) ∧ True) ∧ (true = true) ∧ ((True) ∧ (True) ∧ (NLe 0 (1 : Int) ∧ NLt (1 : Int) (ilen a3)) ∧ (True) ∧ (True) ∧ (True) ∧ (NLe 0 (1 : Int) ∧ NLt (1 : Int) (ilen a2)) ∧ (True) ∧ (True) ∧ (True) ∧ (NNe s 0) ∧ (True) ∧ (True) ∧ True) ∧ (true = true) ∧ ((True) ∧ (True) ∧ (True) ∧ (NIs (ilt (20 : Int) (iadd (iquo (isub (geti a3 (0 : Int)) (geti a2 (0 : Int))) s) (1 : Int))) false → True) ∧ (NIs (ilt (20 : Int) (iadd (iquo (isub (geti a3 (0 : Int)) (geti a2 (0 : Int))) s) (1 : Int))) false → True) ∧ (True) ∧ True) ∧ ((bite (ilt (20 : Int) (iadd (iquo (isub (geti a3 (0 : Int)) (geti a2 (0 : Int))) s) (1 : Int))) true (ilt (20 : Int) (iadd (iquo (isub (geti a3 (1 : Int)) (geti a2 (1 : Int))) s) (1 : Int)))) = true → ((true = true) ∧ ((True) ∧ (True) ∧ True) ∧ (((0 : Int) : Int) = (gsK a1 a2 a3 s 0)) ∧ (((0 : Int) : Int) = (gsK a1 a2 a3 s 1)) ∧ True)) ∧ ((bite (ilt (20 : Int) (iadd (iquo (isub (geti a3 (0 : Int)) (geti a2 (0 : Int))) s) (1 : Int))) true (ilt (20 : Int) (iadd (iquo (isub (geti a3 (1 : Int)) (geti a2 (1 : Int))) s) (1 : Int)))) = false → ((true = true) ∧ ((True) ∧ (True) ∧ (True) ∧ (True) ∧ True) ∧ (((iadd (iquo (isub (geti a3 (0 : Int)) (geti a2 (0 : Int))) s) (1 : Int)) : Int) = (gsK a1 a2 a3 s 0)) ∧ (((iadd (iquo (isub (geti a3 (1 : Int)) (geti a2 (1 : Int))) s) (1 : Int)) : Int) = (gsK a1 a2 a3 s 1)) ∧ True))))) = ev sig_spec_l11Size xs_spec_l11Size Tryd.f26.ntmps (fun b => []) (codeOf Tryd.f26) 0 (initS [.agg [.view (.ints a1), .view (.ints a2), .view (.ints a3)], .s (.int s)]) (retK Tryd.f26.results.toList [.s (.int (gsK a1 a2 a3 s 0)), .s (.int (gsK a1 a2 a3 s 1))]) := by kernel_rfl
set_option maxHeartbeats 400000 in
theorem F_spec_l11Size : FunOK 26 g_spec_l11Size := by
  refine fun_F (by kernel_rfl) Tryd.func26 rfl (by kernel_rfl) sig_spec_l11Size_ok xs_spec_l11Size_ok ?_
  intro avs sg h hn hl
  unfold g_spec_l11Size at h
  split at h
  · rename_i a1 a2 a3 s
    injection h with h; subst h
    refine ⟨by kernel_rfl, fun b => [], Eq.mp (V_spec_l11Size a1 a2 a3 s) ?_⟩
    simp only [true_and, and_true, implies_true, and_self, forall_const, true_implies, lenA, lenL, SV.lenOK, Cont.lenOK] at hn hl ⊢
    simp only [ilt_t, ilt_f, ile_t, ile_f, ieq_t, ieq_f, bnot_e, band_e, bite_and, bite_or, NLt_e, NLe_e, NNe_e, NIs_e, imax_e, imin_e, irem_e, Bool.not_eq_true', Bool.not_eq_false', Bool.and_eq_true, Bool.or_eq_true, Bool.or_eq_false_iff, Bool.and_eq_false_iff, Cont.pts.injEq, Cont.ints.injEq, Cont.bools.injEq, Cont.ptss.injEq, Cont.intss.injEq, Cont.boolss.injEq, true_and, and_true, implies_true]
    refine ⟨fun h => ?_, fun h => ?_⟩
    · have hB : gsB a1 a2 a3 s = false := by unfold gsB; rcases h with (h | h) | h <;> simp [h]
      unfold gsK; simp [hB]
    · obtain ⟨⟨h1, h2⟩, h3⟩ := h
      obtain ⟨e1, e2⟩ := armB_len h1
      have hB : gsB a1 a2 a3 s = true := by unfold gsB; rw [h1, h3]; simp [h2]
      have hs := inB_true h3
      refine ⟨by omega, by omega, fun h => ?_, fun h => ?_⟩
      · have : ¬ (gsB a1 a2 a3 s = true ∧ gsN a2 a3 s 0 ≤ 20 ∧ gsN a2 a3 s 1 ≤ 20) := by rintro ⟨_, g1, g2⟩; unfold gsN at g1 g2; omega
        unfold gsK; rw [if_neg this, if_neg this]; exact ⟨rfl, rfl⟩
      · have : gsB a1 a2 a3 s = true ∧ gsN a2 a3 s 0 ≤ 20 ∧ gsN a2 a3 s 1 ≤ 20 := ⟨hB, h.1, h.2⟩
        unfold gsK; rw [if_pos this, if_pos this]; exact ⟨rfl, rfl⟩
  · cases h
def g_spec_PointValid : List AV → Option Sg
  | [.agg [.int p1, .int p2]] => some ⟨True, [.s (.bool (vB p1 p2))]⟩
  | _ => none
def sig_spec_PointValid : FuncId → List AV → Option Sg := sigL [(51, g_spec_l1In)]
def xs_spec_PointValid : XS := ⟨xsigL [], ysigL []⟩
theorem sig_spec_PointValid_ok : SigOK sig_spec_PointValid := sigL_cons F_spec_l1In sigL_nil
theorem xs_spec_PointValid_ok : XSigOK xs_spec_PointValid := ⟨xsigL_nil, ysigL_nil⟩
theorem V_spec_PointValid (p1 : Int) (p2 : Int) : ((true = true) ∧ ((True) ∧ (True) ∧ True) ∧ (true = true) ∧ ((True) ∧ (True) ∧ ((True)) ∧ (True) ∧ (NIs (inB p1 (-10000 : Int) (10000 : Int)) true → True) ∧ (NIs (inB p1 (-10000 : Int) (10000 : Int)) true → True) ∧ (NIs (inB p1 (-10000 : Int) (10000 : Int)) true → (True)) ∧ (True) ∧ (True) ∧ True) ∧ (((bite (inB p1 (-10000 : Int) (10000 : Int)) (inB p2 (-10000 : Int) (10000 : Int)) false) : Bool) = (vB p1 p2)) ∧ True) = ev sig_spec_PointValid xs_spec_PointValid Tryd.f85.ntmps (fun b => []) (codeOf Tryd.f85) 0 (initS [.agg [.int p1, .int p2]]) (retK Tryd.f85.results.toList [.s (.bool (vB p1 p2))]) := by kernel_rfl
set_option maxHeartbeats 400000 in
theorem F_spec_PointValid : FunOK 85 g_spec_PointValid := by
  refine fun_F (by kernel_rfl) Tryd.func85 rfl (by kernel_rfl) sig_spec_PointValid_ok xs_spec_PointValid_ok ?_
  intro avs sg h hn hl
  unfold g_spec_PointValid at h
  split at h
  · rename_i p1 p2
    injection h with h; subst h
    refine ⟨by kernel_rfl, fun b => [], Eq.mp (V_spec_PointValid p1 p2) ?_⟩
    simp only [true_and, and_true, implies_true, and_self, forall_const, true_implies, lenA, lenL, SV.lenOK, Cont.lenOK] at hn hl ⊢
    simp only [bite_and, vB]
  · cases h
def g_spec_l2Cross : List AV → Option Sg
  | [.agg [.int a1, .int a2], .agg [.int b1, .int b2], .agg [.int c1, .int c2]] => some ⟨True, [.s (.int (crW a1 a2 b1 b2 c1 c2))]⟩
  | _ => none
def sig_spec_l2Cross : FuncId → List AV → Option Sg := sigL []
def xs_spec_l2Cross : XS := ⟨xsigL [], ysigL []⟩
theorem sig_spec_l2Cross_ok : SigOK sig_spec_l2Cross := sigL_nil
theorem xs_spec_l2Cross_ok : XSigOK xs_spec_l2Cross := ⟨xsigL_nil, ysigL_nil⟩
theorem V_spec_l2Cross (a1 : Int) (a2 : Int) (b1 : Int) (b2 : Int) (c1 : Int) (c2 : Int) : ((true = true) ∧ ((True) ∧ (True) ∧ (True) ∧ (True) ∧ True) ∧ (true = true) ∧ ((True) ∧ (True) ∧ (True) ∧ (True) ∧ (True) ∧ (True) ∧ (True) ∧ (True) ∧ (True) ∧ (True) ∧ (True) ∧ (True) ∧ (True) ∧ (True) ∧ (True) ∧ (True) ∧ (True) ∧ (True) ∧ (True) ∧ (True) ∧ (True) ∧ (True) ∧ (True) ∧ (True) ∧ True) ∧ (((isub (imul (isub b1 a1) (isub c2 a2)) (imul (isub b2 a2) (isub c1 a1))) : Int) = (crW a1 a2 b1 b2 c1 c2)) ∧ True) = ev sig_spec_l2Cross xs_spec_l2Cross Tryd.f70.ntmps (fun b => []) (codeOf Tryd.f70) 0 (initS [.agg [.int a1, .int a2], .agg [.int b1, .int b2], .agg [.int c1, .int c2]]) (retK Tryd.f70.results.toList [.s (.int (crW a1 a2 b1 b2 c1 c2))]) := by kernel_rfl
set_option maxHeartbeats 400000 in
theorem F_spec_l2Cross : FunOK 70 g_spec_l2Cross := by
  refine fun_F (by kernel_rfl) Tryd.func70 rfl (by kernel_rfl) sig_spec_l2Cross_ok xs_spec_l2Cross_ok ?_
  intro avs sg h hn hl
  unfold g_spec_l2Cross at h
  split at h
  · rename_i a1 a2 b1 b2 c1 c2
    injection h with h; subst h
    refine ⟨by kernel_rfl, fun b => [], Eq.mp (V_spec_l2Cross a1 a2 b1 b2 c1 c2) ?_⟩
    simp only [true_and, and_true, implies_true, and_self, forall_const, true_implies, lenA, lenL, SV.lenOK, Cont.lenOK] at hn hl ⊢
    simp only [crW]
  · cases h
def g_spec_l2Sign : List AV → Option Sg
  | [.s (.int n)] => some ⟨True, [.s (.int (sgn n))]⟩
  | _ => none
def sig_spec_l2Sign : FuncId → List AV → Option Sg := sigL []
def xs_spec_l2Sign : XS := ⟨xsigL [], ysigL []⟩
theorem sig_spec_l2Sign_ok : SigOK sig_spec_l2Sign := sigL_nil
theorem xs_spec_l2Sign_ok : XSigOK xs_spec_l2Sign := ⟨xsigL_nil, ysigL_nil⟩
theorem V_spec_l2Sign (n : Int) : ((true = true) ∧ ((True) ∧ True) ∧ (true = true) ∧ ((True) ∧ (True) ∧ (True) ∧ True) ∧ ((ilt (0 : Int) n) = true → ((true = true) ∧ ((True) ∧ True) ∧ (((1 : Int) : Int) = (sgn n)) ∧ True)) ∧ ((ilt (0 : Int) n) = false → ((true = true) ∧ ((True) ∧ (True) ∧ (True) ∧ True) ∧ ((ilt n (0 : Int)) = true → ((true = true) ∧ ((True) ∧ True) ∧ (((-1 : Int) : Int) = (sgn n)) ∧ True)) ∧ ((ilt n (0 : Int)) = false → ((true = true) ∧ ((True) ∧ True) ∧ (((0 : Int) : Int) = (sgn n)) ∧ True))))) = ev sig_spec_l2Sign xs_spec_l2Sign Tryd.f69.ntmps (fun b => []) (codeOf Tryd.f69) 0 (initS [.s (.int n)]) (retK Tryd.f69.results.toList [.s (.int (sgn n))]) := by kernel_rfl
set_option maxHeartbeats 400000 in
theorem F_spec_l2Sign : FunOK 69 g_spec_l2Sign := by
  refine fun_F (by kernel_rfl) Tryd.func69 rfl (by kernel_rfl) sig_spec_l2Sign_ok xs_spec_l2Sign_ok ?_
  intro avs sg h hn hl
  unfold g_spec_l2Sign at h
  split at h
  · rename_i n
    injection h with h; subst h
    refine ⟨by kernel_rfl, fun b => [], Eq.mp (V_spec_l2Sign n) ?_⟩
    simp only [true_and, and_true, implies_true, and_self, forall_const, true_implies, lenA, lenL, SV.lenOK, Cont.lenOK] at hn hl ⊢
    simp only [ilt_t, ilt_f, ile_t, ile_f, ieq_t, ieq_f, bnot_e, band_e, bite_and, bite_or, NLt_e, NLe_e, NNe_e, NIs_e, imax_e, imin_e, irem_e, Bool.not_eq_true', Bool.not_eq_false', Bool.and_eq_true, Bool.or_eq_true, Bool.or_eq_false_iff, Bool.and_eq_false_iff, Cont.pts.injEq, Cont.ints.injEq, Cont.bools.injEq, Cont.ptss.injEq, Cont.intss.injEq, Cont.boolss.injEq, true_and, and_true, implies_true]
    unfold sgn
    refine ⟨fun h => by rw [if_pos h], fun h => ⟨fun h2 => by rw [if_neg (by omega), if_pos h2], fun h2 => by rw [if_neg (by omega), if_neg (by omega)]⟩⟩
  · cases h
def g_spec_Orientation : List AV → Option Sg
  | [.agg [.int a1, .int a2], .agg [.int b1, .int b2], .agg [.int c1, .int c2]] => some ⟨True, [.s (.int (orB a1 a2 b1 b2 c1 c2))]⟩
  | _ => none
def sig_spec_Orientation : FuncId → List AV → Option Sg := sigL [(85, g_spec_PointValid), (70, g_spec_l2Cross), (69, g_spec_l2Sign)]
def xs_spec_Orientation : XS := ⟨xsigL [], ysigL []⟩
theorem sig_spec_Orientation_ok : SigOK sig_spec_Orientation := sigL_cons F_spec_PointValid (sigL_cons F_spec_l2Cross (sigL_cons F_spec_l2Sign sigL_nil))
theorem xs_spec_Orientation_ok : XSigOK xs_spec_Orientation := ⟨xsigL_nil, ysigL_nil⟩
theorem V_spec_Orientation (a1 : Int) (a2 : Int) (b1 : Int) (b2 : Int) (c1 : Int) (c2 : Int) : ((true = true) ∧ ((True) ∧ (True) ∧ (True) ∧ (True) ∧ True) ∧ (true = true) ∧ ((True) ∧ ((True)) ∧ (True) ∧ (True) ∧ (NIs (bnot (vB a1 a2)) false → True) ∧ (NIs (bnot (vB a1 a2)) false → (True)) ∧ (NIs (bnot (vB a1 a2)) false → True) ∧ (True) ∧ (True) ∧ (NIs (bite (bnot (vB a1 a2)) true (bnot (vB b1 b2))) false → True) ∧ (NIs (bite (bnot (vB a1 a2)) true (bnot (vB b1 b2))) false → (True)) ∧ (NIs (bite (bnot (vB a1 a2)) true (bnot (vB b1 b2))) false → True) ∧ (True) ∧ True) ∧ ((bite (bite (bnot (vB a1 a2)) true (bnot (vB b1 b2))) true (bnot (vB c1 c2))) = true → ((true = true) ∧ ((True) ∧ True) ∧ (((0 : Int) : Int) = (orB a1 a2 b1 b2 c1 c2)) ∧ True)) ∧ ((bite (bite (bnot (vB a1 a2)) true (bnot (vB b1 b2))) true (bnot (vB c1 c2))) = false → ((true = true) ∧ ((True) ∧ (True) ∧ (True) ∧ ((True)) ∧ ((True)) ∧ (True) ∧ True) ∧ (((sgn (crW a1 a2 b1 b2 c1 c2)) : Int) = (orB a1 a2 b1 b2 c1 c2)) ∧ True))) = ev sig_spec_Orientation xs_spec_Orientation Tryd.f72.ntmps (fun b => []) (codeOf Tryd.f72) 0 (initS [.agg [.int a1, .int a2], .agg [.int b1, .int b2], .agg [.int c1, .int c2]]) (retK Tryd.f72.results.toList [.s (.int (orB a1 a2 b1 b2 c1 c2))]) := by kernel_rfl
set_option maxHeartbeats 400000 in
theorem F_spec_Orientation : FunOK 72 g_spec_Orientation := by
  refine fun_F (by kernel_rfl) Tryd.func72 rfl (by kernel_rfl) sig_spec_Orientation_ok xs_spec_Orientation_ok ?_
  intro avs sg h hn hl
  unfold g_spec_Orientation at h
  split at h
  · rename_i a1 a2 b1 b2 c1 c2
    injection h with h; subst h
    refine ⟨by kernel_rfl, fun b => [], Eq.mp (V_spec_Orientation a1 a2 b1 b2 c1 c2) ?_⟩
    simp only [true_and, and_true, implies_true, and_self, forall_const, true_implies, lenA, lenL, SV.lenOK, Cont.lenOK] at hn hl ⊢
    simp only [ilt_t, ilt_f, ile_t, ile_f, ieq_t, ieq_f, bnot_e, band_e, bite_and, bite_or, NLt_e, NLe_e, NNe_e, NIs_e, imax_e, imin_e, irem_e, Bool.not_eq_true', Bool.not_eq_false', Bool.and_eq_true, Bool.or_eq_true, Bool.or_eq_false_iff, Bool.and_eq_false_iff, Cont.pts.injEq, Cont.ints.injEq, Cont.bools.injEq, Cont.ptss.injEq, Cont.intss.injEq, Cont.boolss.injEq, true_and, and_true, implies_true]
    unfold orB
    cases vB a1 a2 <;> cases vB b1 b2 <;> cases vB c1 c2 <;> simp
  · cases h
def g_spec_ConvexValid : List AV → Option Sg
  | [.s (.view (.pts l))] => some ⟨True, [.s (.bool (convB l))]⟩
  | _ => none
def sig_spec_ConvexValid : FuncId → List AV → Option Sg := sigL [(51, g_spec_l1In), (72, g_spec_Orientation)]
def xs_spec_ConvexValid : XS := ⟨xsigL [], ysigL []⟩
theorem sig_spec_ConvexValid_ok : SigOK sig_spec_ConvexValid := sigL_cons F_spec_l1In (sigL_cons F_spec_Orientation sigL_nil)
theorem xs_spec_ConvexValid_ok : XSigOK xs_spec_ConvexValid := ⟨xsigL_nil, ysigL_nil⟩
theorem V_spec_ConvexValid (l : List Pt) : ((true = true) ∧ ((True) ∧ True) ∧ (true = true) ∧ ((True) ∧ (True) ∧ (True) ∧ True) ∧ (true = true) ∧ ((True) ∧ ((True)) ∧ (True) ∧ True) ∧ ((bnot (inB (ilen l) (3 : Int) (8 : Int))) = true → ((true = true) ∧ ((True) ∧ True) ∧ ((false : Bool) = (convB l)) ∧ True)) ∧ ((bnot (inB (ilen l) (3 : Int) (8 : Int))) = false → ((true = true) ∧ ((True) ∧ True) ∧ ∃ (I1 : List GV → Prop) (μ1 : List GV → Nat), (((true = true) ∧ (((false : Bool) = false) ∧ (((0 : Int) : Int) = (0 : Int)) ∧ (((ilen l) : Int) = (ilen l)) ∧ (((inB (ilen l) (3 : Int) (8 : Int)) : Bool) = (inB (ilen l) (3 : Int) (8 : Int))) ∧ (((bnot (inB (ilen l) (3 : Int) (8 : Int))) : Bool) = (bnot (inB (ilen l) (3 : Int) (8 : Int)))) ∧ ((Cont.pts l) = (Cont.pts l)) ∧ (((ilen l) : Int) = (ilen l)) ∧ (((ilen l) : Int) = (ilen l)) ∧ ((Cont.pts l) = (Cont.pts l)) ∧ True) ∧ (True)) ∧ (([GK.int, GK.bool] : List GK) = ([GK.int, GK.bool] : List GK)) ∧ I1 [GV.int (0 : Int), GV.bool false]) ∧ (∀ i1_0 : Int, ∀ b1_1 : Bool, I1 [GV.int i1_0, GV.bool b1_1] → ((true = true) ∧ ((True) ∧ (True) ∧ (True) ∧ True) ∧ ((ilt i1_0 (ilen l)) = true → ((true = true) ∧ ((True) ∧ True) ∧ ∃ (I2 : List GV → Prop) (μ2 : List GV → Nat), (((true = true) ∧ (((b1_1 : Bool) = b1_1) ∧ (((0 : Int) : Int) = (0 : Int)) ∧ ((i1_0 : Int) = i1_0) ∧ (((ilen l) : Int) = (ilen l)) ∧ (((ilt i1_0 (ilen l)) : Bool) = (ilt i1_0 (ilen l))) ∧ ((i1_0 : Int) = i1_0) ∧ (((ilen l) : Int) = (ilen l)) ∧ (((inB (ilen l) (3 : Int) (8 : Int)) : Bool) = (inB (ilen l) (3 : Int) (8 : Int))) ∧ (((bnot (inB (ilen l) (3 : Int) (8 : Int))) : Bool) = (bnot (inB (ilen l) (3 : Int) (8 : Int)))) ∧ ((Cont.pts l) = (Cont.pts l)) ∧ (((ilen l) : Int) = (ilen l)) ∧ (((ilen l) : Int) = (ilen l)) ∧ ((Cont.pts l) = (Cont.pts l)) ∧ True) ∧ (True)) ∧ (([GK.int, GK.bool] : List GK) = ([GK.int, GK.bool] : List GK)) ∧ I2 [GV.int (0 : Int), GV.bool b1_1]) ∧ (∀ i2_0 : Int, ∀ b2_1 : Bool, I2 [GV.int i2_0, GV.bool b2_1] → ((true = true) ∧ ((True) ∧ (True) ∧ (True) ∧ True) ∧ ((ilt i2_0 (ilen l)) = true → ((true = true) ∧ ((True) ∧ (True) ∧ (True) ∧ (True) ∧ (NIs (bnot (ieq i2_0 i1_0)) true → True) ∧ (NIs (bnot (ieq i2_0 i1_0)) true → True) ∧ (NIs (bnot (ieq i2_0 i1_0)) true → True) ∧ (NIs (bnot (ieq i2_0 i1_0)) true → True) ∧ (NIs (bnot (ieq i2_0 i1_0)) true → NNe (ilen l) 0) ∧ (NIs (bnot (ieq i2_0 i1_0)) true → True) ∧ (True) ∧ (True) ∧ (NIs (bite (bnot (ieq i2_0 i1_0)) (bnot (ieq i2_0 (irem (iadd i1_0 (1 : Int)) (ilen l)))) false) true → True) ∧ (NIs (bite (bnot (ieq i2_0 i1_0)) (bnot (ieq i2_0 (irem (iadd i1_0 (1 : Int)) (ilen l)))) false) true → True) ∧ (NIs (bite (bnot (ieq i2_0 i1_0)) (bnot (ieq i2_0 (irem (iadd i1_0 (1 : Int)) (ilen l)))) false) true → (NLe 0 i1_0 ∧ NLt i1_0 (ilen l))) ∧ (NIs (bite (bnot (ieq i2_0 i1_0)) (bnot (ieq i2_0 (irem (iadd i1_0 (1 : Int)) (ilen l)))) false) true → True) ∧ (NIs (bite (bnot (ieq i2_0 i1_0)) (bnot (ieq i2_0 (irem (iadd i1_0 (1 : Int)) (ilen l)))) false) true → True) ∧ (NIs (bite (bnot (ieq i2_0 i1_0)) (bnot (ieq i2_0 (irem (iadd i1_0 (1 : Int)) (ilen l)))) false) true → True) ∧ (NIs (bite (bnot (ieq i2_0 i1_0)) (bnot (ieq i2_0 (irem (iadd i1_0 (1 : Int)) (ilen l)))) false) true → True) ∧ (NIs (bite (bnot (ieq i2_0 i1_0)) (bnot (ieq i2_0 (irem (iadd i1_0 (1 : Int)) (ilen l)))) false) true → True) ∧ (NIs (bite (bnot (ieq i2_0 i1_0)) (bnot (ieq i2_0 (irem (iadd i1_0 (1 : Int)) (ilen l)))) false) true → NNe (ilen l) 0) ∧ (NIs (bite (bnot (ieq i2_0 i1_0)) (bnot (ieq i2_0 (irem (iadd i1_0 (1 : Int)) (ilen l)))) false) true → (NLe 0 (irem (iadd i1_0 (1 : Int)) (ilen l)) ∧ NLt (irem (iadd i1_0 (1 : Int)) (ilen l)) (ilen l))) ∧ (NIs (bite (bnot (ieq i2_0 i1_0)) (bnot (ieq i2_0 (irem (iadd i1_0 (1 : Int)) (ilen l)))) false) true → True) ∧ (NIs (bite (bnot (ieq i2_0 i1_0)) (bnot (ieq i2_0 (irem (iadd i1_0 (1 : Int)) (ilen l)))) false) true → True) ∧ (NIs (bite (bnot (ieq i2_0 i1_0)) (bnot (ieq i2_0 (irem (iadd i1_0 (1 : Int)) (ilen l)))) false) true → True) ∧ (NIs (bite (bnot (ieq i2_0 i1_0)) (bnot (ieq i2_0 (irem (iadd i1_0 (1 : Int)) (ilen l)))) false) true → (NLe 0 i2_0 ∧ NLt i2_0 (ilen l))) ∧ (NIs (bite (bnot (ieq i2_0 i1_0)) (bnot (ieq i2_0 (irem (iadd i1_0 (1 : Int)) (ilen l)))) false) true → True) ∧ (NIs (bite (bnot (ieq i2_0 i1_0)) (bnot (ieq i2_0 (irem (iadd i1_0 (1 : Int)) (ilen l)))) false) true → (True)) ∧ (NIs (bite (bnot (ieq i2_0 i1_0)) (bnot (ieq i2_0 (irem (iadd i1_0 (1 : Int)) (ilen l)))) false) true → True) ∧ (True) ∧ True) ∧ ((bite (bite (bnot (ieq i2_0 i1_0)) (bnot (ieq i2_0 (irem (iadd i1_0 (1 : Int)) (ilen l)))) false) (bnot (ieq (orB (getx l i1_0) (gety l i1_0) (getx l (irem (iadd i1_0 (1 : Int)) (ilen l))) (gety l (irem (iadd i1_0 (1 : Int)) (ilen l))) (getx l i2_0) (gety l i2_0)) (1 : Int))) false) = true → ((true = true) ∧ ((True) ∧ True) ∧ ((false : Bool) = (convB l)) ∧ True)) ∧ ((bite (bite (bnot (ieq i2_0 i1_0)) (bnot (ieq i2_0 (irem (iadd i1_0 (1 : Int)) (ilen l)))) false) (bnot (ieq (orB (getx l i1_0) (gety l i1_0) (getx l (irem (iadd i1_0 (1 : Int)) (ilen l))) (gety l (irem (iadd i1_0 (1 : Int)) (ilen l))) (getx l i2_0) (gety l i2_0)) (1 : Int))) false) = false → ((true = true) ∧ ((True) ∧ (True) ∧ (True) ∧ True) ∧ ((true = true) ∧ (((b2_1 : Bool) = b2_1) ∧ (((iadd i2_0 (1 : Int)) : Int) = (iadd i2_0 (1 : Int))) ∧ ((i1_0 : Int) = i1_0) ∧ (((ilen l) : Int) = (ilen l)) ∧ (((ilt i1_0 (ilen l)) : Bool) = (ilt i1_0 (ilen l))) ∧ ((i1_0 : Int) = i1_0) ∧ (((ilen l) : Int) = (ilen l)) ∧ (((inB (ilen l) (3 : Int) (8 : Int)) : Bool) = (inB (ilen l) (3 : Int) (8 : Int))) ∧ (((bnot (inB (ilen l) (3 : Int) (8 : Int))) : Bool) = (bnot (inB (ilen l) (3 : Int) (8 : Int)))) ∧ ((Cont.pts l) = (Cont.pts l)) ∧ (((ilen l) : Int) = (ilen l)) ∧ (((ilen l) : Int) = (ilen l)) ∧ ((Cont.pts l) = (Cont.pts l)) ∧ True) ∧ (True)) ∧ ((([GK.int, GK.bool] : List GK) = ([GK.int, GK.bool] : List GK)) ∧ I2 [GV.int (iadd i2_0 (1 : Int)), GV.bool b2_1] ∧ μ2 [GV.int (iadd i2_0 (1 : Int)), GV.bool b2_1] < μ2 [GV.int i2_0, GV.bool b2_1]))))) ∧ ((ilt i2_0 (ilen l)) = false → ((true = true) ∧ ((True) ∧ (True) ∧ (True) ∧ True) ∧ ((true = true) ∧ (((b2_1 : Bool) = b2_1) ∧ (((iadd i1_0 (1 : Int)) : Int) = (iadd i1_0 (1 : Int))) ∧ (((ilen l) : Int) = (ilen l)) ∧ (((inB (ilen l) (3 : Int) (8 : Int)) : Bool) = (inB (ilen l) (3 : Int) (8 : Int))) ∧ (((bnot (inB (ilen l) (3 : Int) (8 : Int))) : Bool) = (bnot (inB (ilen l) (3 : Int) (8 : Int)))) ∧ ((Cont.pts l) = (Cont.pts l)) ∧ (((ilen l) : Int) = (ilen l)) ∧ (((ilen l) : Int) = (ilen l)) ∧ ((Cont.pts l) = (Cont.pts l)) ∧ True) ∧ (True)) ∧ ((([GK.int, GK.bool] : List GK) = ([GK.int, GK.bool] : List GK)) ∧ I1 [GV.int (iadd i1_0 (1 : Int)), GV.bool b2_1] ∧ μ1 [GV.int (iadd i1_0 (1 : Int)), GV.bool b2_1] < μ1 [GV.int i1_0, GV.bool b1_1]))))))) ∧ ((ilt i1_0 (ilen l)) = false → ((true = true) ∧ ((True) ∧ True) ∧ ((true : Bool) = (convB l)) ∧ True))))))) = ev sig_spec_ConvexValid xs_spec_ConvexValid Tryd.f55.ntmps (fun b => if b == 0 then [.v 4, .v 2] else if b == 2 then [.v 5, .v 2] else []) (codeOf Tryd.f55) 0 (initS [.s (.view (.pts l))]) (retK Tryd.f55.results.toList [.s (.bool (convB l))]) := by kernel_rfl
set_option maxHeartbeats 400000 in
theorem F_spec_ConvexValid : FunOK 55 g_spec_ConvexValid := by
  refine fun_F (by kernel_rfl) Tryd.func55 rfl (by kernel_rfl) sig_spec_ConvexValid_ok xs_spec_ConvexValid_ok ?_
  intro avs sg h hn hl
  unfold g_spec_ConvexValid at h
  split at h
  · rename_i l
    injection h with h; subst h
    refine ⟨by kernel_rfl, fun b => if b == 0 then [.v 4, .v 2] else if b == 2 then [.v 5, .v 2] else [], Eq.mp (V_spec_ConvexValid l) ?_⟩
    simp only [true_and, and_true, implies_true, and_self, forall_const, true_implies, lenA, lenL, SV.lenOK, Cont.lenOK] at hn hl ⊢
    simp only [← convS_eq]
    have h0 := ilen_0 l
    simp only [ilt_t, ilt_f, ile_t, ile_f, ieq_t, ieq_f, bnot_e, band_e, bite_and, bite_or, NLt_e, NLe_e, NNe_e, NIs_e, imax_e, imin_e, irem_e, Bool.not_eq_true', Bool.not_eq_false', Bool.and_eq_true, Bool.or_eq_true, Bool.or_eq_false_iff, Bool.and_eq_false_iff, Cont.pts.injEq, Cont.ints.injEq, Cont.bools.injEq, Cont.ptss.injEq, Cont.intss.injEq, Cont.boolss.injEq, true_and, and_true, implies_true]
    refine ⟨?_, fun hv1 => ?_⟩
    · intro h; simp [convS, h]
    · have hlen := inB_true hv1
      refine ⟨fun | [.int k, .bool _] => 0 ≤ k ∧ k ≤ ilen l ∧ (∀ i, 0 ≤ i → i < k → allN (ilen l) (convF l i) = true) | _ => False, fun | [.int k, .bool _] => (ilen l - k).toNat | _ => 0, ?_, ?_⟩
      · exact ⟨Int.le_refl 0, h0, fun j h0 h1 => absurd h1 (by omega)⟩
      · rintro k b ⟨hk0, hk1, hk⟩
        simp only [ilt_t, ilt_f, ile_t, ile_f, ieq_t, ieq_f, bnot_e, band_e, bite_and, bite_or, NLt_e, NLe_e, NNe_e, NIs_e, imax_e, imin_e, irem_e, Bool.not_eq_true', Bool.not_eq_false', Bool.and_eq_true, Bool.or_eq_true, Bool.or_eq_false_iff, Bool.and_eq_false_iff, Cont.pts.injEq, Cont.ints.injEq, Cont.bools.injEq, Cont.ptss.injEq, Cont.intss.injEq, Cont.boolss.injEq, true_and, and_true, implies_true]
        refine ⟨fun hkn => ?_, fun hkn => ?_⟩
        · have e1 := iadd_1 hk0 hkn hl
          obtain ⟨n0, n1, _⟩ := nx_in hk0 hkn
          have e2 : (k + 1).tmod (ilen l) = nx l k := rfl
          simp only [e1, e2]
          refine ⟨fun | [.int j, .bool _] => 0 ≤ j ∧ j ≤ ilen l ∧ (∀ i, 0 ≤ i → i < j → convF l k i = true) | _ => False, fun | [.int j, .bool _] => (ilen l - j).toNat | _ => 0, ?_, ?_⟩
          · exact ⟨Int.le_refl 0, h0, fun j h0 h1 => absurd h1 (by omega)⟩
          · rintro j b ⟨hj0, hj1, hj⟩
            simp only [ilt_t, ilt_f, ile_t, ile_f, ieq_t, ieq_f, bnot_e, band_e, bite_and, bite_or, NLt_e, NLe_e, NNe_e, NIs_e, imax_e, imin_e, irem_e, Bool.not_eq_true', Bool.not_eq_false', Bool.and_eq_true, Bool.or_eq_true, Bool.or_eq_false_iff, Bool.and_eq_false_iff, Cont.pts.injEq, Cont.ints.injEq, Cont.bools.injEq, Cont.ptss.injEq, Cont.intss.injEq, Cont.boolss.injEq, true_and, and_true, implies_true]
            refine ⟨fun hjn => ⟨?_, fun hx => ?_, fun hx => ?_⟩, fun hjn => ?_⟩
            · exact ⟨fun _ => by omega, fun _ => ⟨hk0, hkn⟩, fun _ => by omega, fun _ => ⟨n0, n1⟩, fun _ => ⟨hj0, hjn⟩⟩
            · have hE : convF l k j = false := by
                unfold convF orI
                simp only [decide_eq_false_iff_not]
                omega
              unfold convS
              rw [allN_no k hk0 hkn (allN_no j hj0 hjn hE)]
              simp
            · have hE : convF l k j = true := by
                unfold convF orI
                simp only [decide_eq_true_eq]
                omega
              rw [iadd_1 hj0 hjn hl]
              exact ⟨⟨by omega, by omega, allN_up hj hE⟩, by omega⟩
            · exact ⟨⟨by omega, by omega, allN_up hk (allN_mk fun i h0 h1 => hj i h0 (by omega))⟩, by omega⟩
        · unfold convS
          rw [hv1, allN_mk fun i h0 h1 => hk i h0 (by omega)]
          rfl
  · cases h
def g_spec_SceneValid : List AV → Option Sg
  | [.s (.view (.ptss l))] => some ⟨True, [.s (.bool (sceneB l))]⟩
  | _ => none
def sig_spec_SceneValid : FuncId → List AV → Option Sg := sigL [(55, g_spec_ConvexValid)]
def xs_spec_SceneValid : XS := ⟨xsigL [], ysigL []⟩
theorem sig_spec_SceneValid_ok : SigOK sig_spec_SceneValid := sigL_cons F_spec_ConvexValid sigL_nil
theorem xs_spec_SceneValid_ok : XSigOK xs_spec_SceneValid := ⟨xsigL_nil, ysigL_nil⟩
theorem V_spec_SceneValid (l : List (List Pt)) : ((true = true) ∧ ((True) ∧ True) ∧ (true = true) ∧ ((True) ∧ True) ∧ ∃ (I1 : List GV → Prop) (μ1 : List GV → Nat), (((true = true) ∧ (((false : Bool) = false) ∧ (((0 : Int) : Int) = (0 : Int)) ∧ ((Cont.ptss l) = (Cont.ptss l)) ∧ True) ∧ (True)) ∧ (([GK.int, GK.bool] : List GK) = ([GK.int, GK.bool] : List GK)) ∧ I1 [GV.int (0 : Int), GV.bool false]) ∧ (∀ i1_0 : Int, ∀ b1_1 : Bool, I1 [GV.int i1_0, GV.bool b1_1] → ((true = true) ∧ ((True) ∧ (True) ∧ (True) ∧ (True) ∧ True) ∧ ((ilt i1_0 (ilen l)) = true → ((true = true) ∧ ((True) ∧ (True) ∧ (NLe 0 i1_0 ∧ NLt i1_0 (ilen l)) ∧ (True) ∧ ((True)) ∧ (True) ∧ True) ∧ ((bnot (convB (getl l i1_0))) = true → ((true = true) ∧ ((True) ∧ True) ∧ ((false : Bool) = (sceneB l)) ∧ True)) ∧ ((bnot (convB (getl l i1_0))) = false → ((true = true) ∧ ((True) ∧ (True) ∧ (True) ∧ True) ∧ ((true = true) ∧ (((b1_1 : Bool) = b1_1) ∧ (((iadd i1_0 (1 : Int)) : Int) = (iadd i1_0 (1 : Int))) ∧ ((Cont.ptss l) = (Cont.ptss l)) ∧ True) ∧ (True)) ∧ ((([GK.int, GK.bool] : List GK) = ([GK.int, GK.bool] : List GK)) ∧ I1 [GV.int (iadd i1_0 (1 : Int)), GV.bool b1_1] ∧ μ1 [GV.int (iadd i1_0 (1 : Int)), GV.bool b1_1] < μ1 [GV.int i1_0, GV.bool b1_1]))))) ∧ ((ilt i1_0 (ilen l)) = false → ((true = true) ∧ ((True) ∧ (True) ∧ (True) ∧ (True) ∧ True) ∧ (((ile (ilen l) (6 : Int)) : Bool) = (sceneB l)) ∧ True))))) = ev sig_spec_SceneValid xs_spec_SceneValid Tryd.f27.ntmps (fun b => if b == 0 then [.v 3, .v 2] else []) (codeOf Tryd.f27) 0 (initS [.s (.view (.ptss l))]) (retK Tryd.f27.results.toList [.s (.bool (sceneB l))]) := by kernel_rfl
set_option maxHeartbeats 400000 in
theorem F_spec_SceneValid : FunOK 27 g_spec_SceneValid := by
  refine fun_F (by kernel_rfl) Tryd.func27 rfl (by kernel_rfl) sig_spec_SceneValid_ok xs_spec_SceneValid_ok ?_
  intro avs sg h hn hl
  unfold g_spec_SceneValid at h
  split at h
  · rename_i l
    injection h with h; subst h
    refine ⟨by kernel_rfl, fun b => if b == 0 then [.v 3, .v 2] else [], Eq.mp (V_spec_SceneValid l) ?_⟩
    simp only [true_and, and_true, implies_true, and_self, forall_const, true_implies, lenA, lenL, SV.lenOK, Cont.lenOK] at hn hl ⊢
    have h0 := ilen_0 l
    simp only [ilt_t, ilt_f, ile_t, ile_f, ieq_t, ieq_f, bnot_e, band_e, bite_and, bite_or, NLt_e, NLe_e, NNe_e, NIs_e, imax_e, imin_e, irem_e, Bool.not_eq_true', Bool.not_eq_false', Bool.and_eq_true, Bool.or_eq_true, Bool.or_eq_false_iff, Bool.and_eq_false_iff, Cont.pts.injEq, Cont.ints.injEq, Cont.bools.injEq, Cont.ptss.injEq, Cont.intss.injEq, Cont.boolss.injEq, true_and, and_true, implies_true]
    refine ⟨fun | .int k :: _ => 0 ≤ k ∧ k ≤ ilen l ∧ (∀ i, 0 ≤ i → i < k → convB (getl l i) = true) | _ => False, fun | .int k :: _ => (ilen l - k).toNat | _ => 0, ?_, ?_⟩
    · exact ⟨Int.le_refl 0, h0, fun j h0 h1 => absurd h1 (by omega)⟩
    · rintro k _ ⟨hk0, hk1, hk⟩
      simp only [ilt_t, ilt_f, ile_t, ile_f, ieq_t, ieq_f, bnot_e, band_e, bite_and, bite_or, NLt_e, NLe_e, NNe_e, NIs_e, imax_e, imin_e, irem_e, Bool.not_eq_true', Bool.not_eq_false', Bool.and_eq_true, Bool.or_eq_true, Bool.or_eq_false_iff, Bool.and_eq_false_iff, Cont.pts.injEq, Cont.ints.injEq, Cont.bools.injEq, Cont.ptss.injEq, Cont.intss.injEq, Cont.boolss.injEq, true_and, and_true, implies_true]
      refine ⟨fun hkn => ⟨⟨hk0, hkn⟩, fun hx => ?_, fun hx => ?_⟩, fun hkn => ?_⟩
      · unfold sceneB; rw [allN_no k hk0 hkn hx]; simp
      · rw [iadd_1 hk0 hkn hl.1]
        exact ⟨⟨by omega, by omega, upTo hk hx⟩, by omega⟩
      · unfold sceneB; rw [allN_mk fun j j0 j1 => hk j j0 (by omega)]; simp
  · cases h
def g_spec_Degrees : List AV → Option Sg
  | [.s (.int d)] => some ⟨True, [.s (.int (d % 360))]⟩
  | _ => none
def sig_spec_Degrees : FuncId → List AV → Option Sg := sigL []
def xs_spec_Degrees : XS := ⟨xsigL [], ysigL []⟩
theorem sig_spec_Degrees_ok : SigOK sig_spec_Degrees := sigL_nil
theorem xs_spec_Degrees_ok : XSigOK xs_spec_Degrees := ⟨xsigL_nil, ysigL_nil⟩
theorem V_spec_Degrees (d : Int) : ((true = true) ∧ ((True) ∧ True) ∧ (true = true) ∧ ((True) ∧ (NNe (360 : Int) 0) ∧ (True) ∧ True) ∧ (true = true) ∧ ((True) ∧ (True) ∧ True) ∧ ((ilt (irem d (360 : Int)) (0 : Int)) = true → ((true = true) ∧ ((True) ∧ (True) ∧ (True) ∧ True) ∧ (true = true) ∧ ((True) ∧ (True) ∧ True) ∧ (((iadd (irem d (360 : Int)) (360 : Int)) : Int) = (d % 360)) ∧ True)) ∧ ((ilt (irem d (360 : Int)) (0 : Int)) = false → ((true = true) ∧ ((True) ∧ (True) ∧ True) ∧ (((irem d (360 : Int)) : Int) = (d % 360)) ∧ True))) = ev sig_spec_Degrees xs_spec_Degrees Tryd.f89.ntmps (fun b => []) (codeOf Tryd.f89) 0 (initS [.s (.int d)]) (retK Tryd.f89.results.toList [.s (.int (d % 360))]) := by kernel_rfl
set_option maxHeartbeats 400000 in
theorem F_spec_Degrees : FunOK 89 g_spec_Degrees := by
  refine fun_F (by kernel_rfl) Tryd.func89 rfl (by kernel_rfl) sig_spec_Degrees_ok xs_spec_Degrees_ok ?_
  intro avs sg h hn hl
  unfold g_spec_Degrees at h
  split at h
  · rename_i d
    injection h with h; subst h
    refine ⟨by kernel_rfl, fun b => [], Eq.mp (V_spec_Degrees d) ?_⟩
    simp only [true_and, and_true, implies_true, and_self, forall_const, true_implies, lenA, lenL, SV.lenOK, Cont.lenOK] at hn hl ⊢
    simp only [ilt_t, ilt_f, ile_t, ile_f, ieq_t, ieq_f, bnot_e, band_e, bite_and, bite_or, NLt_e, NLe_e, NNe_e, NIs_e, imax_e, imin_e, irem_e, Bool.not_eq_true', Bool.not_eq_false', Bool.and_eq_true, Bool.or_eq_true, Bool.or_eq_false_iff, Bool.and_eq_false_iff, Cont.pts.injEq, Cont.ints.injEq, Cont.bools.injEq, Cont.ptss.injEq, Cont.intss.injEq, Cont.boolss.injEq, true_and, and_true, implies_true]
    obtain ⟨h1, h2, h3⟩ := tmod_emod d
    refine ⟨by omega, fun h => ?_, fun h => ?_⟩
    · rw [iadd_e (by omega) (by omega)]; exact h2 h
    · exact h3 h
  · cases h
def g_spec_Cosine : List AV → Option Sg
  | [.s (.int d)] => some ⟨True, [.s (.int (cosF d))]⟩
  | _ => none
def sig_spec_Cosine : FuncId → List AV → Option Sg := sigL [(89, g_spec_Degrees), (82, g_spec_Sine)]
def xs_spec_Cosine : XS := ⟨xsigL [], ysigL []⟩
theorem sig_spec_Cosine_ok : SigOK sig_spec_Cosine := sigL_cons F_spec_Degrees (sigL_cons F_spec_Sine sigL_nil)
theorem xs_spec_Cosine_ok : XSigOK xs_spec_Cosine := ⟨xsigL_nil, ysigL_nil⟩
theorem V_spec_Cosine (d : Int) : ((true = true) ∧ ((True) ∧ True) ∧ (true = true) ∧ ((True) ∧ ((True)) ∧ (True) ∧ ((True)) ∧ (True) ∧ True) ∧ (((sinF (iadd (d % 360) (90 : Int))) : Int) = (cosF d)) ∧ True) = ev sig_spec_Cosine xs_spec_Cosine Tryd.f83.ntmps (fun b => []) (codeOf Tryd.f83) 0 (initS [.s (.int d)]) (retK Tryd.f83.results.toList [.s (.int (cosF d))]) := by kernel_rfl
set_option maxHeartbeats 400000 in
theorem F_spec_Cosine : FunOK 83 g_spec_Cosine := by
  refine fun_F (by kernel_rfl) Tryd.func83 rfl (by kernel_rfl) sig_spec_Cosine_ok xs_spec_Cosine_ok ?_
  intro avs sg h hn hl
  unfold g_spec_Cosine at h
  split at h
  · rename_i d
    injection h with h; subst h
    refine ⟨by kernel_rfl, fun b => [], Eq.mp (V_spec_Cosine d) ?_⟩
    simp only [true_and, and_true, implies_true, and_self, forall_const, true_implies, lenA, lenL, SV.lenOK, Cont.lenOK] at hn hl ⊢
    try simp only [ilt_t, ilt_f, ile_t, ile_f, ieq_t, ieq_f, bnot_e, band_e, bite_and, bite_or, NLt_e, NLe_e, NNe_e, NIs_e, imax_e, imin_e, irem_e, Bool.not_eq_true', Bool.not_eq_false', Bool.and_eq_true, Bool.or_eq_true, Bool.or_eq_false_iff, Bool.and_eq_false_iff, Cont.pts.injEq, Cont.ints.injEq, Cont.bools.injEq, Cont.ptss.injEq, Cont.intss.injEq, Cont.boolss.injEq, true_and, and_true, implies_true]
    unfold cosF
    rw [iadd_e (by omega) (by omega)]
  · cases h
def g_spec_l1Floor : List AV → Option Sg
  | [.s (.int a), .s (.int b)] => some ⟨1 ≤ b ∧ -9223372036854775807 ≤ a ∧ a ≤ 9223372036854775807, [.s (.int (a / b))]⟩
  | _ => none
def sig_spec_l1Floor : FuncId → List AV → Option Sg := sigL []
def xs_spec_l1Floor : XS := ⟨xsigL [], ysigL []⟩
theorem sig_spec_l1Floor_ok : SigOK sig_spec_l1Floor := sigL_nil
theorem xs_spec_l1Floor_ok : XSigOK xs_spec_l1Floor := ⟨xsigL_nil, ysigL_nil⟩
theorem V_spec_l1Floor (a : Int) (b : Int) : ((true = true) ∧ ((True) ∧ True) ∧ (true = true) ∧ ((True) ∧ (True) ∧ (NNe b 0) ∧ (True) ∧ True) ∧ (true = true) ∧ ((True) ∧ (True) ∧ (NNe b 0) ∧ (True) ∧ True) ∧ ((ilt (irem a b) (0 : Int)) = true → ((true = true) ∧ ((True) ∧ (True) ∧ (True) ∧ True) ∧ (true = true) ∧ ((True) ∧ (True) ∧ True) ∧ (((isub (iquo a b) (1 : Int)) : Int) = (a / b)) ∧ True)) ∧ ((ilt (irem a b) (0 : Int)) = false → ((true = true) ∧ ((True) ∧ (True) ∧ True) ∧ (((iquo a b) : Int) = (a / b)) ∧ True))) = ev sig_spec_l1Floor xs_spec_l1Floor Tryd.f91.ntmps (fun b => []) (codeOf Tryd.f91) 0 (initS [.s (.int a), .s (.int b)]) (retK Tryd.f91.results.toList [.s (.int (a / b))]) := by kernel_rfl
set_option maxHeartbeats 400000 in
theorem F_spec_l1Floor : FunOK 91 g_spec_l1Floor := by
  refine fun_F (by kernel_rfl) Tryd.func91 rfl (by kernel_rfl) sig_spec_l1Floor_ok xs_spec_l1Floor_ok ?_
  intro avs sg h hn hl
  unfold g_spec_l1Floor at h
  split at h
  · rename_i a b
    injection h with h; subst h
    refine ⟨by kernel_rfl, fun b => [], Eq.mp (V_spec_l1Floor a b) ?_⟩
    simp only [true_and, and_true, implies_true, and_self, forall_const, true_implies, lenA, lenL, SV.lenOK, Cont.lenOK] at hn hl ⊢
    obtain ⟨n1, n2, n3⟩ := hn
    obtain ⟨q1, q2⟩ := tdiv_bd n1 n2 n3
    obtain ⟨f1, f2⟩ := floor_e (a := a) n1
    simp only [ilt_t, ilt_f, ile_t, ile_f, ieq_t, ieq_f, bnot_e, band_e, bite_and, bite_or, NLt_e, NLe_e, NNe_e, NIs_e, imax_e, imin_e, irem_e, Bool.not_eq_true', Bool.not_eq_false', Bool.and_eq_true, Bool.or_eq_true, Bool.or_eq_false_iff, Bool.and_eq_false_iff, Cont.pts.injEq, Cont.ints.injEq, Cont.bools.injEq, Cont.ptss.injEq, Cont.intss.injEq, Cont.boolss.injEq, true_and, and_true, implies_true]
    refine ⟨by omega, by omega, fun h => ?_, fun h => ?_⟩
    · rw [q1, q2 h, f1 h]
    · rw [q1, f2 h]
  · cases h
def g_spec_l1Round : List AV → Option Sg
  | [.s (.int a), .s (.int b)] => some ⟨1 ≤ b ∧ b ≤ 1000000 ∧ -1000000000000 ≤ a ∧ a ≤ 1000000000000, [.s (.int ((a + b / 2) / b))]⟩
  | _ => none
def sig_spec_l1Round : FuncId → List AV → Option Sg := sigL [(91, g_spec_l1Floor)]
def xs_spec_l1Round : XS := ⟨xsigL [], ysigL []⟩
theorem sig_spec_l1Round_ok : SigOK sig_spec_l1Round := sigL_cons F_spec_l1Floor sigL_nil
theorem xs_spec_l1Round_ok : XSigOK xs_spec_l1Round := ⟨xsigL_nil, ysigL_nil⟩
theorem V_spec_l1Round (a : Int) (b : Int) : ((true = true) ∧ ((True) ∧ True) ∧ (true = true) ∧ ((True) ∧ (True) ∧ (NNe (2 : Int) 0) ∧ (True) ∧ (True) ∧ ((1 ≤ b ∧ -9223372036854775807 ≤ (iadd a (iquo b (2 : Int))) ∧ (iadd a (iquo b (2 : Int))) ≤ 9223372036854775807)) ∧ (True) ∧ True) ∧ ((((iadd a (iquo b (2 : Int))) / b) : Int) = ((a + b / 2) / b)) ∧ True) = ev sig_spec_l1Round xs_spec_l1Round Tryd.f84.ntmps (fun b => []) (codeOf Tryd.f84) 0 (initS [.s (.int a), .s (.int b)]) (retK Tryd.f84.results.toList [.s (.int ((a + b / 2) / b))]) := by kernel_rfl
set_option maxHeartbeats 400000 in
theorem F_spec_l1Round : FunOK 84 g_spec_l1Round := by
  refine fun_F (by kernel_rfl) Tryd.func84 rfl (by kernel_rfl) sig_spec_l1Round_ok xs_spec_l1Round_ok ?_
  intro avs sg h hn hl
  unfold g_spec_l1Round at h
  split at h
  · rename_i a b
    injection h with h; subst h
    refine ⟨by kernel_rfl, fun b => [], Eq.mp (V_spec_l1Round a b) ?_⟩
    simp only [true_and, and_true, implies_true, and_self, forall_const, true_implies, lenA, lenL, SV.lenOK, Cont.lenOK] at hn hl ⊢
    simp only [ilt_t, ilt_f, ile_t, ile_f, ieq_t, ieq_f, bnot_e, band_e, bite_and, bite_or, NLt_e, NLe_e, NNe_e, NIs_e, imax_e, imin_e, irem_e, Bool.not_eq_true', Bool.not_eq_false', Bool.and_eq_true, Bool.or_eq_true, Bool.or_eq_false_iff, Bool.and_eq_false_iff, Cont.pts.injEq, Cont.ints.injEq, Cont.bools.injEq, Cont.ptss.injEq, Cont.intss.injEq, Cont.boolss.injEq, true_and, and_true, implies_true]
    have e : iquo b 2 = b / 2 := by rw [iquo_e (by omega) (by omega) (by omega), Int.tdiv_eq_ediv_of_nonneg (by omega)]
    rw [e, iadd_e (by omega) (by omega)]
    exact ⟨by omega, rfl⟩
  · cases h
def g_spec_l2Turn : List AV → Option Sg
  | [.agg [.int p1, .int p2], .s (.int d)] => some ⟨vB p1 p2 = true, [.agg [.int (rotX p1 p2 d), .int (rotY p1 p2 d)]]⟩
  | _ => none
def sig_spec_l2Turn : FuncId → List AV → Option Sg := sigL [(82, g_spec_Sine), (83, g_spec_Cosine), (84, g_spec_l1Round)]
def xs_spec_l2Turn : XS := ⟨xsigL [], ysigL []⟩
theorem sig_spec_l2Turn_ok : SigOK sig_spec_l2Turn := sigL_cons F_spec_Sine (sigL_cons F_spec_Cosine (sigL_cons F_spec_l1Round sigL_nil))
theorem xs_spec_l2Turn_ok : XSigOK xs_spec_l2Turn := ⟨xsigL_nil, ysigL_nil⟩
theorem V_spec_l2Turn (p1 : Int) (p2 : Int) (d : Int) : ((true = true) ∧ ((True) ∧ (True) ∧ True) ∧ (true = true) ∧ ((True) ∧ ((True)) ∧ (True) ∧ True) ∧ (true = true) ∧ ((True) ∧ ((True)) ∧ (True) ∧ True) ∧ (true = true) ∧ ((True) ∧ (True) ∧ (True) ∧ (True) ∧ (True) ∧ (True) ∧ (True) ∧ (True) ∧ (True) ∧ ((1 ≤ (4096 : Int) ∧ (4096 : Int) ≤ 1000000 ∧ -1000000000000 ≤ (isub (imul p1 (cosF d)) (imul p2 (sinF d))) ∧ (isub (imul p1 (cosF d)) (imul p2 (sinF d))) ≤ 1000000000000)) ∧ (True) ∧ (True) ∧ (True) ∧ (True) ∧ (True) ∧ (True) ∧ (True) ∧ (True) ∧ (True) ∧ ((1 ≤ (4096 : Int) ∧ (4096 : Int) ≤ 1000000 ∧ -1000000000000 ≤ (iadd (imul p1 (sinF d)) (imul p2 (cosF d))) ∧ (iadd (imul p1 (sinF d)) (imul p2 (cosF d))) ≤ 1000000000000)) ∧ (True) ∧ True) ∧ (True) ∧ ((((((isub (imul p1 (cosF d)) (imul p2 (sinF d))) + (4096 : Int) / 2) / (4096 : Int)) : Int) = (rotX p1 p2 d)) ∧ (((((iadd (imul p1 (sinF d)) (imul p2 (cosF d))) + (4096 : Int) / 2) / (4096 : Int)) : Int) = (rotY p1 p2 d)) ∧ True) ∧ True) = ev sig_spec_l2Turn xs_spec_l2Turn Tryd.f68.ntmps (fun b => []) (codeOf Tryd.f68) 0 (initS [.agg [.int p1, .int p2], .s (.int d)]) (retK Tryd.f68.results.toList [.agg [.int (rotX p1 p2 d), .int (rotY p1 p2 d)]]) := by kernel_rfl
set_option maxHeartbeats 400000 in
theorem F_spec_l2Turn : FunOK 68 g_spec_l2Turn := by
  refine fun_F (by kernel_rfl) Tryd.func68 rfl (by kernel_rfl) sig_spec_l2Turn_ok xs_spec_l2Turn_ok ?_
  intro avs sg h hn hl
  unfold g_spec_l2Turn at h
  split at h
  · rename_i p1 p2 d
    injection h with h; subst h
    refine ⟨by kernel_rfl, fun b => [], Eq.mp (V_spec_l2Turn p1 p2 d) ?_⟩
    simp only [true_and, and_true, implies_true, and_self, forall_const, true_implies, lenA, lenL, SV.lenOK, Cont.lenOK] at hn hl ⊢
    have c := cosF_bd d; have s := sinF_bd d
    have hv := vB_bd hn
    have q1 := mul40 (x := p1) (y := cosF d) (a := 10000) (by omega) (by omega) c
    have q2 := mul40 (x := p2) (y := sinF d) (a := 10000) (by omega) (by omega) s
    have q3 := mul40 (x := p1) (y := sinF d) (a := 10000) (by omega) (by omega) s
    have q4 := mul40 (x := p2) (y := cosF d) (a := 10000) (by omega) (by omega) c
    try simp only [ilt_t, ilt_f, ile_t, ile_f, ieq_t, ieq_f, bnot_e, band_e, bite_and, bite_or, NLt_e, NLe_e, NNe_e, NIs_e, imax_e, imin_e, irem_e, Bool.not_eq_true', Bool.not_eq_false', Bool.and_eq_true, Bool.or_eq_true, Bool.or_eq_false_iff, Bool.and_eq_false_iff, Cont.pts.injEq, Cont.ints.injEq, Cont.bools.injEq, Cont.ptss.injEq, Cont.intss.injEq, Cont.boolss.injEq, true_and, and_true, implies_true]
    rw [imul_e (a := p1) (b := cosF d) (by omega) (by omega), imul_e (a := p2) (b := sinF d) (by omega) (by omega), imul_e (a := p1) (b := sinF d) (by omega) (by omega), imul_e (a := p2) (b := cosF d) (by omega) (by omega), isub_e (by omega) (by omega), iadd_e (by omega) (by omega)]
    exact ⟨⟨⟨by omega, by omega, by omega, by omega⟩, by omega, by omega, by omega, by omega⟩, rfl, rfl⟩
  · cases h
def g_spec_l3Points : List AV → Option Sg
  | [.agg [.view (.ints a1), .view (.ints a2), .view (.ints a3)], .s (.view (.ints j))] => some ⟨jvB a1 a2 a3 j = true, [.nrow 75 (.pts (apL a1 j (ilen a1 + 1)))]⟩
  | _ => none
def sig_spec_l3Points : FuncId → List AV → Option Sg := sigL [(68, g_spec_l2Turn)]
def xs_spec_l3Points : XS := ⟨xsigL [], ysigL []⟩
theorem sig_spec_l3Points_ok : SigOK sig_spec_l3Points := sigL_cons F_spec_l2Turn sigL_nil
theorem xs_spec_l3Points_ok : XSigOK xs_spec_l3Points := ⟨xsigL_nil, ysigL_nil⟩
theorem V_spec_l3Points (a1 : List Int) (a2 : List Int) (a3 : List Int) (j : List Int) : ((true = true) ∧ ((True) ∧ (True) ∧ True) ∧ (true = true) ∧ ((True) ∧ (True) ∧ True) ∧ (True) ∧ (true = true) ∧ ((True) ∧ True) ∧ (true = true) ∧ ((True) ∧ (True) ∧ (True) ∧ True) ∧ (true = true) ∧ ((True) ∧ True) ∧ ∃ (I1 : List GV → Prop) (μ1 : List GV → Nat), (((true = true) ∧ ((((0 : Int) : Int) = (0 : Int)) ∧ (((0 : Int) : Int) = (0 : Int)) ∧ ((((0 : Int) : Int) = (0 : Int)) ∧ (((0 : Int) : Int) = (0 : Int)) ∧ True) ∧ (true = true) ∧ ((((0 : Int) : Int) = (0 : Int)) ∧ (((0 : Int) : Int) = (0 : Int)) ∧ True) ∧ (true = true) ∧ (true = true) ∧ (true = true) ∧ (((Cont.ints a1) = (Cont.ints a1)) ∧ ((Cont.ints a2) = (Cont.ints a2)) ∧ ((Cont.ints a3) = (Cont.ints a3)) ∧ True) ∧ ((Cont.ints j) = (Cont.ints j)) ∧ True) ∧ (((((0 : Int) : Int) = (0 : Int)) ∧ (((0 : Int) : Int) = (0 : Int)) ∧ True) ∧ ((true = true) ∧ ((Cont.pts [((0 : Int), (0 : Int))]) = (Cont.pts [((0 : Int), (0 : Int))]))) ∧ (((Cont.ints a1) = (Cont.ints a1)) ∧ ((Cont.ints a2) = (Cont.ints a2)) ∧ ((Cont.ints a3) = (Cont.ints a3)) ∧ True) ∧ ((true = true) ∧ ((Cont.pts []) = (Cont.pts []))) ∧ True)) ∧ (([GK.int, GK.pts, GK.int, GK.int, GK.int] : List GK) = ([GK.int, GK.pts, GK.int, GK.int, GK.int] : List GK)) ∧ I1 [GV.int (0 : Int), GV.pts [((0 : Int), (0 : Int))], GV.int (0 : Int), GV.int (0 : Int), GV.int (0 : Int)]) ∧ (∀ i1_0 : Int, ∀ l1_1 : List Pt, ∀ i1_2 : Int, ∀ i1_3 : Int, ∀ i1_4 : Int, I1 [GV.int i1_0, GV.pts l1_1, GV.int i1_2, GV.int i1_3, GV.int i1_4] → ((true = true) ∧ ((True) ∧ (True) ∧ (True) ∧ (True) ∧ True) ∧ ((ilt i1_0 (ilen j)) = true → ((true = true) ∧ ((True) ∧ (True) ∧ (True) ∧ (NLe 0 i1_0 ∧ NLt i1_0 (ilen j)) ∧ (True) ∧ (True) ∧ (True) ∧ True) ∧ (true = true) ∧ ((True) ∧ (True) ∧ (True) ∧ (NLe 0 i1_0 ∧ NLt i1_0 (ilen a1)) ∧ (True) ∧ (True) ∧ (True) ∧ ((vB (geti a1 i1_0) (0 : Int) = true)) ∧ (True) ∧ True) ∧ (True) ∧ (true = true) ∧ ((True) ∧ (True) ∧ (True) ∧ (True) ∧ (True) ∧ (True) ∧ (True) ∧ (True) ∧ (True) ∧ (True) ∧ (True) ∧ True) ∧ (True) ∧ (true = true) ∧ ((True) ∧ (True) ∧ (True) ∧ True) ∧ (NLe (ilen l1_1) 1000000000 ∧ NLe (ilen [((iadd i1_3 (rotX (geti a1 i1_0) (0 : Int) (iadd i1_2 (geti j i1_0)))), (iadd i1_4 (rotY (geti a1 i1_0) (0 : Int) (iadd i1_2 (geti j i1_0)))))]) 1000000000) ∧ (True) ∧ (true = true) ∧ ((True) ∧ (True) ∧ (True) ∧ True) ∧ ((true = true) ∧ ((((iadd i1_2 (geti j i1_0)) : Int) = (iadd i1_2 (geti j i1_0))) ∧ (((iadd i1_0 (1 : Int)) : Int) = (iadd i1_0 (1 : Int))) ∧ ((((0 : Int) : Int) = (0 : Int)) ∧ (((0 : Int) : Int) = (0 : Int)) ∧ True) ∧ (true = true) ∧ ((((0 : Int) : Int) = (0 : Int)) ∧ (((0 : Int) : Int) = (0 : Int)) ∧ True) ∧ (true = true) ∧ (true = true) ∧ (true = true) ∧ (((Cont.ints a1) = (Cont.ints a1)) ∧ ((Cont.ints a2) = (Cont.ints a2)) ∧ ((Cont.ints a3) = (Cont.ints a3)) ∧ True) ∧ ((Cont.ints j) = (Cont.ints j)) ∧ True) ∧ (((((iadd i1_3 (rotX (geti a1 i1_0) (0 : Int) (iadd i1_2 (geti j i1_0)))) : Int) = (iadd i1_3 (rotX (geti a1 i1_0) (0 : Int) (iadd i1_2 (geti j i1_0))))) ∧ (((iadd i1_4 (rotY (geti a1 i1_0) (0 : Int) (iadd i1_2 (geti j i1_0)))) : Int) = (iadd i1_4 (rotY (geti a1 i1_0) (0 : Int) (iadd i1_2 (geti j i1_0))))) ∧ True) ∧ ((true = true) ∧ ((Cont.pts (iapp l1_1 [((iadd i1_3 (rotX (geti a1 i1_0) (0 : Int) (iadd i1_2 (geti j i1_0)))), (iadd i1_4 (rotY (geti a1 i1_0) (0 : Int) (iadd i1_2 (geti j i1_0)))))])) = (Cont.pts (iapp l1_1 [((iadd i1_3 (rotX (geti a1 i1_0) (0 : Int) (iadd i1_2 (geti j i1_0)))), (iadd i1_4 (rotY (geti a1 i1_0) (0 : Int) (iadd i1_2 (geti j i1_0)))))])))) ∧ (((Cont.ints a1) = (Cont.ints a1)) ∧ ((Cont.ints a2) = (Cont.ints a2)) ∧ ((Cont.ints a3) = (Cont.ints a3)) ∧ True) ∧ ((true = true) ∧ ((Cont.pts []) = (Cont.pts []))) ∧ True)) ∧ ((([GK.int, GK.pts, GK.int, GK.int, GK.int] : List GK) = ([GK.int, GK.pts, GK.int, GK.int, GK.int] : List GK)) ∧ I1 [GV.int (iadd i1_0 (1 : Int)), GV.pts (iapp l1_1 [((iadd i1_3 (rotX (geti a1 i1_0) (0 : Int) (iadd i1_2 (geti j i1_0)))), (iadd i1_4 (rotY (geti a1 i1_0) (0 : Int) (iadd i1_2 (geti j i1_0)))))]), GV.int (iadd i1_2 (geti j i1_0)), GV.int (iadd i1_3 (rotX (geti a1 i1_0) (0 : Int) (iadd i1_2 (geti j i1_0)))), GV.int (iadd i1_4 (rotY (geti a1 i1_0) (0 : Int) (iadd i1_2 (geti j i1_0))))] ∧ μ1 [GV.int (iadd i1_0 (1 : Int)), GV.pts (iapp l1_1 [((iadd i1_3 (rotX (geti a1 i1_0) (0 : Int) (iadd i1_2 (geti j i1_0)))), (iadd i1_4 (rotY (geti a1 i1_0) (0 : Int) (iadd i1_2 (geti j i1_0)))))]), GV.int (iadd i1_2 (geti j i1_0)), GV.int (iadd i1_3 (rotX (geti a1 i1_0) (0 : Int) (iadd i1_2 (geti j i1_0)))), GV.int (iadd i1_4 (rotY (geti a1 i1_0) (0 : Int) (iadd i1_2 (geti j i1_0))))] < μ1 [GV.int i1_0, GV.pts l1_1, GV.int i1_2, GV.int i1_3, GV.int i1_4]))) ∧ ((ilt i1_0 (ilen j)) = false → ((true = true) ∧ ((True) ∧ (True) ∧ True) ∧ ((true = true) ∧ ((Cont.pts l1_1) = (Cont.pts (apL a1 j (ilen a1 + 1))))) ∧ True))))) = ev sig_spec_l3Points xs_spec_l3Points Tryd.f49.ntmps (fun b => if b == 0 then [.v 8, .b 7, .v 6, .b 5] else []) (codeOf Tryd.f49) 0 (initS [.agg [.view (.ints a1), .view (.ints a2), .view (.ints a3)], .s (.view (.ints j))]) (retK Tryd.f49.results.toList [.nrow 75 (.pts (apL a1 j (ilen a1 + 1)))]) := by kernel_rfl
set_option maxHeartbeats 400000 in
theorem F_spec_l3Points : FunOK 49 g_spec_l3Points := by
  refine fun_F (by kernel_rfl) Tryd.func49 rfl (by kernel_rfl) sig_spec_l3Points_ok xs_spec_l3Points_ok ?_
  intro avs sg h hn hl
  unfold g_spec_l3Points at h
  split at h
  · rename_i a1 a2 a3 j
    injection h with h; subst h
    refine ⟨by kernel_rfl, fun b => if b == 0 then [.v 8, .b 7, .v 6, .b 5] else [], Eq.mp (V_spec_l3Points a1 a2 a3 j) ?_⟩
    simp only [true_and, and_true, implies_true, and_self, forall_const, true_implies, lenA, lenL, SV.lenOK, Cont.lenOK] at hn hl ⊢
    obtain ⟨ha, hjl, hl4, hlk, hjk⟩ := jv_p hn
    simp only [ilt_t, ilt_f, ile_t, ile_f, ieq_t, ieq_f, bnot_e, band_e, bite_and, bite_or, NLt_e, NLe_e, NNe_e, NIs_e, imax_e, imin_e, irem_e, Bool.not_eq_true', Bool.not_eq_false', Bool.and_eq_true, Bool.or_eq_true, Bool.or_eq_false_iff, Bool.and_eq_false_iff, Cont.pts.injEq, Cont.ints.injEq, Cont.bools.injEq, Cont.ptss.injEq, Cont.intss.injEq, Cont.boolss.injEq, true_and, and_true, implies_true]
    refine ⟨fun | [.int k, .pts o, .int d, .int x, .int y] => 0 ≤ k ∧ k ≤ ilen a1 ∧ o = apL a1 j (k + 1) ∧ d = dirK j k ∧ x = apX a1 j k ∧ y = apY a1 j k | _ => False, fun | .int k :: _ => (ilen a1 - k).toNat | _ => 0, ⟨by omega, by omega, rfl, rfl, rfl, rfl⟩, ?_⟩
    rintro k o d x y ⟨k0, k1, rfl, rfl, rfl, rfl⟩
    refine ⟨fun hc => ?_, fun hc => ?_⟩
    · have hk : k < ilen a1 := by omega
      have b1 := jv_bd hn k0 k1
      have b2 := jv_bd hn (k := k + 1) (by omega) (by omega)
      have hL := hlk k k0 hk
      have hJ := hjk k k0 hk
      have hd := dirK_1 (J := j) k0
      have hx := apX_1 (L := a1) (J := j) k0
      have hy := apY_1 (L := a1) (J := j) k0
      have e1 : iadd (dirK j k) (geti j k) = dirK j (k + 1) := by rw [iadd_e (by omega) (by omega), hd]
      rw [e1]
      have e2 : iadd (apX a1 j k) (rotX (geti a1 k) 0 (dirK j (k + 1))) = apX a1 j (k + 1) := by rw [iadd_e (by omega) (by omega), hx]
      have e3 : iadd (apY a1 j k) (rotY (geti a1 k) 0 (dirK j (k + 1))) = apY a1 j (k + 1) := by rw [iadd_e (by omega) (by omega), hy]
      rw [e2, e3, apL_len (by omega), iadd_e (by omega) (by omega)]
      exact ⟨⟨k0, by omega⟩, ⟨⟨k0, by omega⟩, vB_mk (by omega)⟩, ⟨by omega, by rw [ilen_one]; omega⟩, ⟨by omega, by omega, apL_s (by omega), rfl, rfl, rfl⟩, by show (ilen a1 - (k + 1)).toNat < (ilen a1 - k).toNat; omega⟩
    · rw [show k = ilen a1 by omega]
  · cases h
def g_spec_l8Inside : List AV → Option Sg
  | [.s (.view (.pts l)), .agg [.int p1, .int p2]] => some ⟨True, [.s (.bool (insB l p1 p2))]⟩
  | _ => none
def sig_spec_l8Inside : FuncId → List AV → Option Sg := sigL [(70, g_spec_l2Cross)]
def xs_spec_l8Inside : XS := ⟨xsigL [], ysigL []⟩
theorem sig_spec_l8Inside_ok : SigOK sig_spec_l8Inside := sigL_cons F_spec_l2Cross sigL_nil
theorem xs_spec_l8Inside_ok : XSigOK xs_spec_l8Inside := ⟨xsigL_nil, ysigL_nil⟩
theorem V_spec_l8Inside (l : List Pt) (p1 : Int) (p2 : Int) : ((true = true) ∧ ((True) ∧ (True) ∧ True) ∧ (true = true) ∧ ((True) ∧ True) ∧ ∃ (I1 : List GV → Prop) (μ1 : List GV → Nat), (((true = true) ∧ (((false : Bool) = false) ∧ (((0 : Int) : Int) = (0 : Int)) ∧ (true = true) ∧ ((Cont.pts l) = (Cont.pts l)) ∧ (((p1 : Int) = p1) ∧ ((p2 : Int) = p2) ∧ True) ∧ True) ∧ ((((p1 : Int) = p1) ∧ ((p2 : Int) = p2) ∧ True) ∧ True)) ∧ (([GK.int, GK.bool] : List GK) = ([GK.int, GK.bool] : List GK)) ∧ I1 [GV.int (0 : Int), GV.bool false]) ∧ (∀ i1_0 : Int, ∀ b1_1 : Bool, I1 [GV.int i1_0, GV.bool b1_1] → ((true = true) ∧ ((True) ∧ (True) ∧ (True) ∧ (True) ∧ True) ∧ ((ilt i1_0 (ilen l)) = true → ((true = true) ∧ ((True) ∧ (True) ∧ (NLe 0 i1_0 ∧ NLt i1_0 (ilen l)) ∧ (True) ∧ (True) ∧ (True) ∧ (True) ∧ (True) ∧ (True) ∧ (NNe (ilen l) 0) ∧ (NLe 0 (irem (iadd i1_0 (1 : Int)) (ilen l)) ∧ NLt (irem (iadd i1_0 (1 : Int)) (ilen l)) (ilen l)) ∧ (True) ∧ (True) ∧ ((True)) ∧ (True) ∧ True) ∧ ((ilt (crW (getx l i1_0) (gety l i1_0) (getx l (irem (iadd i1_0 (1 : Int)) (ilen l))) (gety l (irem (iadd i1_0 (1 : Int)) (ilen l))) p1 p2) (0 : Int)) = true → ((true = true) ∧ ((True) ∧ True) ∧ ((false : Bool) = (insB l p1 p2)) ∧ True)) ∧ ((ilt (crW (getx l i1_0) (gety l i1_0) (getx l (irem (iadd i1_0 (1 : Int)) (ilen l))) (gety l (irem (iadd i1_0 (1 : Int)) (ilen l))) p1 p2) (0 : Int)) = false → ((true = true) ∧ ((True) ∧ (True) ∧ (True) ∧ True) ∧ ((true = true) ∧ (((b1_1 : Bool) = b1_1) ∧ (((iadd i1_0 (1 : Int)) : Int) = (iadd i1_0 (1 : Int))) ∧ (true = true) ∧ ((Cont.pts l) = (Cont.pts l)) ∧ (((p1 : Int) = p1) ∧ ((p2 : Int) = p2) ∧ True) ∧ True) ∧ ((((p1 : Int) = p1) ∧ ((p2 : Int) = p2) ∧ True) ∧ True)) ∧ ((([GK.int, GK.bool] : List GK) = ([GK.int, GK.bool] : List GK)) ∧ I1 [GV.int (iadd i1_0 (1 : Int)), GV.bool b1_1] ∧ μ1 [GV.int (iadd i1_0 (1 : Int)), GV.bool b1_1] < μ1 [GV.int i1_0, GV.bool b1_1]))))) ∧ ((ilt i1_0 (ilen l)) = false → ((true = true) ∧ ((True) ∧ True) ∧ ((true : Bool) = (insB l p1 p2)) ∧ True))))) = ev sig_spec_l8Inside xs_spec_l8Inside Tryd.f73.ntmps (fun b => if b == 0 then [.v 5, .v 4] else []) (codeOf Tryd.f73) 0 (initS [.s (.view (.pts l)), .agg [.int p1, .int p2]]) (retK Tryd.f73.results.toList [.s (.bool (insB l p1 p2))]) := by kernel_rfl
set_option maxHeartbeats 400000 in
theorem F_spec_l8Inside : FunOK 73 g_spec_l8Inside := by
  refine fun_F (by kernel_rfl) Tryd.func73 rfl (by kernel_rfl) sig_spec_l8Inside_ok xs_spec_l8Inside_ok ?_
  intro avs sg h hn hl
  unfold g_spec_l8Inside at h
  split at h
  · rename_i l p1 p2
    injection h with h; subst h
    refine ⟨by kernel_rfl, fun b => if b == 0 then [.v 5, .v 4] else [], Eq.mp (V_spec_l8Inside l p1 p2) ?_⟩
    simp only [true_and, and_true, implies_true, and_self, forall_const, true_implies, lenA, lenL, SV.lenOK, Cont.lenOK] at hn hl ⊢
    have h0 := ilen_0 l
    simp only [ilt_t, ilt_f, ile_t, ile_f, ieq_t, ieq_f, bnot_e, band_e, bite_and, bite_or, NLt_e, NLe_e, NNe_e, NIs_e, imax_e, imin_e, irem_e, Bool.not_eq_true', Bool.not_eq_false', Bool.and_eq_true, Bool.or_eq_true, Bool.or_eq_false_iff, Bool.and_eq_false_iff, Cont.pts.injEq, Cont.ints.injEq, Cont.bools.injEq, Cont.ptss.injEq, Cont.intss.injEq, Cont.boolss.injEq, true_and, and_true, implies_true]
    refine ⟨fun | .int k :: _ => 0 ≤ k ∧ k ≤ ilen l ∧ (∀ i, 0 ≤ i → i < k → insE l p1 p2 i = true) | _ => False, fun | .int k :: _ => (ilen l - k).toNat | _ => 0, ?_, ?_⟩
    · exact ⟨Int.le_refl 0, h0, fun j h0 h1 => absurd h1 (by omega)⟩
    · rintro k _ ⟨hk0, hk1, hk⟩
      simp only [ilt_t, ilt_f, ile_t, ile_f, ieq_t, ieq_f, bnot_e, band_e, bite_and, bite_or, NLt_e, NLe_e, NNe_e, NIs_e, imax_e, imin_e, irem_e, Bool.not_eq_true', Bool.not_eq_false', Bool.and_eq_true, Bool.or_eq_true, Bool.or_eq_false_iff, Bool.and_eq_false_iff, Cont.pts.injEq, Cont.ints.injEq, Cont.bools.injEq, Cont.ptss.injEq, Cont.intss.injEq, Cont.boolss.injEq, true_and, and_true, implies_true]
      refine ⟨fun hkn => ?_, fun hkn => ?_⟩
      · have e1 := iadd_1 hk0 hkn hl
        obtain ⟨n0, n1, _⟩ := nx_in hk0 hkn
        have e2 : (k + 1).tmod (ilen l) = nx l k := rfl
        simp only [e1, e2]
        have hne : ilen l ≠ 0 := by omega
        refine ⟨⟨⟨hk0, hkn⟩, hne, ⟨n0, n1⟩⟩, fun hx => ?_, fun hx => ?_⟩
        · have hE : insE l p1 p2 k = false := by
            unfold insE
            simp only [decide_eq_false_iff_not]
            omega
          unfold insB
          rw [allN_no k hk0 hkn hE]
        · have hE : insE l p1 p2 k = true := by
            unfold insE
            simp only [decide_eq_true_eq]
            omega
          exact ⟨⟨by omega, by omega, allN_up hk hE⟩, by omega⟩
      · unfold insB
        rw [allN_mk fun i h0 h1 => hk i h0 (by omega)]
  · cases h
def g_spec_l8On : List AV → Option Sg
  | [.agg [.int a1, .int a2], .agg [.int b1, .int b2], .agg [.int p1, .int p2]] => some ⟨True, [.s (.bool (btW a1 a2 b1 b2 p1 p2))]⟩
  | _ => none
def sig_spec_l8On : FuncId → List AV → Option Sg := sigL [(51, g_spec_l1In)]
def xs_spec_l8On : XS := ⟨xsigL [], ysigL []⟩
theorem sig_spec_l8On_ok : SigOK sig_spec_l8On := sigL_cons F_spec_l1In sigL_nil
theorem xs_spec_l8On_ok : XSigOK xs_spec_l8On := ⟨xsigL_nil, ysigL_nil⟩
theorem V_spec_l8On (a1 : Int) (a2 : Int) (b1 : Int) (b2 : Int) (p1 : Int) (p2 : Int) : ((true = true) ∧ ((True) ∧ (True) ∧ (True) ∧ (True) ∧ True) ∧ (true = true) ∧ ((True) ∧ (True) ∧ (True) ∧ (True) ∧ (True) ∧ (True) ∧ (True) ∧ (True) ∧ (True) ∧ (True) ∧ (True) ∧ (True) ∧ ((True)) ∧ (True) ∧ (NIs (inB p1 (imin a1 b1) (imax a1 b1)) true → True) ∧ (NIs (inB p1 (imin a1 b1) (imax a1 b1)) true → True) ∧ (NIs (inB p1 (imin a1 b1) (imax a1 b1)) true → True) ∧ (NIs (inB p1 (imin a1 b1) (imax a1 b1)) true → True) ∧ (NIs (inB p1 (imin a1 b1) (imax a1 b1)) true → True) ∧ (NIs (inB p1 (imin a1 b1) (imax a1 b1)) true → True) ∧ (NIs (inB p1 (imin a1 b1) (imax a1 b1)) true → True) ∧ (NIs (inB p1 (imin a1 b1) (imax a1 b1)) true → True) ∧ (NIs (inB p1 (imin a1 b1) (imax a1 b1)) true → True) ∧ (NIs (inB p1 (imin a1 b1) (imax a1 b1)) true → True) ∧ (NIs (inB p1 (imin a1 b1) (imax a1 b1)) true → True) ∧ (NIs (inB p1 (imin a1 b1) (imax a1 b1)) true → True) ∧ (NIs (inB p1 (imin a1 b1) (imax a1 b1)) true → (True)) ∧ (True) ∧ (True) ∧ True) ∧ (((bite (inB p1 (imin a1 b1) (imax a1 b1)) (inB p2 (imin a2 b2) (imax a2 b2)) false) : Bool) = (btW a1 a2 b1 b2 p1 p2)) ∧ True) = ev sig_spec_l8On xs_spec_l8On Tryd.f71.ntmps (fun b => []) (codeOf Tryd.f71) 0 (initS [.agg [.int a1, .int a2], .agg [.int b1, .int b2], .agg [.int p1, .int p2]]) (retK Tryd.f71.results.toList [.s (.bool (btW a1 a2 b1 b2 p1 p2))]) := by kernel_rfl
set_option maxHeartbeats 400000 in
theorem F_spec_l8On : FunOK 71 g_spec_l8On := by
  refine fun_F (by kernel_rfl) Tryd.func71 rfl (by kernel_rfl) sig_spec_l8On_ok xs_spec_l8On_ok ?_
  intro avs sg h hn hl
  unfold g_spec_l8On at h
  split at h
  · rename_i a1 a2 b1 b2 p1 p2
    injection h with h; subst h
    refine ⟨by kernel_rfl, fun b => [], Eq.mp (V_spec_l8On a1 a2 b1 b2 p1 p2) ?_⟩
    simp only [true_and, and_true, implies_true, and_self, forall_const, true_implies, lenA, lenL, SV.lenOK, Cont.lenOK] at hn hl ⊢
    simp only [ilt_t, ilt_f, ile_t, ile_f, ieq_t, ieq_f, bnot_e, band_e, bite_and, bite_or, NLt_e, NLe_e, NNe_e, NIs_e, imax_e, imin_e, irem_e, Bool.not_eq_true', Bool.not_eq_false', Bool.and_eq_true, Bool.or_eq_true, Bool.or_eq_false_iff, Bool.and_eq_false_iff, Cont.pts.injEq, Cont.ints.injEq, Cont.bools.injEq, Cont.ptss.injEq, Cont.intss.injEq, Cont.boolss.injEq, true_and, and_true, implies_true]
    rfl
  · cases h
def g_spec_l8Meet : List AV → Option Sg
  | [.agg [.int a1, .int a2], .agg [.int b1, .int b2], .agg [.int c1, .int c2], .agg [.int d1, .int d2]] => some ⟨vB a1 a2 = true ∧ vB b1 b2 = true ∧ vB c1 c2 = true ∧ vB d1 d2 = true, [.s (.bool (meetB (a1, a2) (b1, b2) (c1, c2) (d1, d2)))]⟩
  | _ => none
def sig_spec_l8Meet : FuncId → List AV → Option Sg := sigL [(70, g_spec_l2Cross), (69, g_spec_l2Sign), (71, g_spec_l8On)]
def xs_spec_l8Meet : XS := ⟨xsigL [], ysigL []⟩
theorem sig_spec_l8Meet_ok : SigOK sig_spec_l8Meet := sigL_cons F_spec_l2Cross (sigL_cons F_spec_l2Sign (sigL_cons F_spec_l8On sigL_nil))
theorem xs_spec_l8Meet_ok : XSigOK xs_spec_l8Meet := ⟨xsigL_nil, ysigL_nil⟩
theorem V_spec_l8Meet (a1 : Int) (a2 : Int) (b1 : Int) (b2 : Int) (c1 : Int) (c2 : Int) (d1 : Int) (d2 : Int) : ((true = true) ∧ ((True) ∧ (True) ∧ (True) ∧ (True) ∧ (True) ∧ True) ∧ (true = true) ∧ ((True) ∧ (True) ∧ (True) ∧ ((True)) ∧ ((True)) ∧ (True) ∧ True) ∧ (true = true) ∧ ((True) ∧ (True) ∧ (True) ∧ ((True)) ∧ ((True)) ∧ (True) ∧ True) ∧ (true = true) ∧ ((True) ∧ (True) ∧ (True) ∧ ((True)) ∧ ((True)) ∧ (True) ∧ True) ∧ (true = true) ∧ ((True) ∧ (True) ∧ (True) ∧ ((True)) ∧ ((True)) ∧ (True) ∧ True) ∧ (true = true) ∧ ((True) ∧ (True) ∧ (True) ∧ (True) ∧ (NIs (bnot (ieq (sgn (crW a1 a2 b1 b2 c1 c2)) (sgn (crW a1 a2 b1 b2 d1 d2)))) true → True) ∧ (NIs (bnot (ieq (sgn (crW a1 a2 b1 b2 c1 c2)) (sgn (crW a1 a2 b1 b2 d1 d2)))) true → True) ∧ (NIs (bnot (ieq (sgn (crW a1 a2 b1 b2 c1 c2)) (sgn (crW a1 a2 b1 b2 d1 d2)))) true → True) ∧ (True) ∧ True) ∧ ((bite (bnot (ieq (sgn (crW a1 a2 b1 b2 c1 c2)) (sgn (crW a1 a2 b1 b2 d1 d2)))) (bnot (ieq (sgn (crW c1 c2 d1 d2 a1 a2)) (sgn (crW c1 c2 d1 d2 b1 b2)))) false) = true → ((true = true) ∧ ((True) ∧ True) ∧ ((true : Bool) = (meetB (a1, a2) (b1, b2) (c1, c2) (d1, d2))) ∧ True)) ∧ ((bite (bnot (ieq (sgn (crW a1 a2 b1 b2 c1 c2)) (sgn (crW a1 a2 b1 b2 d1 d2)))) (bnot (ieq (sgn (crW c1 c2 d1 d2 a1 a2)) (sgn (crW c1 c2 d1 d2 b1 b2)))) false) = false → ((true = true) ∧ ((True) ∧ (True) ∧ (True) ∧ (NIs (ieq (sgn (crW a1 a2 b1 b2 c1 c2)) (0 : Int)) true → True) ∧ (NIs (ieq (sgn (crW a1 a2 b1 b2 c1 c2)) (0 : Int)) true → True) ∧ (NIs (ieq (sgn (crW a1 a2 b1 b2 c1 c2)) (0 : Int)) true → True) ∧ (NIs (ieq (sgn (crW a1 a2 b1 b2 c1 c2)) (0 : Int)) true → (True)) ∧ (True) ∧ (True) ∧ (NIs (bite (ieq (sgn (crW a1 a2 b1 b2 c1 c2)) (0 : Int)) (btW a1 a2 b1 b2 c1 c2) false) false → True) ∧ (NIs (bite (ieq (sgn (crW a1 a2 b1 b2 c1 c2)) (0 : Int)) (btW a1 a2 b1 b2 c1 c2) false) false → True) ∧ (NIs (bite (ieq (sgn (crW a1 a2 b1 b2 c1 c2)) (0 : Int)) (btW a1 a2 b1 b2 c1 c2) false) false → True) ∧ (NIs (bite (ieq (sgn (crW a1 a2 b1 b2 c1 c2)) (0 : Int)) (btW a1 a2 b1 b2 c1 c2) false) false → (NIs (ieq (sgn (crW a1 a2 b1 b2 d1 d2)) (0 : Int)) true → True)) ∧ (NIs (bite (ieq (sgn (crW a1 a2 b1 b2 c1 c2)) (0 : Int)) (btW a1 a2 b1 b2 c1 c2) false) false → (NIs (ieq (sgn (crW a1 a2 b1 b2 d1 d2)) (0 : Int)) true → True)) ∧ (NIs (bite (ieq (sgn (crW a1 a2 b1 b2 c1 c2)) (0 : Int)) (btW a1 a2 b1 b2 c1 c2) false) false → (NIs (ieq (sgn (crW a1 a2 b1 b2 d1 d2)) (0 : Int)) true → True)) ∧ (NIs (bite (ieq (sgn (crW a1 a2 b1 b2 c1 c2)) (0 : Int)) (btW a1 a2 b1 b2 c1 c2) false) false → (NIs (ieq (sgn (crW a1 a2 b1 b2 d1 d2)) (0 : Int)) true → (True))) ∧ (NIs (bite (ieq (sgn (crW a1 a2 b1 b2 c1 c2)) (0 : Int)) (btW a1 a2 b1 b2 c1 c2) false) false → True) ∧ (True) ∧ (True) ∧ (NIs (bite (bite (ieq (sgn (crW a1 a2 b1 b2 c1 c2)) (0 : Int)) (btW a1 a2 b1 b2 c1 c2) false) true (bite (ieq (sgn (crW a1 a2 b1 b2 d1 d2)) (0 : Int)) (btW a1 a2 b1 b2 d1 d2) false)) false → True) ∧ (NIs (bite (bite (ieq (sgn (crW a1 a2 b1 b2 c1 c2)) (0 : Int)) (btW a1 a2 b1 b2 c1 c2) false) true (bite (ieq (sgn (crW a1 a2 b1 b2 d1 d2)) (0 : Int)) (btW a1 a2 b1 b2 d1 d2) false)) false → True) ∧ (NIs (bite (bite (ieq (sgn (crW a1 a2 b1 b2 c1 c2)) (0 : Int)) (btW a1 a2 b1 b2 c1 c2) false) true (bite (ieq (sgn (crW a1 a2 b1 b2 d1 d2)) (0 : Int)) (btW a1 a2 b1 b2 d1 d2) false)) false → True) ∧ (NIs (bite (bite (ieq (sgn (crW a1 a2 b1 b2 c1 c2)) (0 : Int)) (btW a1 a2 b1 b2 c1 c2) false) true (bite (ieq (sgn (crW a1 a2 b1 b2 d1 d2)) (0 : Int)) (btW a1 a2 b1 b2 d1 d2) false)) false → (NIs (ieq (sgn (crW c1 c2 d1 d2 a1 a2)) (0 : Int)) true → True)) ∧ (NIs (bite (bite (ieq (sgn (crW a1 a2 b1 b2 c1 c2)) (0 : Int)) (btW a1 a2 b1 b2 c1 c2) false) true (bite (ieq (sgn (crW a1 a2 b1 b2 d1 d2)) (0 : Int)) (btW a1 a2 b1 b2 d1 d2) false)) false → (NIs (ieq (sgn (crW c1 c2 d1 d2 a1 a2)) (0 : Int)) true → True)) ∧ (NIs (bite (bite (ieq (sgn (crW a1 a2 b1 b2 c1 c2)) (0 : Int)) (btW a1 a2 b1 b2 c1 c2) false) true (bite (ieq (sgn (crW a1 a2 b1 b2 d1 d2)) (0 : Int)) (btW a1 a2 b1 b2 d1 d2) false)) false → (NIs (ieq (sgn (crW c1 c2 d1 d2 a1 a2)) (0 : Int)) true → True)) ∧ (NIs (bite (bite (ieq (sgn (crW a1 a2 b1 b2 c1 c2)) (0 : Int)) (btW a1 a2 b1 b2 c1 c2) false) true (bite (ieq (sgn (crW a1 a2 b1 b2 d1 d2)) (0 : Int)) (btW a1 a2 b1 b2 d1 d2) false)) false → (NIs (ieq (sgn (crW c1 c2 d1 d2 a1 a2)) (0 : Int)) true → (True))) ∧ (NIs (bite (bite (ieq (sgn (crW a1 a2 b1 b2 c1 c2)) (0 : Int)) (btW a1 a2 b1 b2 c1 c2) false) true (bite (ieq (sgn (crW a1 a2 b1 b2 d1 d2)) (0 : Int)) (btW a1 a2 b1 b2 d1 d2) false)) false → True) ∧ (True) ∧ (True) ∧ (NIs (bite (bite (bite (ieq (sgn (crW a1 a2 b1 b2 c1 c2)) (0 : Int)) (btW a1 a2 b1 b2 c1 c2) false) true (bite (ieq (sgn (crW a1 a2 b1 b2 d1 d2)) (0 : Int)) (btW a1 a2 b1 b2 d1 d2) false)) true (bite (ieq (sgn (crW c1 c2 d1 d2 a1 a2)) (0 : Int)) (btW c1 c2 d1 d2 a1 a2) false)) false → True) ∧ (NIs (bite (bite (bite (ieq (sgn (crW a1 a2 b1 b2 c1 c2)) (0 : Int)) (btW a1 a2 b1 b2 c1 c2) false) true (bite (ieq (sgn (crW a1 a2 b1 b2 d1 d2)) (0 : Int)) (btW a1 a2 b1 b2 d1 d2) false)) true (bite (ieq (sgn (crW c1 c2 d1 d2 a1 a2)) (0 : Int)) (btW c1 c2 d1 d2 a1 a2) false)) false → True) ∧ (NIs (bite (bite (bite (ieq (sgn (crW a1 a2 b1 b2 c1 c2)) (0 : Int)) (btW a1 a2 b1 b2 c1 c2) false) true (bite (ieq (sgn (crW a1 a2 b1 b2 d1 d2)) (0 : Int)) (btW a1 a2 b1 b2 d1 d2) false)) true (bite (ieq (sgn (crW c1 c2 d1 d2 a1 a2)) (0 : Int)) (btW c1 c2 d1 d2 a1 a2) false)) false → True) ∧ (NIs (bite (bite (bite (ieq (sgn (crW a1 a2 b1 b2 c1 c2)) (0 : Int)) (btW a1 a2 b1 b2 c1 c2) false) true (bite (ieq (sgn (crW a1 a2 b1 b2 d1 d2)) (0 : Int)) (btW a1 a2 b1 b2 d1 d2) false)) true (bite (ieq (sgn (crW c1 c2 d1 d2 a1 a2)) (0 : Int)) (btW c1 c2 d1 d2 a1 a2) false)) false → (NIs (ieq (sgn (crW c1 c2 d1 d2 b1 b2)) (0 : Int)) true → True)) ∧ (NIs (bite (bite (bite (ieq (sgn (crW a1 a2 b1 b2 c1 c2)) (0 : Int)) (btW a1 a2 b1 b2 c1 c2) false) true (bite (ieq (sgn (crW a1 a2 b1 b2 d1 d2)) (0 : Int)) (btW a1 a2 b1 b2 d1 d2) false)) true (bite (ieq (sgn (crW c1 c2 d1 d2 a1 a2)) (0 : Int)) (btW c1 c2 d1 d2 a1 a2) false)) false → (NIs (ieq (sgn (crW c1 c2 d1 d2 b1 b2)) (0 : Int)) true → True)) ∧ (NIs (bite (bite (bite (ieq (sgn (crW a1 a2 b1 b2 c1 c2)) (0 : Int)) (btW a1 a2 b1 b2 c1 c2) false) true (bite (ieq (sgn (crW a1 a2 b1 b2 d1 d2)) (0 : Int)) (btW a1 a2 b1 b2 d1 d2) false)) true (bite (ieq (sgn (crW c1 c2 d1 d2 a1 a2)) (0 : Int)) (btW c1 c2 d1 d2 a1 a2) false)) false → (NIs (ieq (sgn (crW c1 c2 d1 d2 b1 b2)) (0 : Int)) true → True)) ∧ (NIs (bite (bite (bite (ieq (sgn (crW a1 a2 b1 b2 c1 c2)) (0 : Int)) (btW a1 a2 b1 b2 c1 c2) false) true (bite (ieq (sgn (crW a1 a2 b1 b2 d1 d2)) (0 : Int)) (btW a1 a2 b1 b2 d1 d2) false)) true (bite (ieq (sgn (crW c1 c2 d1 d2 a1 a2)) (0 : Int)) (btW c1 c2 d1 d2 a1 a2) false)) false → (NIs (ieq (sgn (crW c1 c2 d1 d2 b1 b2)) (0 : Int)) true → (True))) ∧ (NIs (bite (bite (bite (ieq (sgn (crW a1 a2 b1 b2 c1 c2)) (0 : Int)) (btW a1 a2 b1 b2 c1 c2) false) true (bite (ieq (sgn (crW a1 a2 b1 b2 d1 d2)) (0 : Int)) (btW a1 a2 b1 b2 d1 d2) false)) true (bite (ieq (sgn (crW c1 c2 d1 d2 a1 a2)) (0 : Int)) (btW c1 c2 d1 d2 a1 a2) false)) false → True) ∧ (True) ∧ (True) ∧ True) ∧ (((bite (bite (bite (bite (ieq (sgn (crW a1 a2 b1 b2 c1 c2)) (0 : Int)) (btW a1 a2 b1 b2 c1 c2) false) true (bite (ieq (sgn (crW a1 a2 b1 b2 d1 d2)) (0 : Int)) (btW a1 a2 b1 b2 d1 d2) false)) true (bite (ieq (sgn (crW c1 c2 d1 d2 a1 a2)) (0 : Int)) (btW c1 c2 d1 d2 a1 a2) false)) true (bite (ieq (sgn (crW c1 c2 d1 d2 b1 b2)) (0 : Int)) (btW c1 c2 d1 d2 b1 b2) false)) : Bool) = (meetB (a1, a2) (b1, b2) (c1, c2) (d1, d2))) ∧ True))) = ev sig_spec_l8Meet xs_spec_l8Meet Tryd.f50.ntmps (fun b => []) (codeOf Tryd.f50) 0 (initS [.agg [.int a1, .int a2], .agg [.int b1, .int b2], .agg [.int c1, .int c2], .agg [.int d1, .int d2]]) (retK Tryd.f50.results.toList [.s (.bool (meetB (a1, a2) (b1, b2) (c1, c2) (d1, d2)))]) := by kernel_rfl
set_option maxHeartbeats 400000 in
theorem F_spec_l8Meet : FunOK 50 g_spec_l8Meet := by
  refine fun_F (by kernel_rfl) Tryd.func50 rfl (by kernel_rfl) sig_spec_l8Meet_ok xs_spec_l8Meet_ok ?_
  intro avs sg h hn hl
  unfold g_spec_l8Meet at h
  split at h
  · rename_i a1 a2 b1 b2 c1 c2 d1 d2
    injection h with h; subst h
    refine ⟨by kernel_rfl, fun b => [], Eq.mp (V_spec_l8Meet a1 a2 b1 b2 c1 c2 d1 d2) ?_⟩
    simp only [true_and, and_true, implies_true, and_self, forall_const, true_implies, lenA, lenL, SV.lenOK, Cont.lenOK] at hn hl ⊢
    obtain ⟨va, vb, vc, vd⟩ := hn
    simp only [ilt_t, ilt_f, ile_t, ile_f, ieq_t, ieq_f, bnot_e, band_e, bite_and, bite_or, NLt_e, NLe_e, NNe_e, NIs_e, imax_e, imin_e, irem_e, Bool.not_eq_true', Bool.not_eq_false', Bool.and_eq_true, Bool.or_eq_true, Bool.or_eq_false_iff, Bool.and_eq_false_iff, Cont.pts.injEq, Cont.ints.injEq, Cont.bools.injEq, Cont.ptss.injEq, Cont.intss.injEq, Cont.boolss.injEq, true_and, and_true, implies_true, crW_e va vb vc, crW_e va vb vd, crW_e vc vd va, crW_e vc vd vb, btW_e, Int.sub_zero, imul_sgn, ieq_sgn]
    rw [← meetS_eq]; unfold meetS
    generalize crs (a1, a2) (b1, b2) (c1, c2) = x1 at *
    generalize crs (a1, a2) (b1, b2) (d1, d2) = x2 at *
    generalize crs (c1, c2) (d1, d2) (a1, a2) = x3 at *
    generalize crs (c1, c2) (d1, d2) (b1, b2) = x4 at *
    refine ⟨fun h => by simp [h.1, h.2], fun h => ?_⟩
    have e : (decide (sgn x1 ≠ sgn x2) && decide (sgn x3 ≠ sgn x4)) = false := by
      rcases h with h | h <;> simp [h] <;> omega
    rw [e, Bool.false_or]
  · cases h
def g_spec_l8Hit : List AV → Option Sg
  | [.s (.view (.pts l)), .agg [.int a1, .int a2], .agg [.int b1, .int b2]] => some ⟨allB l = true ∧ vB a1 a2 = true ∧ vB b1 b2 = true, [.s (.bool (hitB l a1 a2 b1 b2))]⟩
  | _ => none
def sig_spec_l8Hit : FuncId → List AV → Option Sg := sigL [(73, g_spec_l8Inside), (50, g_spec_l8Meet)]
def xs_spec_l8Hit : XS := ⟨xsigL [], ysigL []⟩
theorem sig_spec_l8Hit_ok : SigOK sig_spec_l8Hit := sigL_cons F_spec_l8Inside (sigL_cons F_spec_l8Meet sigL_nil)
theorem xs_spec_l8Hit_ok : XSigOK xs_spec_l8Hit := ⟨xsigL_nil, ysigL_nil⟩
theorem V_spec_l8Hit (l : List Pt) (a1 : Int) (a2 : Int) (b1 : Int) (b2 : Int) : ((true = true) ∧ ((True) ∧ (True) ∧ (True) ∧ True) ∧ (true = true) ∧ ((True) ∧ (True) ∧ ((True)) ∧ (True) ∧ (NIs (insB l a1 a2) false → True) ∧ (NIs (insB l a1 a2) false → True) ∧ (NIs (insB l a1 a2) false → (True)) ∧ (True) ∧ True) ∧ ((bite (insB l a1 a2) true (insB l b1 b2)) = true → ((true = true) ∧ ((True) ∧ True) ∧ ((true : Bool) = (hitB l a1 a2 b1 b2)) ∧ True)) ∧ ((bite (insB l a1 a2) true (insB l b1 b2)) = false → ((true = true) ∧ ((True) ∧ True) ∧ ∃ (I1 : List GV → Prop) (μ1 : List GV → Nat), (((true = true) ∧ (((false : Bool) = false) ∧ (((0 : Int) : Int) = (0 : Int)) ∧ ((Cont.pts l) = (Cont.pts l)) ∧ (((a1 : Int) = a1) ∧ ((a2 : Int) = a2) ∧ True) ∧ (((insB l a1 a2) : Bool) = (insB l a1 a2)) ∧ (((insB l a1 a2) : Bool) = (insB l a1 a2)) ∧ (((bite (insB l a1 a2) true (insB l b1 b2)) : Bool) = (bite (insB l a1 a2) true (insB l b1 b2))) ∧ (true = true) ∧ (true = true) ∧ ((Cont.pts l) = (Cont.pts l)) ∧ (((a1 : Int) = a1) ∧ ((a2 : Int) = a2) ∧ True) ∧ (((b1 : Int) = b1) ∧ ((b2 : Int) = b2) ∧ True) ∧ True) ∧ ((((a1 : Int) = a1) ∧ ((a2 : Int) = a2) ∧ True) ∧ (((b1 : Int) = b1) ∧ ((b2 : Int) = b2) ∧ True) ∧ True)) ∧ (([GK.int, GK.bool] : List GK) = ([GK.int, GK.bool] : List GK)) ∧ I1 [GV.int (0 : Int), GV.bool false]) ∧ (∀ i1_0 : Int, ∀ b1_1 : Bool, I1 [GV.int i1_0, GV.bool b1_1] → ((true = true) ∧ ((True) ∧ (True) ∧ (True) ∧ (True) ∧ True) ∧ ((ilt i1_0 (ilen l)) = true → ((true = true) ∧ ((True) ∧ (True) ∧ (True) ∧ (True) ∧ (NLe 0 i1_0 ∧ NLt i1_0 (ilen l)) ∧ (True) ∧ (True) ∧ (True) ∧ (True) ∧ (True) ∧ (True) ∧ (NNe (ilen l) 0) ∧ (NLe 0 (irem (iadd i1_0 (1 : Int)) (ilen l)) ∧ NLt (irem (iadd i1_0 (1 : Int)) (ilen l)) (ilen l)) ∧ (True) ∧ ((vB a1 a2 = true ∧ vB b1 b2 = true ∧ vB (getx l i1_0) (gety l i1_0) = true ∧ vB (getx l (irem (iadd i1_0 (1 : Int)) (ilen l))) (gety l (irem (iadd i1_0 (1 : Int)) (ilen l))) = true)) ∧ True) ∧ ((meetB (a1, a2) (b1, b2) ((getx l i1_0), (gety l i1_0)) ((getx l (irem (iadd i1_0 (1 : Int)) (ilen l))), (gety l (irem (iadd i1_0 (1 : Int)) (ilen l))))) = true → ((true = true) ∧ ((True) ∧ True) ∧ ((true : Bool) = (hitB l a1 a2 b1 b2)) ∧ True)) ∧ ((meetB (a1, a2) (b1, b2) ((getx l i1_0), (gety l i1_0)) ((getx l (irem (iadd i1_0 (1 : Int)) (ilen l))), (gety l (irem (iadd i1_0 (1 : Int)) (ilen l))))) = false → ((true = true) ∧ ((True) ∧ (True) ∧ (True) ∧ True) ∧ ((true = true) ∧ (((b1_1 : Bool) = b1_1) ∧ (((iadd i1_0 (1 : Int)) : Int) = (iadd i1_0 (1 : Int))) ∧ ((Cont.pts l) = (Cont.pts l)) ∧ (((a1 : Int) = a1) ∧ ((a2 : Int) = a2) ∧ True) ∧ (((insB l a1 a2) : Bool) = (insB l a1 a2)) ∧ (((insB l a1 a2) : Bool) = (insB l a1 a2)) ∧ (((bite (insB l a1 a2) true (insB l b1 b2)) : Bool) = (bite (insB l a1 a2) true (insB l b1 b2))) ∧ (true = true) ∧ (true = true) ∧ ((Cont.pts l) = (Cont.pts l)) ∧ (((a1 : Int) = a1) ∧ ((a2 : Int) = a2) ∧ True) ∧ (((b1 : Int) = b1) ∧ ((b2 : Int) = b2) ∧ True) ∧ True) ∧ ((((a1 : Int) = a1) ∧ ((a2 : Int) = a2) ∧ True) ∧ (((b1 : Int) = b1) ∧ ((b2 : Int) = b2) ∧ True) ∧ True)) ∧ ((([GK.int, GK.bool] : List GK) = ([GK.int, GK.bool] : List GK)) ∧ I1 [GV.int (iadd i1_0 (1 : Int)), GV.bool b1_1] ∧ μ1 [GV.int (iadd i1_0 (1 : Int)), GV.bool b1_1] < μ1 [GV.int i1_0, GV.bool b1_1]))))) ∧ ((ilt i1_0 (ilen l)) = false → ((true = true) ∧ ((True) ∧ True) ∧ ((false : Bool) = (hitB l a1 a2 b1 b2)) ∧ True))))))) = ev sig_spec_l8Hit xs_spec_l8Hit Tryd.f56.ntmps (fun b => if b == 0 then [.v 7, .v 6] else []) (codeOf Tryd.f56) 0 (initS [.s (.view (.pts l)), .agg [.int a1, .int a2], .agg [.int b1, .int b2]]) (retK Tryd.f56.results.toList [.s (.bool (hitB l a1 a2 b1 b2))]) := by kernel_rfl
set_option maxHeartbeats 400000 in
theorem F_spec_l8Hit : FunOK 56 g_spec_l8Hit := by
  refine fun_F (by kernel_rfl) Tryd.func56 rfl (by kernel_rfl) sig_spec_l8Hit_ok xs_spec_l8Hit_ok ?_
  intro avs sg h hn hl
  unfold g_spec_l8Hit at h
  split at h
  · rename_i l a1 a2 b1 b2
    injection h with h; subst h
    refine ⟨by kernel_rfl, fun b => if b == 0 then [.v 7, .v 6] else [], Eq.mp (V_spec_l8Hit l a1 a2 b1 b2) ?_⟩
    simp only [true_and, and_true, implies_true, and_self, forall_const, true_implies, lenA, lenL, SV.lenOK, Cont.lenOK] at hn hl ⊢
    have h0 := ilen_0 l
    obtain ⟨ha, va, vb⟩ := hn
    simp only [ilt_t, ilt_f, ile_t, ile_f, ieq_t, ieq_f, bnot_e, band_e, bite_and, bite_or, NLt_e, NLe_e, NNe_e, NIs_e, imax_e, imin_e, irem_e, Bool.not_eq_true', Bool.not_eq_false', Bool.and_eq_true, Bool.or_eq_true, Bool.or_eq_false_iff, Bool.and_eq_false_iff, Cont.pts.injEq, Cont.ints.injEq, Cont.bools.injEq, Cont.ptss.injEq, Cont.intss.injEq, Cont.boolss.injEq, true_and, and_true, implies_true]
    refine ⟨?_, fun hi => ?_⟩
    · rintro (h | h) <;> simp [hitB, h]
    · refine ⟨fun | .int k :: _ => 0 ≤ k ∧ k ≤ ilen l ∧ (∀ i, 0 ≤ i → i < k → hitE l a1 a2 b1 b2 i = false) | _ => False, fun | .int k :: _ => (ilen l - k).toNat | _ => 0, ?_, ?_⟩
      · exact ⟨Int.le_refl 0, h0, fun j h0 h1 => absurd h1 (by omega)⟩
      · rintro k _ ⟨hk0, hk1, hk⟩
        simp only [ilt_t, ilt_f, ile_t, ile_f, ieq_t, ieq_f, bnot_e, band_e, bite_and, bite_or, NLt_e, NLe_e, NNe_e, NIs_e, imax_e, imin_e, irem_e, Bool.not_eq_true', Bool.not_eq_false', Bool.and_eq_true, Bool.or_eq_true, Bool.or_eq_false_iff, Bool.and_eq_false_iff, Cont.pts.injEq, Cont.ints.injEq, Cont.bools.injEq, Cont.ptss.injEq, Cont.intss.injEq, Cont.boolss.injEq, true_and, and_true, implies_true]
        refine ⟨fun hkn => ?_, fun hkn => ?_⟩
        · have e1 := iadd_1 hk0 hkn hl
          obtain ⟨n0, n1, _⟩ := nx_in hk0 hkn
          have e2 : (k + 1).tmod (ilen l) = nx l k := rfl
          simp only [e1, e2]
          have hne : ilen l ≠ 0 := by omega
          have v1 := allB_at ha hk0 hkn
          have v2 := allB_at ha n0 n1
          refine ⟨⟨⟨hk0, hkn⟩, hne, ⟨n0, n1⟩, va, vb, v1, v2⟩, fun hx => ?_, fun hx => ?_⟩
          · have hE : hitE l a1 a2 b1 b2 k = true := hx
            simp [hitB, anyN_mk k hk0 hkn hE]
          · have hE : hitE l a1 a2 b1 b2 k = false := hx
            exact ⟨⟨by omega, by omega, upTo hk hE⟩, by omega⟩
        · have : anyN (ilen l) (hitE l a1 a2 b1 b2) = false := anyN_no fun j j0 j1 => hk j j0 (by omega)
          simp [hitB, hi.1, hi.2, this]
  · cases h
def g_spec_l10Clear : List AV → Option Sg
  | [.agg [.view (.ints a1), .view (.ints a2), .view (.ints a3)], .s (.view (.ints j)), .s (.view (.ptss l))] => some ⟨jvB a1 a2 a3 j = true ∧ sceneB l = true, [.s (.bool (acB a1 j l))]⟩
  | _ => none
def sig_spec_l10Clear : FuncId → List AV → Option Sg := sigL [(49, g_spec_l3Points), (56, g_spec_l8Hit)]
def xs_spec_l10Clear : XS := ⟨xsigL [], ysigL []⟩
theorem sig_spec_l10Clear_ok : SigOK sig_spec_l10Clear := sigL_cons F_spec_l3Points (sigL_cons F_spec_l8Hit sigL_nil)
theorem xs_spec_l10Clear_ok : XSigOK xs_spec_l10Clear := ⟨xsigL_nil, ysigL_nil⟩
theorem V_spec_l10Clear (a1 : List Int) (a2 : List Int) (a3 : List Int) (j : List Int) (l : List (List Pt)) : ((true = true) ∧ ((True) ∧ (True) ∧ True) ∧ (true = true) ∧ ((True) ∧ (True) ∧ ((jvB a1 a2 a3 j = true)) ∧ (True) ∧ True) ∧ (true = true) ∧ ((True) ∧ True) ∧ ∃ (I1 : List GV → Prop) (μ1 : List GV → Nat), (((true = true) ∧ (((false : Bool) = false) ∧ (((0 : Int) : Int) = (0 : Int)) ∧ (((Cont.ints a1) = (Cont.ints a1)) ∧ ((Cont.ints a2) = (Cont.ints a2)) ∧ ((Cont.ints a3) = (Cont.ints a3)) ∧ True) ∧ ((Cont.ints j) = (Cont.ints j)) ∧ (true = true) ∧ (true = true) ∧ (true = true) ∧ (((Cont.ints a1) = (Cont.ints a1)) ∧ ((Cont.ints a2) = (Cont.ints a2)) ∧ ((Cont.ints a3) = (Cont.ints a3)) ∧ True) ∧ ((Cont.ints j) = (Cont.ints j)) ∧ ((Cont.ptss l) = (Cont.ptss l)) ∧ True) ∧ (((true = true) ∧ ((Cont.pts (apL a1 j (ilen a1 + 1))) = (Cont.pts (apL a1 j (ilen a1 + 1))))) ∧ (((Cont.ints a1) = (Cont.ints a1)) ∧ ((Cont.ints a2) = (Cont.ints a2)) ∧ ((Cont.ints a3) = (Cont.ints a3)) ∧ True) ∧ True)) ∧ (([GK.int, GK.bool] : List GK) = ([GK.int, GK.bool] : List GK)) ∧ I1 [GV.int (0 : Int), GV.bool false]) ∧ (∀ i1_0 : Int, ∀ b1_1 : Bool, I1 [GV.int i1_0, GV.bool b1_1] → ((true = true) ∧ ((True) ∧ (True) ∧ (True) ∧ (True) ∧ (True) ∧ True) ∧ ((ilt (iadd i1_0 (1 : Int)) (ilen (apL a1 j (ilen a1 + 1)))) = true → ((true = true) ∧ ((True) ∧ True) ∧ ∃ (I2 : List GV → Prop) (μ2 : List GV → Nat), (((true = true) ∧ (((b1_1 : Bool) = b1_1) ∧ (((0 : Int) : Int) = (0 : Int)) ∧ ((i1_0 : Int) = i1_0) ∧ (((iadd i1_0 (1 : Int)) : Int) = (iadd i1_0 (1 : Int))) ∧ (true = true) ∧ (((ilen (apL a1 j (ilen a1 + 1))) : Int) = (ilen (apL a1 j (ilen a1 + 1)))) ∧ (((ilt (iadd i1_0 (1 : Int)) (ilen (apL a1 j (ilen a1 + 1)))) : Bool) = (ilt (iadd i1_0 (1 : Int)) (ilen (apL a1 j (ilen a1 + 1))))) ∧ ((i1_0 : Int) = i1_0) ∧ (((Cont.ints a1) = (Cont.ints a1)) ∧ ((Cont.ints a2) = (Cont.ints a2)) ∧ ((Cont.ints a3) = (Cont.ints a3)) ∧ True) ∧ ((Cont.ints j) = (Cont.ints j)) ∧ (true = true) ∧ (true = true) ∧ (true = true) ∧ (((Cont.ints a1) = (Cont.ints a1)) ∧ ((Cont.ints a2) = (Cont.ints a2)) ∧ ((Cont.ints a3) = (Cont.ints a3)) ∧ True) ∧ ((Cont.ints j) = (Cont.ints j)) ∧ ((Cont.ptss l) = (Cont.ptss l)) ∧ True) ∧ (((true = true) ∧ ((Cont.pts (apL a1 j (ilen a1 + 1))) = (Cont.pts (apL a1 j (ilen a1 + 1))))) ∧ (((Cont.ints a1) = (Cont.ints a1)) ∧ ((Cont.ints a2) = (Cont.ints a2)) ∧ ((Cont.ints a3) = (Cont.ints a3)) ∧ True) ∧ True)) ∧ (([GK.int, GK.bool] : List GK) = ([GK.int, GK.bool] : List GK)) ∧ I2 [GV.int (0 : Int), GV.bool b1_1]) ∧ (∀ i2_0 : Int, ∀ b2_1 : Bool, I2 [GV.int i2_0, GV.bool b2_1] → ((true = true) ∧ ((True) ∧ (True) ∧ (True) ∧ (True) ∧ True) ∧ ((ilt i2_0 (ilen l)) = true → ((true = true) ∧ ((True) ∧ (True) ∧ (NLe 0 i2_0 ∧ NLt i2_0 (ilen l)) ∧ (True) ∧ (True) ∧ (True) ∧ (NLe 0 i1_0 ∧ NLt i1_0 (ilen (apL a1 j (ilen a1 + 1)))) ∧ (NLt i1_0 (ilen (apL a1 j (ilen a1 + 1)))) ∧ (True) ∧ (True) ∧ (True) ∧ (NLe 0 (iadd i1_0 (1 : Int)) ∧ NLt (iadd i1_0 (1 : Int)) (ilen (apL a1 j (ilen a1 + 1)))) ∧ (NLt (iadd i1_0 (1 : Int)) (ilen (apL a1 j (ilen a1 + 1)))) ∧ ((allB (getl l i2_0) = true ∧ vB (getx (apL a1 j (ilen a1 + 1)) i1_0) (gety (apL a1 j (ilen a1 + 1)) i1_0) = true ∧ vB (getx (apL a1 j (ilen a1 + 1)) (iadd i1_0 (1 : Int))) (gety (apL a1 j (ilen a1 + 1)) (iadd i1_0 (1 : Int))) = true)) ∧ True) ∧ ((hitB (getl l i2_0) (getx (apL a1 j (ilen a1 + 1)) i1_0) (gety (apL a1 j (ilen a1 + 1)) i1_0) (getx (apL a1 j (ilen a1 + 1)) (iadd i1_0 (1 : Int))) (gety (apL a1 j (ilen a1 + 1)) (iadd i1_0 (1 : Int)))) = true → ((true = true) ∧ ((True) ∧ True) ∧ ((false : Bool) = (acB a1 j l)) ∧ True)) ∧ ((hitB (getl l i2_0) (getx (apL a1 j (ilen a1 + 1)) i1_0) (gety (apL a1 j (ilen a1 + 1)) i1_0) (getx (apL a1 j (ilen a1 + 1)) (iadd i1_0 (1 : Int))) (gety (apL a1 j (ilen a1 + 1)) (iadd i1_0 (1 : Int)))) = false → ((true = true) ∧ ((True) ∧ (True) ∧ (True) ∧ True) ∧ ((true = true) ∧ (((b2_1 : Bool) = b2_1) ∧ (((iadd i2_0 (1 : Int)) : Int) = (iadd i2_0 (1 : Int))) ∧ ((i1_0 : Int) = i1_0) ∧ (((iadd i1_0 (1 : Int)) : Int) = (iadd i1_0 (1 : Int))) ∧ (true = true) ∧ (((ilen (apL a1 j (ilen a1 + 1))) : Int) = (ilen (apL a1 j (ilen a1 + 1)))) ∧ (((ilt (iadd i1_0 (1 : Int)) (ilen (apL a1 j (ilen a1 + 1)))) : Bool) = (ilt (iadd i1_0 (1 : Int)) (ilen (apL a1 j (ilen a1 + 1))))) ∧ ((i1_0 : Int) = i1_0) ∧ (((Cont.ints a1) = (Cont.ints a1)) ∧ ((Cont.ints a2) = (Cont.ints a2)) ∧ ((Cont.ints a3) = (Cont.ints a3)) ∧ True) ∧ ((Cont.ints j) = (Cont.ints j)) ∧ (true = true) ∧ (true = true) ∧ (true = true) ∧ (((Cont.ints a1) = (Cont.ints a1)) ∧ ((Cont.ints a2) = (Cont.ints a2)) ∧ ((Cont.ints a3) = (Cont.ints a3)) ∧ True) ∧ ((Cont.ints j) = (Cont.ints j)) ∧ ((Cont.ptss l) = (Cont.ptss l)) ∧ True) ∧ (((true = true) ∧ ((Cont.pts (apL a1 j (ilen a1 + 1))) = (Cont.pts (apL a1 j (ilen a1 + 1))))) ∧ (((Cont.ints a1) = (Cont.ints a1)) ∧ ((Cont.ints a2) = (Cont.ints a2)) ∧ ((Cont.ints a3) = (Cont.ints a3)) ∧ True) ∧ True)) ∧ ((([GK.int, GK.bool] : List GK) = ([GK.int, GK.bool] : List GK)) ∧ I2 [GV.int (iadd i2_0 (1 : Int)), GV.bool b2_1] ∧ μ2 [GV.int (iadd i2_0 (1 : Int)), GV.bool b2_1] < μ2 [GV.int i2_0, GV.bool b2_1]))))) ∧ ((ilt i2_0 (ilen l)) = false → ((true = true) ∧ ((True) ∧ (True) ∧ (True) ∧ True) ∧ ((true = true) ∧ (((b2_1 : Bool) = b2_1) ∧ (((iadd i1_0 (1 : Int)) : Int) = (iadd i1_0 (1 : Int))) ∧ (((Cont.ints a1) = (Cont.ints a1)) ∧ ((Cont.ints a2) = (Cont.ints a2)) ∧ ((Cont.ints a3) = (Cont.ints a3)) ∧ True) ∧ ((Cont.ints j) = (Cont.ints j)) ∧ (true = true) ∧ (true = true) ∧ (true = true) ∧ (((Cont.ints a1) = (Cont.ints a1)) ∧ ((Cont.ints a2) = (Cont.ints a2)) ∧ ((Cont.ints a3) = (Cont.ints a3)) ∧ True) ∧ ((Cont.ints j) = (Cont.ints j)) ∧ ((Cont.ptss l) = (Cont.ptss l)) ∧ True) ∧ (((true = true) ∧ ((Cont.pts (apL a1 j (ilen a1 + 1))) = (Cont.pts (apL a1 j (ilen a1 + 1))))) ∧ (((Cont.ints a1) = (Cont.ints a1)) ∧ ((Cont.ints a2) = (Cont.ints a2)) ∧ ((Cont.ints a3) = (Cont.ints a3)) ∧ True) ∧ True)) ∧ ((([GK.int, GK.bool] : List GK) = ([GK.int, GK.bool] : List GK)) ∧ I1 [GV.int (iadd i1_0 (1 : Int)), GV.bool b2_1] ∧ μ1 [GV.int (iadd i1_0 (1 : Int)), GV.bool b2_1] < μ1 [GV.int i1_0, GV.bool b1_1]))))))) ∧ ((ilt (iadd i1_0 (1 : Int)) (ilen (apL a1 j (ilen a1 + 1)))) = false → ((true = true) ∧ ((True) ∧ True) ∧ ((true : Bool) = (acB a1 j l)) ∧ True))))) = ev sig_spec_l10Clear xs_spec_l10Clear Tryd.f28.ntmps (fun b => if b == 0 then [.v 8, .v 6] else if b == 2 then [.v 9, .v 6] else []) (codeOf Tryd.f28) 0 (initS [.agg [.view (.ints a1), .view (.ints a2), .view (.ints a3)], .s (.view (.ints j)), .s (.view (.ptss l))]) (retK Tryd.f28.results.toList [.s (.bool (acB a1 j l))]) := by kernel_rfl
set_option maxHeartbeats 400000 in
theorem F_spec_l10Clear : FunOK 28 g_spec_l10Clear := by
  refine fun_F (by kernel_rfl) Tryd.func28 rfl (by kernel_rfl) sig_spec_l10Clear_ok xs_spec_l10Clear_ok ?_
  intro avs sg h hn hl
  unfold g_spec_l10Clear at h
  split at h
  · rename_i a1 a2 a3 j l
    injection h with h; subst h
    refine ⟨by kernel_rfl, fun b => if b == 0 then [.v 8, .v 6] else if b == 2 then [.v 9, .v 6] else [], Eq.mp (V_spec_l10Clear a1 a2 a3 j l) ?_⟩
    simp only [true_and, and_true, implies_true, and_self, forall_const, true_implies, lenA, lenL, SV.lenOK, Cont.lenOK] at hn hl ⊢
    obtain ⟨hj, hs⟩ := hn
    simp only [ilt_t, ilt_f, ile_t, ile_f, ieq_t, ieq_f, bnot_e, band_e, bite_and, bite_or, NLt_e, NLe_e, NNe_e, NIs_e, imax_e, imin_e, irem_e, Bool.not_eq_true', Bool.not_eq_false', Bool.and_eq_true, Bool.or_eq_true, Bool.or_eq_false_iff, Bool.and_eq_false_iff, Cont.pts.injEq, Cont.ints.injEq, Cont.bools.injEq, Cont.ptss.injEq, Cont.intss.injEq, Cont.boolss.injEq, true_and, and_true, implies_true]
    refine ⟨hj, ?_⟩
    obtain ⟨ha, hjl, hl4, hlk, hjk⟩ := jv_p hj
    obtain ⟨s6, sat⟩ := scene_at hs
    have hl0 := ilen_0 l
    have hv := fun (k : Int) (h0 : 0 ≤ k) (h1 : k ≤ ilen a1) => jv_vB hj h0 h1
    have hlen : ilen (apL a1 j (ilen a1 + 1)) = ilen a1 + 1 := apL_len (by omega)
    have hg : ∀ i, 0 ≤ i → i ≤ ilen a1 → getx (apL a1 j (ilen a1 + 1)) i = apX a1 j i ∧ gety (apL a1 j (ilen a1 + 1)) i = apY a1 j i := fun i h0 h1 => apL_get h0 (by omega)
    rw [hlen]
    generalize apL a1 j (ilen a1 + 1) = P at *
    refine ⟨fun | [.int i, .bool _] => 0 ≤ i ∧ i ≤ ilen a1 ∧ (∀ a, 0 ≤ a → a < i → acN a1 j l a = true) | _ => False, fun | .int i :: _ => (ilen a1 - i).toNat | _ => 0, ⟨by omega, by omega, fun a h0 h1 => by omega⟩, ?_⟩
    rintro i b ⟨i0, i1, hi⟩
    have e1 : iadd i 1 = i + 1 := iadd_e (by omega) (by omega)
    rw [e1]
    refine ⟨fun hc => ?_, fun hc => ?_⟩
    · refine ⟨fun | [.int k, .bool _] => 0 ≤ k ∧ k ≤ ilen l ∧ (∀ m, 0 ≤ m → m < k → acE a1 j (getl l m) i = true) | _ => False, fun | .int k :: _ => (ilen l - k).toNat | _ => 0, ⟨by omega, by omega, fun m h0 h1 => by omega⟩, ?_⟩
      rintro k b2 ⟨k0, k1, hk⟩
      refine ⟨fun hc2 => ?_, fun hc2 => ?_⟩
      · obtain ⟨x1, y1⟩ := hg i (by omega) (by omega)
        obtain ⟨x2, y2⟩ := hg (i + 1) (by omega) (by omega)
        have e3 : iadd k 1 = k + 1 := iadd_e (by omega) (by omega)
        have hcv := (sat k k0 hc2).2
        rw [x1, y1, x2, y2, e3]
        refine ⟨⟨⟨k0, hc2⟩, ⟨by omega, by omega⟩, by omega, ⟨by omega, by omega⟩, by omega, hcv, hv _ (by omega) (by omega), hv _ (by omega) (by omega)⟩, fun hm => ?_, fun hm => ?_⟩
        · have hE : acE a1 j (getl l k) i = false := by unfold acE; rw [hm]; rfl
          have hN : acN a1 j l i = false := by unfold acN; exact allN_no (f := fun o => acE a1 j (getl l o) i) k k0 hc2 hE
          unfold acB
          rw [allN_no (f := acN a1 j l) i i0 (by omega) hN]
        · have hE : acE a1 j (getl l k) i = true := by unfold acE; rw [hm]; rfl
          exact ⟨⟨by omega, by omega, fun m m0 m1 => by
            by_cases h : m = k
            · rw [h]; exact hE
            · exact hk m m0 (by omega)⟩, by show (ilen l - (k + 1)).toNat < (ilen l - k).toNat; omega⟩
      · exact ⟨⟨by omega, by omega, fun a h0 h1 => by
          by_cases h : a = i
          · rw [h]; unfold acN; exact allN_mk fun m m0 m1 => hk m m0 (by omega)
          · exact hi a h0 (by omega)⟩, by show (ilen a1 - (i + 1)).toNat < (ilen a1 - i).toNat; omega⟩
    · unfold acB
      rw [allN_mk fun a h0 h1 => hi a h0 (by omega)]
  · cases h
def g_spec_FreeCells : List AV → Option Sg
  | [.agg [.view (.ints a1), .view (.ints a2), .view (.ints a3)], .s (.int s), .s (.view (.ptss l))] => some ⟨True, [.nrow 53 (.boolss (fcL a1 a2 a3 s l))]⟩
  | _ => none
def sig_spec_FreeCells : FuncId → List AV → Option Sg := sigL [(26, g_spec_l11Size), (27, g_spec_SceneValid), (28, g_spec_l10Clear)]
def xs_spec_FreeCells : XS := ⟨xsigL [], ysigL []⟩
theorem sig_spec_FreeCells_ok : SigOK sig_spec_FreeCells := sigL_cons F_spec_l11Size (sigL_cons F_spec_SceneValid (sigL_cons F_spec_l10Clear sigL_nil))
theorem xs_spec_FreeCells_ok : XSigOK xs_spec_FreeCells := ⟨xsigL_nil, ysigL_nil⟩
theorem V_spec_FreeCells (a1 : List Int) (a2 : List Int) (a3 : List Int) (s : Int) (l : List (List Pt)) : ((true = true) ∧ ((True) ∧ (True) ∧ True) ∧ (true = true) ∧ ((True) ∧ (True) ∧ True) ∧ (true = true) ∧ ((True) ∧ (True) ∧ ((True)) ∧ (True) ∧ (True) ∧ (True) ∧ (True) ∧ (True) ∧ True) ∧ (true = true) ∧ ((True) ∧ ((True)) ∧ (True) ∧ True) ∧ ((bnot (sceneB l)) = true → ((true = true) ∧ ((True) ∧ (True) ∧ True) ∧ ((true = true) ∧ ((Cont.boolss []) = (Cont.boolss (fcL a1 a2 a3 s l)))) ∧ True)) ∧ ((bnot (sceneB l)) = false → ((true = true) ∧ ((True) ∧ True) ∧ ∃ (I1 : List GV → Prop) (μ1 : List GV → Nat), (((true = true) ∧ ((((0 : Int) : Int) = (0 : Int)) ∧ ((Cont.ptss l) = (Cont.ptss l)) ∧ (((sceneB l) : Bool) = (sceneB l)) ∧ (((bnot (sceneB l)) : Bool) = (bnot (sceneB l))) ∧ (((Cont.ints a1) = (Cont.ints a1)) ∧ ((Cont.ints a2) = (Cont.ints a2)) ∧ ((Cont.ints a3) = (Cont.ints a3)) ∧ True) ∧ ((s : Int) = s) ∧ (((gsK a1 a2 a3 s 0) : Int) = (gsK a1 a2 a3 s 0)) ∧ (((gsK a1 a2 a3 s 1) : Int) = (gsK a1 a2 a3 s 1)) ∧ (((gsK a1 a2 a3 s 0) : Int) = (gsK a1 a2 a3 s 0)) ∧ (((gsK a1 a2 a3 s 1) : Int) = (gsK a1 a2 a3 s 1)) ∧ (true = true) ∧ (true = true) ∧ (true = true) ∧ (((Cont.ints a1) = (Cont.ints a1)) ∧ ((Cont.ints a2) = (Cont.ints a2)) ∧ ((Cont.ints a3) = (Cont.ints a3)) ∧ True) ∧ ((s : Int) = s) ∧ ((Cont.ptss l) = (Cont.ptss l)) ∧ True) ∧ (((true = true) ∧ ((Cont.boolss []) = (Cont.boolss []))) ∧ (((Cont.ints a1) = (Cont.ints a1)) ∧ ((Cont.ints a2) = (Cont.ints a2)) ∧ ((Cont.ints a3) = (Cont.ints a3)) ∧ True) ∧ ((true = true) ∧ ((Cont.boolss []) = (Cont.boolss []))) ∧ True)) ∧ (([GK.int, GK.boolss] : List GK) = ([GK.int, GK.boolss] : List GK)) ∧ I1 [GV.int (0 : Int), GV.boolss []]) ∧ (∀ i1_0 : Int, ∀ l1_1 : List (List Bool), I1 [GV.int i1_0, GV.boolss l1_1] → ((true = true) ∧ ((True) ∧ (True) ∧ (True) ∧ True) ∧ ((ilt i1_0 (gsK a1 a2 a3 s 0)) = true → ((true = true) ∧ ((True) ∧ (True) ∧ True) ∧ (true = true) ∧ ((True) ∧ True) ∧ ∃ (I2 : List GV → Prop) (μ2 : List GV → Nat), (((true = true) ∧ ((((0 : Int) : Int) = (0 : Int)) ∧ (true = true) ∧ ((i1_0 : Int) = i1_0) ∧ (((gsK a1 a2 a3 s 0) : Int) = (gsK a1 a2 a3 s 0)) ∧ (((ilt i1_0 (gsK a1 a2 a3 s 0)) : Bool) = (ilt i1_0 (gsK a1 a2 a3 s 0))) ∧ ((i1_0 : Int) = i1_0) ∧ ((Cont.ptss l) = (Cont.ptss l)) ∧ (((sceneB l) : Bool) = (sceneB l)) ∧ (((bnot (sceneB l)) : Bool) = (bnot (sceneB l))) ∧ (((Cont.ints a1) = (Cont.ints a1)) ∧ ((Cont.ints a2) = (Cont.ints a2)) ∧ ((Cont.ints a3) = (Cont.ints a3)) ∧ True) ∧ ((s : Int) = s) ∧ (((gsK a1 a2 a3 s 0) : Int) = (gsK a1 a2 a3 s 0)) ∧ (((gsK a1 a2 a3 s 1) : Int) = (gsK a1 a2 a3 s 1)) ∧ (((gsK a1 a2 a3 s 0) : Int) = (gsK a1 a2 a3 s 0)) ∧ (((gsK a1 a2 a3 s 1) : Int) = (gsK a1 a2 a3 s 1)) ∧ (true = true) ∧ (true = true) ∧ (true = true) ∧ (((Cont.ints a1) = (Cont.ints a1)) ∧ ((Cont.ints a2) = (Cont.ints a2)) ∧ ((Cont.ints a3) = (Cont.ints a3)) ∧ True) ∧ ((s : Int) = s) ∧ ((Cont.ptss l) = (Cont.ptss l)) ∧ True) ∧ (((true = true) ∧ ((Cont.bools []) = (Cont.bools []))) ∧ ((true = true) ∧ ((Cont.boolss l1_1) = (Cont.boolss l1_1))) ∧ (((Cont.ints a1) = (Cont.ints a1)) ∧ ((Cont.ints a2) = (Cont.ints a2)) ∧ ((Cont.ints a3) = (Cont.ints a3)) ∧ True) ∧ ((true = true) ∧ ((Cont.boolss []) = (Cont.boolss []))) ∧ True)) ∧ (([GK.int, GK.bools] : List GK) = ([GK.int, GK.bools] : List GK)) ∧ I2 [GV.int (0 : Int), GV.bools []]) ∧ (∀ i2_0 : Int, ∀ l2_1 : List Bool, I2 [GV.int i2_0, GV.bools l2_1] → ((true = true) ∧ ((True) ∧ (True) ∧ (True) ∧ True) ∧ ((ilt i2_0 (gsK a1 a2 a3 s 1)) = true → ((true = true) ∧ ((True) ∧ (True) ∧ (True) ∧ (True) ∧ (NLe 0 (0 : Int) ∧ NLt (0 : Int) (ilen a2)) ∧ (True) ∧ (True) ∧ (True) ∧ (True) ∧ (True) ∧ (True) ∧ (True) ∧ (NLe 0 (1 : Int) ∧ NLt (1 : Int) (ilen a2)) ∧ (True) ∧ (True) ∧ (True) ∧ (True) ∧ (True) ∧ (True) ∧ (True) ∧ ((jvB a1 a2 a3 [(iadd (geti a2 (0 : Int)) (imul i1_0 s)), (iadd (geti a2 (1 : Int)) (imul i2_0 s))] = true ∧ sceneB l = true)) ∧ (True) ∧ True) ∧ (NLe (ilen l2_1) 1000000000 ∧ NLe (ilen [(acB a1 [(iadd (geti a2 (0 : Int)) (imul i1_0 s)), (iadd (geti a2 (1 : Int)) (imul i2_0 s))] l)]) 1000000000) ∧ (True) ∧ (true = true) ∧ ((True) ∧ (True) ∧ (True) ∧ True) ∧ ((true = true) ∧ ((((iadd i2_0 (1 : Int)) : Int) = (iadd i2_0 (1 : Int))) ∧ (true = true) ∧ ((i1_0 : Int) = i1_0) ∧ (((gsK a1 a2 a3 s 0) : Int) = (gsK a1 a2 a3 s 0)) ∧ (((ilt i1_0 (gsK a1 a2 a3 s 0)) : Bool) = (ilt i1_0 (gsK a1 a2 a3 s 0))) ∧ ((i1_0 : Int) = i1_0) ∧ ((Cont.ptss l) = (Cont.ptss l)) ∧ (((sceneB l) : Bool) = (sceneB l)) ∧ (((bnot (sceneB l)) : Bool) = (bnot (sceneB l))) ∧ (((Cont.ints a1) = (Cont.ints a1)) ∧ ((Cont.ints a2) = (Cont.ints a2)) ∧ ((Cont.ints a3) = (Cont.ints a3)) ∧ True) ∧ ((s : Int) = s) ∧ (((gsK a1 a2 a3 s 0) : Int) = (gsK a1 a2 a3 s 0)) ∧ (((gsK a1 a2 a3 s 1) : Int) = (gsK a1 a2 a3 s 1)) ∧ (((gsK a1 a2 a3 s 0) : Int) = (gsK a1 a2 a3 s 0)) ∧ (((gsK a1 a2 a3 s 1) : Int) = (gsK a1 a2 a3 s 1)) ∧ (true = true) ∧ (true = true) ∧ (true = true) ∧ (((Cont.ints a1) = (Cont.ints a1)) ∧ ((Cont.ints a2) = (Cont.ints a2)) ∧ ((Cont.ints a3) = (Cont.ints a3)) ∧ True) ∧ ((s : Int) = s) ∧ ((Cont.ptss l) = (Cont.ptss l)) ∧ True) ∧ (((true = true) ∧ ((Cont.bools (iapp l2_1 [(acB a1 [(iadd (geti a2 (0 : Int)) (imul i1_0 s)), (iadd (geti a2 (1 : Int)) (imul i2_0 s))] l)])) = (Cont.bools (iapp l2_1 [(acB a1 [(iadd (geti a2 (0 : Int)) (imul i1_0 s)), (iadd (geti a2 (1 : Int)) (imul i2_0 s))] l)])))) ∧ ((true = true) ∧ ((Cont.boolss l1_1) = (Cont.boolss l1_1))) ∧ (((Cont.ints a1) = (Cont.ints a1)) ∧ ((Cont.ints a2) = (Cont.ints a2)) ∧ ((Cont.ints a3) = (Cont.ints a3)) ∧ True) ∧ ((true = true) ∧ ((Cont.boolss []) = (Cont.boolss []))) ∧ True)) ∧ ((([GK.int, GK.bools] : List GK) = ([GK.int, GK.bools] : List GK)) ∧ I2 [GV.int (iadd i2_0 (1 : Int)), GV.bools (iapp l2_1 [(acB a1 [(iadd (geti a2 (0 : Int)) (imul i1_0 s)), (iadd (geti a2 (1 : Int)) (imul i2_0 s))] l)])] ∧ μ2 [GV.int (iadd i2_0 (1 : Int)), GV.bools (iapp l2_1 [(acB a1 [(iadd (geti a2 (0 : Int)) (imul i1_0 s)), (iadd (geti a2 (1 : Int)) (imul i2_0 s))] l)])] < μ2 [GV.int i2_0, GV.bools l2_1]))) ∧ ((ilt i2_0 (gsK a1 a2 a3 s 1)) = false → ((true = true) ∧ ((True) ∧ (True) ∧ True) ∧ (True) ∧ (NLe (ilen l1_1) 1000000000 ∧ NLe (ilen [l2_1]) 1000000000) ∧ (True) ∧ (true = true) ∧ ((True) ∧ (True) ∧ (True) ∧ True) ∧ ((true = true) ∧ ((((iadd i1_0 (1 : Int)) : Int) = (iadd i1_0 (1 : Int))) ∧ ((Cont.ptss l) = (Cont.ptss l)) ∧ (((sceneB l) : Bool) = (sceneB l)) ∧ (((bnot (sceneB l)) : Bool) = (bnot (sceneB l))) ∧ (((Cont.ints a1) = (Cont.ints a1)) ∧ ((Cont.ints a2) = (Cont.ints a2)) ∧ ((Cont.ints a3) = (Cont.ints a3)) ∧ True) ∧ ((s : Int) = s) ∧ (((gsK a1 a2 a3 s 0) : Int) = (gsK a1 a2 a3 s 0)) ∧ (((gsK a1 a2 a3 s 1) : Int) = (gsK a1 a2 a3 s 1)) ∧ (((gsK a1 a2 a3 s 0) : Int) = (gsK a1 a2 a3 s 0)) ∧ (((gsK a1 a2 a3 s 1) : Int) = (gsK a1 a2 a3 s 1)) ∧ (true = true) ∧ (true = true) ∧ (true = true) ∧ (((Cont.ints a1) = (Cont.ints a1)) ∧ ((Cont.ints a2) = (Cont.ints a2)) ∧ ((Cont.ints a3) = (Cont.ints a3)) ∧ True) ∧ ((s : Int) = s) ∧ ((Cont.ptss l) = (Cont.ptss l)) ∧ True) ∧ (((true = true) ∧ ((Cont.boolss (iapp l1_1 [l2_1])) = (Cont.boolss (iapp l1_1 [l2_1])))) ∧ (((Cont.ints a1) = (Cont.ints a1)) ∧ ((Cont.ints a2) = (Cont.ints a2)) ∧ ((Cont.ints a3) = (Cont.ints a3)) ∧ True) ∧ ((true = true) ∧ ((Cont.boolss []) = (Cont.boolss []))) ∧ True)) ∧ ((([GK.int, GK.boolss] : List GK) = ([GK.int, GK.boolss] : List GK)) ∧ I1 [GV.int (iadd i1_0 (1 : Int)), GV.boolss (iapp l1_1 [l2_1])] ∧ μ1 [GV.int (iadd i1_0 (1 : Int)), GV.boolss (iapp l1_1 [l2_1])] < μ1 [GV.int i1_0, GV.boolss l1_1]))))))) ∧ ((ilt i1_0 (gsK a1 a2 a3 s 0)) = false → ((true = true) ∧ ((True) ∧ (True) ∧ True) ∧ ((true = true) ∧ ((Cont.boolss l1_1) = (Cont.boolss (fcL a1 a2 a3 s l)))) ∧ True))))))) = ev sig_spec_FreeCells xs_spec_FreeCells Tryd.f7.ntmps (fun b => if b == 0 then [.v 10, .b 7] else if b == 2 then [.v 12, .b 11] else []) (codeOf Tryd.f7) 0 (initS [.agg [.view (.ints a1), .view (.ints a2), .view (.ints a3)], .s (.int s), .s (.view (.ptss l))]) (retK Tryd.f7.results.toList [.nrow 53 (.boolss (fcL a1 a2 a3 s l))]) := by kernel_rfl
set_option maxHeartbeats 400000 in
theorem F_spec_FreeCells : FunOK 7 g_spec_FreeCells := by
  refine fun_F (by kernel_rfl) Tryd.func7 rfl (by kernel_rfl) sig_spec_FreeCells_ok xs_spec_FreeCells_ok ?_
  intro avs sg h hn hl
  unfold g_spec_FreeCells at h
  split at h
  · rename_i a1 a2 a3 s l
    injection h with h; subst h
    refine ⟨by kernel_rfl, fun b => if b == 0 then [.v 10, .b 7] else if b == 2 then [.v 12, .b 11] else [], Eq.mp (V_spec_FreeCells a1 a2 a3 s l) ?_⟩
    simp only [true_and, and_true, implies_true, and_self, forall_const, true_implies, lenA, lenL, SV.lenOK, Cont.lenOK] at hn hl ⊢
    simp only [ilt_t, ilt_f, ile_t, ile_f, ieq_t, ieq_f, bnot_e, band_e, bite_and, bite_or, NLt_e, NLe_e, NNe_e, NIs_e, imax_e, imin_e, irem_e, Bool.not_eq_true', Bool.not_eq_false', Bool.and_eq_true, Bool.or_eq_true, Bool.or_eq_false_iff, Bool.and_eq_false_iff, Cont.pts.injEq, Cont.ints.injEq, Cont.bools.injEq, Cont.ptss.injEq, Cont.intss.injEq, Cont.boolss.injEq, true_and, and_true, implies_true]
    refine ⟨fun h => by unfold fcL; rw [h]; rfl, fun hs => ?_⟩
    have hL : fcL a1 a2 a3 s l = fcT a1 a2 l s (gsK a1 a2 a3 s 1) (gsK a1 a2 a3 s 0) := by unfold fcL; rw [if_pos hs]
    have hc20 : (0 ≤ gsK a1 a2 a3 s 0 ∧ gsK a1 a2 a3 s 0 ≤ 20) ∧ (0 ≤ gsK a1 a2 a3 s 1 ∧ gsK a1 a2 a3 s 1 ≤ 20) := by
      rcases gsK_cases a1 a2 a3 s with ⟨h0, h1⟩ | ⟨hB, g0, g1, e0, e1, m0, m1⟩ <;> omega
    rw [hL]
    refine ⟨fun | [.int i, .boolss o] => 0 ≤ i ∧ i ≤ gsK a1 a2 a3 s 0 ∧ o = fcT a1 a2 l s (gsK a1 a2 a3 s 1) i | _ => False, fun | .int i :: _ => (gsK a1 a2 a3 s 0 - i).toNat | _ => 0, ⟨by omega, by omega, rfl⟩, ?_⟩
    rintro i o ⟨i0, i1, rfl⟩
    refine ⟨fun hi => ?_, fun hi => ?_⟩
    · refine ⟨fun | [.int k, .bools r] => 0 ≤ k ∧ k ≤ gsK a1 a2 a3 s 1 ∧ r = fcR a1 a2 l s i k | _ => False, fun | .int k :: _ => (gsK a1 a2 a3 s 1 - k).toNat | _ => 0, ⟨by omega, by omega, rfl⟩, ?_⟩
      rintro k r ⟨k0, k1, rfl⟩
      refine ⟨fun hk => ?_, fun hk => ?_⟩
      · obtain ⟨hb, he, _⟩ := cj_in (a1 := a1) (a2 := a2) (a3 := a3) (s := s) i0 hi k0 hk
        have hj := cj_jv hb
        obtain ⟨_, l2, _⟩ := cj_parts hb
        have ee : [iadd (geti a2 0) (imul i s), iadd (geti a2 1) (imul k s)] = fcJ a2 s i k := by
          rw [← he]; unfold cjL; rw [if_pos hb]
        rw [he] at hj
        rw [ee]
        rw [fcR_len k0, iadd_e (by omega) (by omega)]
        exact ⟨⟨⟨by omega, by omega⟩, ⟨by omega, by omega⟩, hj, hs⟩, ⟨by omega, by rw [ilen_one]; omega⟩, ⟨by omega, by omega, fcR_s k0⟩, by show (gsK a1 a2 a3 s 1 - (k + 1)).toNat < (gsK a1 a2 a3 s 1 - k).toNat; omega⟩
      · have ek : k = gsK a1 a2 a3 s 1 := by omega
        subst ek
        rw [fcT_len i0, iadd_e (by omega) (by omega)]
        exact ⟨⟨by omega, by rw [ilen_one]; omega⟩, ⟨by omega, by omega, fcT_s i0⟩, by show (gsK a1 a2 a3 s 0 - (i + 1)).toNat < (gsK a1 a2 a3 s 0 - i).toNat; omega⟩
    · rw [show i = gsK a1 a2 a3 s 0 by omega]
  · cases h
def g_impl_within : List AV → Option Sg
  | [.s (.int n), .s (.int lo), .s (.int hi)] => some ⟨True, [.s (.bool (inB n lo hi))]⟩
  | _ => none
def sig_impl_within : FuncId → List AV → Option Sg := sigL []
def xs_impl_within : XS := ⟨xsigL [], ysigL []⟩
theorem sig_impl_within_ok : SigOK sig_impl_within := sigL_nil
theorem xs_impl_within_ok : XSigOK xs_impl_within := ⟨xsigL_nil, ysigL_nil⟩
theorem V_impl_within (n : Int) (lo : Int) (hi : Int) : ((true = true) ∧ ((True) ∧ True) ∧ (true = true) ∧ ((True) ∧ (True) ∧ (True) ∧ (True) ∧ (NIs (ile lo n) true → True) ∧ (NIs (ile lo n) true → True) ∧ (NIs (ile lo n) true → True) ∧ (True) ∧ (True) ∧ True) ∧ (((bite (ile lo n) (ile n hi) false) : Bool) = (inB n lo hi)) ∧ True) = ev sig_impl_within xs_impl_within Tryd.f54.ntmps (fun b => []) (codeOf Tryd.f54) 0 (initS [.s (.int n), .s (.int lo), .s (.int hi)]) (retK Tryd.f54.results.toList [.s (.bool (inB n lo hi))]) := by kernel_rfl
set_option maxHeartbeats 400000 in
theorem F_impl_within : FunOK 54 g_impl_within := by
  refine fun_F (by kernel_rfl) Tryd.func54 rfl (by kernel_rfl) sig_impl_within_ok xs_impl_within_ok ?_
  intro avs sg h hn hl
  unfold g_impl_within at h
  split at h
  · rename_i n lo hi
    injection h with h; subst h
    refine ⟨by kernel_rfl, fun b => [], Eq.mp (V_impl_within n lo hi) ?_⟩
    simp only [true_and, and_true, implies_true, and_self, forall_const, true_implies, lenA, lenL, SV.lenOK, Cont.lenOK] at hn hl ⊢
    simp only [bite_and, inB_eq]
  · cases h
end Go.Proofs.YtejiomhoflnboaaDoor

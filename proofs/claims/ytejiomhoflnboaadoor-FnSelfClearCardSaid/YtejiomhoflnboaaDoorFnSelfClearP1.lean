/- Contracts by evaluation, part 1. -/
import Derived.Test.YtejiomhoflnboaaDoorAxM
import Derived.Test.YtejiomhoflnboaaDoorDsc
namespace Go.Proofs.YtejiomhoflnboaaDoor
open Go.ChangeShapes Go.WideShapes Go.ChangeAt Go.RowKit
set_option maxRecDepth 100000
set_option linter.unusedSimpArgs false
set_option linter.unusedVariables false
def armE (a1 a2 a3 : List Int) (k : Int) : Bool := inB (geti a1 k) 1 500 && inB (geti a2 k) (-180) 180 && inB (geti a3 k) (geti a2 k) 180
def armB (a1 a2 a3 : List Int) : Bool := inB (ilen a1) 1 4 && decide (ilen a2 = ilen a1) && decide (ilen a3 = ilen a1) && allN (ilen a1) (armE a1 a2 a3)
def crW (a1 a2 b1 b2 c1 c2 : Int) : Int := isub (imul (isub b1 a1) (isub c2 a2)) (imul (isub b2 a2) (isub c1 a1))
def cr (l : List Pt) (i j k : Int) : Int := crW (getx l i) (gety l i) (getx l j) (gety l j) (getx l k) (gety l k)
def nx (l : List Pt) (i : Int) : Int := (i + 1).tmod (ilen l)
def convE (l : List Pt) (i j : Int) : Bool := decide (j = i ∨ j = nx l i ∨ 0 < cr l i (nx l i) j)
def convB (l : List Pt) : Bool := inB (ilen l) 3 8 && allB l && allN (ilen l) fun i => allN (ilen l) fun j => convE l i j
theorem nx_in {l : List Pt} {i : Int} (h0 : 0 ≤ i) (h1 : i < ilen l) : 0 ≤ nx l i ∧ nx l i < ilen l ∧ ((i + 1 < ilen l ∧ nx l i = i + 1) ∨ (i + 1 = ilen l ∧ nx l i = 0)) := by
  have e : nx l i = (i + 1) % ilen l := Int.tmod_eq_emod_of_nonneg (by omega)
  rcases Int.lt_or_le (i + 1) (ilen l) with h | h
  · rw [e, Int.emod_eq_of_lt (by omega) h]; omega
  · have h2 : i + 1 = ilen l := by omega
    rw [e, h2, Int.emod_self]; omega
theorem allN_up {f : Int → Bool} {k : Int} (h : ∀ j, 0 ≤ j → j < k → f j = true) (hk : f k = true) : ∀ j, 0 ≤ j → j < k + 1 → f j = true := by
  intro j h0 h1
  rcases Int.lt_or_le j k with h2 | h2
  · exact h j h0 h2
  · rw [show j = k by omega]; exact hk
theorem upTo {P : Int → Prop} {k : Int} (h : ∀ j, 0 ≤ j → j < k → P j) (hk : P k) : ∀ j, 0 ≤ j → j < k + 1 → P j := by
  intro j h0 h1
  rcases Int.lt_or_le j k with h2 | h2
  · exact h j h0 h2
  · rw [show j = k by omega]; exact hk
theorem iadd_1 {k n : Int} (h0 : 0 ≤ k) (h1 : k < n) (h2 : n ≤ 9223372036854775807) : iadd k 1 = k + 1 := iadd_e (by omega) (by omega)
def degW (d : Int) : Int := irem (iadd (irem d 360) 360) 360
theorem mul20 {x y : Int} (hx : -20000 ≤ x ∧ x ≤ 20000) (hy : -20000 ≤ y ∧ y ≤ 20000) : -400000000 ≤ x * y ∧ x * y ≤ 400000000 := by
  have h := mul_box hx.1 hx.2 hy.1 hy.2
  generalize x * y = z at *
  have e1 : min (min ((-20000 : Int) * -20000) (-20000 * 20000)) (min (20000 * -20000) (20000 * 20000)) = -400000000 := by decide
  have e2 : max (max ((-20000 : Int) * -20000) (-20000 * 20000)) (max (20000 * -20000) (20000 * 20000)) = 400000000 := by decide
  rw [e1, e2] at h
  exact h
theorem crW_e {a1 a2 b1 b2 c1 c2 : Int} (ha : vB a1 a2 = true) (hb : vB b1 b2 = true) (hc : vB c1 c2 = true) : crW a1 a2 b1 b2 c1 c2 = crs (a1, a2) (b1, b2) (c1, c2) := by
  unfold vB at ha hb hc
  simp only [Bool.and_eq_true] at ha hb hc
  have a1' := inB_true ha.1; have a2' := inB_true ha.2; have b1' := inB_true hb.1; have b2' := inB_true hb.2; have c1' := inB_true hc.1; have c2' := inB_true hc.2
  unfold crW crs
  rw [isub_e (a := b1) (by omega) (by omega), isub_e (a := c2) (by omega) (by omega), isub_e (a := b2) (by omega) (by omega), isub_e (a := c1) (by omega) (by omega)]
  have m1 := mul20 (x := b1 - a1) (y := c2 - a2) (by omega) (by omega)
  have m2 := mul20 (x := b2 - a2) (y := c1 - a1) (by omega) (by omega)
  rw [imul_e (a := b1 - a1) (by omega) (by omega), imul_e (a := b2 - a2) (by omega) (by omega), isub_e (by omega) (by omega)]
def P (l : List Pt) (i : Int) : Pt := (getx l i, gety l i)
theorem sgn_01 (z : Int) : -1 ≤ sgn z ∧ sgn z ≤ 1 := by unfold sgn; split <;> (try split) <;> omega
theorem ieq_sgn (z : Int) : ieq (sgn z) 0 = decide (z = 0) := by
  unfold ieq
  congr 1
  simp only [eq_iff_iff]
  unfold sgn; split <;> (try split) <;> omega
theorem imul_sgn (x y : Int) : imul (sgn x) (sgn y) = sgn x * sgn y := by
  have s1 := sgn_01 x; have s2 := sgn_01 y
  have := mul20 (x := sgn x) (y := sgn y) (by omega) (by omega)
  exact imul_e (by omega) (by omega)
theorem sgn_0 (z : Int) : sgn z = 0 ↔ z = 0 := by unfold sgn; split <;> (try split) <;> omega
def btW (a1 a2 b1 b2 p1 p2 : Int) : Bool := inB p1 (min a1 b1) (max a1 b1) && inB p2 (min a2 b2) (max a2 b2)
theorem btW_e (a1 a2 b1 b2 p1 p2 : Int) : btW a1 a2 b1 b2 p1 p2 = btw (a1, a2) (b1, b2) (p1, p2) := by
  unfold btW btw inB
  simp only [← Bool.decide_and]
  congr 1
  simp only [eq_iff_iff]
  constructor
  · rintro ⟨⟨h1, h2⟩, h3, h4⟩; exact ⟨h1, h2, h3, h4⟩
  · rintro ⟨h1, h2, h3, h4⟩; exact ⟨⟨h1, h2⟩, h3, h4⟩
def nearB (x y : Int) : Bool := inB x (-1000) 1000 && inB y (-1000) 1000
def idxN (n : Int) (f : Int → Bool) : Int := foldN n (fun s i => if s < 0 ∧ f i = true then i else s) (-1)
theorem idxN_no {f : Int → Bool} {k : Nat} (h : ∀ j, 0 ≤ j → j < (k : Int) → f j = false) : idxN k f = -1 := by
  induction k with
  | zero => rfl
  | succ k ih =>
    have e : ((k + 1 : Nat) : Int) = (k : Int) + 1 := by omega
    have := ih (fun j h0 h1 => h j h0 (by omega))
    unfold idxN at this ⊢
    rw [e, foldN_1 (by omega), this, h k (by omega) (by omega)]
    simp
theorem idxN_keep {f : Int → Bool} {i : Int} (hi : 0 ≤ i) {n : Nat} (h : idxN n f = i) (m : Nat) : idxN ((n + m : Nat) : Int) f = i := by
  induction m with
  | zero => exact h
  | succ m ih =>
    have e : ((n + (m + 1) : Nat) : Int) = ((n + m : Nat) : Int) + 1 := by omega
    unfold idxN at ih ⊢
    rw [e, foldN_1 (by omega), ih, if_neg (by omega)]
theorem idxN_at {f : Int → Bool} {k n : Int} (h0 : 0 ≤ k) (h1 : k < n) (h : ∀ j, 0 ≤ j → j < k → f j = false) (hk : f k = true) : idxN n f = k := by
  obtain ⟨a, rfl⟩ := Int.eq_ofNat_of_zero_le h0
  obtain ⟨b, hb⟩ := Int.eq_ofNat_of_zero_le (show 0 ≤ n - (a + 1) by omega)
  have e : n = ((a + 1 + b : Nat) : Int) := by omega
  rw [e]
  refine idxN_keep h0 ?_ b
  have := idxN_no h
  have e2 : ((a + 1 : Nat) : Int) = (a : Int) + 1 := by omega
  unfold idxN at this ⊢
  rw [e2, foldN_1 (by omega), this, if_pos ⟨by omega, hk⟩]
theorem idxN_any {f : Int → Bool} {n : Int} (h0 : 0 ≤ n) : ile 0 (idxN n f) = anyN n f := by
  obtain ⟨a, rfl⟩ := Int.eq_ofNat_of_zero_le h0
  clear h0
  induction a with
  | zero => simp [idxN, foldN, anyN, ile]
  | succ a ih =>
    have e : ((a + 1 : Nat) : Int) = (a : Int) + 1 := by omega
    have hs : anyN ((a + 1 : Nat) : Int) f = (anyN a f || f a) := by
      unfold anyN
      rw [show ((a + 1 : Nat) : Int).toNat = a + 1 by omega, show ((a : Nat) : Int).toNat = a by omega, List.range_succ, List.any_append]
      simp
    rw [hs, ← ih]
    unfold idxN
    rw [e, foldN_1 (by omega)]
    generalize foldN (a : Int) (fun s i => if s < 0 ∧ f i = true then i else s) (-1) = s
    unfold ile
    by_cases hs0 : s < 0
    · cases hf : f a with
      | true => simp [hs0, hf]
      | false => simp [hs0, hf]
    · simp [hs0]; omega
def sqE (a1 a2 b1 b2 : Int) : Int := (a1 - b1) * (a1 - b1) + (a2 - b2) * (a2 - b2)
def alE (p1 p2 a1 a2 b1 b2 : Int) : Int := (p1 - a1) * (b1 - a1) + (p2 - a2) * (b2 - a2)
def ssqE (p1 p2 a1 a2 b1 b2 : Int) : Int := if alE p1 p2 a1 a2 b1 b2 ≤ 0 then sqE p1 p2 a1 a2 else if sqE a1 a2 b1 b2 ≤ alE p1 p2 a1 a2 b1 b2 then sqE p1 p2 b1 b2 else (crs (a1, a2) (b1, b2) (p1, p2) * crs (a1, a2) (b1, b2) (p1, p2)).tdiv (sqE a1 a2 b1 b2)
theorem near_bd {x y : Int} (h : nearB x y = true) : -1000 ≤ x ∧ x ≤ 1000 ∧ -1000 ≤ y ∧ y ≤ 1000 := by
  unfold nearB at h
  simp only [Bool.and_eq_true] at h
  have a1 := inB_true h.1; have a2 := inB_true h.2
  omega
theorem mul4 {x y : Int} (hx : -8000000 ≤ x ∧ x ≤ 8000000) (hy : -8000000 ≤ y ∧ y ≤ 8000000) : imul x y = x * y := by
  have h := mul_box hx.1 hx.2 hy.1 hy.2
  have e1 : min (min ((-8000000 : Int) * -8000000) (-8000000 * 8000000)) (min (8000000 * -8000000) (8000000 * 8000000)) = -64000000000000 := by decide
  have e2 : max (max ((-8000000 : Int) * -8000000) (-8000000 * 8000000)) (max (8000000 * -8000000) (8000000 * 8000000)) = 64000000000000 := by decide
  rw [e1, e2] at h
  exact imul_e (by omega) (by omega)
theorem mul2 {x y : Int} (hx : -2000 ≤ x ∧ x ≤ 2000) (hy : -2000 ≤ y ∧ y ≤ 2000) : imul x y = x * y ∧ -4000000 ≤ x * y ∧ x * y ≤ 4000000 := by
  refine ⟨mul4 (by omega) (by omega), ?_⟩
  have h := mul_box hx.1 hx.2 hy.1 hy.2
  generalize x * y = z at *
  have e1 : min (min ((-2000 : Int) * -2000) (-2000 * 2000)) (min (2000 * -2000) (2000 * 2000)) = -4000000 := by decide
  have e2 : max (max ((-2000 : Int) * -2000) (-2000 * 2000)) (max (2000 * -2000) (2000 * 2000)) = 4000000 := by decide
  rw [e1, e2] at h
  exact h
theorem sub_n {x y : Int} (hx : -1000 ≤ x ∧ x ≤ 1000) (hy : -1000 ≤ y ∧ y ≤ 1000) : isub x y = x - y := isub_e (by omega) (by omega)
theorem near_v {x y : Int} (h : nearB x y = true) : vB x y = true := by
  have := near_bd h
  exact vB_mk (by omega)
theorem crs_bd {a1 a2 b1 b2 c1 c2 : Int} (ha : nearB a1 a2 = true) (hb : nearB b1 b2 = true) (hc : nearB c1 c2 = true) : -8000000 ≤ crs (a1, a2) (b1, b2) (c1, c2) ∧ crs (a1, a2) (b1, b2) (c1, c2) ≤ 8000000 := by
  have := near_bd ha; have := near_bd hb; have := near_bd hc
  have m1 := mul2 (x := b1 - a1) (y := c2 - a2) (by omega) (by omega)
  have m2 := mul2 (x := b2 - a2) (y := c1 - a1) (by omega) (by omega)
  unfold crs
  dsimp only
  omega
theorem sq_w {a1 a2 b1 b2 : Int} (ha : nearB a1 a2 = true) (hb : nearB b1 b2 = true) : iadd (imul (isub a1 b1) (isub a1 b1)) (imul (isub a2 b2) (isub a2 b2)) = sqE a1 a2 b1 b2 ∧ 0 ≤ sqE a1 a2 b1 b2 ∧ sqE a1 a2 b1 b2 ≤ 8000000 := by
  have := near_bd ha; have := near_bd hb
  have m1 := mul2 (x := a1 - b1) (y := a1 - b1) (by omega) (by omega)
  have m2 := mul2 (x := a2 - b2) (y := a2 - b2) (by omega) (by omega)
  have q1 : 0 ≤ (a1 - b1) * (a1 - b1) := by rcases Int.le_total 0 (a1 - b1) with h | h; exact Int.mul_nonneg h h; exact Int.mul_nonneg_of_nonpos_of_nonpos h h
  have q2 : 0 ≤ (a2 - b2) * (a2 - b2) := by rcases Int.le_total 0 (a2 - b2) with h | h; exact Int.mul_nonneg h h; exact Int.mul_nonneg_of_nonpos_of_nonpos h h
  rw [sub_n (by omega) (by omega), sub_n (by omega) (by omega), m1.1, m2.1]
  unfold sqE
  exact ⟨iadd_e (by omega) (by omega), by omega, by omega⟩
theorem al_w {p1 p2 a1 a2 b1 b2 : Int} (hp : nearB p1 p2 = true) (ha : nearB a1 a2 = true) (hb : nearB b1 b2 = true) : iadd (imul (isub p1 a1) (isub b1 a1)) (imul (isub p2 a2) (isub b2 a2)) = alE p1 p2 a1 a2 b1 b2 := by
  have := near_bd ha; have := near_bd hb; have := near_bd hp
  have m1 := mul2 (x := p1 - a1) (y := b1 - a1) (by omega) (by omega)
  have m2 := mul2 (x := p2 - a2) (y := b2 - a2) (by omega) (by omega)
  rw [sub_n (by omega) (by omega), sub_n (x := b1) (by omega) (by omega), sub_n (x := p2) (by omega) (by omega), sub_n (x := b2) (by omega) (by omega), m1.1, m2.1]
  unfold alE
  exact iadd_e (by omega) (by omega)
theorem sqE_comm (a1 a2 b1 b2 : Int) : sqE a1 a2 b1 b2 = sqE b1 b2 a1 a2 := by unfold sqE; grind
theorem mul4b {x y : Int} (hx : -8000000 ≤ x ∧ x ≤ 8000000) (hy : -8000000 ≤ y ∧ y ≤ 8000000) : -64000000000000 ≤ x * y ∧ x * y ≤ 64000000000000 := by
  have h := mul_box hx.1 hx.2 hy.1 hy.2
  have e1 : min (min ((-8000000 : Int) * -8000000) (-8000000 * 8000000)) (min (8000000 * -8000000) (8000000 * 8000000)) = -64000000000000 := by decide
  have e2 : max (max ((-8000000 : Int) * -8000000) (-8000000 * 8000000)) (max (8000000 * -8000000) (8000000 * 8000000)) = 64000000000000 := by decide
  rw [e1, e2] at h
  exact h
theorem sqE_0 (a1 a2 b1 b2 : Int) : 0 ≤ sqE a1 a2 b1 b2 := by
  have q : ∀ x : Int, 0 ≤ x * x := fun x => by rcases Int.le_total 0 x with h | h; exact Int.mul_nonneg h h; exact Int.mul_nonneg_of_nonpos_of_nonpos h h
  have := q (a1 - b1); have := q (a2 - b2)
  unfold sqE; omega
theorem ssqE_0 (p1 p2 a1 a2 b1 b2 : Int) : 0 ≤ ssqE p1 p2 a1 a2 b1 b2 := by
  have q : ∀ x : Int, 0 ≤ x * x := fun x => by rcases Int.le_total 0 x with h | h; exact Int.mul_nonneg h h; exact Int.mul_nonneg_of_nonpos_of_nonpos h h
  unfold ssqE
  split
  · exact sqE_0 ..
  · split
    · exact sqE_0 ..
    · exact Int.tdiv_nonneg (q _) (sqE_0 ..)
def ssQ (p1 p2 a1 a2 b1 b2 : Int) : Int := if nearB p1 p2 && nearB a1 a2 && nearB b1 b2 then ssqE p1 p2 a1 a2 b1 b2 else -1
theorem ssQ_e {p1 p2 a1 a2 b1 b2 : Int} (hp : nearB p1 p2 = true) (ha : nearB a1 a2 = true) (hb : nearB b1 b2 = true) : ssQ p1 p2 a1 a2 b1 b2 = ssqE p1 p2 a1 a2 b1 b2 := by unfold ssQ; rw [hp, ha, hb]; rfl
theorem ssQ_0 {p1 p2 a1 a2 b1 b2 : Int} (h : 0 ≤ ssQ p1 p2 a1 a2 b1 b2) : nearB p1 p2 = true ∧ nearB a1 a2 = true ∧ nearB b1 b2 = true := by
  unfold ssQ at h
  cases h1 : nearB p1 p2 <;> cases h2 : nearB a1 a2 <;> cases h3 : nearB b1 b2 <;> simp [h1, h2, h3] at h ⊢
theorem vB_bd {x y : Int} (h : vB x y = true) : -10000 ≤ x ∧ x ≤ 10000 ∧ -10000 ≤ y ∧ y ≤ 10000 := by
  unfold vB at h
  simp only [Bool.and_eq_true] at h
  have a1 := inB_true h.1; have a2 := inB_true h.2
  omega
theorem sq_v {a1 a2 b1 b2 : Int} (ha : vB a1 a2 = true) (hb : vB b1 b2 = true) : iadd (imul (isub a1 b1) (isub a1 b1)) (imul (isub a2 b2) (isub a2 b2)) = sqE a1 a2 b1 b2 ∧ sqE a1 a2 b1 b2 ≤ 800000000 := by
  have := vB_bd ha; have := vB_bd hb
  have m1 := mul20 (x := a1 - b1) (y := a1 - b1) (by omega) (by omega)
  have m2 := mul20 (x := a2 - b2) (y := a2 - b2) (by omega) (by omega)
  rw [isub_e (by omega) (by omega), isub_e (by omega) (by omega), imul_e (by omega) (by omega), imul_e (by omega) (by omega)]
  unfold sqE
  exact ⟨iadd_e (by omega) (by omega), by omega⟩
def dcv (t : Int) (f : Int → Int) : Nat → Int → Int
  | 0, k => f k
  | m + 1, k => (64 - t) * dcv t f m k + t * dcv t f m (k + 1)
def p64 : Nat → Int
  | 0 => 1
  | m + 1 => p64 m * 64
theorem p64_pos : ∀ m, 1 ≤ p64 m
  | 0 => by decide
  | m + 1 => by have := p64_pos m; unfold p64; omega
theorem p64_le {m : Nat} (h : m ≤ 3) : p64 m ≤ 262144 := by
  rcases (by omega : m = 0 ∨ m = 1 ∨ m = 2 ∨ m = 3) with rfl | rfl | rfl | rfl <;> decide
theorem p64_even {m : Nat} (h : 1 ≤ m) : ∃ c, p64 m = 2 * c ∧ 1 ≤ c := by
  obtain ⟨q, rfl⟩ : ∃ q, m = q + 1 := ⟨m - 1, by omega⟩
  have := p64_pos q
  exact ⟨p64 q * 32, by show p64 q * 64 = _; omega, by omega⟩
theorem dcv_bd {t : Int} {f : Int → Int} {n lo hi : Int} (ht0 : 0 ≤ t) (ht1 : t ≤ 64) (hf : ∀ j, 0 ≤ j → j < n → lo ≤ f j ∧ f j ≤ hi) :
    ∀ (m : Nat) (k : Int), 0 ≤ k → k + m < n → lo * p64 m ≤ dcv t f m k ∧ dcv t f m k ≤ hi * p64 m
  | 0, k, h0, h1 => by
    have := hf k h0 (by omega)
    unfold dcv p64; omega
  | m + 1, k, h0, h1 => by
    obtain ⟨a1, a2⟩ := dcv_bd ht0 ht1 hf m k h0 (by omega)
    obtain ⟨b1, b2⟩ := dcv_bd ht0 ht1 hf m (k + 1) (by omega) (by omega)
    unfold dcv p64
    have e : ∀ x : Int, x * (p64 m * 64) = (64 - t) * (x * p64 m) + t * (x * p64 m) := fun x => by
      rw [← Int.add_mul, show 64 - t + t = 64 by omega, Int.mul_comm 64, Int.mul_assoc]
    rw [e lo, e hi]
    exact ⟨Int.add_le_add (Int.mul_le_mul_of_nonneg_left a1 (by omega)) (Int.mul_le_mul_of_nonneg_left b1 ht0),
      Int.add_le_add (Int.mul_le_mul_of_nonneg_left a2 (by omega)) (Int.mul_le_mul_of_nonneg_left b2 ht0)⟩
/-- the parts of a step stay small -/
theorem dcv_parts {t : Int} {f : Int → Int} {n : Int} (ht0 : 0 ≤ t) (ht1 : t ≤ 64) (hn : n ≤ 4) (hf : ∀ j, 0 ≤ j → j < n → -10000 ≤ f j ∧ f j ≤ 10000) {m : Nat} {k : Int} (h0 : 0 ≤ k) (h1 : k + m < n) :
    (-2621440000 ≤ dcv t f m k ∧ dcv t f m k ≤ 2621440000) ∧ (-167772160000 ≤ (64 - t) * dcv t f m k ∧ (64 - t) * dcv t f m k ≤ 167772160000) ∧ (-167772160000 ≤ t * dcv t f m k ∧ t * dcv t f m k ≤ 167772160000) := by
  obtain ⟨a1, a2⟩ := dcv_bd ht0 ht1 hf m k h0 h1
  have hp := p64_le (m := m) (by omega)
  have hp0 := p64_pos m
  have b1 : -2621440000 ≤ dcv t f m k := by omega
  have b2 : dcv t f m k ≤ 2621440000 := by omega
  have key : ∀ s : Int, 0 ≤ s → s ≤ 64 → -167772160000 ≤ s * dcv t f m k ∧ s * dcv t f m k ≤ 167772160000 := fun s s0 s1 => by
    have c1 := Int.mul_le_mul_of_nonneg_left b1 s0
    have c2 := Int.mul_le_mul_of_nonneg_left b2 s0
    constructor
    · refine Int.le_trans ?_ c1; omega
    · refine Int.le_trans c2 ?_; omega
  exact ⟨⟨b1, b2⟩, key _ (by omega) (by omega), key _ ht0 ht1⟩
theorem dcv_0 (f : Int → Int) : ∀ (m : Nat) (k : Int), dcv 0 f m k = f k * p64 m
  | 0, k => by unfold dcv p64; omega
  | m + 1, k => by
    show (64 - 0) * dcv 0 f m k + 0 * dcv 0 f m (k + 1) = f k * (p64 m * 64)
    rw [dcv_0 f m k]; generalize f k = x; generalize p64 m = y; grind
theorem dcv_64 (f : Int → Int) : ∀ (m : Nat) (k : Int), dcv 64 f m k = f (k + m) * p64 m
  | 0, k => by simp [dcv, p64]
  | m + 1, k => by
    show (64 - 64) * dcv 64 f m k + 64 * dcv 64 f m (k + 1) = f (k + ((m + 1 : Nat) : Int)) * (p64 m * 64)
    rw [dcv_64 f m k, dcv_64 f m (k + 1), show k + 1 + (m : Int) = k + ((m + 1 : Nat) : Int) by omega]; generalize f (k + ((m + 1 : Nat) : Int)) = x; generalize p64 m = y; grind
theorem dcv_rev (t c : Int) (f g : Int → Int) (n : Int) (hg : ∀ j, 0 ≤ j → j < n → g j = f (n - 1 - j)) : ∀ (m : Nat) (k : Int), 0 ≤ k → k + m < n → dcv (64 - t) g m k = dcv t f m (n - 1 - m - k)
  | 0, k, h0, h1 => by unfold dcv; rw [hg k h0 (by omega)]; congr 1; omega
  | m + 1, k, h0, h1 => by
    unfold dcv
    rw [dcv_rev t c f g n hg m k h0 (by omega), dcv_rev t c f g n hg m (k + 1) (by omega) (by omega)]
    rw [show 64 - (64 - t) = t by omega, show n - 1 - ((m + 1 : Nat) : Int) - k = n - 1 - m - (k + 1) by omega, show n - 1 - (m : Int) - (k + 1) + 1 = n - 1 - m - k by omega]
    omega
theorem dcv_congr {t n : Int} {f g : Int → Int} (h : ∀ j, 0 ≤ j → j < n → f j = g j) : ∀ (m : Nat) (k : Int), 0 ≤ k → k + m < n → dcv t f m k = dcv t g m k
  | 0, k, h0, h1 => h k h0 (by omega)
  | m + 1, k, h0, h1 => by unfold dcv; rw [dcv_congr h m k h0 (by omega), dcv_congr h m (k + 1) (by omega) (by omega)]
/-- the rounded value -/
def rnd (a b : Int) : Int := (2 * a + b) / (2 * b)
def cvN (n t : Int) (f : Int → Int) : Int := rnd (dcv t f (n - 1).toNat 0) (p64 (n - 1).toNat)
theorem rnd_even {a b c : Int} (hb : b = 2 * c) : rnd a b = (a + b / 2) / b := by
  unfold rnd
  subst hb
  rw [show 2 * c / 2 = c by omega, show 2 * a + 2 * c = 2 * (a + c) by omega, Int.mul_ediv_mul_of_pos _ _ (by omega : (0:Int) < 2)]
theorem rnd_1 (a : Int) : rnd a 1 = a := by unfold rnd; omega
theorem rnd_mul {x p : Int} (hp : 1 ≤ p) : rnd (x * p) p = x := by
  unfold rnd
  have : 2 * (x * p) + p = p + x * (2 * p) := by rw [Int.mul_left_comm]; omega
  rw [this, Int.add_mul_ediv_right _ _ (by omega), Int.ediv_eq_zero_of_lt (by omega) (by omega)]; omega
theorem rnd_mono {a b p : Int} (hp : 1 ≤ p) (h : a ≤ b) : rnd a p ≤ rnd b p := Int.ediv_le_ediv (by omega) (by omega)
theorem cvN_in {n t lo hi : Int} {f : Int → Int} (hn : 1 ≤ n) (ht0 : 0 ≤ t) (ht1 : t ≤ 64) (hf : ∀ j, 0 ≤ j → j < n → lo ≤ f j ∧ f j ≤ hi) : lo ≤ cvN n t f ∧ cvN n t f ≤ hi := by
  obtain ⟨a1, a2⟩ := dcv_bd ht0 ht1 hf (n - 1).toNat 0 (by omega) (by omega)
  have hp := p64_pos (n - 1).toNat
  unfold cvN
  exact ⟨by have := rnd_mono hp a1; rwa [rnd_mul hp] at this, by have := rnd_mono hp a2; rwa [rnd_mul hp] at this⟩
theorem cvN_0 {n : Int} (f : Int → Int) : cvN n 0 f = f 0 := by unfold cvN; rw [dcv_0, rnd_mul (p64_pos _)]
theorem cvN_64 {n : Int} (hn : 1 ≤ n) (f : Int → Int) : cvN n 64 f = f (n - 1) := by unfold cvN; rw [dcv_64, rnd_mul (p64_pos _)]; congr 1; omega
theorem cvN_rev {n t : Int} {f g : Int → Int} (hn : 1 ≤ n) (hg : ∀ j, 0 ≤ j → j < n → g j = f (n - 1 - j)) : cvN n (64 - t) g = cvN n t f := by
  unfold cvN; rw [dcv_rev t 0 f g n hg _ 0 (by omega) (by omega)]; congr 2; omega
/-- two control points: a line -/
theorem cvN_line {a b k : Int} (f : Int → Int) (h0 : f 0 = a) (h1 : f 1 = b) : cvN 2 (4 * k) f = a + (k * (b - a) + 8) / 16 := by
  unfold cvN
  have e : dcv (4 * k) f (2 - 1 : Int).toNat 0 = 64 * a + 4 * (k * (b - a)) := by
    show (64 - 4 * k) * f 0 + 4 * k * f (0 + 1) = _
    rw [show (0 : Int) + 1 = 1 from rfl, h0, h1, Int.sub_mul, Int.mul_sub, Int.mul_assoc, Int.mul_assoc]; omega
  rw [e, show p64 (2 - 1 : Int).toNat = 64 from rfl]
  unfold rnd
  generalize k * (b - a) = d
  omega
theorem floor_e {a b : Int} (hb : 1 ≤ b) : (a.tmod b < 0 → a.tdiv b - 1 = a / b) ∧ (0 ≤ a.tmod b → a.tdiv b = a / b) := by
  rcases Int.le_total 0 a with h | h
  · have e1 : a.tmod b = a % b := Int.tmod_eq_emod_of_nonneg h
    have e2 : a.tdiv b = a / b := Int.tdiv_eq_ediv_of_nonneg h
    have := Int.emod_nonneg a (show b ≠ 0 by omega)
    exact ⟨fun h => by omega, fun _ => e2⟩
  · obtain ⟨c, rfl⟩ : ∃ c, a = -c := ⟨-a, by omega⟩
    have hc : 0 ≤ c := by omega
    have e1 : (-c).tmod b = -(c % b) := by rw [Int.neg_tmod, Int.tmod_eq_emod_of_nonneg hc]
    have e2 : (-c).tdiv b = -(c / b) := by rw [Int.neg_tdiv, Int.tdiv_eq_ediv_of_nonneg hc]
    have m0 := Int.emod_nonneg c (show b ≠ 0 by omega)
    have m1 := Int.emod_lt_of_pos c (show 0 < b by omega)
    have m2 := Int.emod_add_mul_ediv c b
    rw [e1, e2]
    refine ⟨fun h => ?_, fun h => ?_⟩
    · refine (((Int.ediv_emod_unique (r := b - c % b) (q := -(c / b) - 1) (show 0 < b by omega)).2 ⟨?_, by omega, by omega⟩).1).symm
      rw [Int.mul_sub, Int.mul_neg]; omega
    · refine (((Int.ediv_emod_unique (r := 0) (q := -(c / b)) (show 0 < b by omega)).2 ⟨?_, by omega, by omega⟩).1).symm
      rw [Int.mul_neg]; omega
theorem tdiv_bd {a b : Int} (hb : 1 ≤ b) (h1 : -9223372036854775807 ≤ a) (h2 : a ≤ 9223372036854775807) : iquo a b = a.tdiv b ∧ (a.tmod b < 0 → isub (a.tdiv b) 1 = a.tdiv b - 1) := by
  refine ⟨iquo_e (by omega) (by omega) hb, fun _ => ?_⟩
  have : -9223372036854775807 ≤ a.tdiv b ∧ a.tdiv b ≤ 9223372036854775807 := by
    rcases Int.le_total 0 a with h | h
    · rw [Int.tdiv_eq_ediv_of_nonneg h]
      have := Int.ediv_nonneg h (show 0 ≤ b by omega)
      have := Int.ediv_le_self b h
      omega
    · obtain ⟨c, rfl⟩ : ∃ c, a = -c := ⟨-a, by omega⟩
      rw [Int.neg_tdiv, Int.tdiv_eq_ediv_of_nonneg (show 0 ≤ c by omega)]
      have := Int.ediv_nonneg (show 0 ≤ c by omega) (show 0 ≤ b by omega)
      have := Int.ediv_le_self b (show 0 ≤ c by omega)
      omega
  exact isub_e (by omega) (by omega)
theorem tmod_emod (d : Int) : (-360 < d.tmod 360 ∧ d.tmod 360 < 360) ∧ (d.tmod 360 < 0 → d.tmod 360 + 360 = d % 360) ∧ (0 ≤ d.tmod 360 → d.tmod 360 = d % 360) := by
  rcases Int.le_total 0 d with h | h
  · have := Int.tmod_eq_emod_of_nonneg (b := 360) h; omega
  · obtain ⟨c, rfl⟩ : ∃ c, d = -c := ⟨-d, by omega⟩
    have e1 : (-c).tmod 360 = -(c % 360) := by rw [Int.neg_tmod, Int.tmod_eq_emod_of_nonneg (by omega)]
    omega
theorem degW_e (d : Int) : degW d = d % 360 := by
  obtain ⟨h1, h2, h3⟩ := tmod_emod d
  unfold degW
  rw [irem_e, irem_e, iadd_e (by omega) (by omega), Int.tmod_eq_emod_of_nonneg (by omega)]
  omega
def cosF (d : Int) : Int := sinF (d % 360 + 90)
theorem sinF_bd (d : Int) : -4096 ≤ sinF d ∧ sinF d ≤ 4096 := by
  have m0 := Int.emod_nonneg d (show (360 : Int) ≠ 0 by omega)
  have m1 := Int.emod_lt_of_pos d (show (0 : Int) < 360 by omega)
  unfold sinF
  split
  · have := sinN_in (k := d % 360) (by omega) (by omega); omega
  · split
    · have := sinN_in (k := 180 - d % 360) (by omega) (by omega); omega
    · split
      · have := sinN_in (k := d % 360 - 180) (by omega) (by omega); omega
      · have := sinN_in (k := 360 - d % 360) (by omega) (by omega); omega
theorem cosF_bd (d : Int) : -4096 ≤ cosF d ∧ cosF d ≤ 4096 := sinF_bd _
def rnd4 (n : Int) : Int := (n + 2048) / 4096
theorem rnd_4 (n : Int) : rnd n 4096 = rnd4 n := by unfold rnd rnd4; omega
theorem mul40 {x y a : Int} (h0 : 0 ≤ a) (hx : -a ≤ x ∧ x ≤ a) (hy : -4096 ≤ y ∧ y ≤ 4096) : -(a * 4096) ≤ x * y ∧ x * y ≤ a * 4096 := by
  have h := mul_box hx.1 hx.2 hy.1 hy.2
  have e1 : (-a) * (-4096 : Int) = a * 4096 := by omega
  have e2 : (-a) * (4096 : Int) = -(a * 4096) := by omega
  have e3 : a * (-4096 : Int) = -(a * 4096) := by omega
  rw [e1, e2, e3] at h
  omega
def rotX (x y d : Int) : Int := rnd4 (x * cosF d - y * sinF d)
def rotY (x y d : Int) : Int := rnd4 (x * sinF d + y * cosF d)
theorem rot_0 (x d : Int) : rotX x 0 d = rnd4 (x * cosF d) ∧ rotY x 0 d = rnd4 (x * sinF d) := by
  unfold rotX rotY; simp
theorem rnd4_bd {x s a : Int} (h0 : 0 ≤ a) (hx : -a ≤ x ∧ x ≤ a) (hs : -4096 ≤ s ∧ s ≤ 4096) : -a ≤ rnd4 (x * s) ∧ rnd4 (x * s) ≤ a := by
  have := mul40 h0 hx hs
  unfold rnd4
  omega
def gsB (a1 a2 a3 : List Int) (s : Int) : Bool := armB a1 a2 a3 && decide (ilen a1 = 2) && inB s 1 360
def gsN (a2 a3 : List Int) (s i : Int) : Int := iadd (iquo (isub (geti a3 i) (geti a2 i)) s) 1
def gsK (a1 a2 a3 : List Int) (s i : Int) : Int := if gsB a1 a2 a3 s = true ∧ gsN a2 a3 s 0 ≤ 20 ∧ gsN a2 a3 s 1 ≤ 20 then gsN a2 a3 s i else 0
theorem armB_len {a1 a2 a3 : List Int} (h : armB a1 a2 a3 = true) : ilen a2 = ilen a1 ∧ ilen a3 = ilen a1 := by
  unfold armB at h
  simp only [Bool.and_eq_true, decide_eq_true_eq] at h
  exact ⟨h.1.1.2, h.1.2⟩
theorem armB_at {a1 a2 a3 : List Int} (h : armB a1 a2 a3 = true) {i : Int} (h0 : 0 ≤ i) (h1 : i < ilen a1) : (-180 ≤ geti a2 i ∧ geti a2 i ≤ 180) ∧ geti a2 i ≤ geti a3 i ∧ geti a3 i ≤ 180 := by
  unfold armB at h
  simp only [Bool.and_eq_true] at h
  have := allN_iff.1 h.2 i h0 h1
  unfold armE at this
  simp only [Bool.and_eq_true] at this
  have b1 := inB_true this.1.2; have b2 := inB_true this.2
  omega
theorem gsB_parts {a1 a2 a3 : List Int} {s : Int} (h : gsB a1 a2 a3 s = true) : armB a1 a2 a3 = true ∧ ilen a1 = 2 ∧ 1 ≤ s ∧ s ≤ 360 := by
  unfold gsB at h
  simp only [Bool.and_eq_true, decide_eq_true_eq] at h
  have := inB_true h.2
  exact ⟨h.1.1, h.1.2, this.1, this.2⟩
theorem gsN_e {a1 a2 a3 : List Int} {s i : Int} (h : gsB a1 a2 a3 s = true) (h0 : 0 ≤ i) (h1 : i < 2) : gsN a2 a3 s i = (geti a3 i - geti a2 i) / s + 1 ∧ 0 ≤ (geti a3 i - geti a2 i) / s ∧ (geti a3 i - geti a2 i) / s ≤ 360 ∧ (geti a3 i - geti a2 i) / s * s ≤ geti a3 i - geti a2 i := by
  obtain ⟨ha, hl, s1, s2⟩ := gsB_parts h
  obtain ⟨b1, b2, b3⟩ := armB_at ha h0 (by omega)
  have e1 : isub (geti a3 i) (geti a2 i) = geti a3 i - geti a2 i := isub_e (by omega) (by omega)
  have q0 : 0 ≤ (geti a3 i - geti a2 i) / s := Int.ediv_nonneg (by omega) (by omega)
  have q1 : (geti a3 i - geti a2 i) / s ≤ 360 := by
    have := Int.ediv_le_self (a := geti a3 i - geti a2 i) s (by omega)
    omega
  unfold gsN
  rw [e1, iquo_e (by omega) (by omega) s1, Int.tdiv_eq_ediv_of_nonneg (by omega), iadd_e (by omega) (by omega)]
  exact ⟨rfl, q0, q1, Int.ediv_mul_le _ (by omega)⟩
theorem gsK_cases (a1 a2 a3 : List Int) (s : Int) : (gsK a1 a2 a3 s 0 = 0 ∧ gsK a1 a2 a3 s 1 = 0) ∨ (gsB a1 a2 a3 s = true ∧ gsN a2 a3 s 0 ≤ 20 ∧ gsN a2 a3 s 1 ≤ 20 ∧ gsK a1 a2 a3 s 0 = gsN a2 a3 s 0 ∧ gsK a1 a2 a3 s 1 = gsN a2 a3 s 1 ∧ 1 ≤ gsN a2 a3 s 0 ∧ 1 ≤ gsN a2 a3 s 1) := by
  unfold gsK
  by_cases h : gsB a1 a2 a3 s = true ∧ gsN a2 a3 s 0 ≤ 20 ∧ gsN a2 a3 s 1 ≤ 20
  · rw [if_pos h, if_pos h]
    have h0 := gsN_e h.1 (i := 0) (by omega) (by omega)
    have h1 := gsN_e h.1 (i := 1) (by omega) (by omega)
    exact .inr ⟨h.1, h.2.1, h.2.2, rfl, rfl, by omega, by omega⟩
  · rw [if_neg h, if_neg h]; exact .inl ⟨rfl, rfl⟩
theorem div_anti {d s t : Int} (hd : 0 ≤ d) (hs : 1 ≤ s) (ht : s ≤ t) : d / t ≤ d / s := by
  refine (Int.le_ediv_iff_mul_le (by omega)).2 ?_
  have h1 : d / t * t ≤ d := Int.ediv_mul_le _ (by omega)
  have h0 : 0 ≤ d / t := Int.ediv_nonneg hd (by omega)
  have := Int.mul_le_mul_of_nonneg_left ht h0
  omega
theorem gsK_less {a1 a2 a3 : List Int} {s : Int} (hs : 0 ≤ s ∧ s ≤ 361) (h : gsK a1 a2 a3 s 0 ≠ 0) :
    (1 ≤ gsK a1 a2 a3 s 0 ∧ 1 ≤ gsK a1 a2 a3 s 1) ∧ (gsK a1 a2 a3 (min 360 (s + 1)) 0 ≤ gsK a1 a2 a3 s 0 ∧ gsK a1 a2 a3 (min 360 (s + 1)) 1 ≤ gsK a1 a2 a3 s 1) ∧ 1 ≤ gsK a1 a2 a3 (min 360 (s + 1)) 0 ∧ gsK a1 a2 a3 s 0 ≤ 20 ∧ gsK a1 a2 a3 s 1 ≤ 20 := by
  rcases gsK_cases a1 a2 a3 s with ⟨h0, _⟩ | ⟨hB, g0, g1, e0, e1, m0, m1⟩
  · exact absurd h0 h
  obtain ⟨ha, hl, s1, s2⟩ := gsB_parts hB
  have hB' : gsB a1 a2 a3 (min 360 (s + 1)) = true := by
    unfold gsB
    rw [ha, hl]; unfold inB; simp; omega
  obtain ⟨b1, b2, b3⟩ := armB_at ha (i := 0) (by omega) (by omega)
  obtain ⟨c1, c2, c3⟩ := armB_at ha (i := 1) (by omega) (by omega)
  have p0 := (gsN_e hB (i := 0) (by omega) (by omega)).1
  have p1 := (gsN_e hB (i := 1) (by omega) (by omega)).1
  have q0 := gsN_e hB' (i := 0) (by omega) (by omega)
  have q1 := gsN_e hB' (i := 1) (by omega) (by omega)
  have d0 := div_anti (d := geti a3 0 - geti a2 0) (s := s) (t := min 360 (s + 1)) (by omega) s1 (by omega)
  have d1 := div_anti (d := geti a3 1 - geti a2 1) (s := s) (t := min 360 (s + 1)) (by omega) s1 (by omega)
  rcases gsK_cases a1 a2 a3 (min 360 (s + 1)) with ⟨h0, h1⟩ | ⟨_, _, _, f0, f1, _, _⟩
  · exfalso
    unfold gsK at h0
    rw [if_pos ⟨hB', by omega, by omega⟩] at h0
    omega
  · omega
def cjB (a1 a2 a3 : List Int) (s c1 c2 : Int) : Bool := inB c1 0 (isub (gsK a1 a2 a3 s 0) 1) && inB c2 0 (isub (gsK a1 a2 a3 s 1) 1)
def cjL (a1 a2 a3 : List Int) (s c1 c2 : Int) : List Int := if cjB a1 a2 a3 s c1 c2 then [iadd (geti a2 0) (imul c1 s), iadd (geti a2 1) (imul c2 s)] else []
theorem cj_parts {a1 a2 a3 : List Int} {s c1 c2 : Int} (h : cjB a1 a2 a3 s c1 c2 = true) : gsB a1 a2 a3 s = true ∧ ilen a2 = 2 ∧ ilen a3 = 2 ∧ (0 ≤ c1 ∧ c1 ≤ 19 ∧ c1 ≤ (geti a3 0 - geti a2 0) / s) ∧ (0 ≤ c2 ∧ c2 ≤ 19 ∧ c2 ≤ (geti a3 1 - geti a2 1) / s) ∧ gsK a1 a2 a3 s 0 = gsN a2 a3 s 0 ∧ gsK a1 a2 a3 s 1 = gsN a2 a3 s 1 := by
  unfold cjB at h
  simp only [Bool.and_eq_true] at h
  have b1 := inB_true h.1; have b2 := inB_true h.2
  rcases gsK_cases a1 a2 a3 s with ⟨h0, h1⟩ | ⟨hB, g0, g1, e0, e1, m0, m1⟩
  · rw [h0] at b1
    have : isub 0 1 = -1 := isub_e (by omega) (by omega)
    omega
  · obtain ⟨ha, hl, s1, s2⟩ := gsB_parts hB
    obtain ⟨l2, l3⟩ := armB_len ha
    have q0 := gsN_e hB (i := 0) (by omega) (by omega)
    have q1 := gsN_e hB (i := 1) (by omega) (by omega)
    rw [e0, isub_e (by omega) (by omega)] at b1
    rw [e1, isub_e (by omega) (by omega)] at b2
    exact ⟨hB, by omega, by omega, by omega, by omega, e0, e1⟩
theorem cj_val {a1 a2 a3 : List Int} {s c1 c2 : Int} (h : cjB a1 a2 a3 s c1 c2 = true) :
    cjL a1 a2 a3 s c1 c2 = [geti a2 0 + c1 * s, geti a2 1 + c2 * s] ∧ (iadd (geti a2 0) (imul c1 s) = geti a2 0 + c1 * s) ∧ (geti a2 0 ≤ geti a2 0 + c1 * s ∧ geti a2 0 + c1 * s ≤ geti a3 0) ∧ (geti a2 1 ≤ geti a2 1 + c2 * s ∧ geti a2 1 + c2 * s ≤ geti a3 1) := by
  obtain ⟨hB, l2, l3, p1, p2, -, -⟩ := cj_parts h
  obtain ⟨ha, hl, s1, s2⟩ := gsB_parts hB
  obtain ⟨b1, b2, b3⟩ := armB_at ha (i := 0) (by omega) (by omega)
  obtain ⟨d1, d2, d3⟩ := armB_at ha (i := 1) (by omega) (by omega)
  have q0 := gsN_e hB (i := 0) (by omega) (by omega)
  have q1 := gsN_e hB (i := 1) (by omega) (by omega)
  have m1 : 0 ≤ c1 * s := Int.mul_nonneg p1.1 (by omega)
  have m2 : 0 ≤ c2 * s := Int.mul_nonneg p2.1 (by omega)
  have n1 := Int.mul_le_mul_of_nonneg_right p1.2.2 (show 0 ≤ s by omega)
  have n2 := Int.mul_le_mul_of_nonneg_right p2.2.2 (show 0 ≤ s by omega)
  have w1 : imul c1 s = c1 * s := imul_e (by omega) (by omega)
  have w2 : imul c2 s = c2 * s := imul_e (by omega) (by omega)
  have v1 : iadd (geti a2 0) (c1 * s) = geti a2 0 + c1 * s := iadd_e (by omega) (by omega)
  have v2 : iadd (geti a2 1) (c2 * s) = geti a2 1 + c2 * s := iadd_e (by omega) (by omega)
  unfold cjL
  rw [if_pos h, w1, w2, v1, v2]
  exact ⟨rfl, rfl, by omega, by omega⟩
def jvB (a1 a2 a3 j : List Int) : Bool := armB a1 a2 a3 && decide (ilen j = ilen a1) && allN (ilen j) fun k => inB (geti j k) (geti a2 k) (geti a3 k)
def insE (l : List Pt) (p1 p2 i : Int) : Bool := decide (0 ≤ crW (getx l i) (gety l i) (getx l (nx l i)) (gety l (nx l i)) p1 p2)
def insB (l : List Pt) (p1 p2 : Int) : Bool := allN (ilen l) (insE l p1 p2)
def orB (a1 a2 b1 b2 c1 c2 : Int) : Int := if vB a1 a2 && vB b1 b2 && vB c1 c2 then sgn (crW a1 a2 b1 b2 c1 c2) else 0
def orI (l : List Pt) (i j : Int) : Int := orB (getx l i) (gety l i) (getx l (nx l i)) (gety l (nx l i)) (getx l j) (gety l j)
def convF (l : List Pt) (i j : Int) : Bool := decide (j = i ∨ j = nx l i ∨ orI l i j = 1)
def convS (l : List Pt) : Bool := inB (ilen l) 3 8 && allN (ilen l) fun i => allN (ilen l) fun j => convF l i j
theorem convS_eq (l : List Pt) : convS l = convB l := by
  unfold convS convB
  cases h1 : inB (ilen l) 3 8 with
  | false => rfl
  | true =>
    have hl := inB_true h1
    simp only [Bool.true_and]
    cases h2 : allB l with
    | true =>
      simp only [Bool.true_and]
      refine allN_congr fun i i0 i1 => allN_congr fun j j0 j1 => ?_
      rw [allB_N] at h2
      have hv := allN_iff.1 h2
      obtain ⟨n0, n1, _⟩ := nx_in i0 i1
      have e : orI l i j = sgn (cr l i (nx l i) j) := by unfold orI orB cr; rw [hv i i0 i1, hv _ n0 n1, hv j j0 j1]; rfl
      unfold convF convE
      rw [e]
      have : (sgn (cr l i (nx l i) j) = 1) ↔ 0 < cr l i (nx l i) j := by unfold sgn; split <;> (try split) <;> omega
      simp only [this]
    | false =>
      simp only [Bool.false_and]
      rw [allB_N] at h2
      obtain ⟨j, j0, j1, hj⟩ : ∃ j, 0 ≤ j ∧ j < ilen l ∧ vB (getx l j) (gety l j) = false := by
        apply Classical.byContradiction
        intro hn
        rw [allN_mk fun j j0 j1 => by cases e : vB (getx l j) (gety l j) with | true => rfl | false => exact absurd ⟨j, j0, j1, e⟩ hn] at h2
        cases h2
      obtain ⟨n0, n1, n2⟩ := nx_in j0 j1
      obtain ⟨m0, m1, m2⟩ := nx_in n0 n1
      refine allN_no (nx l j) n0 n1 (allN_no j j0 j1 ?_)
      have e : orI l (nx l j) j = 0 := by unfold orI orB; rw [hj]; simp
      unfold convF
      rw [e]
      simp only [decide_eq_false_iff_not]
      omega
def hitE (l : List Pt) (a1 a2 b1 b2 i : Int) : Bool := meetB (a1, a2) (b1, b2) (getx l i, gety l i) (getx l (nx l i), gety l (nx l i))
def hitB (l : List Pt) (a1 a2 b1 b2 : Int) : Bool := insB l a1 a2 || insB l b1 b2 || anyN (ilen l) (hitE l a1 a2 b1 b2)
theorem allB_at {l : List Pt} (h : allB l = true) {i : Int} (h0 : 0 ≤ i) (h1 : i < ilen l) : vB (getx l i) (gety l i) = true := by
  rw [allB_N] at h; exact allN_iff.1 h i h0 h1
theorem convB_all {l : List Pt} (h : convB l = true) : 3 ≤ ilen l ∧ ilen l ≤ 8 ∧ allB l = true := by
  unfold convB at h
  simp only [Bool.and_eq_true] at h
  exact ⟨(inB_true h.1.1).1, (inB_true h.1.1).2, h.1.2⟩
theorem allB_2 (a1 a2 b1 b2 : Int) : allB [(a1, a2), (b1, b2)] = (vB a1 a2 && vB b1 b2) := by simp [allB]
def dirK (J : List Int) (k : Int) : Int := foldN k (fun a i => a + geti J i) 0
def apX (L J : List Int) (k : Int) : Int := foldN k (fun a i => a + rotX (geti L i) 0 (dirK J (i + 1))) 0
def apY (L J : List Int) (k : Int) : Int := foldN k (fun a i => a + rotY (geti L i) 0 (dirK J (i + 1))) 0
def apL (L J : List Int) (n : Int) : List Pt := (List.range n.toNat).map fun (i : Nat) => (apX L J i, apY L J i)
theorem dirK_1 {J : List Int} {k : Int} (h : 0 ≤ k) : dirK J (k + 1) = dirK J k + geti J k := foldN_1 h
theorem apX_1 {L J : List Int} {k : Int} (h : 0 ≤ k) : apX L J (k + 1) = apX L J k + rotX (geti L k) 0 (dirK J (k + 1)) := foldN_1 h
theorem apY_1 {L J : List Int} {k : Int} (h : 0 ≤ k) : apY L J (k + 1) = apY L J k + rotY (geti L k) 0 (dirK J (k + 1)) := foldN_1 h
theorem dirK_bd {J : List Int} {n : Int} (h : ∀ j, 0 ≤ j → j < n → -180 ≤ geti J j ∧ geti J j ≤ 180) : ∀ k : Nat, (k : Int) ≤ n → -(180 * (k : Int)) ≤ dirK J k ∧ dirK J k ≤ 180 * (k : Int)
  | 0, _ => by
    have : dirK J ((0 : Nat) : Int) = 0 := rfl
    rw [this]; omega
  | k + 1, hk => by
    have ih := dirK_bd h k (by omega)
    have hj := h k (by omega) (by omega)
    rw [show ((k + 1 : Nat) : Int) = (k : Int) + 1 by omega, dirK_1 (by omega)]
    omega
theorem ap_bd {L J : List Int} {n : Int} (h : ∀ j, 0 ≤ j → j < n → 1 ≤ geti L j ∧ geti L j ≤ 500) : ∀ k : Nat, (k : Int) ≤ n → (-(500 * (k : Int)) ≤ apX L J k ∧ apX L J k ≤ 500 * (k : Int)) ∧ (-(500 * (k : Int)) ≤ apY L J k ∧ apY L J k ≤ 500 * (k : Int))
  | 0, _ => by
    have h1 : apX L J ((0 : Nat) : Int) = 0 := rfl
    have h2 : apY L J ((0 : Nat) : Int) = 0 := rfl
    rw [h1, h2]; omega
  | k + 1, hk => by
    have ih := ap_bd (J := J) h k (by omega)
    have hl := h k (by omega) (by omega)
    rw [show ((k + 1 : Nat) : Int) = (k : Int) + 1 by omega, apX_1 (by omega), apY_1 (by omega)]
    obtain ⟨e1, e2⟩ := rot_0 (geti L k) (dirK J ((k : Int) + 1))
    have q1 := rnd4_bd (x := geti L k) (s := cosF (dirK J ((k : Int) + 1))) (a := 500) (by omega) (by omega) (cosF_bd _)
    have q2 := rnd4_bd (x := geti L k) (s := sinF (dirK J ((k : Int) + 1))) (a := 500) (by omega) (by omega) (sinF_bd _)
    rw [e1, e2]
    omega
theorem apL_len {L J : List Int} {n : Int} (h : 0 ≤ n) : ilen (apL L J n) = n := by unfold ilen apL; simp; omega
theorem apL_s {L J : List Int} {k : Int} (h : 0 ≤ k) : iapp (apL L J k) [(apX L J k, apY L J k)] = apL L J (k + 1) := by
  unfold iapp apL
  rw [show (k + 1).toNat = k.toNat + 1 by omega, List.range_succ, List.map_append]
  simp [Int.toNat_of_nonneg h]
theorem apL_get {L J : List Int} {n k : Int} (h0 : 0 ≤ k) (h1 : k < n) : getx (apL L J n) k = apX L J k ∧ gety (apL L J n) k = apY L J k := by
  obtain ⟨h, e1, e2⟩ := get_at (l := apL L J n) h0 (by rw [apL_len (by omega)]; exact h1)
  have e : (apL L J n)[k.toNat] = (apX L J k, apY L J k) := by simp [apL, Int.toNat_of_nonneg h0]
  rw [e1, e2, e]
  exact ⟨rfl, rfl⟩
theorem jv_p {a1 a2 a3 j : List Int} (h : jvB a1 a2 a3 j = true) : armB a1 a2 a3 = true ∧ ilen j = ilen a1 ∧ (1 ≤ ilen a1 ∧ ilen a1 ≤ 4) ∧ (∀ k, 0 ≤ k → k < ilen a1 → 1 ≤ geti a1 k ∧ geti a1 k ≤ 500) ∧ ∀ k, 0 ≤ k → k < ilen a1 → (-180 ≤ geti j k ∧ geti j k ≤ 180) := by
  unfold jvB at h
  simp only [Bool.and_eq_true, decide_eq_true_eq] at h
  obtain ⟨⟨ha, hl⟩, hx⟩ := h
  have ha0 := ha
  unfold armB at ha0
  simp only [Bool.and_eq_true] at ha0
  refine ⟨ha, hl, inB_true ha0.1.1.1, fun k k0 k1 => ?_, fun k k0 k1 => ?_⟩
  · have := allN_iff.1 ha0.2 k k0 k1
    unfold armE at this
    simp only [Bool.and_eq_true] at this
    exact inB_true this.1.1
  · have b := inB_true (allN_iff.1 hx k k0 (by omega))
    have := armB_at ha k0 (by omega)
    omega
theorem jv_bd {a1 a2 a3 j : List Int} (h : jvB a1 a2 a3 j = true) {k : Int} (h0 : 0 ≤ k) (h1 : k ≤ ilen a1) : (-720 ≤ dirK j k ∧ dirK j k ≤ 720) ∧ (-2000 ≤ apX a1 j k ∧ apX a1 j k ≤ 2000) ∧ (-2000 ≤ apY a1 j k ∧ apY a1 j k ≤ 2000) := by
  obtain ⟨_, _, hl, hb, hd⟩ := jv_p h
  have q1 := dirK_bd hd k.toNat (by omega)
  have q2 := ap_bd (J := j) hb k.toNat (by omega)
  rw [Int.toNat_of_nonneg h0] at q1 q2
  omega
theorem jv_vB {a1 a2 a3 j : List Int} (h : jvB a1 a2 a3 j = true) {k : Int} (h0 : 0 ≤ k) (h1 : k ≤ ilen a1) : vB (apX a1 j k) (apY a1 j k) = true := by
  have := jv_bd h h0 h1
  exact vB_mk (by omega)
def segM (L J : List Int) (i m : Int) : Bool := meetB (apX L J i, apY L J i) (apX L J (i + 1), apY L J (i + 1)) (apX L J m, apY L J m) (apX L J (m + 1), apY L J (m + 1))
def scE (L J : List Int) (i m : Int) : Bool := !(decide (i + 2 ≤ m) && segM L J i m)
def scB (a1 a2 a3 j : List Int) : Bool := jvB a1 a2 a3 j && allN (ilen a1) fun i => allN (ilen a1) (scE a1 j i)
def acE (L J : List Int) (l : List Pt) (i : Int) : Bool := !(hitB l (apX L J i) (apY L J i) (apX L J (i + 1)) (apY L J (i + 1)))
def acN (L J : List Int) (l : List (List Pt)) (i : Int) : Bool := allN (ilen l) fun o => acE L J (getl l o) i
def acB (L J : List Int) (l : List (List Pt)) : Bool := allN (ilen L) (acN L J l)
def sceneB (l : List (List Pt)) : Bool := ile (ilen l) 6 && allN (ilen l) fun i => convB (getl l i)
theorem scene_at {l : List (List Pt)} (h : sceneB l = true) : ilen l ≤ 6 ∧ ∀ o, 0 ≤ o → o < ilen l → convB (getl l o) = true ∧ allB (getl l o) = true := by
  unfold sceneB at h
  simp only [Bool.and_eq_true] at h
  refine ⟨by simpa [ile] using h.1, fun o o0 o1 => ?_⟩
  have := allN_iff.1 h.2 o o0 o1
  exact ⟨this, (convB_all this).2.2⟩
def s_spec_DrawSelfClear (n : Int) : SgY := ⟨n ≤ 1048576, [.ints, .ints, .ints, .ints], (fun | [.ints x, .ints y, .ints z, .ints j] => ilen x ≤ 10 ∧ ilen y ≤ 10 ∧ ilen z ≤ 10 ∧ ilen j ≤ 10 | _ => False), (fun | [.ints x, .ints y, .ints z, .ints j] => [.agg [.view (.ints (x)), .view (.ints (y)), .view (.ints (z))], .s (.view (.ints (j)))] | _ => [])⟩
def g_spec_DrawSelfClear : List AV → Option SgY
  | [.s (.rdr n)] => some (s_spec_DrawSelfClear n)
  | _ => none
def sig_oAr : FuncId → List AV → Option Sg := sigL []
def xs_oAr : XS := ⟨xsigL [(44, g_spec_l20Rd_pick), (63, g_spec_l20Rd_odd)], ysigL []⟩
theorem sig_oAr_ok : SigOK sig_oAr := sigL_nil
theorem xs_oAr_ok : XSigOK xs_oAr := ⟨xsigL_cons F_spec_l20Rd_pick (xsigL_cons F_spec_l20Rd_odd xsigL_nil), ysigL_nil⟩
def ownM (σ : St) : SV → Cont → Prop
  | .row k, c => match lookB σ.b k with
    | some (.row e c') => (Nat.blt 0 k && e == 3) = true ∧ c' = c
    | _ => False
  | _, _ => False
def apartM : SV → SV → Bool
  | .row i, .row j => !(i == j)
  | _, _ => false
def armM (σ : St) (t : Nat) (x y z : List Int) : Prop := match lookT σ.t t with
  | .s (.ptr k 0) => match lookB σ.b k with
    | some (.box [a, b, c]) => (((apartM a b && apartM a c && apartM b c) = true ∧ ownM σ a (.ints x) ∧ ownM σ b (.ints y) ∧ ownM σ c (.ints z)) ∨ (mSV σ a (.view (.ints x)) ∧ mSV σ b (.view (.ints y)) ∧ mSV σ c (.view (.ints z)) ∧ armB x y z = false))
    | _ => False
  | _ => False
def armX (t : Nat) (r1 r2 : Int) : XE → St → Prop
  | .exit _, _ => False
  | .normal, σ => ∃ x y z : List Int, ∃ q : Int, (ilen x ≤ 10 ∧ ilen y ≤ 10 ∧ ilen z ≤ 10 ∧ r2 ≤ q ∧ q ≤ r2 + 100) ∧ mBX σ (lookB σ.b 0) (.box [.rdr r1, .int q]) ∧ armM σ t x y z
  | .ret, σ => ∃ x y z : List Int, ∃ q : Int, (ilen x ≤ 10 ∧ ilen y ≤ 10 ∧ ilen z ≤ 10 ∧ r2 ≤ q ∧ q ≤ r2 + 100) ∧ mBX σ (lookB σ.b 0) (.box [.rdr r1, .int q]) ∧ armM σ t x y z
theorem arm_cut {x y z : List Int} {k : Int} (hx : ilen x = k) (hz : ilen z = k) (hk : 1 ≤ k) : armB x y (idrop z 1) = false := by
  have hd : ilen (idrop z 1) = k - 1 := by
    unfold ilen at hz
    unfold ilen idrop
    rw [List.length_drop]
    have : (1 : Int).toNat = 1 := rfl
    omega
  unfold armB
  have : decide (ilen (idrop z 1) = ilen x) = false := by simp; omega
  simp [this]
def L_oAr_0 (r2 : Int) (r1 : Int) (q_5 : Int) (l1_2 : List Int) (k_6 : Int) (k_8 : Int) (l1_3 : List Int) (l1_4 : List Int) : Prop := ∃ x : List Int, ∃ y : List Int, ∃ z : List Int, ∃ q : Int, (ilen x ≤ 10 ∧ ilen y ≤ 10 ∧ ilen z ≤ 10 ∧ r2 ≤ q ∧ q ≤ r2 + 100) ∧ ((true = true) ∧ (true = true) ∧ ((r1 : Int) = r1) ∧ ((((((q_5) + 1) + 1) + 1) : Int) = q) ∧ True) ∧ (((true = true) ∧ ((true = true) ∧ ((Cont.ints (seti l1_2 (k_6) (geti [(0 : Int), (501 : Int)] (k_8)))) = (Cont.ints x))) ∧ ((true = true) ∧ ((Cont.ints l1_3) = (Cont.ints y))) ∧ ((true = true) ∧ ((Cont.ints l1_4) = (Cont.ints z)))) ∨ (((true = true) ∧ ((Cont.ints (seti l1_2 (k_6) (geti [(0 : Int), (501 : Int)] (k_8)))) = (Cont.ints x))) ∧ ((true = true) ∧ ((Cont.ints l1_3) = (Cont.ints y))) ∧ ((true = true) ∧ ((Cont.ints l1_4) = (Cont.ints z))) ∧ (armB x y z = false)))
def L_oAr_1 (r2 : Int) (r1 : Int) (q_5 : Int) (l1_2 : List Int) (l1_3 : List Int) (k_6 : Int) (l1_4 : List Int) (k_9 : Int) : Prop := ∃ x : List Int, ∃ y : List Int, ∃ z : List Int, ∃ q : Int, (ilen x ≤ 10 ∧ ilen y ≤ 10 ∧ ilen z ≤ 10 ∧ r2 ≤ q ∧ q ≤ r2 + 100) ∧ ((true = true) ∧ (true = true) ∧ ((r1 : Int) = r1) ∧ ((((((q_5) + 1) + 1) + 1) : Int) = q) ∧ True) ∧ (((true = true) ∧ ((true = true) ∧ ((Cont.ints l1_2) = (Cont.ints x))) ∧ ((true = true) ∧ ((Cont.ints (seti l1_3 (k_6) (geti [(-181 : Int), (iadd (geti l1_4 (k_6)) (1 : Int))] (k_9)))) = (Cont.ints y))) ∧ ((true = true) ∧ ((Cont.ints l1_4) = (Cont.ints z)))) ∨ (((true = true) ∧ ((Cont.ints l1_2) = (Cont.ints x))) ∧ ((true = true) ∧ ((Cont.ints (seti l1_3 (k_6) (geti [(-181 : Int), (iadd (geti l1_4 (k_6)) (1 : Int))] (k_9)))) = (Cont.ints y))) ∧ ((true = true) ∧ ((Cont.ints l1_4) = (Cont.ints z))) ∧ (armB x y z = false)))
def L_oAr_2 (r2 : Int) (r1 : Int) (q_5 : Int) (l1_2 : List Int) (l1_3 : List Int) (l1_4 : List Int) : Prop := ∃ x : List Int, ∃ y : List Int, ∃ z : List Int, ∃ q : Int, (ilen x ≤ 10 ∧ ilen y ≤ 10 ∧ ilen z ≤ 10 ∧ r2 ≤ q ∧ q ≤ r2 + 100) ∧ ((true = true) ∧ (true = true) ∧ ((r1 : Int) = r1) ∧ (((((q_5) + 1) + 1) : Int) = q) ∧ True) ∧ (((false = true) ∧ ((true = true) ∧ ((Cont.ints l1_2) = (Cont.ints x))) ∧ ((true = true) ∧ ((Cont.ints l1_3) = (Cont.ints y))) ∧ (False)) ∨ (((true = true) ∧ ((Cont.ints l1_2) = (Cont.ints x))) ∧ ((true = true) ∧ ((Cont.ints l1_3) = (Cont.ints y))) ∧ ((Cont.ints (idrop l1_4 (1 : Int))) = (Cont.ints z)) ∧ (armB x y z = false)))
def L_oAr_3 (r2 : Int) (r1 : Int) (q_5 : Int) (l2_0 : List Int) (l1_3 : List Int) (l1_4 : List Int) : Prop := ∃ x : List Int, ∃ y : List Int, ∃ z : List Int, ∃ q : Int, (ilen x ≤ 10 ∧ ilen y ≤ 10 ∧ ilen z ≤ 10 ∧ r2 ≤ q ∧ q ≤ r2 + 100) ∧ ((true = true) ∧ (true = true) ∧ ((r1 : Int) = r1) ∧ (((((q_5) + 1) + 1) : Int) = q) ∧ True) ∧ (((true = true) ∧ ((true = true) ∧ ((Cont.ints l2_0) = (Cont.ints x))) ∧ ((true = true) ∧ ((Cont.ints l1_3) = (Cont.ints y))) ∧ ((true = true) ∧ ((Cont.ints l1_4) = (Cont.ints z)))) ∨ (((true = true) ∧ ((Cont.ints l2_0) = (Cont.ints x))) ∧ ((true = true) ∧ ((Cont.ints l1_3) = (Cont.ints y))) ∧ ((true = true) ∧ ((Cont.ints l1_4) = (Cont.ints z))) ∧ (armB x y z = false)))
def L_oAr_4 (r2 : Int) (r1 : Int) (q_5 : Int) (l1_2 : List Int) (l1_3 : List Int) (l1_4 : List Int) : Prop := ∃ x : List Int, ∃ y : List Int, ∃ z : List Int, ∃ q : Int, (ilen x ≤ 10 ∧ ilen y ≤ 10 ∧ ilen z ≤ 10 ∧ r2 ≤ q ∧ q ≤ r2 + 100) ∧ ((true = true) ∧ (true = true) ∧ ((r1 : Int) = r1) ∧ (((q_5) : Int) = q) ∧ True) ∧ (((true = true) ∧ ((true = true) ∧ ((Cont.ints l1_2) = (Cont.ints x))) ∧ ((true = true) ∧ ((Cont.ints l1_3) = (Cont.ints y))) ∧ ((true = true) ∧ ((Cont.ints l1_4) = (Cont.ints z)))) ∨ (((true = true) ∧ ((Cont.ints l1_2) = (Cont.ints x))) ∧ ((true = true) ∧ ((Cont.ints l1_3) = (Cont.ints y))) ∧ ((true = true) ∧ ((Cont.ints l1_4) = (Cont.ints z))) ∧ (armB x y z = false)))
theorem V_oAr (r1 : Int) (r2 : Int) (m : Int) (n : Int) : ((true = true) ∧ ((True) ∧ True) ∧ (true = true) ∧ ((True) ∧ (True) ∧ True) ∧ (True) ∧ (true = true) ∧ ((True) ∧ True) ∧ ∃ (I1 : List GV → Prop) (μ1 : List GV → Nat), (((true = true) ∧ ((((0 : Int) : Int) = (0 : Int)) ∧ ((True) ∧ (True) ∧ (True) ∧ True) ∧ (true = true) ∧ (true = true) ∧ (true = true) ∧ ((m : Int) = m) ∧ ((n : Int) = n) ∧ True) ∧ (((true = true) ∧ ((Cont.ints []) = (Cont.ints []))) ∧ ((true = true) ∧ ((Cont.ints []) = (Cont.ints []))) ∧ ((true = true) ∧ ((Cont.ints []) = (Cont.ints []))) ∧ ((true = true) ∧ (true = true) ∧ (true = true) ∧ True) ∧ (((r1 : Int) = r1) ∧ ((r2 : Int) = r2) ∧ True) ∧ ((True) ∧ (True) ∧ (True) ∧ True) ∧ True)) ∧ (([GK.int, GK.int, GK.ints, GK.ints, GK.ints] : List GK) = ([GK.int, GK.int, GK.ints, GK.ints, GK.ints] : List GK)) ∧ I1 [GV.int (0 : Int), GV.int r2, GV.ints [], GV.ints [], GV.ints []]) ∧ (∀ i1_0 : Int, ∀ i1_1 : Int, ∀ l1_2 : List Int, ∀ l1_3 : List Int, ∀ l1_4 : List Int, I1 [GV.int i1_0, GV.int i1_1, GV.ints l1_2, GV.ints l1_3, GV.ints l1_4] → ((true = true) ∧ ((True) ∧ (True) ∧ (True) ∧ True) ∧ ((ilt i1_0 m) = true → ((true = true) ∧ ((true = true) ∧ (True) ∧ ((true = true) ∧ (True) ∧ ((true = true) ∧ (True) ∧ ((true = true) ∧ ((r1 ≤ 2000 ∧ 0 ≤ i1_1 ∧ i1_1 ≤ 1000000)) ∧ (∀ k_1 : Int, ((pickP (120 : Int) k_1) → ((true = true) ∧ (True) ∧ ((true = true) ∧ (True) ∧ ((NLe (ilen l1_2) 1000000000 ∧ NLe (ilen [(iadd (1 : Int) (k_1))]) 1000000000) ∧ (True) ∧ (True) ∧ (true = true) ∧ ((True) ∧ True) ∧ (true = true) ∧ ((r1 ≤ 2000 ∧ 0 ≤ (i1_1 + 1) ∧ (i1_1 + 1) ≤ 1000000)) ∧ (∀ k_2 : Int, ((pickP (300 : Int) k_2) → ((True) ∧ (True) ∧ (true = true) ∧ ((True) ∧ (True) ∧ (True) ∧ (True) ∧ True) ∧ (NLe (ilen l1_3) 1000000000 ∧ NLe (ilen [(isub (k_2) (180 : Int))]) 1000000000) ∧ (True) ∧ (True) ∧ (true = true) ∧ ((true = true) ∧ (True) ∧ ((true = true) ∧ (True) ∧ ((true = true) ∧ (True) ∧ ((true = true) ∧ (True) ∧ ((true = true) ∧ (True) ∧ ((true = true) ∧ (True) ∧ ((true = true) ∧ (True) ∧ ((true = true) ∧ ((r1 ≤ 2000 ∧ 0 ≤ ((i1_1 + 1) + 1) ∧ ((i1_1 + 1) + 1) ≤ 1000000)) ∧ (∀ k_3 : Int, ((pickP (imin (60 : Int) (isub (181 : Int) (isub (k_2) (180 : Int)))) k_3) → ((true = true) ∧ (True) ∧ ((true = true) ∧ (True) ∧ ((NLe (ilen l1_4) 1000000000 ∧ NLe (ilen [(iadd (isub (k_2) (180 : Int)) (k_3))]) 1000000000) ∧ (True) ∧ (True) ∧ (true = true) ∧ ((True) ∧ (True) ∧ (True) ∧ True) ∧ ((true = true) ∧ ((((iadd i1_0 (1 : Int)) : Int) = (iadd i1_0 (1 : Int))) ∧ ((True) ∧ (True) ∧ (True) ∧ True) ∧ (true = true) ∧ (true = true) ∧ (true = true) ∧ ((m : Int) = m) ∧ ((n : Int) = n) ∧ True) ∧ (((true = true) ∧ ((Cont.ints (iapp l1_4 [(iadd (isub (k_2) (180 : Int)) (k_3))])) = (Cont.ints (iapp l1_4 [(iadd (isub (k_2) (180 : Int)) (k_3))])))) ∧ ((true = true) ∧ ((Cont.ints (iapp l1_3 [(isub (k_2) (180 : Int))])) = (Cont.ints (iapp l1_3 [(isub (k_2) (180 : Int))])))) ∧ ((true = true) ∧ ((Cont.ints (iapp l1_2 [(iadd (1 : Int) (k_1))])) = (Cont.ints (iapp l1_2 [(iadd (1 : Int) (k_1))])))) ∧ ((true = true) ∧ (true = true) ∧ (true = true) ∧ True) ∧ (((r1 : Int) = r1) ∧ (((((i1_1 + 1) + 1) + 1) : Int) = (((i1_1 + 1) + 1) + 1)) ∧ True) ∧ ((True) ∧ (True) ∧ (True) ∧ True) ∧ True)) ∧ ((([GK.int, GK.int, GK.ints, GK.ints, GK.ints] : List GK) = ([GK.int, GK.int, GK.ints, GK.ints, GK.ints] : List GK)) ∧ I1 [GV.int (iadd i1_0 (1 : Int)), GV.int (((i1_1 + 1) + 1) + 1), GV.ints (iapp l1_2 [(iadd (1 : Int) (k_1))]), GV.ints (iapp l1_3 [(isub (k_2) (180 : Int))]), GV.ints (iapp l1_4 [(iadd (isub (k_2) (180 : Int)) (k_3))])] ∧ μ1 [GV.int (iadd i1_0 (1 : Int)), GV.int (((i1_1 + 1) + 1) + 1), GV.ints (iapp l1_2 [(iadd (1 : Int) (k_1))]), GV.ints (iapp l1_3 [(isub (k_2) (180 : Int))]), GV.ints (iapp l1_4 [(iadd (isub (k_2) (180 : Int)) (k_3))])] < μ1 [GV.int i1_0, GV.int i1_1, GV.ints l1_2, GV.ints l1_3, GV.ints l1_4])))))))))))))))))))))))))))) ∧ ((ilt i1_0 m) = false → ((true = true) ∧ ((True) ∧ (True) ∧ True) ∧ (true = true) ∧ ((r1 ≤ 2000 ∧ 0 ≤ i1_1 ∧ i1_1 ≤ 1000000 ∧ -1000000 ≤ n ∧ n ≤ 1000000)) ∧ (∀ b_4 : Bool, ∀ q_5 : Int, (((n ≤ 0 → b_4 = false) ∧ i1_1 ≤ q_5 ∧ q_5 ≤ i1_1 + 1) → (((b_4) = true → ((true = true) ∧ ((True) ∧ (True) ∧ True) ∧ (true = true) ∧ ((r1 ≤ 2000 ∧ 0 ≤ (q_5) ∧ (q_5) ≤ 1000000)) ∧ (∀ k_6 : Int, ((pickP m k_6) → ((True) ∧ (true = true) ∧ ((True) ∧ True) ∧ (true = true) ∧ ((r1 ≤ 2000 ∧ 0 ≤ ((q_5) + 1) ∧ ((q_5) + 1) ≤ 1000000)) ∧ (∀ k_7 : Int, ((pickP (4 : Int) k_7) → ((true = true) ∧ ((True) ∧ (True) ∧ True) ∧ ((ieq (k_7) (0 : Int)) = true → ((true = true) ∧ ((true = true) ∧ (True) ∧ ((true = true) ∧ (True) ∧ ((true = true) ∧ (True) ∧ ((true = true) ∧ (True) ∧ ((true = true) ∧ (True) ∧ ((true = true) ∧ ((r1 ≤ 2000 ∧ 0 ≤ (((q_5) + 1) + 1) ∧ (((q_5) + 1) + 1) ≤ 1000000)) ∧ (∀ k_8 : Int, ((pickP (2 : Int) k_8) → ((true = true) ∧ (NLe 0 (k_8) ∧ NLt (k_8) (ilen [(0 : Int), (501 : Int)])) ∧ ((true = true) ∧ (True) ∧ ((NLe 0 (k_6) ∧ NLt (k_6) (ilen l1_2)) ∧ (NLt (k_6) (ilen l1_2)) ∧ (true = true) ∧ ((True) ∧ True) ∧ (True) ∧ L_oAr_0 r2 r1 q_5 l1_2 k_6 k_8 l1_3 l1_4))))))))))))) ∧ ((ieq (k_7) (0 : Int)) = false → ((true = true) ∧ ((True) ∧ (True) ∧ True) ∧ ((ieq (k_7) (1 : Int)) = true → ((true = true) ∧ ((true = true) ∧ (True) ∧ ((true = true) ∧ (True) ∧ ((true = true) ∧ (True) ∧ ((true = true) ∧ (True) ∧ ((true = true) ∧ (True) ∧ ((true = true) ∧ (True) ∧ ((true = true) ∧ (NLe 0 (k_6) ∧ NLt (k_6) (ilen l1_4)) ∧ ((true = true) ∧ (NLt (k_6) (ilen l1_4)) ∧ ((true = true) ∧ (True) ∧ ((true = true) ∧ (True) ∧ ((true = true) ∧ (True) ∧ ((true = true) ∧ ((r1 ≤ 2000 ∧ 0 ≤ (((q_5) + 1) + 1) ∧ (((q_5) + 1) + 1) ≤ 1000000)) ∧ (∀ k_9 : Int, ((pickP (2 : Int) k_9) → ((true = true) ∧ (NLe 0 (k_9) ∧ NLt (k_9) (ilen [(-181 : Int), (iadd (geti l1_4 (k_6)) (1 : Int))])) ∧ ((true = true) ∧ (True) ∧ ((NLe 0 (k_6) ∧ NLt (k_6) (ilen l1_3)) ∧ (NLt (k_6) (ilen l1_3)) ∧ (true = true) ∧ ((True) ∧ True) ∧ (True) ∧ L_oAr_1 r2 r1 q_5 l1_2 l1_3 k_6 l1_4 k_9))))))))))))))))))) ∧ ((ieq (k_7) (1 : Int)) = false → ((true = true) ∧ ((True) ∧ (True) ∧ True) ∧ ((ieq (k_7) (2 : Int)) = true → ((true = true) ∧ ((True) ∧ (True) ∧ True) ∧ (NLe 0 (1 : Int) ∧ NLe (1 : Int) (ilen l1_4)) ∧ (True) ∧ (True) ∧ (true = true) ∧ ((True) ∧ True) ∧ (True) ∧ L_oAr_2 r2 r1 q_5 l1_2 l1_3 l1_4)) ∧ ((ieq (k_7) (2 : Int)) = false → (∃ (I2 : List GV → Prop) (μ2 : List GV → Nat), (((true = true) ∧ ((((ieq (k_7) (2 : Int)) : Bool) = (ieq (k_7) (2 : Int))) ∧ (((ieq (k_7) (2 : Int)) : Bool) = (ieq (k_7) (2 : Int))) ∧ (((ieq (k_7) (1 : Int)) : Bool) = (ieq (k_7) (1 : Int))) ∧ (((ieq (k_7) (1 : Int)) : Bool) = (ieq (k_7) (1 : Int))) ∧ (((ieq (k_7) (0 : Int)) : Bool) = (ieq (k_7) (0 : Int))) ∧ (((ieq (k_7) (0 : Int)) : Bool) = (ieq (k_7) (0 : Int))) ∧ (((k_7) : Int) = (k_7)) ∧ (true = true) ∧ (((k_6) : Int) = (k_6)) ∧ (((k_6) : Int) = (k_6)) ∧ (true = true) ∧ ((m : Int) = m) ∧ (((b_4) : Bool) = (b_4)) ∧ (true = true) ∧ ((n : Int) = n) ∧ ((i1_0 : Int) = i1_0) ∧ ((m : Int) = m) ∧ (((ilt i1_0 m) : Bool) = (ilt i1_0 m)) ∧ ((i1_0 : Int) = i1_0) ∧ ((True) ∧ (True) ∧ (True) ∧ True) ∧ (true = true) ∧ (true = true) ∧ (true = true) ∧ ((m : Int) = m) ∧ ((n : Int) = n) ∧ True) ∧ (((true = true) ∧ ((Cont.ints l1_2) = (Cont.ints l1_2))) ∧ ((true = true) ∧ (true = true) ∧ (true = true) ∧ True) ∧ (((r1 : Int) = r1) ∧ (((((q_5) + 1) + 1) : Int) = (((q_5) + 1) + 1)) ∧ True) ∧ ((true = true) ∧ ((Cont.ints l1_4) = (Cont.ints l1_4))) ∧ ((true = true) ∧ ((Cont.ints l1_3) = (Cont.ints l1_3))) ∧ ((True) ∧ (True) ∧ (True) ∧ True) ∧ True)) ∧ (([GK.ints] : List GK) = ([GK.ints] : List GK)) ∧ I2 [GV.ints l1_2]) ∧ (∀ l2_0 : List Int, I2 [GV.ints l2_0] → ((true = true) ∧ ((True) ∧ (True) ∧ (True) ∧ (True) ∧ True) ∧ ((ile (ilen l2_0) (4 : Int)) = true → ((true = true) ∧ ((True) ∧ (True) ∧ (True) ∧ True) ∧ (NLe (ilen l2_0) 1000000000 ∧ NLe (ilen [(5 : Int)]) 1000000000) ∧ (True) ∧ (True) ∧ ((true = true) ∧ ((((ieq (k_7) (2 : Int)) : Bool) = (ieq (k_7) (2 : Int))) ∧ (((ieq (k_7) (2 : Int)) : Bool) = (ieq (k_7) (2 : Int))) ∧ (((ieq (k_7) (1 : Int)) : Bool) = (ieq (k_7) (1 : Int))) ∧ (((ieq (k_7) (1 : Int)) : Bool) = (ieq (k_7) (1 : Int))) ∧ (((ieq (k_7) (0 : Int)) : Bool) = (ieq (k_7) (0 : Int))) ∧ (((ieq (k_7) (0 : Int)) : Bool) = (ieq (k_7) (0 : Int))) ∧ (((k_7) : Int) = (k_7)) ∧ (true = true) ∧ (((k_6) : Int) = (k_6)) ∧ (((k_6) : Int) = (k_6)) ∧ (true = true) ∧ ((m : Int) = m) ∧ (((b_4) : Bool) = (b_4)) ∧ (true = true) ∧ ((n : Int) = n) ∧ ((i1_0 : Int) = i1_0) ∧ ((m : Int) = m) ∧ (((ilt i1_0 m) : Bool) = (ilt i1_0 m)) ∧ ((i1_0 : Int) = i1_0) ∧ ((True) ∧ (True) ∧ (True) ∧ True) ∧ (true = true) ∧ (true = true) ∧ (true = true) ∧ ((m : Int) = m) ∧ ((n : Int) = n) ∧ True) ∧ (((true = true) ∧ ((Cont.ints (iapp l2_0 [(5 : Int)])) = (Cont.ints (iapp l2_0 [(5 : Int)])))) ∧ ((true = true) ∧ (true = true) ∧ (true = true) ∧ True) ∧ (((r1 : Int) = r1) ∧ (((((q_5) + 1) + 1) : Int) = (((q_5) + 1) + 1)) ∧ True) ∧ ((true = true) ∧ ((Cont.ints l1_4) = (Cont.ints l1_4))) ∧ ((true = true) ∧ ((Cont.ints l1_3) = (Cont.ints l1_3))) ∧ ((True) ∧ (True) ∧ (True) ∧ True) ∧ True)) ∧ ((([GK.ints] : List GK) = ([GK.ints] : List GK)) ∧ I2 [GV.ints (iapp l2_0 [(5 : Int)])] ∧ μ2 [GV.ints (iapp l2_0 [(5 : Int)])] < μ2 [GV.ints l2_0]))) ∧ ((ile (ilen l2_0) (4 : Int)) = false → ((true = true) ∧ ((True) ∧ True) ∧ (True) ∧ L_oAr_3 r2 r1 q_5 l2_0 l1_3 l1_4)))))))))))))))))) ∧ ((b_4) = false → ((true = true) ∧ ((True) ∧ True) ∧ (True) ∧ L_oAr_4 r2 r1 q_5 l1_2 l1_3 l1_4)))))))))) = ev sig_oAr xs_oAr Tryd.f43.ntmps (fun b => if b == 0 then [.v 8, .b 0, .b 7, .f 7 0 22, .f 7 1 22, .f 7 2 22] else if b == 3 then [.b 7, .f 7 0 22] else []) (codeOf Tryd.f43) 0 (initX (.box [.rdr r1, .int r2]) [.s (.int m), .s (.int n)]) (armX 6 r1 r2) := by kernel_rfl
set_option maxHeartbeats 4000000 in
theorem P_oAr (r1 : Int) (r2 : Int) (m : Int) (n : Int) (hn : r1 ≤ 2000 ∧ 0 ≤ r2 ∧ r2 ≤ 100000 ∧ 1 ≤ m ∧ m ≤ 4 ∧ -1000000 ≤ n ∧ n ≤ 1000000) : ev sig_oAr xs_oAr Tryd.f43.ntmps (fun b => if b == 0 then [.v 8, .b 0, .b 7, .f 7 0 22, .f 7 1 22, .f 7 2 22] else if b == 3 then [.b 7, .f 7 0 22] else []) (codeOf Tryd.f43) 0 (initX (.box [.rdr r1, .int r2]) [.s (.int m), .s (.int n)]) (armX 6 r1 r2) := by
  refine Eq.mp (V_oAr r1 r2 m n) ?_
  simp only [true_and, and_true, implies_true, and_self, forall_const, true_implies, L_oAr_0, L_oAr_1, L_oAr_2, L_oAr_3, L_oAr_4]
  simp only [ilt_t, ilt_f, ile_t, ile_f, ieq_t, ieq_f, bnot_e, band_e, bite_and, bite_or, NLt_e, NLe_e, NNe_e, NIs_e, imax_e, imin_e, irem_e, Bool.not_eq_true', Bool.not_eq_false', Bool.and_eq_true, Bool.or_eq_true, Bool.or_eq_false_iff, Bool.and_eq_false_iff, Cont.pts.injEq, Cont.ints.injEq, Cont.bools.injEq, Cont.ptss.injEq, Cont.intss.injEq, Cont.boolss.injEq, true_and, and_true, implies_true, pickP]
  refine ⟨fun | [.int k, .int q, .ints x, .ints y, .ints z] => 0 ≤ k ∧ k ≤ m ∧ ilen x = k ∧ ilen y = k ∧ ilen z = k ∧ r2 ≤ q ∧ q ≤ r2 + 3 * k | _ => False, fun | .int k :: _ => (m - k).toNat | _ => 0, ⟨by omega, by omega, ilen_nil, ilen_nil, ilen_nil, by omega, by omega⟩, ?_⟩
  rintro k q x y z ⟨h1, h2, h3, h4, h5, h6, h7⟩
  have e1 : iadd k 1 = k + 1 := iadd_e (by omega) (by omega)
  rw [e1]
  refine ⟨fun hk => ?_, fun hk => ?_⟩
  · exact ⟨by omega, fun k1 hk1 => ⟨⟨by omega, by rw [ilen_one]; omega⟩, by omega, fun k2 hk2 => ⟨⟨by omega, by rw [ilen_one]; omega⟩, by omega, fun k3 hk3 => ⟨⟨by omega, by rw [ilen_one]; omega⟩, ⟨by omega, by omega, by rw [ilen_app, ilen_one]; omega, by rw [ilen_app, ilen_one]; omega, by rw [ilen_app, ilen_one]; omega, by omega, by omega⟩, by show (m - (k + 1)).toNat < (m - k).toNat; omega⟩⟩⟩⟩
  · have dz : ilen (idrop z 1) ≤ ilen z := by unfold ilen idrop; simp
    have two : ∀ a b : Int, ilen [a, b] = 2 := fun a b => by simp [ilen]
    refine ⟨by omega, fun b q5 hq => ⟨fun _ => ⟨by omega, fun k6 hk6 => ⟨by omega, fun k7 hk7 => ⟨fun _ => ⟨by omega, fun k8 hk8 => ⟨by rw [two]; omega, by omega, by omega, _, _, _, _, ⟨by rw [ilen_seti]; omega, by omega, by omega, by omega, by omega⟩, rfl, .inl ⟨rfl, rfl, rfl⟩⟩⟩, fun _ => ⟨fun _ => ⟨by omega, by omega, by omega, fun k9 hk9 => ⟨by rw [two]; omega, by omega, by omega, _, _, _, _, ⟨by omega, by rw [ilen_seti]; omega, by omega, by omega, by omega⟩, rfl, .inl ⟨rfl, rfl, rfl⟩⟩⟩, fun _ => ⟨fun _ => ⟨by omega, _, _, _, _, ⟨by omega, by omega, by omega, by omega, by omega⟩, rfl, .inr ⟨rfl, rfl, rfl, arm_cut h3 h5 (by omega)⟩⟩, fun _ => ?_⟩⟩⟩⟩⟩, fun _ => ⟨_, _, _, _, ⟨by omega, by omega, by omega, by omega, by omega⟩, rfl, .inl ⟨rfl, rfl, rfl⟩⟩⟩⟩
    refine ⟨fun | [.ints l] => ilen l ≤ 5 | _ => False, fun | [.ints l] => (5 - ilen l).toNat | _ => 0, by show ilen x ≤ 5; omega, ?_⟩
    intro l hl5
    have hl5' : ilen l ≤ 5 := hl5
    exact ⟨fun h => ⟨⟨by omega, by rw [ilen_one]; omega⟩, by show ilen (iapp l [5]) ≤ 5; rw [ilen_app, ilen_one]; omega, by show (5 - ilen (iapp l [5])).toNat < (5 - ilen l).toNat; rw [ilen_app, ilen_one]; omega⟩, fun h => ⟨_, _, _, _, ⟨by omega, by omega, by omega, by omega, by omega⟩, rfl, .inl ⟨rfl, rfl, rfl⟩⟩⟩
/-- The reader's box. -/
def RB (L : Nat → Prop) (g : Nat) (m q : Int) (w : World) : Prop := (Bx.box [.rdr m, .int q]).ok 0 (EL L) w (.pointer (some ⟨g, 0, none⟩))
theorem init_relX {bx : Bx} {avs : List AV} {v0 : Value} {args : List Value} {L0 : Nat → Prop} {w : World} {N : Nat} (hL : LtI L0 w) (hv0 : ∀ b, blk v0 = some b → L0 b) (hbx : bx.ok 0 (EL L0) w v0) (hbf : bxFree bx = true) (hA : hasA (EL L0) w args avs) (hc : (avs.all (·.freeA) && Nat.ble (avs.length + 1) N) = true) :
    ∃ E0, Rel ⟨w, true, v0, L0, 0⟩ N (initX bx avs) E0 { tmps := (v0 :: args).toArray ++ Array.replicate (N - (v0 :: args).toArray.size) undef, defers := [] } w := by
  rw [Bool.and_eq_true] at hc
  obtain ⟨c1, c2⟩ := hc
  obtain ⟨E0, hE⟩ : ∃ E0 : Env, E0 = ⟨fun k => if k = 0 then v0 else undef, L0, none⟩ := ⟨_, rfl⟩
  have hlv : E0.lv = L0 := by rw [hE]
  have hhd : E0.hd 0 = v0 := by rw [hE]; rfl
  have hbE : bx.ok 0 E0 w v0 := by
    cases bx with
    | box l => obtain ⟨g, cs, e, h1, h2, h3, h4⟩ := hbx; exact ⟨g, cs, e, h1, h2, h3, free_hdL (by rw [hlv]; rfl) hbf h4⟩
    | row e c => obtain ⟨xs', h1, h2⟩ := hbx; exact ⟨xs', h1, by rw [hlv]; exact h2⟩
    | mp l => exact hbx
  have hlook : ∀ k b, lookB [(0, bx)] k = some b → k = 0 ∧ b = bx := by
    intro k b hk
    simp only [lookB] at hk
    split at hk
    · rename_i he; injection hk with hk; exact ⟨(beq_iff_eq.1 he).symm, hk.symm⟩
    · cases hk
  have hfirst : SV.has E0 w v0 (firstSV bx) := by
    cases bx with
    | box l =>
      obtain ⟨g, cs, e, h1, _⟩ := hbx
      show v0 = ptrIn (E0.hd 0) 0
      rw [hhd, h1]; rfl
    | row e c => show v0 = E0.hd 0; rw [hhd]
    | mp l => show v0 = E0.hd 0; rw [hhd]
  refine ⟨E0, init_rel (base := ⟨w, true, v0, L0, 0⟩) (n := N) (m := 1) (b := [(0, bx)]) rfl (avs := .s (firstSV bx) :: avs) ⟨hfirst, free_hdA (by rw [hlv]; rfl) c1 hA⟩ (fun x hx k hk => ?_) (Nat.le_of_ble_eq_true c2) (fun k b hk => ?_) ⟨by rw [hlv]; exact hL, fun k b hk => ?_, fun k b g hk hg => ?_⟩ (fun k k' b b' g hk hk' => ?_)
    ⟨Nat.zero_le _, hL, fun k b g hk hg => .inr ⟨(hlook k b hk).1, rfl⟩, fun b hb => by rw [hlv]; exact hb, fun _ => ⟨⟨bx, rfl⟩, hhd⟩, Nat.one_pos⟩⟩
  · rcases List.mem_cons.1 hx with rfl | hx
    · cases bx <;> (have : 0 = k := by simpa [AV.on, SV.on, firstSV] using hk) <;> omega
    · rw [afree_on (List.all_eq_true.1 c1 x hx) k] at hk; cases hk
  · obtain ⟨rfl, rfl⟩ := hlook k b hk
    exact ⟨Nat.one_pos, bx_free_ids hbf _⟩
  · obtain ⟨rfl, rfl⟩ := hlook k b hk
    rw [hhd]; exact hbE
  · obtain ⟨rfl, rfl⟩ := hlook k b hk
    rw [hhd] at hg
    rw [hlv]; exact hv0 g hg
  · intro _ _
    rw [(hlook k b hk).1, (hlook k' b' hk').1]
theorem sv_rdr {σ : St} {s : SV} {r : Int} {E : Env} {L : Nat → Prop} {w : World} {v : Value} (m : mSV σ s (.rdr r)) (h : s.has E w v) (hL : ∀ b, L b → E.lv b) : SV.has (EL L) w v (.rdr r) := by
  cases s with
  | rdr x =>
    have e : x = r := m
    subst e
    exact BytesOK.less (L' := L) h hL
  | _ => exact (show False from m).elim
theorem sv_int {σ : St} {s : SV} {r : Int} {E : Env} {L : Nat → Prop} {w : World} {v : Value} (m : mSV σ s (.int r)) (h : s.has E w v) : SV.has (EL L) w v (.int r) := by
  cases s with
  | int x =>
    have e : x = r := m
    subst e
    exact h
  | _ => exact (show False from m).elim
/-- A drawn arm: its rows are new and apart, or it is no arm. -/
def ArmD (L L' : Nat → Prop) (base : Nat) (w : World) (c1 c2 c3 : Value) (x y z : List Int) : Prop :=
  (Arm3 base w c1 c2 c3 x y z ∧ ∀ b, (c1.ownBlock = some b ∨ c2.ownBlock = some b ∨ c3.ownBlock = some b) → L' b) ∨ (Reads L w c1 (.ints x) ∧ Reads L w c2 (.ints y) ∧ Reads L w c3 (.ints z) ∧ armB x y z = false)
set_option maxHeartbeats 1000000 in
theorem arm_end {g : Nat} {w w' : World} {L : Nat → Prop} {N : Nat} {σ : St} {E : Env} {a : Act} {r1 q : Int} {x y z : List Int} (hR : Rel ⟨w, true, .pointer (some ⟨g, 0, none⟩), L, 0⟩ N σ E a w') (hb : mBX σ (lookB σ.b 0) (.box [.rdr r1, .int q])) (ha : armM σ 6 x y z) :
    ∃ c1 c2 c3, (results Tryd.f43 a.tmps).run Tryd.prog w' = .ok (.agg #[c1, c2, c3]) w' ∧ ArmD L E.lv w.heap.size w' c1 c2 c3 x y z ∧ RB E.lv g r1 q w' ∧ (∀ b, L b → E.lv b) := by
  have hRB : RB E.lv g r1 q w' := by
    unfold mBX at hb
    split at hb
    · rename_i l m hlk heq
      injection heq with heq; subst heq
      obtain ⟨h1, h2, h3⟩ := hb
      have hok := hR.mem.ok 0 _ hlk
      rw [(hR.fr.xid rfl).2] at hok
      obtain ⟨g', cs, e, e1, _, e2, e3⟩ := hok
      refine ⟨g', cs, e, e1, Nat.zero_le _, e2, ?_⟩
      obtain ⟨cl⟩ := cs
      match l, cl, e3, h3 with
      | [s1, s2], [u1, u2], ⟨a1, a2, _⟩, ⟨i1, i2, _⟩ => exact ⟨sv_rdr i1 a1 (fun _ h => h), sv_int i2 a2, trivial⟩
    · cases ‹_ = _›
    · exact hb.elim
  unfold armM at ha
  split at ha
  · rename_i k hk
    split at ha
    · rename_i s1 s2 s3 hbk
      have ht : tyOf 30 = some (.st [.nil, .nil, .nil]) := rfl
      have hrf : resF σ (.cell 6 30) = some (.agg [s1, s2, s3]) := by
        unfold resF
        simp only [hk, ht, hbk]
        rfl
      obtain ⟨v, hv1, ⟨cl⟩, rfl, q3⟩ := resF_ok hR hrf
      match cl, q3, hv1 with
      | [c1, c2, c3], ⟨f1, f2, f3, _⟩, hv1 =>
        have hrun : (results Tryd.f43 a.tmps).run Tryd.prog w' = .ok (.agg #[c1, c2, c3]) w' := by
          have hres : Tryd.f43.results = #[.cell 6 30] := rfl
          rw [results_eq, hres]
          simp [hv1]
        refine ⟨c1, c2, c3, hrun, ?_, hRB, hR.fr.l0⟩
        rcases ha with ⟨hap, o1, o2, o3⟩ | ⟨o1, o2, o3, hf⟩
        · left
          have key : ∀ {s : SV} {c : Value} {l : List Int}, s.has E w' c → ownM σ s (.ints l) → ∃ k, s = .row k ∧ (∃ bx, lookB σ.b k = some bx) ∧ c = E.hd k ∧ w'.ownsRow w.heap.size 3 1 c l.length (fI l) := by
            intro s c l hs ho
            unfold ownM at ho
            split at ho
            · rename_i k'
              split at ho
              · rename_i e' c' hlk
                obtain ⟨hk0, rfl⟩ := ho
                rw [Bool.and_eq_true, beq_iff_eq] at hk0
                obtain ⟨hk0, rfl⟩ := hk0
                have hc : c = E.hd k' := hs
                obtain ⟨ys, ow, hys⟩ := hR.mem.ok k' _ hlk
                have hys' : ys = fI l := hys
                subst hys'
                refine ⟨k', rfl, ⟨_, hlk⟩, hc, ?_⟩
                rw [hc]
                refine own_rebase ow fun b hb => ?_
                have hbb : blk (E.hd k') = some b := by
                  rcases ow.2 with ⟨h0, _⟩ | ⟨g, cap, cur, h0, _⟩
                  · rw [h0] at hb; cases hb
                  · rw [h0] at hb ⊢; exact hb
                rcases hR.fr.own k' _ b hlk hbb with h1 | ⟨h1, _⟩
                · exact h1
                · rw [h1] at hk0; cases hk0
              · exact ho.elim
            · exact ho.elim
          obtain ⟨k1, rfl, ⟨b1, hb1⟩, rfl, w1⟩ := key f1 o1
          obtain ⟨k2, rfl, ⟨b2, hb2⟩, rfl, w2⟩ := key f2 o2
          obtain ⟨k3, rfl, ⟨b3, hb3⟩, rfl, w3⟩ := key f3 o3
          simp only [apartM, Bool.and_eq_true, Bool.not_eq_true', beq_eq_false_iff_ne] at hap
          obtain ⟨⟨n12, n13⟩, n23⟩ := hap
          have hbl : ∀ {k : Nat} {l : List Int} {b : Nat}, w'.ownsRow w.heap.size 3 1 (E.hd k) l.length (fI l) → (E.hd k).ownBlock = some b → blk (E.hd k) = some b := by
            intro k l b ow hb
            rcases ow.2 with ⟨h0, _⟩ | ⟨g, cap, cur, h0, _⟩
            · rw [h0] at hb; cases hb
            · rw [h0] at hb ⊢; exact hb
          refine ⟨⟨w1, w2, w3, fun b h1 h2 => n12 (hR.dist k1 k2 _ _ b hb1 hb2 (hbl w1 h1) (hbl w2 h2)), fun b h1 h2 => n13 (hR.dist k1 k3 _ _ b hb1 hb3 (hbl w1 h1) (hbl w3 h2)), fun b h1 h2 => n23 (hR.dist k2 k3 _ _ b hb2 hb3 (hbl w2 h1) (hbl w3 h2))⟩, fun b hb => ?_⟩
          rcases hb with hb | hb | hb
          · exact hR.mem.lv k1 _ b hb1 (hbl w1 hb)
          · exact hR.mem.lv k2 _ b hb2 (hbl w2 hb)
          · exact hR.mem.lv k3 _ b hb3 (hbl w3 hb)
        · right
          exact ⟨mSV_ok hR o1 f1, mSV_ok hR o2 f2, mSV_ok hR o3 f3, hf⟩
    · exact ha.elim
  · exact ha.elim
theorem l20Arm_own {L : Nat → Prop} {g : Nat} {r1 r2 m n : Int} {w : World} (hL : LtI L w) (hg : L g) (h : RB L g r1 r2 w) (hn : r1 ≤ 2000 ∧ 0 ≤ r2 ∧ r2 ≤ 100000 ∧ 1 ≤ m ∧ m ≤ 4 ∧ -1000000 ≤ n ∧ n ≤ 1000000) :
    Calls Tryd.prog 43 #[.pointer (some ⟨g, 0, none⟩), .int .i64 m, .int .i64 n] w fun e w' => ∃ c1 c2 c3 x y z q L', e = .returned (.agg #[c1, c2, c3]) ∧ (ilen x ≤ 10 ∧ ilen y ≤ 10 ∧ ilen z ≤ 10 ∧ r2 ≤ q ∧ q ≤ r2 + 100) ∧ ArmD L L' w.heap.size w' c1 c2 c3 x y z ∧ RB L' g r1 q w' ∧ (∀ b, L b → L' b) ∧ w.grownBy w' (some g) := by
  obtain ⟨E0, hR0⟩ := init_relX (bx := .box [.rdr r1, .int r2]) (avs := [.s (.int m), .s (.int n)]) (args := [.int .i64 m, .int .i64 n]) (N := Tryd.f43.ntmps) hL (fun b e => by injection e with e; exact e ▸ hg) h (by rfl) ⟨rfl, rfl, trivial⟩ (by kernel_rfl)
  refine calls_of_wp Tryd.func43 (c := codeOf Tryd.f43) rfl (ev_ok sig_oAr_ok xs_oAr_ok (by kernel_rfl) _ 0 _ _ _ _ _ _ hR0 (P_oAr r1 r2 m n hn) ?_)
  intro e σ' E' a' w' hR hk
  have fin : (∃ x y z : List Int, ∃ q : Int, (ilen x ≤ 10 ∧ ilen y ≤ 10 ∧ ilen z ≤ 10 ∧ r2 ≤ q ∧ q ≤ r2 + 100) ∧ mBX σ' (lookB σ'.b 0) (.box [.rdr r1, .int q]) ∧ armM σ' 6 x y z) → a'.defers = [] ∧ ∃ v, (results Tryd.f43 a'.tmps).run Tryd.prog w' = .ok v w' ∧ (∃ c1 c2 c3 x y z q L', Ending.returned v = .returned (.agg #[c1, c2, c3]) ∧ (ilen x ≤ 10 ∧ ilen y ≤ 10 ∧ ilen z ≤ 10 ∧ r2 ≤ q ∧ q ≤ r2 + 100) ∧ ArmD L L' w.heap.size w' c1 c2 c3 x y z ∧ RB L' g r1 q w' ∧ (∀ b, L b → L' b) ∧ w.grownBy w' (some g)) := by
    rintro ⟨x, y, z, q, hp, hb, ha⟩
    obtain ⟨c1, c2, c3, h1, h2, h3, h4⟩ := arm_end hR hb ha
    exact ⟨hR.defers, _, h1, c1, c2, c3, x, y, z, q, _, rfl, hp, h2, h3, h4, hR.bel⟩
  cases e with
  | normal => exact fin hk
  | exit i => exact hk.elim
  | ret => exact fin hk
theorem inB_eq (n lo hi : Int) : inB n lo hi = (ile lo n && ile n hi) := by
  unfold inB ile
  by_cases h1 : lo ≤ n <;> by_cases h2 : n ≤ hi <;> simp [h1, h2]
def g_spec_l1In : List AV → Option Sg
  | [.s (.int n), .s (.int lo), .s (.int hi)] => some ⟨True, [.s (.bool (inB n lo hi))]⟩
  | _ => none
def sig_spec_l1In : FuncId → List AV → Option Sg := sigL []
def xs_spec_l1In : XS := ⟨xsigL [], ysigL []⟩
theorem sig_spec_l1In_ok : SigOK sig_spec_l1In := sigL_nil
theorem xs_spec_l1In_ok : XSigOK xs_spec_l1In := ⟨xsigL_nil, ysigL_nil⟩
theorem V_spec_l1In (n : Int) (lo : Int) (hi : Int) : ((true = true) ∧ ((True) ∧ True) ∧ (true = true) ∧ ((True) ∧ (True) ∧ (True) ∧ (True) ∧ (NIs (ile lo n) true → True) ∧ (NIs (ile lo n) true → True) ∧ (NIs (ile lo n) true → True) ∧ (True) ∧ (True) ∧ True) ∧ (((bite (ile lo n) (ile n hi) false) : Bool) = (inB n lo hi)) ∧ True) = ev sig_spec_l1In xs_spec_l1In Tryd.f51.ntmps (fun b => []) (codeOf Tryd.f51) 0 (initS [.s (.int n), .s (.int lo), .s (.int hi)]) (retK Tryd.f51.results.toList [.s (.bool (inB n lo hi))]) := by kernel_rfl
set_option maxHeartbeats 400000 in
theorem F_spec_l1In : FunOK 51 g_spec_l1In := by
  refine fun_F (by kernel_rfl) Tryd.func51 rfl (by kernel_rfl) sig_spec_l1In_ok xs_spec_l1In_ok ?_
  intro avs sg h hn hl
  unfold g_spec_l1In at h
  split at h
  · rename_i n lo hi
    injection h with h; subst h
    refine ⟨by kernel_rfl, fun b => [], Eq.mp (V_spec_l1In n lo hi) ?_⟩
    simp only [true_and, and_true, implies_true, and_self, forall_const, true_implies, lenA, lenL, SV.lenOK, Cont.lenOK] at hn hl ⊢
    simp only [bite_and, inB_eq]
  · cases h
def g_spec_ArmValid : List AV → Option Sg
  | [.agg [.view (.ints a1), .view (.ints a2), .view (.ints a3)]] => some ⟨True, [.s (.bool (armB a1 a2 a3))]⟩
  | _ => none
def sig_spec_ArmValid : FuncId → List AV → Option Sg := sigL [(51, g_spec_l1In)]
def xs_spec_ArmValid : XS := ⟨xsigL [], ysigL []⟩
theorem sig_spec_ArmValid_ok : SigOK sig_spec_ArmValid := sigL_cons F_spec_l1In sigL_nil
theorem xs_spec_ArmValid_ok : XSigOK xs_spec_ArmValid := ⟨xsigL_nil, ysigL_nil⟩
theorem V_spec_ArmValid (a1 : List Int) (a2 : List Int) (a3 : List Int) : ((true = true) ∧ ((True) ∧ (True) ∧ True) ∧ (true = true) ∧ ((True) ∧ (True) ∧ (True) ∧ (True) ∧ True) ∧ (true = true) ∧ ((True) ∧ ((True)) ∧ (True) ∧ (True) ∧ (NIs (bnot (inB (ilen a1) (1 : Int) (4 : Int))) false → True) ∧ (NIs (bnot (inB (ilen a1) (1 : Int) (4 : Int))) false → True) ∧ (NIs (bnot (inB (ilen a1) (1 : Int) (4 : Int))) false → True) ∧ (NIs (bnot (inB (ilen a1) (1 : Int) (4 : Int))) false → True) ∧ (NIs (bnot (inB (ilen a1) (1 : Int) (4 : Int))) false → True) ∧ (True) ∧ (True) ∧ (NIs (bite (bnot (inB (ilen a1) (1 : Int) (4 : Int))) true (bnot (ieq (ilen a2) (ilen a1)))) false → True) ∧ (NIs (bite (bnot (inB (ilen a1) (1 : Int) (4 : Int))) true (bnot (ieq (ilen a2) (ilen a1)))) false → True) ∧ (NIs (bite (bnot (inB (ilen a1) (1 : Int) (4 : Int))) true (bnot (ieq (ilen a2) (ilen a1)))) false → True) ∧ (NIs (bite (bnot (inB (ilen a1) (1 : Int) (4 : Int))) true (bnot (ieq (ilen a2) (ilen a1)))) false → True) ∧ (NIs (bite (bnot (inB (ilen a1) (1 : Int) (4 : Int))) true (bnot (ieq (ilen a2) (ilen a1)))) false → True) ∧ (True) ∧ True) ∧ ((bite (bite (bnot (inB (ilen a1) (1 : Int) (4 : Int))) true (bnot (ieq (ilen a2) (ilen a1)))) true (bnot (ieq (ilen a3) (ilen a1)))) = true → ((true = true) ∧ ((True) ∧ True) ∧ ((false : Bool) = (armB a1 a2 a3)) ∧ True)) ∧ ((bite (bite (bnot (inB (ilen a1) (1 : Int) (4 : Int))) true (bnot (ieq (ilen a2) (ilen a1)))) true (bnot (ieq (ilen a3) (ilen a1)))) = false → ((true = true) ∧ ((True) ∧ True) ∧ ∃ (I1 : List GV → Prop) (μ1 : List GV → Nat), (((true = true) ∧ (((false : Bool) = false) ∧ (((0 : Int) : Int) = (0 : Int)) ∧ (((ilen a1) : Int) = (ilen a1)) ∧ (((inB (ilen a1) (1 : Int) (4 : Int)) : Bool) = (inB (ilen a1) (1 : Int) (4 : Int))) ∧ (((bnot (inB (ilen a1) (1 : Int) (4 : Int))) : Bool) = (bnot (inB (ilen a1) (1 : Int) (4 : Int)))) ∧ (((bnot (inB (ilen a1) (1 : Int) (4 : Int))) : Bool) = (bnot (inB (ilen a1) (1 : Int) (4 : Int)))) ∧ (((bite (bnot (inB (ilen a1) (1 : Int) (4 : Int))) true (bnot (ieq (ilen a2) (ilen a1)))) : Bool) = (bite (bnot (inB (ilen a1) (1 : Int) (4 : Int))) true (bnot (ieq (ilen a2) (ilen a1))))) ∧ (((bite (bnot (inB (ilen a1) (1 : Int) (4 : Int))) true (bnot (ieq (ilen a2) (ilen a1)))) : Bool) = (bite (bnot (inB (ilen a1) (1 : Int) (4 : Int))) true (bnot (ieq (ilen a2) (ilen a1))))) ∧ (((bite (bite (bnot (inB (ilen a1) (1 : Int) (4 : Int))) true (bnot (ieq (ilen a2) (ilen a1)))) true (bnot (ieq (ilen a3) (ilen a1)))) : Bool) = (bite (bite (bnot (inB (ilen a1) (1 : Int) (4 : Int))) true (bnot (ieq (ilen a2) (ilen a1)))) true (bnot (ieq (ilen a3) (ilen a1))))) ∧ (true = true) ∧ ((Cont.ints a1) = (Cont.ints a1)) ∧ (((ilen a1) : Int) = (ilen a1)) ∧ (((ilen a1) : Int) = (ilen a1)) ∧ (true = true) ∧ (((Cont.ints a1) = (Cont.ints a1)) ∧ ((Cont.ints a2) = (Cont.ints a2)) ∧ ((Cont.ints a3) = (Cont.ints a3)) ∧ True) ∧ True) ∧ ((((Cont.ints a1) = (Cont.ints a1)) ∧ ((Cont.ints a2) = (Cont.ints a2)) ∧ ((Cont.ints a3) = (Cont.ints a3)) ∧ True) ∧ True)) ∧ (([GK.int, GK.bool] : List GK) = ([GK.int, GK.bool] : List GK)) ∧ I1 [GV.int (0 : Int), GV.bool false]) ∧ (∀ i1_0 : Int, ∀ b1_1 : Bool, I1 [GV.int i1_0, GV.bool b1_1] → ((true = true) ∧ ((True) ∧ (True) ∧ (True) ∧ True) ∧ ((ilt i1_0 (ilen a1)) = true → ((true = true) ∧ ((True) ∧ (True) ∧ (True) ∧ (NLe 0 i1_0 ∧ NLt i1_0 (ilen a1)) ∧ (True) ∧ ((True)) ∧ (True) ∧ (True) ∧ (NIs (bnot (inB (geti a1 i1_0) (1 : Int) (500 : Int))) false → True) ∧ (NIs (bnot (inB (geti a1 i1_0) (1 : Int) (500 : Int))) false → True) ∧ (NIs (bnot (inB (geti a1 i1_0) (1 : Int) (500 : Int))) false → True) ∧ (NIs (bnot (inB (geti a1 i1_0) (1 : Int) (500 : Int))) false → (NLe 0 i1_0 ∧ NLt i1_0 (ilen a2))) ∧ (NIs (bnot (inB (geti a1 i1_0) (1 : Int) (500 : Int))) false → True) ∧ (NIs (bnot (inB (geti a1 i1_0) (1 : Int) (500 : Int))) false → (True)) ∧ (NIs (bnot (inB (geti a1 i1_0) (1 : Int) (500 : Int))) false → True) ∧ (True) ∧ (True) ∧ (NIs (bite (bnot (inB (geti a1 i1_0) (1 : Int) (500 : Int))) true (bnot (inB (geti a2 i1_0) (-180 : Int) (180 : Int)))) false → True) ∧ (NIs (bite (bnot (inB (geti a1 i1_0) (1 : Int) (500 : Int))) true (bnot (inB (geti a2 i1_0) (-180 : Int) (180 : Int)))) false → True) ∧ (NIs (bite (bnot (inB (geti a1 i1_0) (1 : Int) (500 : Int))) true (bnot (inB (geti a2 i1_0) (-180 : Int) (180 : Int)))) false → True) ∧ (NIs (bite (bnot (inB (geti a1 i1_0) (1 : Int) (500 : Int))) true (bnot (inB (geti a2 i1_0) (-180 : Int) (180 : Int)))) false → (NLe 0 i1_0 ∧ NLt i1_0 (ilen a3))) ∧ (NIs (bite (bnot (inB (geti a1 i1_0) (1 : Int) (500 : Int))) true (bnot (inB (geti a2 i1_0) (-180 : Int) (180 : Int)))) false → True) ∧ (NIs (bite (bnot (inB (geti a1 i1_0) (1 : Int) (500 : Int))) true (bnot (inB (geti a2 i1_0) (-180 : Int) (180 : Int)))) false → True) ∧ (NIs (bite (bnot (inB (geti a1 i1_0) (1 : Int) (500 : Int))) true (bnot (inB (geti a2 i1_0) (-180 : Int) (180 : Int)))) false → True) ∧ (NIs (bite (bnot (inB (geti a1 i1_0) (1 : Int) (500 : Int))) true (bnot (inB (geti a2 i1_0) (-180 : Int) (180 : Int)))) false → True) ∧ (NIs (bite (bnot (inB (geti a1 i1_0) (1 : Int) (500 : Int))) true (bnot (inB (geti a2 i1_0) (-180 : Int) (180 : Int)))) false → (NLe 0 i1_0 ∧ NLt i1_0 (ilen a2))) ∧ (NIs (bite (bnot (inB (geti a1 i1_0) (1 : Int) (500 : Int))) true (bnot (inB (geti a2 i1_0) (-180 : Int) (180 : Int)))) false → True) ∧ (NIs (bite (bnot (inB (geti a1 i1_0) (1 : Int) (500 : Int))) true (bnot (inB (geti a2 i1_0) (-180 : Int) (180 : Int)))) false → (True)) ∧ (NIs (bite (bnot (inB (geti a1 i1_0) (1 : Int) (500 : Int))) true (bnot (inB (geti a2 i1_0) (-180 : Int) (180 : Int)))) false → True) ∧ (True) ∧ True) ∧ ((bite (bite (bnot (inB (geti a1 i1_0) (1 : Int) (500 : Int))) true (bnot (inB (geti a2 i1_0) (-180 : Int) (180 : Int)))) true (bnot (inB (geti a3 i1_0) (geti a2 i1_0) (180 : Int)))) = true → ((true = true) ∧ ((True) ∧ True) ∧ ((false : Bool) = (armB a1 a2 a3)) ∧ True)) ∧ ((bite (bite (bnot (inB (geti a1 i1_0) (1 : Int) (500 : Int))) true (bnot (inB (geti a2 i1_0) (-180 : Int) (180 : Int)))) true (bnot (inB (geti a3 i1_0) (geti a2 i1_0) (180 : Int)))) = false → ((true = true) ∧ ((True) ∧ (True) ∧ (True) ∧ True) ∧ ((true = true) ∧ (((b1_1 : Bool) = b1_1) ∧ (((iadd i1_0 (1 : Int)) : Int) = (iadd i1_0 (1 : Int))) ∧ (((ilen a1) : Int) = (ilen a1)) ∧ (((inB (ilen a1) (1 : Int) (4 : Int)) : Bool) = (inB (ilen a1) (1 : Int) (4 : Int))) ∧ (((bnot (inB (ilen a1) (1 : Int) (4 : Int))) : Bool) = (bnot (inB (ilen a1) (1 : Int) (4 : Int)))) ∧ (((bnot (inB (ilen a1) (1 : Int) (4 : Int))) : Bool) = (bnot (inB (ilen a1) (1 : Int) (4 : Int)))) ∧ (((bite (bnot (inB (ilen a1) (1 : Int) (4 : Int))) true (bnot (ieq (ilen a2) (ilen a1)))) : Bool) = (bite (bnot (inB (ilen a1) (1 : Int) (4 : Int))) true (bnot (ieq (ilen a2) (ilen a1))))) ∧ (((bite (bnot (inB (ilen a1) (1 : Int) (4 : Int))) true (bnot (ieq (ilen a2) (ilen a1)))) : Bool) = (bite (bnot (inB (ilen a1) (1 : Int) (4 : Int))) true (bnot (ieq (ilen a2) (ilen a1))))) ∧ (((bite (bite (bnot (inB (ilen a1) (1 : Int) (4 : Int))) true (bnot (ieq (ilen a2) (ilen a1)))) true (bnot (ieq (ilen a3) (ilen a1)))) : Bool) = (bite (bite (bnot (inB (ilen a1) (1 : Int) (4 : Int))) true (bnot (ieq (ilen a2) (ilen a1)))) true (bnot (ieq (ilen a3) (ilen a1))))) ∧ (true = true) ∧ ((Cont.ints a1) = (Cont.ints a1)) ∧ (((ilen a1) : Int) = (ilen a1)) ∧ (((ilen a1) : Int) = (ilen a1)) ∧ (true = true) ∧ (((Cont.ints a1) = (Cont.ints a1)) ∧ ((Cont.ints a2) = (Cont.ints a2)) ∧ ((Cont.ints a3) = (Cont.ints a3)) ∧ True) ∧ True) ∧ ((((Cont.ints a1) = (Cont.ints a1)) ∧ ((Cont.ints a2) = (Cont.ints a2)) ∧ ((Cont.ints a3) = (Cont.ints a3)) ∧ True) ∧ True)) ∧ ((([GK.int, GK.bool] : List GK) = ([GK.int, GK.bool] : List GK)) ∧ I1 [GV.int (iadd i1_0 (1 : Int)), GV.bool b1_1] ∧ μ1 [GV.int (iadd i1_0 (1 : Int)), GV.bool b1_1] < μ1 [GV.int i1_0, GV.bool b1_1]))))) ∧ ((ilt i1_0 (ilen a1)) = false → ((true = true) ∧ ((True) ∧ True) ∧ ((true : Bool) = (armB a1 a2 a3)) ∧ True))))))) = ev sig_spec_ArmValid xs_spec_ArmValid Tryd.f45.ntmps (fun b => if b == 0 then [.v 4, .v 2] else []) (codeOf Tryd.f45) 0 (initS [.agg [.view (.ints a1), .view (.ints a2), .view (.ints a3)]]) (retK Tryd.f45.results.toList [.s (.bool (armB a1 a2 a3))]) := by kernel_rfl
set_option maxHeartbeats 400000 in
theorem F_spec_ArmValid : FunOK 45 g_spec_ArmValid := by
  refine fun_F (by kernel_rfl) Tryd.func45 rfl (by kernel_rfl) sig_spec_ArmValid_ok xs_spec_ArmValid_ok ?_
  intro avs sg h hn hl
  unfold g_spec_ArmValid at h
  split at h
  · rename_i a1 a2 a3
    injection h with h; subst h
    refine ⟨by kernel_rfl, fun b => if b == 0 then [.v 4, .v 2] else [], Eq.mp (V_spec_ArmValid a1 a2 a3) ?_⟩
    simp only [true_and, and_true, implies_true, and_self, forall_const, true_implies, lenA, lenL, SV.lenOK, Cont.lenOK] at hn hl ⊢
    have h0 := ilen_0 a1
    simp only [ilt_t, ilt_f, ile_t, ile_f, ieq_t, ieq_f, bnot_e, band_e, bite_and, bite_or, NLt_e, NLe_e, NNe_e, NIs_e, imax_e, imin_e, irem_e, Bool.not_eq_true', Bool.not_eq_false', Bool.and_eq_true, Bool.or_eq_true, Bool.or_eq_false_iff, Bool.and_eq_false_iff, Cont.pts.injEq, Cont.ints.injEq, Cont.bools.injEq, Cont.ptss.injEq, Cont.intss.injEq, Cont.boolss.injEq, true_and, and_true, implies_true]
    refine ⟨fun h => ?_, fun h => ?_⟩
    · unfold armB
      rcases h with (h | h) | h <;> simp [h]
    · obtain ⟨⟨c1, c2⟩, c3⟩ := h
      refine ⟨fun | .int k :: _ => 0 ≤ k ∧ k ≤ ilen a1 ∧ (∀ j, 0 ≤ j → j < k → armE a1 a2 a3 j = true) | _ => False, fun | .int k :: _ => (ilen a1 - k).toNat | _ => 0, ?_, ?_⟩
      · exact ⟨Int.le_refl 0, h0, fun j h0 h1 => absurd h1 (by omega)⟩
      · rintro k _ ⟨hk0, hk1, hk⟩
        simp only [ilt_t, ilt_f, ile_t, ile_f, ieq_t, ieq_f, bnot_e, band_e, bite_and, bite_or, NLt_e, NLe_e, NNe_e, NIs_e, imax_e, imin_e, irem_e, Bool.not_eq_true', Bool.not_eq_false', Bool.and_eq_true, Bool.or_eq_true, Bool.or_eq_false_iff, Bool.and_eq_false_iff, Cont.pts.injEq, Cont.ints.injEq, Cont.bools.injEq, Cont.ptss.injEq, Cont.intss.injEq, Cont.boolss.injEq, true_and, and_true, implies_true]
        refine ⟨fun hc => ⟨⟨⟨hk0, hc⟩, fun _ => ⟨hk0, by omega⟩, fun _ => ⟨hk0, by omega⟩, fun _ => ⟨hk0, by omega⟩⟩, fun hv => ?_, fun hv => ?_⟩, fun hc => ?_⟩
        · have hE : armE a1 a2 a3 k = false := by unfold armE; rcases hv with (hv | hv) | hv <;> simp [hv]
          unfold armB; rw [allN_no k hk0 hc hE]; simp
        · have hE : armE a1 a2 a3 k = true := by unfold armE; rw [hv.1.1, hv.1.2, hv.2]; rfl
          rw [iadd_1 hk0 hc hl.1]
          exact ⟨⟨by omega, by omega, upTo hk hE⟩, by omega⟩
        · unfold armB; rw [allN_mk fun j h0 h1 => hk j h0 (by omega), c1]; simp [c2, c3]
  · cases h
def s_spec_l20Joints (r1 : Int) (r2 : Int) (a1 : List Int) (a2 : List Int) (a3 : List Int) (n : Int) : SgX := ⟨r1 ≤ 2000 ∧ 0 ≤ r2 ∧ r2 ≤ 900000 ∧ ilen a1 ≤ 10 ∧ ilen a2 ≤ 10 ∧ ilen a3 ≤ 10 ∧ -1000000 ≤ n ∧ n ≤ 1000000, [.ints, .int], (fun | [.ints l, .int q] => ilen l ≤ 10 ∧ r2 ≤ q ∧ q ≤ r2 + 100 | _ => False), (fun | [.ints l, .int q] => [.s (.view (.ints (l)))] | _ => []), (fun | [.ints l, .int q] => .box [.rdr r1, .int (q)] | _ => .box [])⟩
def g_spec_l20Joints : Bx → List AV → Option SgX
  | .box [.rdr r1, .int r2], [.agg [.view (.ints a1), .view (.ints a2), .view (.ints a3)], .s (.int n)] => some (s_spec_l20Joints r1 r2 a1 a2 a3 n)
  | _, _ => none
def sig_spec_l20Joints : FuncId → List AV → Option Sg := sigL []
def xs_spec_l20Joints : XS := ⟨xsigL [(44, g_spec_l20Rd_pick), (63, g_spec_l20Rd_odd)], ysigL []⟩
theorem sig_spec_l20Joints_ok : SigOK sig_spec_l20Joints := sigL_nil
theorem xs_spec_l20Joints_ok : XSigOK xs_spec_l20Joints := ⟨xsigL_cons F_spec_l20Rd_pick (xsigL_cons F_spec_l20Rd_odd xsigL_nil), ysigL_nil⟩
def L_spec_l20Joints_0 (r2 : Int) (l1_1 : List Int) (k_13 : Int) (a3 : List Int) (r1 : Int) (q_12 : Int) : Prop := ∃ l : List Int, ∃ q : Int, ((ilen l ≤ 10 ∧ r2 ≤ q ∧ q ≤ r2 + 100) ∧ (((true = true) ∧ ((Cont.ints (seti l1_1 (k_13) (iadd (geti a3 (k_13)) (1 : Int)))) = (Cont.ints (l)))) ∧ True) ∧ ((true = true) ∧ (true = true) ∧ ((r1 : Int) = r1) ∧ (((((q_12) + 1) + 1) : Int) = (q)) ∧ True))
def L_spec_l20Joints_1 (r2 : Int) (l1_1 : List Int) (k_13 : Int) (a2 : List Int) (r1 : Int) (q_12 : Int) : Prop := ∃ l : List Int, ∃ q : Int, ((ilen l ≤ 10 ∧ r2 ≤ q ∧ q ≤ r2 + 100) ∧ (((true = true) ∧ ((Cont.ints (seti l1_1 (k_13) (isub (geti a2 (k_13)) (1 : Int)))) = (Cont.ints (l)))) ∧ True) ∧ ((true = true) ∧ (true = true) ∧ ((r1 : Int) = r1) ∧ (((((q_12) + 1) + 1) : Int) = (q)) ∧ True))
def L_spec_l20Joints_2 (r2 : Int) (l1_1 : List Int) (r1 : Int) (q_12 : Int) : Prop := ∃ l : List Int, ∃ q : Int, ((ilen l ≤ 10 ∧ r2 ≤ q ∧ q ≤ r2 + 100) ∧ (((Cont.ints (idrop l1_1 (1 : Int))) = (Cont.ints (l))) ∧ True) ∧ ((true = true) ∧ (true = true) ∧ ((r1 : Int) = r1) ∧ (((((q_12) + 1) + 1) : Int) = (q)) ∧ True))
def L_spec_l20Joints_3 (r2 : Int) (l1_1 : List Int) (r1 : Int) (q_12 : Int) : Prop := ∃ l : List Int, ∃ q : Int, ((ilen l ≤ 10 ∧ r2 ≤ q ∧ q ≤ r2 + 100) ∧ (((true = true) ∧ ((Cont.ints l1_1) = (Cont.ints (l)))) ∧ True) ∧ ((true = true) ∧ (true = true) ∧ ((r1 : Int) = r1) ∧ (((q_12) : Int) = (q)) ∧ True))
def L_spec_l20Joints_4 (r2 : Int) (l1_1 : List Int) (k_15 : Int) (a3 : List Int) (r1 : Int) (q_12 : Int) : Prop := ∃ l : List Int, ∃ q : Int, ((ilen l ≤ 10 ∧ r2 ≤ q ∧ q ≤ r2 + 100) ∧ (((true = true) ∧ ((Cont.ints (seti l1_1 (k_15) (iadd (geti a3 (k_15)) (1 : Int)))) = (Cont.ints (l)))) ∧ True) ∧ ((true = true) ∧ (true = true) ∧ ((r1 : Int) = r1) ∧ (((((q_12) + 1) + 1) : Int) = (q)) ∧ True))
def L_spec_l20Joints_5 (r2 : Int) (l1_1 : List Int) (k_15 : Int) (a2 : List Int) (r1 : Int) (q_12 : Int) : Prop := ∃ l : List Int, ∃ q : Int, ((ilen l ≤ 10 ∧ r2 ≤ q ∧ q ≤ r2 + 100) ∧ (((true = true) ∧ ((Cont.ints (seti l1_1 (k_15) (isub (geti a2 (k_15)) (1 : Int)))) = (Cont.ints (l)))) ∧ True) ∧ ((true = true) ∧ (true = true) ∧ ((r1 : Int) = r1) ∧ (((((q_12) + 1) + 1) : Int) = (q)) ∧ True))
def L_spec_l20Joints_6 (r2 : Int) (l1_1 : List Int) (k_17 : Int) (a3 : List Int) (r1 : Int) (i1_2 : Int) : Prop := ∃ l : List Int, ∃ q : Int, ((ilen l ≤ 10 ∧ r2 ≤ q ∧ q ≤ r2 + 100) ∧ (((true = true) ∧ ((Cont.ints (seti l1_1 (k_17) (iadd (geti a3 (k_17)) (1 : Int)))) = (Cont.ints (l)))) ∧ True) ∧ ((true = true) ∧ (true = true) ∧ ((r1 : Int) = r1) ∧ ((((i1_2 + 1) + 1) : Int) = (q)) ∧ True))
def L_spec_l20Joints_7 (r2 : Int) (l1_1 : List Int) (k_17 : Int) (a2 : List Int) (r1 : Int) (i1_2 : Int) : Prop := ∃ l : List Int, ∃ q : Int, ((ilen l ≤ 10 ∧ r2 ≤ q ∧ q ≤ r2 + 100) ∧ (((true = true) ∧ ((Cont.ints (seti l1_1 (k_17) (isub (geti a2 (k_17)) (1 : Int)))) = (Cont.ints (l)))) ∧ True) ∧ ((true = true) ∧ (true = true) ∧ ((r1 : Int) = r1) ∧ ((((i1_2 + 1) + 1) : Int) = (q)) ∧ True))
def L_spec_l20Joints_8 (r2 : Int) (l1_1 : List Int) (r1 : Int) (i1_2 : Int) : Prop := ∃ l : List Int, ∃ q : Int, ((ilen l ≤ 10 ∧ r2 ≤ q ∧ q ≤ r2 + 100) ∧ (((Cont.ints (idrop l1_1 (1 : Int))) = (Cont.ints (l))) ∧ True) ∧ ((true = true) ∧ (true = true) ∧ ((r1 : Int) = r1) ∧ ((((i1_2 + 1) + 1) : Int) = (q)) ∧ True))
def L_spec_l20Joints_9 (r2 : Int) (l1_1 : List Int) (r1 : Int) (i1_2 : Int) : Prop := ∃ l : List Int, ∃ q : Int, ((ilen l ≤ 10 ∧ r2 ≤ q ∧ q ≤ r2 + 100) ∧ (((true = true) ∧ ((Cont.ints l1_1) = (Cont.ints (l)))) ∧ True) ∧ ((true = true) ∧ (true = true) ∧ ((r1 : Int) = r1) ∧ ((i1_2 : Int) = (q)) ∧ True))
def L_spec_l20Joints_10 (r2 : Int) (l1_1 : List Int) (k_19 : Int) (a3 : List Int) (r1 : Int) (i1_2 : Int) : Prop := ∃ l : List Int, ∃ q : Int, ((ilen l ≤ 10 ∧ r2 ≤ q ∧ q ≤ r2 + 100) ∧ (((true = true) ∧ ((Cont.ints (seti l1_1 (k_19) (iadd (geti a3 (k_19)) (1 : Int)))) = (Cont.ints (l)))) ∧ True) ∧ ((true = true) ∧ (true = true) ∧ ((r1 : Int) = r1) ∧ ((((i1_2 + 1) + 1) : Int) = (q)) ∧ True))
def L_spec_l20Joints_11 (r2 : Int) (l1_1 : List Int) (k_19 : Int) (a2 : List Int) (r1 : Int) (i1_2 : Int) : Prop := ∃ l : List Int, ∃ q : Int, ((ilen l ≤ 10 ∧ r2 ≤ q ∧ q ≤ r2 + 100) ∧ (((true = true) ∧ ((Cont.ints (seti l1_1 (k_19) (isub (geti a2 (k_19)) (1 : Int)))) = (Cont.ints (l)))) ∧ True) ∧ ((true = true) ∧ (true = true) ∧ ((r1 : Int) = r1) ∧ ((((i1_2 + 1) + 1) : Int) = (q)) ∧ True))
def L_spec_l20Joints_12 (r2 : Int) (l1_1 : List Int) (k_21 : Int) (a3 : List Int) (r1 : Int) (i1_2 : Int) : Prop := ∃ l : List Int, ∃ q : Int, ((ilen l ≤ 10 ∧ r2 ≤ q ∧ q ≤ r2 + 100) ∧ (((true = true) ∧ ((Cont.ints (seti l1_1 (k_21) (iadd (geti a3 (k_21)) (1 : Int)))) = (Cont.ints (l)))) ∧ True) ∧ ((true = true) ∧ (true = true) ∧ ((r1 : Int) = r1) ∧ ((((i1_2 + 1) + 1) : Int) = (q)) ∧ True))
def L_spec_l20Joints_13 (r2 : Int) (l1_1 : List Int) (k_21 : Int) (a2 : List Int) (r1 : Int) (i1_2 : Int) : Prop := ∃ l : List Int, ∃ q : Int, ((ilen l ≤ 10 ∧ r2 ≤ q ∧ q ≤ r2 + 100) ∧ (((true = true) ∧ ((Cont.ints (seti l1_1 (k_21) (isub (geti a2 (k_21)) (1 : Int)))) = (Cont.ints (l)))) ∧ True) ∧ ((true = true) ∧ (true = true) ∧ ((r1 : Int) = r1) ∧ ((((i1_2 + 1) + 1) : Int) = (q)) ∧ True))
def L_spec_l20Joints_14 (r2 : Int) (l1_1 : List Int) (k_23 : Int) (a3 : List Int) (r1 : Int) (i1_2 : Int) : Prop := ∃ l : List Int, ∃ q : Int, ((ilen l ≤ 10 ∧ r2 ≤ q ∧ q ≤ r2 + 100) ∧ (((true = true) ∧ ((Cont.ints (seti l1_1 (k_23) (iadd (geti a3 (k_23)) (1 : Int)))) = (Cont.ints (l)))) ∧ True) ∧ ((true = true) ∧ (true = true) ∧ ((r1 : Int) = r1) ∧ ((((i1_2 + 1) + 1) : Int) = (q)) ∧ True))
def L_spec_l20Joints_15 (r2 : Int) (l1_1 : List Int) (k_23 : Int) (a2 : List Int) (r1 : Int) (i1_2 : Int) : Prop := ∃ l : List Int, ∃ q : Int, ((ilen l ≤ 10 ∧ r2 ≤ q ∧ q ≤ r2 + 100) ∧ (((true = true) ∧ ((Cont.ints (seti l1_1 (k_23) (isub (geti a2 (k_23)) (1 : Int)))) = (Cont.ints (l)))) ∧ True) ∧ ((true = true) ∧ (true = true) ∧ ((r1 : Int) = r1) ∧ ((((i1_2 + 1) + 1) : Int) = (q)) ∧ True))
theorem V_spec_l20Joints (r1 : Int) (r2 : Int) (a1 : List Int) (a2 : List Int) (a3 : List Int) (n : Int) : ((true = true) ∧ ((True) ∧ (True) ∧ True) ∧ (true = true) ∧ ((True) ∧ (True) ∧ True) ∧ (true = true) ∧ ((True) ∧ True) ∧ ∃ (I1 : List GV → Prop) (μ1 : List GV → Nat), (((true = true) ∧ ((((0 : Int) : Int) = (0 : Int)) ∧ (true = true) ∧ (true = true) ∧ (true = true) ∧ (true = true) ∧ (((Cont.ints a1) = (Cont.ints a1)) ∧ ((Cont.ints a2) = (Cont.ints a2)) ∧ ((Cont.ints a3) = (Cont.ints a3)) ∧ True) ∧ ((n : Int) = n) ∧ True) ∧ ((((r1 : Int) = r1) ∧ ((r2 : Int) = r2) ∧ True) ∧ ((true = true) ∧ ((Cont.ints []) = (Cont.ints []))) ∧ (((Cont.ints a1) = (Cont.ints a1)) ∧ ((Cont.ints a2) = (Cont.ints a2)) ∧ ((Cont.ints a3) = (Cont.ints a3)) ∧ True) ∧ ((true = true) ∧ ((Cont.ints []) = (Cont.ints []))) ∧ True)) ∧ (([GK.int, GK.ints, GK.int] : List GK) = ([GK.int, GK.ints, GK.int] : List GK)) ∧ I1 [GV.int (0 : Int), GV.ints [], GV.int r2]) ∧ (∀ i1_0 : Int, ∀ l1_1 : List Int, ∀ i1_2 : Int, I1 [GV.int i1_0, GV.ints l1_1, GV.int i1_2] → ((true = true) ∧ ((True) ∧ (True) ∧ (True) ∧ (True) ∧ (True) ∧ (True) ∧ (NIs (ilt i1_0 (ilen a1)) true → True) ∧ (NIs (ilt i1_0 (ilen a1)) true → True) ∧ (NIs (ilt i1_0 (ilen a1)) true → True) ∧ (NIs (ilt i1_0 (ilen a1)) true → True) ∧ (NIs (ilt i1_0 (ilen a1)) true → True) ∧ (True) ∧ (True) ∧ (NIs (bite (ilt i1_0 (ilen a1)) (ilt i1_0 (ilen a2)) false) true → True) ∧ (NIs (bite (ilt i1_0 (ilen a1)) (ilt i1_0 (ilen a2)) false) true → True) ∧ (NIs (bite (ilt i1_0 (ilen a1)) (ilt i1_0 (ilen a2)) false) true → True) ∧ (NIs (bite (ilt i1_0 (ilen a1)) (ilt i1_0 (ilen a2)) false) true → True) ∧ (NIs (bite (ilt i1_0 (ilen a1)) (ilt i1_0 (ilen a2)) false) true → True) ∧ (True) ∧ True) ∧ ((bite (bite (ilt i1_0 (ilen a1)) (ilt i1_0 (ilen a2)) false) (ilt i1_0 (ilen a3)) false) = true → ((true = true) ∧ ((true = true) ∧ (True) ∧ ((true = true) ∧ (True) ∧ ((true = true) ∧ (True) ∧ ((true = true) ∧ (True) ∧ ((true = true) ∧ (NLe 0 i1_0 ∧ NLt i1_0 (ilen a2)) ∧ ((true = true) ∧ (True) ∧ ((true = true) ∧ (True) ∧ ((true = true) ∧ (True) ∧ ((true = true) ∧ (True) ∧ ((true = true) ∧ (True) ∧ ((true = true) ∧ (NLe 0 i1_0 ∧ NLt i1_0 (ilen a3)) ∧ ((true = true) ∧ (True) ∧ ((true = true) ∧ (True) ∧ ((true = true) ∧ (True) ∧ ((true = true) ∧ (True) ∧ ((true = true) ∧ (NLe 0 i1_0 ∧ NLt i1_0 (ilen a2)) ∧ ((true = true) ∧ (True) ∧ ((true = true) ∧ (True) ∧ ((true = true) ∧ (True) ∧ ((true = true) ∧ (True) ∧ ((true = true) ∧ ((r1 ≤ 2000 ∧ 0 ≤ i1_2 ∧ i1_2 ≤ 1000000)) ∧ (∀ k_10 : Int, ((pickP (imax (1 : Int) (iadd (isub (geti a3 i1_0) (geti a2 i1_0)) (1 : Int))) k_10) → ((true = true) ∧ (True) ∧ ((true = true) ∧ (True) ∧ ((NLe (ilen l1_1) 1000000000 ∧ NLe (ilen [(iadd (geti a2 i1_0) (k_10))]) 1000000000) ∧ (True) ∧ (true = true) ∧ ((True) ∧ (True) ∧ (True) ∧ True) ∧ ((true = true) ∧ ((((iadd i1_0 (1 : Int)) : Int) = (iadd i1_0 (1 : Int))) ∧ (true = true) ∧ (true = true) ∧ (true = true) ∧ (true = true) ∧ (((Cont.ints a1) = (Cont.ints a1)) ∧ ((Cont.ints a2) = (Cont.ints a2)) ∧ ((Cont.ints a3) = (Cont.ints a3)) ∧ True) ∧ ((n : Int) = n) ∧ True) ∧ ((((r1 : Int) = r1) ∧ (((i1_2 + 1) : Int) = (i1_2 + 1)) ∧ True) ∧ ((true = true) ∧ ((Cont.ints (iapp l1_1 [(iadd (geti a2 i1_0) (k_10))])) = (Cont.ints (iapp l1_1 [(iadd (geti a2 i1_0) (k_10))])))) ∧ (((Cont.ints a1) = (Cont.ints a1)) ∧ ((Cont.ints a2) = (Cont.ints a2)) ∧ ((Cont.ints a3) = (Cont.ints a3)) ∧ True) ∧ ((true = true) ∧ ((Cont.ints []) = (Cont.ints []))) ∧ True)) ∧ ((([GK.int, GK.ints, GK.int] : List GK) = ([GK.int, GK.ints, GK.int] : List GK)) ∧ I1 [GV.int (iadd i1_0 (1 : Int)), GV.ints (iapp l1_1 [(iadd (geti a2 i1_0) (k_10))]), GV.int (i1_2 + 1)] ∧ μ1 [GV.int (iadd i1_0 (1 : Int)), GV.ints (iapp l1_1 [(iadd (geti a2 i1_0) (k_10))]), GV.int (i1_2 + 1)] < μ1 [GV.int i1_0, GV.ints l1_1, GV.int i1_2]))))))))))))))))))))))))))))) ∧ ((bite (bite (ilt i1_0 (ilen a1)) (ilt i1_0 (ilen a2)) false) (ilt i1_0 (ilen a3)) false) = false → ((true = true) ∧ ((True) ∧ (True) ∧ (True) ∧ (True) ∧ True) ∧ (true = true) ∧ ((ilt (0 : Int) (ilen l1_1)) = true → ((True) ∧ (true = true) ∧ (true = true → ((True) ∧ (true = true) ∧ (true = true → ((true = true) ∧ ((r1 ≤ 2000 ∧ 0 ≤ i1_2 ∧ i1_2 ≤ 1000000 ∧ -1000000 ≤ n ∧ n ≤ 1000000)) ∧ (∀ b_11 : Bool, ∀ q_12 : Int, (((n ≤ 0 → b_11 = false) ∧ i1_2 ≤ q_12 ∧ q_12 ≤ i1_2 + 1) → ((true = true) ∧ (true = true → (((b_11) = true → ((true = true) ∧ ((True) ∧ (True) ∧ (True) ∧ True) ∧ (true = true) ∧ ((r1 ≤ 2000 ∧ 0 ≤ (q_12) ∧ (q_12) ≤ 1000000)) ∧ (∀ k_13 : Int, ((pickP (ilen l1_1) k_13) → ((True) ∧ (true = true) ∧ ((True) ∧ True) ∧ (true = true) ∧ ((r1 ≤ 2000 ∧ 0 ≤ ((q_12) + 1) ∧ ((q_12) + 1) ≤ 1000000)) ∧ (∀ k_14 : Int, ((pickP (3 : Int) k_14) → ((true = true) ∧ ((True) ∧ (True) ∧ True) ∧ ((ieq (k_14) (0 : Int)) = true → ((true = true) ∧ ((True) ∧ (True) ∧ (True) ∧ (True) ∧ (True) ∧ (NLe 0 (k_13) ∧ NLt (k_13) (ilen a3)) ∧ (True) ∧ (True) ∧ (NLe 0 (k_13) ∧ NLt (k_13) (ilen l1_1)) ∧ True) ∧ (NLt (k_13) (ilen l1_1)) ∧ (true = true) ∧ ((True) ∧ (True) ∧ True) ∧ L_spec_l20Joints_0 r2 l1_1 k_13 a3 r1 q_12)) ∧ ((ieq (k_14) (0 : Int)) = false → ((true = true) ∧ ((True) ∧ (True) ∧ True) ∧ ((ieq (k_14) (1 : Int)) = true → ((true = true) ∧ ((True) ∧ (True) ∧ (True) ∧ (True) ∧ (True) ∧ (NLe 0 (k_13) ∧ NLt (k_13) (ilen a2)) ∧ (True) ∧ (True) ∧ (NLe 0 (k_13) ∧ NLt (k_13) (ilen l1_1)) ∧ True) ∧ (NLt (k_13) (ilen l1_1)) ∧ (true = true) ∧ ((True) ∧ (True) ∧ True) ∧ L_spec_l20Joints_1 r2 l1_1 k_13 a2 r1 q_12)) ∧ ((ieq (k_14) (1 : Int)) = false → ((true = true) ∧ ((True) ∧ True) ∧ (NLe 0 (1 : Int) ∧ NLe (1 : Int) (ilen l1_1)) ∧ (True) ∧ (true = true) ∧ ((True) ∧ (True) ∧ True) ∧ L_spec_l20Joints_2 r2 l1_1 r1 q_12)))))))))))) ∧ ((b_11) = false → ((true = true) ∧ ((True) ∧ (True) ∧ True) ∧ L_spec_l20Joints_3 r2 l1_1 r1 q_12)))) ∧ (true = false → ((false = true → ((true = true) ∧ ((True) ∧ (True) ∧ (True) ∧ True) ∧ (true = true) ∧ ((r1 ≤ 2000 ∧ 0 ≤ (q_12) ∧ (q_12) ≤ 1000000)) ∧ (∀ k_15 : Int, ((pickP (ilen l1_1) k_15) → ((True) ∧ (true = true) ∧ ((True) ∧ True) ∧ (true = true) ∧ ((r1 ≤ 2000 ∧ 0 ≤ ((q_12) + 1) ∧ ((q_12) + 1) ≤ 1000000)) ∧ (∀ k_16 : Int, ((pickP (3 : Int) k_16) → ((true = true) ∧ ((True) ∧ (True) ∧ True) ∧ ((ieq (k_16) (0 : Int)) = true → ((true = true) ∧ ((True) ∧ (True) ∧ (True) ∧ (True) ∧ (True) ∧ (NLe 0 (k_15) ∧ NLt (k_15) (ilen a3)) ∧ (True) ∧ (True) ∧ (NLe 0 (k_15) ∧ NLt (k_15) (ilen l1_1)) ∧ True) ∧ (NLt (k_15) (ilen l1_1)) ∧ (true = true) ∧ ((True) ∧ (True) ∧ True) ∧ L_spec_l20Joints_4 r2 l1_1 k_15 a3 r1 q_12)) ∧ ((ieq (k_16) (0 : Int)) = false → ((true = true) ∧ ((True) ∧ (True) ∧ True) ∧ ((ieq (k_16) (1 : Int)) = true → ((true = true) ∧ ((True) ∧ (True) ∧ (True) ∧ (True) ∧ (True) ∧ (NLe 0 (k_15) ∧ NLt (k_15) (ilen a2)) ∧ (True) ∧ (True) ∧ (NLe 0 (k_15) ∧ NLt (k_15) (ilen l1_1)) ∧ True) ∧ (NLt (k_15) (ilen l1_1)) ∧ (true = true) ∧ ((True) ∧ (True) ∧ True) ∧ L_spec_l20Joints_5 r2 l1_1 k_15 a2 r1 q_12)) ∧ ((ieq (k_16) (1 : Int)) = false → ((true = true) ∧ ((True) ∧ True) ∧ (NLe 0 (1 : Int) ∧ NLe (1 : Int) (ilen l1_1)) ∧ (True) ∧ (true = true) ∧ ((True) ∧ (True) ∧ True) ∧ L_spec_l20Joints_2 r2 l1_1 r1 q_12)))))))))))) ∧ (false = false → ((true = true) ∧ ((True) ∧ (True) ∧ True) ∧ L_spec_l20Joints_3 r2 l1_1 r1 q_12))))))))) ∧ (true = false → ((true = true) ∧ (false = true → (False)) ∧ (false = false → ((false = true → ((true = true) ∧ ((True) ∧ (True) ∧ (True) ∧ True) ∧ (true = true) ∧ ((r1 ≤ 2000 ∧ 0 ≤ i1_2 ∧ i1_2 ≤ 1000000)) ∧ (∀ k_17 : Int, ((pickP (ilen l1_1) k_17) → ((True) ∧ (true = true) ∧ ((True) ∧ True) ∧ (true = true) ∧ ((r1 ≤ 2000 ∧ 0 ≤ (i1_2 + 1) ∧ (i1_2 + 1) ≤ 1000000)) ∧ (∀ k_18 : Int, ((pickP (3 : Int) k_18) → ((true = true) ∧ ((True) ∧ (True) ∧ True) ∧ ((ieq (k_18) (0 : Int)) = true → ((true = true) ∧ ((True) ∧ (True) ∧ (True) ∧ (True) ∧ (True) ∧ (NLe 0 (k_17) ∧ NLt (k_17) (ilen a3)) ∧ (True) ∧ (True) ∧ (NLe 0 (k_17) ∧ NLt (k_17) (ilen l1_1)) ∧ True) ∧ (NLt (k_17) (ilen l1_1)) ∧ (true = true) ∧ ((True) ∧ (True) ∧ True) ∧ L_spec_l20Joints_6 r2 l1_1 k_17 a3 r1 i1_2)) ∧ ((ieq (k_18) (0 : Int)) = false → ((true = true) ∧ ((True) ∧ (True) ∧ True) ∧ ((ieq (k_18) (1 : Int)) = true → ((true = true) ∧ ((True) ∧ (True) ∧ (True) ∧ (True) ∧ (True) ∧ (NLe 0 (k_17) ∧ NLt (k_17) (ilen a2)) ∧ (True) ∧ (True) ∧ (NLe 0 (k_17) ∧ NLt (k_17) (ilen l1_1)) ∧ True) ∧ (NLt (k_17) (ilen l1_1)) ∧ (true = true) ∧ ((True) ∧ (True) ∧ True) ∧ L_spec_l20Joints_7 r2 l1_1 k_17 a2 r1 i1_2)) ∧ ((ieq (k_18) (1 : Int)) = false → ((true = true) ∧ ((True) ∧ True) ∧ (NLe 0 (1 : Int) ∧ NLe (1 : Int) (ilen l1_1)) ∧ (True) ∧ (true = true) ∧ ((True) ∧ (True) ∧ True) ∧ L_spec_l20Joints_8 r2 l1_1 r1 i1_2)))))))))))) ∧ (false = false → ((true = true) ∧ ((True) ∧ (True) ∧ True) ∧ L_spec_l20Joints_9 r2 l1_1 r1 i1_2)))))))) ∧ (true = false → ((true = true) ∧ (false = true → (False)) ∧ (false = false → ((true = true) ∧ (false = true → (False)) ∧ (false = false → ((false = true → ((true = true) ∧ ((True) ∧ (True) ∧ (True) ∧ True) ∧ (true = true) ∧ ((r1 ≤ 2000 ∧ 0 ≤ i1_2 ∧ i1_2 ≤ 1000000)) ∧ (∀ k_19 : Int, ((pickP (ilen l1_1) k_19) → ((True) ∧ (true = true) ∧ ((True) ∧ True) ∧ (true = true) ∧ ((r1 ≤ 2000 ∧ 0 ≤ (i1_2 + 1) ∧ (i1_2 + 1) ≤ 1000000)) ∧ (∀ k_20 : Int, ((pickP (3 : Int) k_20) → ((true = true) ∧ ((True) ∧ (True) ∧ True) ∧ ((ieq (k_20) (0 : Int)) = true → ((true = true) ∧ ((True) ∧ (True) ∧ (True) ∧ (True) ∧ (True) ∧ (NLe 0 (k_19) ∧ NLt (k_19) (ilen a3)) ∧ (True) ∧ (True) ∧ (NLe 0 (k_19) ∧ NLt (k_19) (ilen l1_1)) ∧ True) ∧ (NLt (k_19) (ilen l1_1)) ∧ (true = true) ∧ ((True) ∧ (True) ∧ True) ∧ L_spec_l20Joints_10 r2 l1_1 k_19 a3 r1 i1_2)) ∧ ((ieq (k_20) (0 : Int)) = false → ((true = true) ∧ ((True) ∧ (True) ∧ True) ∧ ((ieq (k_20) (1 : Int)) = true → ((true = true) ∧ ((True) ∧ (True) ∧ (True) ∧ (True) ∧ (True) ∧ (NLe 0 (k_19) ∧ NLt (k_19) (ilen a2)) ∧ (True) ∧ (True) ∧ (NLe 0 (k_19) ∧ NLt (k_19) (ilen l1_1)) ∧ True) ∧ (NLt (k_19) (ilen l1_1)) ∧ (true = true) ∧ ((True) ∧ (True) ∧ True) ∧ L_spec_l20Joints_11 r2 l1_1 k_19 a2 r1 i1_2)) ∧ ((ieq (k_20) (1 : Int)) = false → ((true = true) ∧ ((True) ∧ True) ∧ (NLe 0 (1 : Int) ∧ NLe (1 : Int) (ilen l1_1)) ∧ (True) ∧ (true = true) ∧ ((True) ∧ (True) ∧ True) ∧ L_spec_l20Joints_8 r2 l1_1 r1 i1_2)))))))))))) ∧ (false = false → ((true = true) ∧ ((True) ∧ (True) ∧ True) ∧ L_spec_l20Joints_9 r2 l1_1 r1 i1_2)))))))))) ∧ ((ilt (0 : Int) (ilen l1_1)) = false → ((true = true) ∧ (false = true → ((True) ∧ (true = true) ∧ (true = true → (False)) ∧ (true = false → ((true = true) ∧ (false = true → (False)) ∧ (false = false → ((false = true → ((true = true) ∧ ((True) ∧ (True) ∧ (True) ∧ True) ∧ (true = true) ∧ ((r1 ≤ 2000 ∧ 0 ≤ i1_2 ∧ i1_2 ≤ 1000000)) ∧ (∀ k_21 : Int, ((pickP (ilen l1_1) k_21) → ((True) ∧ (true = true) ∧ ((True) ∧ True) ∧ (true = true) ∧ ((r1 ≤ 2000 ∧ 0 ≤ (i1_2 + 1) ∧ (i1_2 + 1) ≤ 1000000)) ∧ (∀ k_22 : Int, ((pickP (3 : Int) k_22) → ((true = true) ∧ ((True) ∧ (True) ∧ True) ∧ ((ieq (k_22) (0 : Int)) = true → ((true = true) ∧ ((True) ∧ (True) ∧ (True) ∧ (True) ∧ (True) ∧ (NLe 0 (k_21) ∧ NLt (k_21) (ilen a3)) ∧ (True) ∧ (True) ∧ (NLe 0 (k_21) ∧ NLt (k_21) (ilen l1_1)) ∧ True) ∧ (NLt (k_21) (ilen l1_1)) ∧ (true = true) ∧ ((True) ∧ (True) ∧ True) ∧ L_spec_l20Joints_12 r2 l1_1 k_21 a3 r1 i1_2)) ∧ ((ieq (k_22) (0 : Int)) = false → ((true = true) ∧ ((True) ∧ (True) ∧ True) ∧ ((ieq (k_22) (1 : Int)) = true → ((true = true) ∧ ((True) ∧ (True) ∧ (True) ∧ (True) ∧ (True) ∧ (NLe 0 (k_21) ∧ NLt (k_21) (ilen a2)) ∧ (True) ∧ (True) ∧ (NLe 0 (k_21) ∧ NLt (k_21) (ilen l1_1)) ∧ True) ∧ (NLt (k_21) (ilen l1_1)) ∧ (true = true) ∧ ((True) ∧ (True) ∧ True) ∧ L_spec_l20Joints_13 r2 l1_1 k_21 a2 r1 i1_2)) ∧ ((ieq (k_22) (1 : Int)) = false → ((true = true) ∧ ((True) ∧ True) ∧ (NLe 0 (1 : Int) ∧ NLe (1 : Int) (ilen l1_1)) ∧ (True) ∧ (true = true) ∧ ((True) ∧ (True) ∧ True) ∧ L_spec_l20Joints_8 r2 l1_1 r1 i1_2)))))))))))) ∧ (false = false → ((true = true) ∧ ((True) ∧ (True) ∧ True) ∧ L_spec_l20Joints_9 r2 l1_1 r1 i1_2)))))))) ∧ (false = false → ((true = true) ∧ (false = true → (False)) ∧ (false = false → ((true = true) ∧ (false = true → (False)) ∧ (false = false → ((false = true → ((true = true) ∧ ((True) ∧ (True) ∧ (True) ∧ True) ∧ (true = true) ∧ ((r1 ≤ 2000 ∧ 0 ≤ i1_2 ∧ i1_2 ≤ 1000000)) ∧ (∀ k_23 : Int, ((pickP (ilen l1_1) k_23) → ((True) ∧ (true = true) ∧ ((True) ∧ True) ∧ (true = true) ∧ ((r1 ≤ 2000 ∧ 0 ≤ (i1_2 + 1) ∧ (i1_2 + 1) ≤ 1000000)) ∧ (∀ k_24 : Int, ((pickP (3 : Int) k_24) → ((true = true) ∧ ((True) ∧ (True) ∧ True) ∧ ((ieq (k_24) (0 : Int)) = true → ((true = true) ∧ ((True) ∧ (True) ∧ (True) ∧ (True) ∧ (True) ∧ (NLe 0 (k_23) ∧ NLt (k_23) (ilen a3)) ∧ (True) ∧ (True) ∧ (NLe 0 (k_23) ∧ NLt (k_23) (ilen l1_1)) ∧ True) ∧ (NLt (k_23) (ilen l1_1)) ∧ (true = true) ∧ ((True) ∧ (True) ∧ True) ∧ L_spec_l20Joints_14 r2 l1_1 k_23 a3 r1 i1_2)) ∧ ((ieq (k_24) (0 : Int)) = false → ((true = true) ∧ ((True) ∧ (True) ∧ True) ∧ ((ieq (k_24) (1 : Int)) = true → ((true = true) ∧ ((True) ∧ (True) ∧ (True) ∧ (True) ∧ (True) ∧ (NLe 0 (k_23) ∧ NLt (k_23) (ilen a2)) ∧ (True) ∧ (True) ∧ (NLe 0 (k_23) ∧ NLt (k_23) (ilen l1_1)) ∧ True) ∧ (NLt (k_23) (ilen l1_1)) ∧ (true = true) ∧ ((True) ∧ (True) ∧ True) ∧ L_spec_l20Joints_15 r2 l1_1 k_23 a2 r1 i1_2)) ∧ ((ieq (k_24) (1 : Int)) = false → ((true = true) ∧ ((True) ∧ True) ∧ (NLe 0 (1 : Int) ∧ NLe (1 : Int) (ilen l1_1)) ∧ (True) ∧ (true = true) ∧ ((True) ∧ (True) ∧ True) ∧ L_spec_l20Joints_8 r2 l1_1 r1 i1_2)))))))))))) ∧ (false = false → ((true = true) ∧ ((True) ∧ (True) ∧ True) ∧ L_spec_l20Joints_9 r2 l1_1 r1 i1_2))))))))))))))) = (fun sg => ev sig_spec_l20Joints xs_spec_l20Joints Tryd.f46.ntmps (fun b => if b == 0 then [.v 8, .b 7, .b 0] else []) (codeOf Tryd.f46) 0 (initX (.box [.rdr r1, .int r2]) [.agg [.view (.ints a1), .view (.ints a2), .view (.ints a3)], .s (.int n)]) (retX Tryd.f46.results.toList sg.kinds sg.post sg.ret sg.out)) (s_spec_l20Joints r1 r2 a1 a2 a3 n) := by kernel_rfl
set_option maxHeartbeats 4000000 in
theorem F_spec_l20Joints : FunX 46 g_spec_l20Joints := by
  refine fun_X (by kernel_rfl) Tryd.func46 rfl (by kernel_rfl) sig_spec_l20Joints_ok xs_spec_l20Joints_ok ?_
  intro bx avs sg h hn hl hlb
  unfold g_spec_l20Joints at h
  split at h
  · rename_i r1 r2 a1 a2 a3 n
    injection h with h; subst h
    refine ⟨by kernel_rfl, fun b => if b == 0 then [.v 8, .b 7, .b 0] else [], Eq.mp (V_spec_l20Joints r1 r2 a1 a2 a3 n) ?_⟩
    simp only [true_and, and_true, implies_true, and_self, forall_const, true_implies, lenA, lenL, SV.lenOK, Cont.lenOK, lenB, s_spec_l20Joints, L_spec_l20Joints_0, L_spec_l20Joints_1, L_spec_l20Joints_2, L_spec_l20Joints_3, L_spec_l20Joints_4, L_spec_l20Joints_5, L_spec_l20Joints_6, L_spec_l20Joints_7, L_spec_l20Joints_8, L_spec_l20Joints_9, L_spec_l20Joints_10, L_spec_l20Joints_11, L_spec_l20Joints_12, L_spec_l20Joints_13, L_spec_l20Joints_14, L_spec_l20Joints_15] at hn hl hlb ⊢
    simp only [ilt_t, ilt_f, ile_t, ile_f, ieq_t, ieq_f, bnot_e, band_e, bite_and, bite_or, NLt_e, NLe_e, NNe_e, NIs_e, imax_e, imin_e, irem_e, Bool.not_eq_true', Bool.not_eq_false', Bool.and_eq_true, Bool.or_eq_true, Bool.or_eq_false_iff, Bool.and_eq_false_iff, Cont.pts.injEq, Cont.ints.injEq, Cont.bools.injEq, Cont.ptss.injEq, Cont.intss.injEq, Cont.boolss.injEq, true_and, and_true, implies_true, reduceCtorEq, false_implies, true_implies, and_true, true_and]
    refine ⟨fun | [.int k, .ints l, .int q] => 0 ≤ k ∧ ilen l = k ∧ k ≤ ilen a1 ∧ k ≤ ilen a2 ∧ k ≤ ilen a3 ∧ q = r2 + k | _ => False, fun | .int k :: _ => (ilen a1 - k).toNat | _ => 0, ⟨by omega, ilen_nil, ilen_0 _, ilen_0 _, ilen_0 _, by omega⟩, ?_⟩
    rintro k l q ⟨h1, h2, h3, h4, h5, h6⟩
    have e1 : iadd k 1 = k + 1 := iadd_e (by omega) (by omega)
    have dz : ilen (idrop l 1) ≤ ilen l := by unfold ilen idrop; simp
    rw [e1]
    refine ⟨fun hk => ?_, fun hk => ?_⟩
    · exact ⟨⟨by omega, by omega⟩, ⟨by omega, by omega⟩, ⟨by omega, by omega⟩, by omega, fun k1 hk1 => ⟨⟨by omega, by rw [ilen_one]; omega⟩, ⟨by omega, by rw [ilen_app, ilen_one]; omega, by omega, by omega, by omega, by omega⟩, by show (ilen a1 - (k + 1)).toNat < (ilen a1 - k).toNat; omega⟩⟩
    refine ⟨fun hp => ⟨by omega, fun b q3 hb => ⟨fun _ => ⟨by omega, fun k4 hk4 => ?_⟩, fun _ => ⟨_, _, by omega, rfl, rfl⟩⟩⟩, fun hp => ⟨_, _, by omega, rfl, rfl⟩⟩
    have p4 := hk4.2 (by omega)
    exact ⟨by omega, fun k5 hk5 => ⟨fun _ => ⟨⟨by omega, by omega⟩, by omega, _, _, ⟨by rw [ilen_seti]; omega, by omega, by omega⟩, rfl, rfl⟩, fun _ => ⟨fun _ => ⟨⟨by omega, by omega⟩, by omega, _, _, ⟨by rw [ilen_seti]; omega, by omega, by omega⟩, rfl, rfl⟩, fun _ => ⟨⟨by omega, by omega⟩, _, _, ⟨by omega, by omega, by omega⟩, rfl, rfl⟩⟩⟩⟩
  · cases h
def sig_dsc : FuncId → List AV → Option Sg := sigL [(42, g_spec_l20Open), (45, g_spec_ArmValid)]
def xs_dsc : XS := ⟨xsigL [(44, g_spec_l20Rd_pick), (46, g_spec_l20Joints)], ysigL []⟩
theorem sig_dsc_ok : SigOK sig_dsc := sigL_cons F_spec_l20Open (sigL_cons F_spec_ArmValid sigL_nil)
theorem xs_dsc_ok : XSigOK xs_dsc := ⟨xsigL_cons F_spec_l20Rd_pick (xsigL_cons F_spec_l20Joints xsigL_nil), ysigL_nil⟩
def bxM (σ : St) (t : Nat) (l : List SV) : Prop := match lookT σ.t t with
  | .s (.ptr k 0) => match lookB σ.b k with
    | some (.box m) => (Nat.blt 0 k && m.all (·.free)) = true ∧ mSVs σ m l
    | _ => False
  | _ => False
def armR (σ : St) (t : Nat) (x y z : List Int) : Prop := match lookT σ.t t with
  | .s (.ptr k 0) => match lookB σ.b k with
    | some (.box [a, b, c]) => (apartM a b && apartM a c && apartM b c && Nat.blt 0 k) = true ∧ ownM σ a (.ints x) ∧ ownM σ b (.ints y) ∧ ownM σ c (.ints z)
    | _ => False
  | _ => False
def dscM (m : Int) (σ : St) : Prop := ∃ x y z : List Int, ∃ q : Int, (ilen x ≤ 10 ∧ ilen y ≤ 10 ∧ ilen z ≤ 10 ∧ 0 ≤ q ∧ q ≤ 5001) ∧ bxM σ 2 [.nil, .nil, .nil] ∧ bxM σ 4 [.rdr m, .int q] ∧ armR σ 5 x y z
def dscK (m : Int) : XE → St → Prop
  | .exit _, _ => False
  | .normal, σ => dscM m σ
  | .ret, _ => False
def LR_dsc_0 (m : Int) (q : Int) (x0 : List Int) (l1_1 : List Int) (l1_2 : List Int) : Prop := ∃ x : List Int, ∃ y : List Int, ∃ z : List Int, ∃ q9 : Int, (ilen x ≤ 10 ∧ ilen y ≤ 10 ∧ ilen z ≤ 10 ∧ 0 ≤ q9 ∧ q9 ≤ 5001) ∧ ((true = true) ∧ (True) ∧ (True) ∧ (True) ∧ True) ∧ ((true = true) ∧ ((m : Int) = m) ∧ (((q + 1) : Int) = q9) ∧ True) ∧ ((true = true) ∧ ((true = true) ∧ ((Cont.ints x0) = (Cont.ints x))) ∧ ((true = true) ∧ ((Cont.ints l1_1) = (Cont.ints y))) ∧ ((true = true) ∧ ((Cont.ints l1_2) = (Cont.ints z))))
def LR_dsc_1 (m : Int) (q : Int) (x0 : List Int) (y0 : List Int) (z0 : List Int) : Prop := ∃ x : List Int, ∃ y : List Int, ∃ z : List Int, ∃ q9 : Int, (ilen x ≤ 10 ∧ ilen y ≤ 10 ∧ ilen z ≤ 10 ∧ 0 ≤ q9 ∧ q9 ≤ 5001) ∧ ((true = true) ∧ (True) ∧ (True) ∧ (True) ∧ True) ∧ ((true = true) ∧ ((m : Int) = m) ∧ (((q + 1) : Int) = q9) ∧ True) ∧ ((true = true) ∧ ((true = true) ∧ ((Cont.ints x0) = (Cont.ints x))) ∧ ((true = true) ∧ ((Cont.ints y0) = (Cont.ints y))) ∧ ((true = true) ∧ ((Cont.ints z0) = (Cont.ints z))))
def LR_dsc_2 (m : Int) (q : Int) (x0 : List Int) (l2_1 : List Int) (l2_2 : List Int) : Prop := ∃ x : List Int, ∃ y : List Int, ∃ z : List Int, ∃ q9 : Int, (ilen x ≤ 10 ∧ ilen y ≤ 10 ∧ ilen z ≤ 10 ∧ 0 ≤ q9 ∧ q9 ≤ 5001) ∧ ((true = true) ∧ (True) ∧ (True) ∧ (True) ∧ True) ∧ ((true = true) ∧ ((m : Int) = m) ∧ (((q + 1) : Int) = q9) ∧ True) ∧ ((true = true) ∧ ((true = true) ∧ ((Cont.ints x0) = (Cont.ints x))) ∧ ((true = true) ∧ ((Cont.ints l2_1) = (Cont.ints y))) ∧ ((true = true) ∧ ((Cont.ints l2_2) = (Cont.ints z))))
def LR_dsc_3 (m : Int) (q : Int) (x0 : List Int) (l3_1 : List Int) (l3_2 : List Int) : Prop := ∃ x : List Int, ∃ y : List Int, ∃ z : List Int, ∃ q9 : Int, (ilen x ≤ 10 ∧ ilen y ≤ 10 ∧ ilen z ≤ 10 ∧ 0 ≤ q9 ∧ q9 ≤ 5001) ∧ ((true = true) ∧ (True) ∧ (True) ∧ (True) ∧ True) ∧ ((true = true) ∧ ((m : Int) = m) ∧ (((q + 1) : Int) = q9) ∧ True) ∧ ((true = true) ∧ ((true = true) ∧ ((Cont.ints x0) = (Cont.ints x))) ∧ ((true = true) ∧ ((Cont.ints l3_1) = (Cont.ints y))) ∧ ((true = true) ∧ ((Cont.ints l3_2) = (Cont.ints z))))
def LR_dsc_4 (m : Int) (q : Int) (x0 : List Int) (l4_1 : List Int) (l4_2 : List Int) : Prop := ∃ x : List Int, ∃ y : List Int, ∃ z : List Int, ∃ q9 : Int, (ilen x ≤ 10 ∧ ilen y ≤ 10 ∧ ilen z ≤ 10 ∧ 0 ≤ q9 ∧ q9 ≤ 5001) ∧ ((true = true) ∧ (True) ∧ (True) ∧ (True) ∧ True) ∧ ((true = true) ∧ ((m : Int) = m) ∧ (((q + 1) : Int) = q9) ∧ True) ∧ ((true = true) ∧ ((true = true) ∧ ((Cont.ints x0) = (Cont.ints x))) ∧ ((true = true) ∧ ((Cont.ints l4_1) = (Cont.ints y))) ∧ ((true = true) ∧ ((Cont.ints l4_2) = (Cont.ints z))))
theorem VR_dsc (m : Int) (q : Int) (x0 : List Int) (y0 : List Int) (z0 : List Int) : ((true = true) ∧ ((True) ∧ True) ∧ (true = true) ∧ ((m ≤ 2000 ∧ 0 ≤ q ∧ q ≤ 1000000)) ∧ (∀ k_25 : Int, ((pickP (2 : Int) k_25) → ((True) ∧ (True) ∧ (true = true) ∧ ((ieq (k_25) (0 : Int)) = true → ((True) ∧ (true = true) ∧ (true = true → (((True)) ∧ (true = true) ∧ (true = true → (((armB x0 y0 z0) = true → ((true = true) ∧ ((True) ∧ True) ∧ ∃ (I1 : List GV → Prop) (μ1 : List GV → Nat), (((true = true) ∧ ((((1 : Int) : Int) = (1 : Int)) ∧ (((armB x0 y0 z0) : Bool) = (armB x0 y0 z0)) ∧ (((armB x0 y0 z0) : Bool) = (armB x0 y0 z0)) ∧ ((true : Bool) = true) ∧ ((true = true) ∧ (true = true) ∧ (true = true) ∧ True) ∧ (((ieq (k_25) (0 : Int)) : Bool) = (ieq (k_25) (0 : Int))) ∧ (((k_25) : Int) = (k_25)) ∧ (true = true) ∧ (true = true) ∧ (True) ∧ (true = true) ∧ (true = true) ∧ True) ∧ (((true = true) ∧ ((Cont.ints z0) = (Cont.ints z0))) ∧ ((true = true) ∧ ((Cont.ints y0) = (Cont.ints y0))) ∧ (((m : Int) = m) ∧ (((q + 1) : Int) = (q + 1)) ∧ True) ∧ ((true = true) ∧ ((Cont.ints x0) = (Cont.ints x0))) ∧ ((True) ∧ (True) ∧ (True) ∧ True) ∧ ((true = true) ∧ (true = true) ∧ (true = true) ∧ True) ∧ True)) ∧ (([GK.int, GK.ints, GK.ints] : List GK) = ([GK.int, GK.ints, GK.ints] : List GK)) ∧ I1 [GV.int (1 : Int), GV.ints y0, GV.ints z0]) ∧ (∀ i1_0 : Int, ∀ l1_1 : List Int, ∀ l1_2 : List Int, I1 [GV.int i1_0, GV.ints l1_1, GV.ints l1_2] → ((true = true) ∧ ((True) ∧ (True) ∧ (True) ∧ (True) ∧ (True) ∧ True) ∧ ((ilt i1_0 (ilen l1_1)) = true → ((true = true) ∧ ((True) ∧ (True) ∧ (True) ∧ (NLe 0 i1_0 ∧ NLt i1_0 (ilen l1_1)) ∧ True) ∧ (NLt i1_0 (ilen l1_1)) ∧ (true = true) ∧ ((True) ∧ (True) ∧ (True) ∧ (NLe 0 i1_0 ∧ NLt i1_0 (ilen l1_2)) ∧ True) ∧ (NLt i1_0 (ilen l1_2)) ∧ (true = true) ∧ ((True) ∧ (True) ∧ (True) ∧ True) ∧ ((true = true) ∧ ((((iadd i1_0 (1 : Int)) : Int) = (iadd i1_0 (1 : Int))) ∧ (((armB x0 y0 z0) : Bool) = (armB x0 y0 z0)) ∧ (((armB x0 y0 z0) : Bool) = (armB x0 y0 z0)) ∧ ((true : Bool) = true) ∧ ((true = true) ∧ (true = true) ∧ (true = true) ∧ True) ∧ (((ieq (k_25) (0 : Int)) : Bool) = (ieq (k_25) (0 : Int))) ∧ (((k_25) : Int) = (k_25)) ∧ (true = true) ∧ (true = true) ∧ (True) ∧ (true = true) ∧ (true = true) ∧ True) ∧ (((true = true) ∧ ((Cont.ints (seti l1_2 i1_0 (170 : Int))) = (Cont.ints (seti l1_2 i1_0 (170 : Int))))) ∧ ((true = true) ∧ ((Cont.ints (seti l1_1 i1_0 (90 : Int))) = (Cont.ints (seti l1_1 i1_0 (90 : Int))))) ∧ (((m : Int) = m) ∧ (((q + 1) : Int) = (q + 1)) ∧ True) ∧ ((true = true) ∧ ((Cont.ints x0) = (Cont.ints x0))) ∧ ((True) ∧ (True) ∧ (True) ∧ True) ∧ ((true = true) ∧ (true = true) ∧ (true = true) ∧ True) ∧ True)) ∧ ((([GK.int, GK.ints, GK.ints] : List GK) = ([GK.int, GK.ints, GK.ints] : List GK)) ∧ I1 [GV.int (iadd i1_0 (1 : Int)), GV.ints (seti l1_1 i1_0 (90 : Int)), GV.ints (seti l1_2 i1_0 (170 : Int))] ∧ μ1 [GV.int (iadd i1_0 (1 : Int)), GV.ints (seti l1_1 i1_0 (90 : Int)), GV.ints (seti l1_2 i1_0 (170 : Int))] < μ1 [GV.int i1_0, GV.ints l1_1, GV.ints l1_2]))) ∧ ((ilt i1_0 (ilen l1_1)) = false → (LR_dsc_0 m q x0 l1_1 l1_2)))))) ∧ ((armB x0 y0 z0) = false → (LR_dsc_1 m q x0 y0 z0)))) ∧ (true = false → ((false = true → ((true = true) ∧ ((True) ∧ True) ∧ ∃ (I2 : List GV → Prop) (μ2 : List GV → Nat), (((true = true) ∧ ((((1 : Int) : Int) = (1 : Int)) ∧ ((false : Bool) = false) ∧ (((armB x0 y0 z0) : Bool) = (armB x0 y0 z0)) ∧ ((true : Bool) = true) ∧ ((true = true) ∧ (true = true) ∧ (true = true) ∧ True) ∧ (((ieq (k_25) (0 : Int)) : Bool) = (ieq (k_25) (0 : Int))) ∧ (((k_25) : Int) = (k_25)) ∧ (true = true) ∧ (true = true) ∧ (True) ∧ (true = true) ∧ (true = true) ∧ True) ∧ (((true = true) ∧ ((Cont.ints z0) = (Cont.ints z0))) ∧ ((true = true) ∧ ((Cont.ints y0) = (Cont.ints y0))) ∧ (((m : Int) = m) ∧ (((q + 1) : Int) = (q + 1)) ∧ True) ∧ ((true = true) ∧ ((Cont.ints x0) = (Cont.ints x0))) ∧ ((True) ∧ (True) ∧ (True) ∧ True) ∧ ((true = true) ∧ (true = true) ∧ (true = true) ∧ True) ∧ True)) ∧ (([GK.int, GK.ints, GK.ints] : List GK) = ([GK.int, GK.ints, GK.ints] : List GK)) ∧ I2 [GV.int (1 : Int), GV.ints y0, GV.ints z0]) ∧ (∀ i2_0 : Int, ∀ l2_1 : List Int, ∀ l2_2 : List Int, I2 [GV.int i2_0, GV.ints l2_1, GV.ints l2_2] → ((true = true) ∧ ((True) ∧ (True) ∧ (True) ∧ (True) ∧ (True) ∧ True) ∧ ((ilt i2_0 (ilen l2_1)) = true → ((true = true) ∧ ((True) ∧ (True) ∧ (True) ∧ (NLe 0 i2_0 ∧ NLt i2_0 (ilen l2_1)) ∧ True) ∧ (NLt i2_0 (ilen l2_1)) ∧ (true = true) ∧ ((True) ∧ (True) ∧ (True) ∧ (NLe 0 i2_0 ∧ NLt i2_0 (ilen l2_2)) ∧ True) ∧ (NLt i2_0 (ilen l2_2)) ∧ (true = true) ∧ ((True) ∧ (True) ∧ (True) ∧ True) ∧ ((true = true) ∧ ((((iadd i2_0 (1 : Int)) : Int) = (iadd i2_0 (1 : Int))) ∧ ((false : Bool) = false) ∧ (((armB x0 y0 z0) : Bool) = (armB x0 y0 z0)) ∧ ((true : Bool) = true) ∧ ((true = true) ∧ (true = true) ∧ (true = true) ∧ True) ∧ (((ieq (k_25) (0 : Int)) : Bool) = (ieq (k_25) (0 : Int))) ∧ (((k_25) : Int) = (k_25)) ∧ (true = true) ∧ (true = true) ∧ (True) ∧ (true = true) ∧ (true = true) ∧ True) ∧ (((true = true) ∧ ((Cont.ints (seti l2_2 i2_0 (170 : Int))) = (Cont.ints (seti l2_2 i2_0 (170 : Int))))) ∧ ((true = true) ∧ ((Cont.ints (seti l2_1 i2_0 (90 : Int))) = (Cont.ints (seti l2_1 i2_0 (90 : Int))))) ∧ (((m : Int) = m) ∧ (((q + 1) : Int) = (q + 1)) ∧ True) ∧ ((true = true) ∧ ((Cont.ints x0) = (Cont.ints x0))) ∧ ((True) ∧ (True) ∧ (True) ∧ True) ∧ ((true = true) ∧ (true = true) ∧ (true = true) ∧ True) ∧ True)) ∧ ((([GK.int, GK.ints, GK.ints] : List GK) = ([GK.int, GK.ints, GK.ints] : List GK)) ∧ I2 [GV.int (iadd i2_0 (1 : Int)), GV.ints (seti l2_1 i2_0 (90 : Int)), GV.ints (seti l2_2 i2_0 (170 : Int))] ∧ μ2 [GV.int (iadd i2_0 (1 : Int)), GV.ints (seti l2_1 i2_0 (90 : Int)), GV.ints (seti l2_2 i2_0 (170 : Int))] < μ2 [GV.int i2_0, GV.ints l2_1, GV.ints l2_2]))) ∧ ((ilt i2_0 (ilen l2_1)) = false → (LR_dsc_2 m q x0 l2_1 l2_2)))))) ∧ (false = false → (LR_dsc_1 m q x0 y0 z0)))))) ∧ (true = false → ((true = true) ∧ (false = true → (False)) ∧ (false = false → ((false = true → ((true = true) ∧ ((True) ∧ True) ∧ ∃ (I3 : List GV → Prop) (μ3 : List GV → Nat), (((true = true) ∧ ((((1 : Int) : Int) = (1 : Int)) ∧ ((false : Bool) = false) ∧ ((false : Bool) = false) ∧ ((true = true) ∧ (true = true) ∧ (true = true) ∧ True) ∧ (((ieq (k_25) (0 : Int)) : Bool) = (ieq (k_25) (0 : Int))) ∧ (((k_25) : Int) = (k_25)) ∧ (true = true) ∧ (true = true) ∧ (True) ∧ (true = true) ∧ (true = true) ∧ True) ∧ (((true = true) ∧ ((Cont.ints z0) = (Cont.ints z0))) ∧ ((true = true) ∧ ((Cont.ints y0) = (Cont.ints y0))) ∧ (((m : Int) = m) ∧ (((q + 1) : Int) = (q + 1)) ∧ True) ∧ ((true = true) ∧ ((Cont.ints x0) = (Cont.ints x0))) ∧ ((True) ∧ (True) ∧ (True) ∧ True) ∧ ((true = true) ∧ (true = true) ∧ (true = true) ∧ True) ∧ True)) ∧ (([GK.int, GK.ints, GK.ints] : List GK) = ([GK.int, GK.ints, GK.ints] : List GK)) ∧ I3 [GV.int (1 : Int), GV.ints y0, GV.ints z0]) ∧ (∀ i3_0 : Int, ∀ l3_1 : List Int, ∀ l3_2 : List Int, I3 [GV.int i3_0, GV.ints l3_1, GV.ints l3_2] → ((true = true) ∧ ((True) ∧ (True) ∧ (True) ∧ (True) ∧ (True) ∧ True) ∧ ((ilt i3_0 (ilen l3_1)) = true → ((true = true) ∧ ((True) ∧ (True) ∧ (True) ∧ (NLe 0 i3_0 ∧ NLt i3_0 (ilen l3_1)) ∧ True) ∧ (NLt i3_0 (ilen l3_1)) ∧ (true = true) ∧ ((True) ∧ (True) ∧ (True) ∧ (NLe 0 i3_0 ∧ NLt i3_0 (ilen l3_2)) ∧ True) ∧ (NLt i3_0 (ilen l3_2)) ∧ (true = true) ∧ ((True) ∧ (True) ∧ (True) ∧ True) ∧ ((true = true) ∧ ((((iadd i3_0 (1 : Int)) : Int) = (iadd i3_0 (1 : Int))) ∧ ((false : Bool) = false) ∧ ((false : Bool) = false) ∧ ((true = true) ∧ (true = true) ∧ (true = true) ∧ True) ∧ (((ieq (k_25) (0 : Int)) : Bool) = (ieq (k_25) (0 : Int))) ∧ (((k_25) : Int) = (k_25)) ∧ (true = true) ∧ (true = true) ∧ (True) ∧ (true = true) ∧ (true = true) ∧ True) ∧ (((true = true) ∧ ((Cont.ints (seti l3_2 i3_0 (170 : Int))) = (Cont.ints (seti l3_2 i3_0 (170 : Int))))) ∧ ((true = true) ∧ ((Cont.ints (seti l3_1 i3_0 (90 : Int))) = (Cont.ints (seti l3_1 i3_0 (90 : Int))))) ∧ (((m : Int) = m) ∧ (((q + 1) : Int) = (q + 1)) ∧ True) ∧ ((true = true) ∧ ((Cont.ints x0) = (Cont.ints x0))) ∧ ((True) ∧ (True) ∧ (True) ∧ True) ∧ ((true = true) ∧ (true = true) ∧ (true = true) ∧ True) ∧ True)) ∧ ((([GK.int, GK.ints, GK.ints] : List GK) = ([GK.int, GK.ints, GK.ints] : List GK)) ∧ I3 [GV.int (iadd i3_0 (1 : Int)), GV.ints (seti l3_1 i3_0 (90 : Int)), GV.ints (seti l3_2 i3_0 (170 : Int))] ∧ μ3 [GV.int (iadd i3_0 (1 : Int)), GV.ints (seti l3_1 i3_0 (90 : Int)), GV.ints (seti l3_2 i3_0 (170 : Int))] < μ3 [GV.int i3_0, GV.ints l3_1, GV.ints l3_2]))) ∧ ((ilt i3_0 (ilen l3_1)) = false → (LR_dsc_3 m q x0 l3_1 l3_2)))))) ∧ (false = false → (LR_dsc_1 m q x0 y0 z0)))))))) ∧ ((ieq (k_25) (0 : Int)) = false → ((true = true) ∧ (false = true → (False)) ∧ (false = false → ((true = true) ∧ (false = true → (False)) ∧ (false = false → ((false = true → ((true = true) ∧ ((True) ∧ True) ∧ ∃ (I4 : List GV → Prop) (μ4 : List GV → Nat), (((true = true) ∧ ((((1 : Int) : Int) = (1 : Int)) ∧ ((false : Bool) = false) ∧ ((false : Bool) = false) ∧ (((ieq (k_25) (0 : Int)) : Bool) = (ieq (k_25) (0 : Int))) ∧ (((k_25) : Int) = (k_25)) ∧ (true = true) ∧ (true = true) ∧ (True) ∧ (true = true) ∧ (true = true) ∧ True) ∧ (((true = true) ∧ ((Cont.ints z0) = (Cont.ints z0))) ∧ ((true = true) ∧ ((Cont.ints y0) = (Cont.ints y0))) ∧ (((m : Int) = m) ∧ (((q + 1) : Int) = (q + 1)) ∧ True) ∧ ((true = true) ∧ ((Cont.ints x0) = (Cont.ints x0))) ∧ ((True) ∧ (True) ∧ (True) ∧ True) ∧ ((true = true) ∧ (true = true) ∧ (true = true) ∧ True) ∧ True)) ∧ (([GK.int, GK.ints, GK.ints] : List GK) = ([GK.int, GK.ints, GK.ints] : List GK)) ∧ I4 [GV.int (1 : Int), GV.ints y0, GV.ints z0]) ∧ (∀ i4_0 : Int, ∀ l4_1 : List Int, ∀ l4_2 : List Int, I4 [GV.int i4_0, GV.ints l4_1, GV.ints l4_2] → ((true = true) ∧ ((True) ∧ (True) ∧ (True) ∧ (True) ∧ (True) ∧ True) ∧ ((ilt i4_0 (ilen l4_1)) = true → ((true = true) ∧ ((True) ∧ (True) ∧ (True) ∧ (NLe 0 i4_0 ∧ NLt i4_0 (ilen l4_1)) ∧ True) ∧ (NLt i4_0 (ilen l4_1)) ∧ (true = true) ∧ ((True) ∧ (True) ∧ (True) ∧ (NLe 0 i4_0 ∧ NLt i4_0 (ilen l4_2)) ∧ True) ∧ (NLt i4_0 (ilen l4_2)) ∧ (true = true) ∧ ((True) ∧ (True) ∧ (True) ∧ True) ∧ ((true = true) ∧ ((((iadd i4_0 (1 : Int)) : Int) = (iadd i4_0 (1 : Int))) ∧ ((false : Bool) = false) ∧ ((false : Bool) = false) ∧ (((ieq (k_25) (0 : Int)) : Bool) = (ieq (k_25) (0 : Int))) ∧ (((k_25) : Int) = (k_25)) ∧ (true = true) ∧ (true = true) ∧ (True) ∧ (true = true) ∧ (true = true) ∧ True) ∧ (((true = true) ∧ ((Cont.ints (seti l4_2 i4_0 (170 : Int))) = (Cont.ints (seti l4_2 i4_0 (170 : Int))))) ∧ ((true = true) ∧ ((Cont.ints (seti l4_1 i4_0 (90 : Int))) = (Cont.ints (seti l4_1 i4_0 (90 : Int))))) ∧ (((m : Int) = m) ∧ (((q + 1) : Int) = (q + 1)) ∧ True) ∧ ((true = true) ∧ ((Cont.ints x0) = (Cont.ints x0))) ∧ ((True) ∧ (True) ∧ (True) ∧ True) ∧ ((true = true) ∧ (true = true) ∧ (true = true) ∧ True) ∧ True)) ∧ ((([GK.int, GK.ints, GK.ints] : List GK) = ([GK.int, GK.ints, GK.ints] : List GK)) ∧ I4 [GV.int (iadd i4_0 (1 : Int)), GV.ints (seti l4_1 i4_0 (90 : Int)), GV.ints (seti l4_2 i4_0 (170 : Int))] ∧ μ4 [GV.int (iadd i4_0 (1 : Int)), GV.ints (seti l4_1 i4_0 (90 : Int)), GV.ints (seti l4_2 i4_0 (170 : Int))] < μ4 [GV.int i4_0, GV.ints l4_1, GV.ints l4_2]))) ∧ ((ilt i4_0 (ilen l4_1)) = false → (LR_dsc_4 m q x0 l4_1 l4_2)))))) ∧ (false = false → (LR_dsc_1 m q x0 y0 z0)))))))))))) = ev sig_dsc xs_dsc Tryd.f18.ntmps (fun b => if b == 0 then [.v 6, .f 5 1 22, .f 5 2 22] else []) (takeS 0 (dropS 3 (codeOf Tryd.f18))) 0 ⟨[(2, .s (.ptr 4 0)), (3, .s (.nil)), (4, .s (.ptr 5 0)), (5, .s (.ptr 6 0))], [(1, .row 3 (.ints x0)), (2, .row 3 (.ints y0)), (3, .row 3 (.ints z0)), (4, .box [.nil, .nil, .nil]), (5, .box [.rdr m, .int q]), (6, .box [.row 1, .row 2, .row 3])], 7⟩ (dscK m) := by kernel_rfl
set_option maxHeartbeats 4000000 in
theorem PR_dsc (m : Int) (q : Int) (x0 : List Int) (y0 : List Int) (z0 : List Int) (hm : m ≤ 2000) (hq : 0 ≤ q ∧ q ≤ 5000) (hx : ilen x0 ≤ 10) (hy : ilen y0 ≤ 10) (hz : ilen z0 ≤ 10) : ev sig_dsc xs_dsc Tryd.f18.ntmps (fun b => if b == 0 then [.v 6, .f 5 1 22, .f 5 2 22] else []) (takeS 0 (dropS 3 (codeOf Tryd.f18))) 0 ⟨[(2, .s (.ptr 4 0)), (3, .s (.nil)), (4, .s (.ptr 5 0)), (5, .s (.ptr 6 0))], [(1, .row 3 (.ints x0)), (2, .row 3 (.ints y0)), (3, .row 3 (.ints z0)), (4, .box [.nil, .nil, .nil]), (5, .box [.rdr m, .int q]), (6, .box [.row 1, .row 2, .row 3])], 7⟩ (dscK m) := by
  refine Eq.mp (VR_dsc m q x0 y0 z0) ?_
  simp only [true_and, and_true, implies_true, and_self, forall_const, true_implies, LR_dsc_0, LR_dsc_1, LR_dsc_2, LR_dsc_3, LR_dsc_4]
  simp only [ilt_t, ilt_f, ile_t, ile_f, ieq_t, ieq_f, bnot_e, band_e, bite_and, bite_or, NLt_e, NLe_e, NNe_e, NIs_e, imax_e, imin_e, irem_e, Bool.not_eq_true', Bool.not_eq_false', Bool.and_eq_true, Bool.or_eq_true, Bool.or_eq_false_iff, Bool.and_eq_false_iff, Cont.pts.injEq, Cont.ints.injEq, Cont.bools.injEq, Cont.ptss.injEq, Cont.intss.injEq, Cont.boolss.injEq, true_and, and_true, implies_true]
  have hln : armB x0 y0 z0 = true → ilen z0 = ilen y0 := fun h => by
    unfold armB at h
    simp only [Bool.and_eq_true, decide_eq_true_eq] at h
    omega
  refine ⟨⟨hm, by omega, by omega⟩, fun k hk => ?_⟩
  repeat' first
    | exact ⟨x0, y0, z0, q + 1, ⟨hx, hy, hz, by omega, by omega⟩, rfl, rfl, rfl, rfl⟩
    | (intro h; contradiction)
    | exact ⟨fun | [.int i, .ints y, .ints z] => 1 ≤ i ∧ ilen y = ilen y0 ∧ ilen z = ilen z0 | _ => False, fun | .int i :: _ => (ilen y0 - i).toNat | _ => 0, ⟨by omega, rfl, rfl⟩, by
        rintro i y z ⟨i1, hy1, hz1⟩
        have hl := hln ‹armB x0 y0 z0 = true›
        refine ⟨fun hi => ?_, fun hi => ⟨x0, y, z, q + 1, ⟨hx, by omega, by omega, by omega, by omega⟩, rfl, rfl, rfl, rfl⟩⟩
        rw [iadd_e (by omega) (by omega)]
        exact ⟨⟨by omega, hi⟩, hi, ⟨by omega, by omega⟩, by omega, ⟨by omega, by rw [ilen_seti]; exact hy1, by rw [ilen_seti]; exact hz1⟩, by show (ilen y0 - (i + 1)).toNat < (ilen y0 - i).toNat; omega⟩⟩
    | intro h
    | apply And.intro
def LN_dsc_0 (x0 : List Int) (y0 : List Int) (z0 : List Int) (l_27 : List Int) : Prop := ∃ x : List Int, ∃ y : List Int, ∃ z : List Int, ∃ j : List Int, ((ilen x ≤ 10 ∧ ilen y ≤ 10 ∧ ilen z ≤ 10 ∧ ilen j ≤ 10) ∧ ((((Cont.ints x0) = (Cont.ints x)) ∧ ((Cont.ints y0) = (Cont.ints y)) ∧ ((Cont.ints z0) = (Cont.ints z)) ∧ True) ∧ ((Cont.ints (l_27)) = (Cont.ints j)) ∧ True))
def LN_dsc_1 (x0 : List Int) (y0 : List Int) (z0 : List Int) (l_29 : List Int) : Prop := ∃ x : List Int, ∃ y : List Int, ∃ z : List Int, ∃ j : List Int, ((ilen x ≤ 10 ∧ ilen y ≤ 10 ∧ ilen z ≤ 10 ∧ ilen j ≤ 10) ∧ ((((Cont.ints x0) = (Cont.ints x)) ∧ ((Cont.ints y0) = (Cont.ints y)) ∧ ((Cont.ints z0) = (Cont.ints z)) ∧ True) ∧ ((Cont.ints (l_29)) = (Cont.ints j)) ∧ True))
def LN_dsc_2 (x0 : List Int) (y0 : List Int) (z0 : List Int) (l_31 : List Int) : Prop := ∃ x : List Int, ∃ y : List Int, ∃ z : List Int, ∃ j : List Int, ((ilen x ≤ 10 ∧ ilen y ≤ 10 ∧ ilen z ≤ 10 ∧ ilen j ≤ 10) ∧ ((((Cont.ints x0) = (Cont.ints x)) ∧ ((Cont.ints y0) = (Cont.ints y)) ∧ ((Cont.ints z0) = (Cont.ints z)) ∧ True) ∧ ((Cont.ints (l_31)) = (Cont.ints j)) ∧ True))
def LN_dsc_3 (x0 : List Int) (y0 : List Int) (z0 : List Int) (l_33 : List Int) : Prop := ∃ x : List Int, ∃ y : List Int, ∃ z : List Int, ∃ j : List Int, ((ilen x ≤ 10 ∧ ilen y ≤ 10 ∧ ilen z ≤ 10 ∧ ilen j ≤ 10) ∧ ((((Cont.ints x0) = (Cont.ints x)) ∧ ((Cont.ints y0) = (Cont.ints y)) ∧ ((Cont.ints z0) = (Cont.ints z)) ∧ True) ∧ ((Cont.ints (l_33)) = (Cont.ints j)) ∧ True))
def LN_dsc_4 (x0 : List Int) (y0 : List Int) (z0 : List Int) (l_35 : List Int) : Prop := ∃ x : List Int, ∃ y : List Int, ∃ z : List Int, ∃ j : List Int, ((ilen x ≤ 10 ∧ ilen y ≤ 10 ∧ ilen z ≤ 10 ∧ ilen j ≤ 10) ∧ ((((Cont.ints x0) = (Cont.ints x)) ∧ ((Cont.ints y0) = (Cont.ints y)) ∧ ((Cont.ints z0) = (Cont.ints z)) ∧ True) ∧ ((Cont.ints (l_35)) = (Cont.ints j)) ∧ True))
def LN_dsc_5 (x0 : List Int) (y0 : List Int) (z0 : List Int) (l_37 : List Int) : Prop := ∃ x : List Int, ∃ y : List Int, ∃ z : List Int, ∃ j : List Int, ((ilen x ≤ 10 ∧ ilen y ≤ 10 ∧ ilen z ≤ 10 ∧ ilen j ≤ 10) ∧ ((((Cont.ints x0) = (Cont.ints x)) ∧ ((Cont.ints y0) = (Cont.ints y)) ∧ ((Cont.ints z0) = (Cont.ints z)) ∧ True) ∧ ((Cont.ints (l_37)) = (Cont.ints j)) ∧ True))
def LN_dsc_6 (x0 : List Int) (y0 : List Int) (z0 : List Int) (l_39 : List Int) : Prop := ∃ x : List Int, ∃ y : List Int, ∃ z : List Int, ∃ j : List Int, ((ilen x ≤ 10 ∧ ilen y ≤ 10 ∧ ilen z ≤ 10 ∧ ilen j ≤ 10) ∧ ((((Cont.ints x0) = (Cont.ints x)) ∧ ((Cont.ints y0) = (Cont.ints y)) ∧ ((Cont.ints z0) = (Cont.ints z)) ∧ True) ∧ ((Cont.ints (l_39)) = (Cont.ints j)) ∧ True))
def LN_dsc_7 (x0 : List Int) (y0 : List Int) (z0 : List Int) (l_41 : List Int) : Prop := ∃ x : List Int, ∃ y : List Int, ∃ z : List Int, ∃ j : List Int, ((ilen x ≤ 10 ∧ ilen y ≤ 10 ∧ ilen z ≤ 10 ∧ ilen j ≤ 10) ∧ ((((Cont.ints x0) = (Cont.ints x)) ∧ ((Cont.ints y0) = (Cont.ints y)) ∧ ((Cont.ints z0) = (Cont.ints z)) ∧ True) ∧ ((Cont.ints (l_41)) = (Cont.ints j)) ∧ True))
def LN_dsc_8 (x0 : List Int) (y0 : List Int) (z0 : List Int) (l_43 : List Int) : Prop := ∃ x : List Int, ∃ y : List Int, ∃ z : List Int, ∃ j : List Int, ((ilen x ≤ 10 ∧ ilen y ≤ 10 ∧ ilen z ≤ 10 ∧ ilen j ≤ 10) ∧ ((((Cont.ints x0) = (Cont.ints x)) ∧ ((Cont.ints y0) = (Cont.ints y)) ∧ ((Cont.ints z0) = (Cont.ints z)) ∧ True) ∧ ((Cont.ints (l_43)) = (Cont.ints j)) ∧ True))
def LN_dsc_9 (x0 : List Int) (y0 : List Int) (z0 : List Int) (l_45 : List Int) : Prop := ∃ x : List Int, ∃ y : List Int, ∃ z : List Int, ∃ j : List Int, ((ilen x ≤ 10 ∧ ilen y ≤ 10 ∧ ilen z ≤ 10 ∧ ilen j ≤ 10) ∧ ((((Cont.ints x0) = (Cont.ints x)) ∧ ((Cont.ints y0) = (Cont.ints y)) ∧ ((Cont.ints z0) = (Cont.ints z)) ∧ True) ∧ ((Cont.ints (l_45)) = (Cont.ints j)) ∧ True))
def LN_dsc_10 (x0 : List Int) (y0 : List Int) (z0 : List Int) (l_47 : List Int) : Prop := ∃ x : List Int, ∃ y : List Int, ∃ z : List Int, ∃ j : List Int, ((ilen x ≤ 10 ∧ ilen y ≤ 10 ∧ ilen z ≤ 10 ∧ ilen j ≤ 10) ∧ ((((Cont.ints x0) = (Cont.ints x)) ∧ ((Cont.ints y0) = (Cont.ints y)) ∧ ((Cont.ints z0) = (Cont.ints z)) ∧ True) ∧ ((Cont.ints (l_47)) = (Cont.ints j)) ∧ True))
def LN_dsc_11 (x0 : List Int) (y0 : List Int) (z0 : List Int) (l_49 : List Int) : Prop := ∃ x : List Int, ∃ y : List Int, ∃ z : List Int, ∃ j : List Int, ((ilen x ≤ 10 ∧ ilen y ≤ 10 ∧ ilen z ≤ 10 ∧ ilen j ≤ 10) ∧ ((((Cont.ints x0) = (Cont.ints x)) ∧ ((Cont.ints y0) = (Cont.ints y)) ∧ ((Cont.ints z0) = (Cont.ints z)) ∧ True) ∧ ((Cont.ints (l_49)) = (Cont.ints j)) ∧ True))
def LN_dsc_12 (x0 : List Int) (y0 : List Int) (z0 : List Int) (l_51 : List Int) : Prop := ∃ x : List Int, ∃ y : List Int, ∃ z : List Int, ∃ j : List Int, ((ilen x ≤ 10 ∧ ilen y ≤ 10 ∧ ilen z ≤ 10 ∧ ilen j ≤ 10) ∧ ((((Cont.ints x0) = (Cont.ints x)) ∧ ((Cont.ints y0) = (Cont.ints y)) ∧ ((Cont.ints z0) = (Cont.ints z)) ∧ True) ∧ ((Cont.ints (l_51)) = (Cont.ints j)) ∧ True))
def LN_dsc_13 (x0 : List Int) (y0 : List Int) (z0 : List Int) (l_53 : List Int) : Prop := ∃ x : List Int, ∃ y : List Int, ∃ z : List Int, ∃ j : List Int, ((ilen x ≤ 10 ∧ ilen y ≤ 10 ∧ ilen z ≤ 10 ∧ ilen j ≤ 10) ∧ ((((Cont.ints x0) = (Cont.ints x)) ∧ ((Cont.ints y0) = (Cont.ints y)) ∧ ((Cont.ints z0) = (Cont.ints z)) ∧ True) ∧ ((Cont.ints (l_53)) = (Cont.ints j)) ∧ True))
def LN_dsc_14 (x0 : List Int) (y0 : List Int) (z0 : List Int) (l_55 : List Int) : Prop := ∃ x : List Int, ∃ y : List Int, ∃ z : List Int, ∃ j : List Int, ((ilen x ≤ 10 ∧ ilen y ≤ 10 ∧ ilen z ≤ 10 ∧ ilen j ≤ 10) ∧ ((((Cont.ints x0) = (Cont.ints x)) ∧ ((Cont.ints y0) = (Cont.ints y)) ∧ ((Cont.ints z0) = (Cont.ints z)) ∧ True) ∧ ((Cont.ints (l_55)) = (Cont.ints j)) ∧ True))
def LN_dsc_15 (x0 : List Int) (y0 : List Int) (z0 : List Int) (l_57 : List Int) : Prop := ∃ x : List Int, ∃ y : List Int, ∃ z : List Int, ∃ j : List Int, ((ilen x ≤ 10 ∧ ilen y ≤ 10 ∧ ilen z ≤ 10 ∧ ilen j ≤ 10) ∧ ((((Cont.ints x0) = (Cont.ints x)) ∧ ((Cont.ints y0) = (Cont.ints y)) ∧ ((Cont.ints z0) = (Cont.ints z)) ∧ True) ∧ ((Cont.ints (l_57)) = (Cont.ints j)) ∧ True))
def LN_dsc_16 (x0 : List Int) (y0 : List Int) (z0 : List Int) (l_59 : List Int) : Prop := ∃ x : List Int, ∃ y : List Int, ∃ z : List Int, ∃ j : List Int, ((ilen x ≤ 10 ∧ ilen y ≤ 10 ∧ ilen z ≤ 10 ∧ ilen j ≤ 10) ∧ ((((Cont.ints x0) = (Cont.ints x)) ∧ ((Cont.ints y0) = (Cont.ints y)) ∧ ((Cont.ints z0) = (Cont.ints z)) ∧ True) ∧ ((Cont.ints (l_59)) = (Cont.ints j)) ∧ True))
def LN_dsc_17 (x0 : List Int) (y0 : List Int) (z0 : List Int) (l_61 : List Int) : Prop := ∃ x : List Int, ∃ y : List Int, ∃ z : List Int, ∃ j : List Int, ((ilen x ≤ 10 ∧ ilen y ≤ 10 ∧ ilen z ≤ 10 ∧ ilen j ≤ 10) ∧ ((((Cont.ints x0) = (Cont.ints x)) ∧ ((Cont.ints y0) = (Cont.ints y)) ∧ ((Cont.ints z0) = (Cont.ints z)) ∧ True) ∧ ((Cont.ints (l_61)) = (Cont.ints j)) ∧ True))
def LN_dsc_18 (x0 : List Int) (y0 : List Int) (z0 : List Int) (l_63 : List Int) : Prop := ∃ x : List Int, ∃ y : List Int, ∃ z : List Int, ∃ j : List Int, ((ilen x ≤ 10 ∧ ilen y ≤ 10 ∧ ilen z ≤ 10 ∧ ilen j ≤ 10) ∧ ((((Cont.ints x0) = (Cont.ints x)) ∧ ((Cont.ints y0) = (Cont.ints y)) ∧ ((Cont.ints z0) = (Cont.ints z)) ∧ True) ∧ ((Cont.ints (l_63)) = (Cont.ints j)) ∧ True))
def LN_dsc_19 (x0 : List Int) (y0 : List Int) (z0 : List Int) (l_65 : List Int) : Prop := ∃ x : List Int, ∃ y : List Int, ∃ z : List Int, ∃ j : List Int, ((ilen x ≤ 10 ∧ ilen y ≤ 10 ∧ ilen z ≤ 10 ∧ ilen j ≤ 10) ∧ ((((Cont.ints x0) = (Cont.ints x)) ∧ ((Cont.ints y0) = (Cont.ints y)) ∧ ((Cont.ints z0) = (Cont.ints z)) ∧ True) ∧ ((Cont.ints (l_65)) = (Cont.ints j)) ∧ True))
def LN_dsc_20 (x0 : List Int) (y0 : List Int) (z0 : List Int) (l_67 : List Int) : Prop := ∃ x : List Int, ∃ y : List Int, ∃ z : List Int, ∃ j : List Int, ((ilen x ≤ 10 ∧ ilen y ≤ 10 ∧ ilen z ≤ 10 ∧ ilen j ≤ 10) ∧ ((((Cont.ints x0) = (Cont.ints x)) ∧ ((Cont.ints y0) = (Cont.ints y)) ∧ ((Cont.ints z0) = (Cont.ints z)) ∧ True) ∧ ((Cont.ints (l_67)) = (Cont.ints j)) ∧ True))
def LN_dsc_21 (x0 : List Int) (y0 : List Int) (z0 : List Int) (l_69 : List Int) : Prop := ∃ x : List Int, ∃ y : List Int, ∃ z : List Int, ∃ j : List Int, ((ilen x ≤ 10 ∧ ilen y ≤ 10 ∧ ilen z ≤ 10 ∧ ilen j ≤ 10) ∧ ((((Cont.ints x0) = (Cont.ints x)) ∧ ((Cont.ints y0) = (Cont.ints y)) ∧ ((Cont.ints z0) = (Cont.ints z)) ∧ True) ∧ ((Cont.ints (l_69)) = (Cont.ints j)) ∧ True))
def LN_dsc_22 (x0 : List Int) (y0 : List Int) (z0 : List Int) (l_71 : List Int) : Prop := ∃ x : List Int, ∃ y : List Int, ∃ z : List Int, ∃ j : List Int, ((ilen x ≤ 10 ∧ ilen y ≤ 10 ∧ ilen z ≤ 10 ∧ ilen j ≤ 10) ∧ ((((Cont.ints x0) = (Cont.ints x)) ∧ ((Cont.ints y0) = (Cont.ints y)) ∧ ((Cont.ints z0) = (Cont.ints z)) ∧ True) ∧ ((Cont.ints (l_71)) = (Cont.ints j)) ∧ True))
def LN_dsc_23 (x0 : List Int) (y0 : List Int) (z0 : List Int) (l_73 : List Int) : Prop := ∃ x : List Int, ∃ y : List Int, ∃ z : List Int, ∃ j : List Int, ((ilen x ≤ 10 ∧ ilen y ≤ 10 ∧ ilen z ≤ 10 ∧ ilen j ≤ 10) ∧ ((((Cont.ints x0) = (Cont.ints x)) ∧ ((Cont.ints y0) = (Cont.ints y)) ∧ ((Cont.ints z0) = (Cont.ints z)) ∧ True) ∧ ((Cont.ints (l_73)) = (Cont.ints j)) ∧ True))
theorem VN_dsc (m : Int) (q : Int) (x0 : List Int) (y0 : List Int) (z0 : List Int) : ((true = true) ∧ ((True) ∧ True) ∧ (true = true) ∧ ((m ≤ 2000 ∧ 0 ≤ q ∧ q ≤ 1000000)) ∧ (∀ k_26 : Int, ((pickP (2 : Int) k_26) → ((True) ∧ (True) ∧ (true = true) ∧ ((ieq (k_26) (0 : Int)) = true → ((True) ∧ (true = true) ∧ (true = true → (((True)) ∧ (true = true) ∧ (true = true → (((armB x0 y0 z0) = true → ((true = true) ∧ ((True) ∧ True) ∧ ∃ (I1 : List GV → Prop) (μ1 : List GV → Nat), (((true = true) ∧ ((((1 : Int) : Int) = (1 : Int)) ∧ (((armB x0 y0 z0) : Bool) = (armB x0 y0 z0)) ∧ (((armB x0 y0 z0) : Bool) = (armB x0 y0 z0)) ∧ ((true : Bool) = true) ∧ (((Cont.ints x0) = (Cont.ints x0)) ∧ ((Cont.ints y0) = (Cont.ints y0)) ∧ ((Cont.ints z0) = (Cont.ints z0)) ∧ True) ∧ (((ieq (k_26) (0 : Int)) : Bool) = (ieq (k_26) (0 : Int))) ∧ (((k_26) : Int) = (k_26)) ∧ (true = true) ∧ (true = true) ∧ (True) ∧ (true = true) ∧ (true = true) ∧ True) ∧ ((((m : Int) = m) ∧ (((q + 1) : Int) = (q + 1)) ∧ True) ∧ ((True) ∧ (True) ∧ (True) ∧ True) ∧ (((Cont.ints x0) = (Cont.ints x0)) ∧ ((Cont.ints y0) = (Cont.ints y0)) ∧ ((Cont.ints z0) = (Cont.ints z0)) ∧ True) ∧ True)) ∧ (([GK.int] : List GK) = ([GK.int] : List GK)) ∧ I1 [GV.int (1 : Int)]) ∧ (∀ i1_0 : Int, I1 [GV.int i1_0] → ((true = true) ∧ ((True) ∧ (True) ∧ (True) ∧ (True) ∧ (True) ∧ True) ∧ ((ilt i1_0 (ilen y0)) = true → ((true = true) ∧ ((True) ∧ (True) ∧ (True) ∧ (NLe 0 i1_0 ∧ NLt i1_0 (ilen y0)) ∧ True) ∧ False)) ∧ ((ilt i1_0 (ilen y0)) = false → ((true = true) ∧ (((True) ∧ (((True) ∧ (((true = true) ∧ ((m ≤ 2000 ∧ 0 ≤ (q + 1) ∧ (q + 1) ≤ 900000 ∧ ilen x0 ≤ 10 ∧ ilen y0 ≤ 10 ∧ ilen z0 ≤ 10 ∧ -1000000 ≤ (14 : Int) ∧ (14 : Int) ≤ 1000000)) ∧ (∀ l_31 : List Int, ∀ q_32 : Int, ((ilen l_31 ≤ 10 ∧ (q + 1) ≤ q_32 ∧ q_32 ≤ (q + 1) + 100) → ((((True) ∧ (((True) ∧ (LN_dsc_2 x0 y0 z0 l_31)) ∧ True)) ∧ True))))) ∧ True)) ∧ True)) ∧ ((True) ∧ (((True) ∧ (((true = true) ∧ ((m ≤ 2000 ∧ 0 ≤ (q + 1) ∧ (q + 1) ≤ 900000 ∧ ilen x0 ≤ 10 ∧ ilen y0 ≤ 10 ∧ ilen z0 ≤ 10 ∧ -1000000 ≤ (14 : Int) ∧ (14 : Int) ≤ 1000000)) ∧ (∀ l_29 : List Int, ∀ q_30 : Int, ((ilen l_29 ≤ 10 ∧ (q + 1) ≤ q_30 ∧ q_30 ≤ (q + 1) + 100) → ((((True) ∧ (((True) ∧ (LN_dsc_1 x0 y0 z0 l_29)) ∧ True)) ∧ True))))) ∧ True)) ∧ ((true = true) ∧ ((m ≤ 2000 ∧ 0 ≤ (q + 1) ∧ (q + 1) ≤ 900000 ∧ ilen x0 ≤ 10 ∧ ilen y0 ≤ 10 ∧ ilen z0 ≤ 10 ∧ -1000000 ≤ (14 : Int) ∧ (14 : Int) ≤ 1000000)) ∧ (∀ l_27 : List Int, ∀ q_28 : Int, ((ilen l_27 ≤ 10 ∧ (q + 1) ≤ q_28 ∧ q_28 ≤ (q + 1) + 100) → ((((True) ∧ (((True) ∧ (((True) ∧ (LN_dsc_0 x0 y0 z0 l_27)) ∧ True)) ∧ True)) ∧ True))))) ∧ True)) ∧ True))))))) ∧ ((armB x0 y0 z0) = false → ((true = true) ∧ (((True) ∧ (((True) ∧ (((true = true) ∧ ((m ≤ 2000 ∧ 0 ≤ (q + 1) ∧ (q + 1) ≤ 900000 ∧ ilen x0 ≤ 10 ∧ ilen y0 ≤ 10 ∧ ilen z0 ≤ 10 ∧ -1000000 ≤ (14 : Int) ∧ (14 : Int) ≤ 1000000)) ∧ (∀ l_37 : List Int, ∀ q_38 : Int, ((ilen l_37 ≤ 10 ∧ (q + 1) ≤ q_38 ∧ q_38 ≤ (q + 1) + 100) → ((((True) ∧ (((True) ∧ (LN_dsc_5 x0 y0 z0 l_37)) ∧ True)) ∧ True))))) ∧ True)) ∧ True)) ∧ ((True) ∧ (((True) ∧ (((true = true) ∧ ((m ≤ 2000 ∧ 0 ≤ (q + 1) ∧ (q + 1) ≤ 900000 ∧ ilen x0 ≤ 10 ∧ ilen y0 ≤ 10 ∧ ilen z0 ≤ 10 ∧ -1000000 ≤ (14 : Int) ∧ (14 : Int) ≤ 1000000)) ∧ (∀ l_35 : List Int, ∀ q_36 : Int, ((ilen l_35 ≤ 10 ∧ (q + 1) ≤ q_36 ∧ q_36 ≤ (q + 1) + 100) → ((((True) ∧ (((True) ∧ (LN_dsc_4 x0 y0 z0 l_35)) ∧ True)) ∧ True))))) ∧ True)) ∧ ((true = true) ∧ ((m ≤ 2000 ∧ 0 ≤ (q + 1) ∧ (q + 1) ≤ 900000 ∧ ilen x0 ≤ 10 ∧ ilen y0 ≤ 10 ∧ ilen z0 ≤ 10 ∧ -1000000 ≤ (14 : Int) ∧ (14 : Int) ≤ 1000000)) ∧ (∀ l_33 : List Int, ∀ q_34 : Int, ((ilen l_33 ≤ 10 ∧ (q + 1) ≤ q_34 ∧ q_34 ≤ (q + 1) + 100) → ((((True) ∧ (((True) ∧ (((True) ∧ (LN_dsc_3 x0 y0 z0 l_33)) ∧ True)) ∧ True)) ∧ True))))) ∧ True)) ∧ True))))) ∧ (true = false → ((false = true → ((true = true) ∧ ((True) ∧ True) ∧ ∃ (I2 : List GV → Prop) (μ2 : List GV → Nat), (((true = true) ∧ ((((1 : Int) : Int) = (1 : Int)) ∧ ((false : Bool) = false) ∧ (((armB x0 y0 z0) : Bool) = (armB x0 y0 z0)) ∧ ((true : Bool) = true) ∧ (((Cont.ints x0) = (Cont.ints x0)) ∧ ((Cont.ints y0) = (Cont.ints y0)) ∧ ((Cont.ints z0) = (Cont.ints z0)) ∧ True) ∧ (((ieq (k_26) (0 : Int)) : Bool) = (ieq (k_26) (0 : Int))) ∧ (((k_26) : Int) = (k_26)) ∧ (true = true) ∧ (true = true) ∧ (True) ∧ (true = true) ∧ (true = true) ∧ True) ∧ ((((m : Int) = m) ∧ (((q + 1) : Int) = (q + 1)) ∧ True) ∧ ((True) ∧ (True) ∧ (True) ∧ True) ∧ (((Cont.ints x0) = (Cont.ints x0)) ∧ ((Cont.ints y0) = (Cont.ints y0)) ∧ ((Cont.ints z0) = (Cont.ints z0)) ∧ True) ∧ True)) ∧ (([GK.int] : List GK) = ([GK.int] : List GK)) ∧ I2 [GV.int (1 : Int)]) ∧ (∀ i2_0 : Int, I2 [GV.int i2_0] → ((true = true) ∧ ((True) ∧ (True) ∧ (True) ∧ (True) ∧ (True) ∧ True) ∧ ((ilt i2_0 (ilen y0)) = true → ((true = true) ∧ ((True) ∧ (True) ∧ (True) ∧ (NLe 0 i2_0 ∧ NLt i2_0 (ilen y0)) ∧ True) ∧ False)) ∧ ((ilt i2_0 (ilen y0)) = false → ((true = true) ∧ (((True) ∧ (((True) ∧ (((true = true) ∧ ((m ≤ 2000 ∧ 0 ≤ (q + 1) ∧ (q + 1) ≤ 900000 ∧ ilen x0 ≤ 10 ∧ ilen y0 ≤ 10 ∧ ilen z0 ≤ 10 ∧ -1000000 ≤ (14 : Int) ∧ (14 : Int) ≤ 1000000)) ∧ (∀ l_43 : List Int, ∀ q_44 : Int, ((ilen l_43 ≤ 10 ∧ (q + 1) ≤ q_44 ∧ q_44 ≤ (q + 1) + 100) → ((((True) ∧ (((True) ∧ (LN_dsc_8 x0 y0 z0 l_43)) ∧ True)) ∧ True))))) ∧ True)) ∧ True)) ∧ ((True) ∧ (((True) ∧ (((true = true) ∧ ((m ≤ 2000 ∧ 0 ≤ (q + 1) ∧ (q + 1) ≤ 900000 ∧ ilen x0 ≤ 10 ∧ ilen y0 ≤ 10 ∧ ilen z0 ≤ 10 ∧ -1000000 ≤ (14 : Int) ∧ (14 : Int) ≤ 1000000)) ∧ (∀ l_41 : List Int, ∀ q_42 : Int, ((ilen l_41 ≤ 10 ∧ (q + 1) ≤ q_42 ∧ q_42 ≤ (q + 1) + 100) → ((((True) ∧ (((True) ∧ (LN_dsc_7 x0 y0 z0 l_41)) ∧ True)) ∧ True))))) ∧ True)) ∧ ((true = true) ∧ ((m ≤ 2000 ∧ 0 ≤ (q + 1) ∧ (q + 1) ≤ 900000 ∧ ilen x0 ≤ 10 ∧ ilen y0 ≤ 10 ∧ ilen z0 ≤ 10 ∧ -1000000 ≤ (14 : Int) ∧ (14 : Int) ≤ 1000000)) ∧ (∀ l_39 : List Int, ∀ q_40 : Int, ((ilen l_39 ≤ 10 ∧ (q + 1) ≤ q_40 ∧ q_40 ≤ (q + 1) + 100) → ((((True) ∧ (((True) ∧ (((True) ∧ (LN_dsc_6 x0 y0 z0 l_39)) ∧ True)) ∧ True)) ∧ True))))) ∧ True)) ∧ True))))))) ∧ (false = false → ((true = true) ∧ (((True) ∧ (((True) ∧ (((true = true) ∧ ((m ≤ 2000 ∧ 0 ≤ (q + 1) ∧ (q + 1) ≤ 900000 ∧ ilen x0 ≤ 10 ∧ ilen y0 ≤ 10 ∧ ilen z0 ≤ 10 ∧ -1000000 ≤ (14 : Int) ∧ (14 : Int) ≤ 1000000)) ∧ (∀ l_49 : List Int, ∀ q_50 : Int, ((ilen l_49 ≤ 10 ∧ (q + 1) ≤ q_50 ∧ q_50 ≤ (q + 1) + 100) → ((((True) ∧ (((True) ∧ (LN_dsc_11 x0 y0 z0 l_49)) ∧ True)) ∧ True))))) ∧ True)) ∧ True)) ∧ ((True) ∧ (((True) ∧ (((true = true) ∧ ((m ≤ 2000 ∧ 0 ≤ (q + 1) ∧ (q + 1) ≤ 900000 ∧ ilen x0 ≤ 10 ∧ ilen y0 ≤ 10 ∧ ilen z0 ≤ 10 ∧ -1000000 ≤ (14 : Int) ∧ (14 : Int) ≤ 1000000)) ∧ (∀ l_47 : List Int, ∀ q_48 : Int, ((ilen l_47 ≤ 10 ∧ (q + 1) ≤ q_48 ∧ q_48 ≤ (q + 1) + 100) → ((((True) ∧ (((True) ∧ (LN_dsc_10 x0 y0 z0 l_47)) ∧ True)) ∧ True))))) ∧ True)) ∧ ((true = true) ∧ ((m ≤ 2000 ∧ 0 ≤ (q + 1) ∧ (q + 1) ≤ 900000 ∧ ilen x0 ≤ 10 ∧ ilen y0 ≤ 10 ∧ ilen z0 ≤ 10 ∧ -1000000 ≤ (14 : Int) ∧ (14 : Int) ≤ 1000000)) ∧ (∀ l_45 : List Int, ∀ q_46 : Int, ((ilen l_45 ≤ 10 ∧ (q + 1) ≤ q_46 ∧ q_46 ≤ (q + 1) + 100) → ((((True) ∧ (((True) ∧ (((True) ∧ (LN_dsc_9 x0 y0 z0 l_45)) ∧ True)) ∧ True)) ∧ True))))) ∧ True)) ∧ True))))))) ∧ (true = false → ((true = true) ∧ (false = true → (False)) ∧ (false = false → ((false = true → ((true = true) ∧ ((True) ∧ True) ∧ ∃ (I3 : List GV → Prop) (μ3 : List GV → Nat), (((true = true) ∧ ((((1 : Int) : Int) = (1 : Int)) ∧ ((false : Bool) = false) ∧ ((false : Bool) = false) ∧ (((Cont.ints x0) = (Cont.ints x0)) ∧ ((Cont.ints y0) = (Cont.ints y0)) ∧ ((Cont.ints z0) = (Cont.ints z0)) ∧ True) ∧ (((ieq (k_26) (0 : Int)) : Bool) = (ieq (k_26) (0 : Int))) ∧ (((k_26) : Int) = (k_26)) ∧ (true = true) ∧ (true = true) ∧ (True) ∧ (true = true) ∧ (true = true) ∧ True) ∧ ((((m : Int) = m) ∧ (((q + 1) : Int) = (q + 1)) ∧ True) ∧ ((True) ∧ (True) ∧ (True) ∧ True) ∧ (((Cont.ints x0) = (Cont.ints x0)) ∧ ((Cont.ints y0) = (Cont.ints y0)) ∧ ((Cont.ints z0) = (Cont.ints z0)) ∧ True) ∧ True)) ∧ (([GK.int] : List GK) = ([GK.int] : List GK)) ∧ I3 [GV.int (1 : Int)]) ∧ (∀ i3_0 : Int, I3 [GV.int i3_0] → ((true = true) ∧ ((True) ∧ (True) ∧ (True) ∧ (True) ∧ (True) ∧ True) ∧ ((ilt i3_0 (ilen y0)) = true → ((true = true) ∧ ((True) ∧ (True) ∧ (True) ∧ (NLe 0 i3_0 ∧ NLt i3_0 (ilen y0)) ∧ True) ∧ False)) ∧ ((ilt i3_0 (ilen y0)) = false → ((true = true) ∧ (((True) ∧ (((True) ∧ (((true = true) ∧ ((m ≤ 2000 ∧ 0 ≤ (q + 1) ∧ (q + 1) ≤ 900000 ∧ ilen x0 ≤ 10 ∧ ilen y0 ≤ 10 ∧ ilen z0 ≤ 10 ∧ -1000000 ≤ (14 : Int) ∧ (14 : Int) ≤ 1000000)) ∧ (∀ l_55 : List Int, ∀ q_56 : Int, ((ilen l_55 ≤ 10 ∧ (q + 1) ≤ q_56 ∧ q_56 ≤ (q + 1) + 100) → ((((True) ∧ (((True) ∧ (LN_dsc_14 x0 y0 z0 l_55)) ∧ True)) ∧ True))))) ∧ True)) ∧ True)) ∧ ((True) ∧ (((True) ∧ (((true = true) ∧ ((m ≤ 2000 ∧ 0 ≤ (q + 1) ∧ (q + 1) ≤ 900000 ∧ ilen x0 ≤ 10 ∧ ilen y0 ≤ 10 ∧ ilen z0 ≤ 10 ∧ -1000000 ≤ (14 : Int) ∧ (14 : Int) ≤ 1000000)) ∧ (∀ l_53 : List Int, ∀ q_54 : Int, ((ilen l_53 ≤ 10 ∧ (q + 1) ≤ q_54 ∧ q_54 ≤ (q + 1) + 100) → ((((True) ∧ (((True) ∧ (LN_dsc_13 x0 y0 z0 l_53)) ∧ True)) ∧ True))))) ∧ True)) ∧ ((true = true) ∧ ((m ≤ 2000 ∧ 0 ≤ (q + 1) ∧ (q + 1) ≤ 900000 ∧ ilen x0 ≤ 10 ∧ ilen y0 ≤ 10 ∧ ilen z0 ≤ 10 ∧ -1000000 ≤ (14 : Int) ∧ (14 : Int) ≤ 1000000)) ∧ (∀ l_51 : List Int, ∀ q_52 : Int, ((ilen l_51 ≤ 10 ∧ (q + 1) ≤ q_52 ∧ q_52 ≤ (q + 1) + 100) → ((((True) ∧ (((True) ∧ (((True) ∧ (LN_dsc_12 x0 y0 z0 l_51)) ∧ True)) ∧ True)) ∧ True))))) ∧ True)) ∧ True))))))) ∧ (false = false → ((true = true) ∧ (((True) ∧ (((True) ∧ (((true = true) ∧ ((m ≤ 2000 ∧ 0 ≤ (q + 1) ∧ (q + 1) ≤ 900000 ∧ ilen x0 ≤ 10 ∧ ilen y0 ≤ 10 ∧ ilen z0 ≤ 10 ∧ -1000000 ≤ (14 : Int) ∧ (14 : Int) ≤ 1000000)) ∧ (∀ l_61 : List Int, ∀ q_62 : Int, ((ilen l_61 ≤ 10 ∧ (q + 1) ≤ q_62 ∧ q_62 ≤ (q + 1) + 100) → ((((True) ∧ (((True) ∧ (LN_dsc_17 x0 y0 z0 l_61)) ∧ True)) ∧ True))))) ∧ True)) ∧ True)) ∧ ((True) ∧ (((True) ∧ (((true = true) ∧ ((m ≤ 2000 ∧ 0 ≤ (q + 1) ∧ (q + 1) ≤ 900000 ∧ ilen x0 ≤ 10 ∧ ilen y0 ≤ 10 ∧ ilen z0 ≤ 10 ∧ -1000000 ≤ (14 : Int) ∧ (14 : Int) ≤ 1000000)) ∧ (∀ l_59 : List Int, ∀ q_60 : Int, ((ilen l_59 ≤ 10 ∧ (q + 1) ≤ q_60 ∧ q_60 ≤ (q + 1) + 100) → ((((True) ∧ (((True) ∧ (LN_dsc_16 x0 y0 z0 l_59)) ∧ True)) ∧ True))))) ∧ True)) ∧ ((true = true) ∧ ((m ≤ 2000 ∧ 0 ≤ (q + 1) ∧ (q + 1) ≤ 900000 ∧ ilen x0 ≤ 10 ∧ ilen y0 ≤ 10 ∧ ilen z0 ≤ 10 ∧ -1000000 ≤ (14 : Int) ∧ (14 : Int) ≤ 1000000)) ∧ (∀ l_57 : List Int, ∀ q_58 : Int, ((ilen l_57 ≤ 10 ∧ (q + 1) ≤ q_58 ∧ q_58 ≤ (q + 1) + 100) → ((((True) ∧ (((True) ∧ (((True) ∧ (LN_dsc_15 x0 y0 z0 l_57)) ∧ True)) ∧ True)) ∧ True))))) ∧ True)) ∧ True))))))))) ∧ ((ieq (k_26) (0 : Int)) = false → ((true = true) ∧ (false = true → (False)) ∧ (false = false → ((true = true) ∧ (false = true → (False)) ∧ (false = false → ((false = true → ((true = true) ∧ ((True) ∧ True) ∧ ∃ (I4 : List GV → Prop) (μ4 : List GV → Nat), (((true = true) ∧ ((((1 : Int) : Int) = (1 : Int)) ∧ ((false : Bool) = false) ∧ ((false : Bool) = false) ∧ (((ieq (k_26) (0 : Int)) : Bool) = (ieq (k_26) (0 : Int))) ∧ (((k_26) : Int) = (k_26)) ∧ (true = true) ∧ (true = true) ∧ (True) ∧ (true = true) ∧ (true = true) ∧ True) ∧ ((((m : Int) = m) ∧ (((q + 1) : Int) = (q + 1)) ∧ True) ∧ ((True) ∧ (True) ∧ (True) ∧ True) ∧ (((Cont.ints x0) = (Cont.ints x0)) ∧ ((Cont.ints y0) = (Cont.ints y0)) ∧ ((Cont.ints z0) = (Cont.ints z0)) ∧ True) ∧ True)) ∧ (([GK.int] : List GK) = ([GK.int] : List GK)) ∧ I4 [GV.int (1 : Int)]) ∧ (∀ i4_0 : Int, I4 [GV.int i4_0] → ((true = true) ∧ ((True) ∧ (True) ∧ (True) ∧ (True) ∧ (True) ∧ True) ∧ ((ilt i4_0 (ilen y0)) = true → ((true = true) ∧ ((True) ∧ (True) ∧ (True) ∧ (NLe 0 i4_0 ∧ NLt i4_0 (ilen y0)) ∧ True) ∧ False)) ∧ ((ilt i4_0 (ilen y0)) = false → ((true = true) ∧ (((True) ∧ (((True) ∧ (((true = true) ∧ ((m ≤ 2000 ∧ 0 ≤ (q + 1) ∧ (q + 1) ≤ 900000 ∧ ilen x0 ≤ 10 ∧ ilen y0 ≤ 10 ∧ ilen z0 ≤ 10 ∧ -1000000 ≤ (14 : Int) ∧ (14 : Int) ≤ 1000000)) ∧ (∀ l_67 : List Int, ∀ q_68 : Int, ((ilen l_67 ≤ 10 ∧ (q + 1) ≤ q_68 ∧ q_68 ≤ (q + 1) + 100) → ((((True) ∧ (((True) ∧ (LN_dsc_20 x0 y0 z0 l_67)) ∧ True)) ∧ True))))) ∧ True)) ∧ True)) ∧ ((True) ∧ (((True) ∧ (((true = true) ∧ ((m ≤ 2000 ∧ 0 ≤ (q + 1) ∧ (q + 1) ≤ 900000 ∧ ilen x0 ≤ 10 ∧ ilen y0 ≤ 10 ∧ ilen z0 ≤ 10 ∧ -1000000 ≤ (14 : Int) ∧ (14 : Int) ≤ 1000000)) ∧ (∀ l_65 : List Int, ∀ q_66 : Int, ((ilen l_65 ≤ 10 ∧ (q + 1) ≤ q_66 ∧ q_66 ≤ (q + 1) + 100) → ((((True) ∧ (((True) ∧ (LN_dsc_19 x0 y0 z0 l_65)) ∧ True)) ∧ True))))) ∧ True)) ∧ ((true = true) ∧ ((m ≤ 2000 ∧ 0 ≤ (q + 1) ∧ (q + 1) ≤ 900000 ∧ ilen x0 ≤ 10 ∧ ilen y0 ≤ 10 ∧ ilen z0 ≤ 10 ∧ -1000000 ≤ (14 : Int) ∧ (14 : Int) ≤ 1000000)) ∧ (∀ l_63 : List Int, ∀ q_64 : Int, ((ilen l_63 ≤ 10 ∧ (q + 1) ≤ q_64 ∧ q_64 ≤ (q + 1) + 100) → ((((True) ∧ (((True) ∧ (((True) ∧ (LN_dsc_18 x0 y0 z0 l_63)) ∧ True)) ∧ True)) ∧ True))))) ∧ True)) ∧ True))))))) ∧ (false = false → ((true = true) ∧ (((True) ∧ (((True) ∧ (((true = true) ∧ ((m ≤ 2000 ∧ 0 ≤ (q + 1) ∧ (q + 1) ≤ 900000 ∧ ilen x0 ≤ 10 ∧ ilen y0 ≤ 10 ∧ ilen z0 ≤ 10 ∧ -1000000 ≤ (14 : Int) ∧ (14 : Int) ≤ 1000000)) ∧ (∀ l_73 : List Int, ∀ q_74 : Int, ((ilen l_73 ≤ 10 ∧ (q + 1) ≤ q_74 ∧ q_74 ≤ (q + 1) + 100) → ((((True) ∧ (((True) ∧ (LN_dsc_23 x0 y0 z0 l_73)) ∧ True)) ∧ True))))) ∧ True)) ∧ True)) ∧ ((True) ∧ (((True) ∧ (((true = true) ∧ ((m ≤ 2000 ∧ 0 ≤ (q + 1) ∧ (q + 1) ≤ 900000 ∧ ilen x0 ≤ 10 ∧ ilen y0 ≤ 10 ∧ ilen z0 ≤ 10 ∧ -1000000 ≤ (14 : Int) ∧ (14 : Int) ≤ 1000000)) ∧ (∀ l_71 : List Int, ∀ q_72 : Int, ((ilen l_71 ≤ 10 ∧ (q + 1) ≤ q_72 ∧ q_72 ≤ (q + 1) + 100) → ((((True) ∧ (((True) ∧ (LN_dsc_22 x0 y0 z0 l_71)) ∧ True)) ∧ True))))) ∧ True)) ∧ ((true = true) ∧ ((m ≤ 2000 ∧ 0 ≤ (q + 1) ∧ (q + 1) ≤ 900000 ∧ ilen x0 ≤ 10 ∧ ilen y0 ≤ 10 ∧ ilen z0 ≤ 10 ∧ -1000000 ≤ (14 : Int) ∧ (14 : Int) ≤ 1000000)) ∧ (∀ l_69 : List Int, ∀ q_70 : Int, ((ilen l_69 ≤ 10 ∧ (q + 1) ≤ q_70 ∧ q_70 ≤ (q + 1) + 100) → ((((True) ∧ (((True) ∧ (((True) ∧ (LN_dsc_21 x0 y0 z0 l_69)) ∧ True)) ∧ True)) ∧ True))))) ∧ True)) ∧ True))))))))))))) = ev sig_dsc xs_dsc Tryd.f18.ntmps (fun b => if b == 0 then [.v 6] else []) (dropS 3 (codeOf Tryd.f18)) 0 ⟨[(2, .s (.ptr 1 0)), (3, .s (.nil)), (4, .s (.ptr 2 0)), (5, .s (.ptr 3 0))], [(1, .box [.nil, .nil, .nil]), (2, .box [.rdr m, .int q]), (3, .box [.view (.ints x0), .view (.ints y0), .view (.ints z0)])], 4⟩ (retY Tryd.f18.results.toList [.ints, .ints, .ints, .ints] (fun | [.ints x, .ints y, .ints z, .ints j] => ilen x ≤ 10 ∧ ilen y ≤ 10 ∧ ilen z ≤ 10 ∧ ilen j ≤ 10 | _ => False) (fun | [.ints x, .ints y, .ints z, .ints j] => [.agg [.view (.ints x), .view (.ints y), .view (.ints z)], .s (.view (.ints j))] | _ => [])) := by kernel_rfl
set_option maxHeartbeats 4000000 in
theorem PN_dsc (m : Int) (q : Int) (x0 : List Int) (y0 : List Int) (z0 : List Int) (hm : m ≤ 2000) (hq : 0 ≤ q ∧ q ≤ 5000) (hx : ilen x0 ≤ 10) (hy : ilen y0 ≤ 10) (hz : ilen z0 ≤ 10) (hf : armB x0 y0 z0 = false) : ev sig_dsc xs_dsc Tryd.f18.ntmps (fun b => if b == 0 then [.v 6] else []) (dropS 3 (codeOf Tryd.f18)) 0 ⟨[(2, .s (.ptr 1 0)), (3, .s (.nil)), (4, .s (.ptr 2 0)), (5, .s (.ptr 3 0))], [(1, .box [.nil, .nil, .nil]), (2, .box [.rdr m, .int q]), (3, .box [.view (.ints x0), .view (.ints y0), .view (.ints z0)])], 4⟩ (retY Tryd.f18.results.toList [.ints, .ints, .ints, .ints] (fun | [.ints x, .ints y, .ints z, .ints j] => ilen x ≤ 10 ∧ ilen y ≤ 10 ∧ ilen z ≤ 10 ∧ ilen j ≤ 10 | _ => False) (fun | [.ints x, .ints y, .ints z, .ints j] => [.agg [.view (.ints x), .view (.ints y), .view (.ints z)], .s (.view (.ints j))] | _ => [])) := by
  refine Eq.mp (VN_dsc m q x0 y0 z0) ?_
  simp only [true_and, and_true, implies_true, and_self, forall_const, true_implies, LN_dsc_0, LN_dsc_1, LN_dsc_2, LN_dsc_3, LN_dsc_4, LN_dsc_5, LN_dsc_6, LN_dsc_7, LN_dsc_8, LN_dsc_9, LN_dsc_10, LN_dsc_11, LN_dsc_12, LN_dsc_13, LN_dsc_14, LN_dsc_15, LN_dsc_16, LN_dsc_17, LN_dsc_18, LN_dsc_19, LN_dsc_20, LN_dsc_21, LN_dsc_22, LN_dsc_23]
  simp only [ilt_t, ilt_f, ile_t, ile_f, ieq_t, ieq_f, bnot_e, band_e, bite_and, bite_or, NLt_e, NLe_e, NNe_e, NIs_e, imax_e, imin_e, irem_e, Bool.not_eq_true', Bool.not_eq_false', Bool.and_eq_true, Bool.or_eq_true, Bool.or_eq_false_iff, Bool.and_eq_false_iff, Cont.pts.injEq, Cont.ints.injEq, Cont.bools.injEq, Cont.ptss.injEq, Cont.intss.injEq, Cont.boolss.injEq, true_and, and_true, implies_true]
  refine ⟨⟨hm, by omega, by omega⟩, fun k hk => ?_⟩
  repeat' first
    | exact ⟨⟨hm, by omega, by omega, hx, hy, hz, by omega, by omega⟩, fun l q2 hl => ⟨x0, y0, z0, l, ⟨hx, hy, hz, hl.1⟩, ⟨rfl, rfl, rfl⟩, rfl⟩⟩
    | (intro h; contradiction)
    | (intro h; rw [hf] at h; contradiction)
    | intro h
    | apply And.intro
def LZ_dsc_0 (x0 : List Int) (y0 : List Int) (z0 : List Int) (l_75 : List Int) : Prop := ∃ x : List Int, ∃ y : List Int, ∃ z : List Int, ∃ j : List Int, ((ilen x ≤ 10 ∧ ilen y ≤ 10 ∧ ilen z ≤ 10 ∧ ilen j ≤ 10) ∧ ((((Cont.ints x0) = (Cont.ints x)) ∧ ((Cont.ints y0) = (Cont.ints y)) ∧ ((Cont.ints z0) = (Cont.ints z)) ∧ True) ∧ ((Cont.ints (l_75)) = (Cont.ints j)) ∧ True))
def LZ_dsc_1 (x0 : List Int) (y0 : List Int) (z0 : List Int) (l_77 : List Int) : Prop := ∃ x : List Int, ∃ y : List Int, ∃ z : List Int, ∃ j : List Int, ((ilen x ≤ 10 ∧ ilen y ≤ 10 ∧ ilen z ≤ 10 ∧ ilen j ≤ 10) ∧ ((((Cont.ints x0) = (Cont.ints x)) ∧ ((Cont.ints y0) = (Cont.ints y)) ∧ ((Cont.ints z0) = (Cont.ints z)) ∧ True) ∧ ((Cont.ints (l_77)) = (Cont.ints j)) ∧ True))
def LZ_dsc_2 (x0 : List Int) (y0 : List Int) (z0 : List Int) (l_79 : List Int) : Prop := ∃ x : List Int, ∃ y : List Int, ∃ z : List Int, ∃ j : List Int, ((ilen x ≤ 10 ∧ ilen y ≤ 10 ∧ ilen z ≤ 10 ∧ ilen j ≤ 10) ∧ ((((Cont.ints x0) = (Cont.ints x)) ∧ ((Cont.ints y0) = (Cont.ints y)) ∧ ((Cont.ints z0) = (Cont.ints z)) ∧ True) ∧ ((Cont.ints (l_79)) = (Cont.ints j)) ∧ True))
theorem VZ_dsc (m : Int) (q : Int) (x0 : List Int) (y0 : List Int) (z0 : List Int) : ((true = true) ∧ (((True) ∧ (((True) ∧ (((true = true) ∧ ((m ≤ 2000 ∧ 0 ≤ q ∧ q ≤ 900000 ∧ ilen x0 ≤ 10 ∧ ilen y0 ≤ 10 ∧ ilen z0 ≤ 10 ∧ -1000000 ≤ (14 : Int) ∧ (14 : Int) ≤ 1000000)) ∧ (∀ l_79 : List Int, ∀ q_80 : Int, ((ilen l_79 ≤ 10 ∧ q ≤ q_80 ∧ q_80 ≤ q + 100) → ((((True) ∧ (((True) ∧ (LZ_dsc_2 x0 y0 z0 l_79)) ∧ True)) ∧ True))))) ∧ True)) ∧ True)) ∧ ((True) ∧ (((True) ∧ (((true = true) ∧ ((m ≤ 2000 ∧ 0 ≤ q ∧ q ≤ 900000 ∧ ilen x0 ≤ 10 ∧ ilen y0 ≤ 10 ∧ ilen z0 ≤ 10 ∧ -1000000 ≤ (14 : Int) ∧ (14 : Int) ≤ 1000000)) ∧ (∀ l_77 : List Int, ∀ q_78 : Int, ((ilen l_77 ≤ 10 ∧ q ≤ q_78 ∧ q_78 ≤ q + 100) → ((((True) ∧ (((True) ∧ (LZ_dsc_1 x0 y0 z0 l_77)) ∧ True)) ∧ True))))) ∧ True)) ∧ ((true = true) ∧ ((m ≤ 2000 ∧ 0 ≤ q ∧ q ≤ 900000 ∧ ilen x0 ≤ 10 ∧ ilen y0 ≤ 10 ∧ ilen z0 ≤ 10 ∧ -1000000 ≤ (14 : Int) ∧ (14 : Int) ≤ 1000000)) ∧ (∀ l_75 : List Int, ∀ q_76 : Int, ((ilen l_75 ≤ 10 ∧ q ≤ q_76 ∧ q_76 ≤ q + 100) → ((((True) ∧ (((True) ∧ (((True) ∧ (LZ_dsc_0 x0 y0 z0 l_75)) ∧ True)) ∧ True)) ∧ True))))) ∧ True)) ∧ True)) = ev sig_dsc xs_dsc Tryd.f18.ntmps (fun b => []) (dropS 4 (codeOf Tryd.f18)) 0 ⟨[(2, .s (.ptr 1 0)), (3, .s (.nil)), (4, .s (.ptr 2 0)), (5, .s (.ptr 3 0))], [(1, .box [.nil, .nil, .nil]), (2, .box [.rdr m, .int q]), (3, .box [.view (.ints x0), .view (.ints y0), .view (.ints z0)])], 4⟩ (retY Tryd.f18.results.toList [.ints, .ints, .ints, .ints] (fun | [.ints x, .ints y, .ints z, .ints j] => ilen x ≤ 10 ∧ ilen y ≤ 10 ∧ ilen z ≤ 10 ∧ ilen j ≤ 10 | _ => False) (fun | [.ints x, .ints y, .ints z, .ints j] => [.agg [.view (.ints x), .view (.ints y), .view (.ints z)], .s (.view (.ints j))] | _ => [])) := by kernel_rfl
set_option maxHeartbeats 4000000 in
theorem PZ_dsc (m : Int) (q : Int) (x0 : List Int) (y0 : List Int) (z0 : List Int) (hm : m ≤ 2000) (hq : 0 ≤ q ∧ q ≤ 5001) (hx : ilen x0 ≤ 10) (hy : ilen y0 ≤ 10) (hz : ilen z0 ≤ 10) : ev sig_dsc xs_dsc Tryd.f18.ntmps (fun b => []) (dropS 4 (codeOf Tryd.f18)) 0 ⟨[(2, .s (.ptr 1 0)), (3, .s (.nil)), (4, .s (.ptr 2 0)), (5, .s (.ptr 3 0))], [(1, .box [.nil, .nil, .nil]), (2, .box [.rdr m, .int q]), (3, .box [.view (.ints x0), .view (.ints y0), .view (.ints z0)])], 4⟩ (retY Tryd.f18.results.toList [.ints, .ints, .ints, .ints] (fun | [.ints x, .ints y, .ints z, .ints j] => ilen x ≤ 10 ∧ ilen y ≤ 10 ∧ ilen z ≤ 10 ∧ ilen j ≤ 10 | _ => False) (fun | [.ints x, .ints y, .ints z, .ints j] => [.agg [.view (.ints x), .view (.ints y), .view (.ints z)], .s (.view (.ints j))] | _ => [])) := by
  refine Eq.mp (VZ_dsc m q x0 y0 z0) ?_
  simp only [true_and, and_true, implies_true, and_self, forall_const, true_implies, LZ_dsc_0, LZ_dsc_1, LZ_dsc_2]
  simp only [ilt_t, ilt_f, ile_t, ile_f, ieq_t, ieq_f, bnot_e, band_e, bite_and, bite_or, NLt_e, NLe_e, NNe_e, NIs_e, imax_e, imin_e, irem_e, Bool.not_eq_true', Bool.not_eq_false', Bool.and_eq_true, Bool.or_eq_true, Bool.or_eq_false_iff, Bool.and_eq_false_iff, Cont.pts.injEq, Cont.ints.injEq, Cont.bools.injEq, Cont.ptss.injEq, Cont.intss.injEq, Cont.boolss.injEq, true_and, and_true, implies_true]
  exact ⟨⟨hm, by omega, by omega, hx, hy, hz, by omega, by omega⟩, fun l q2 hl => ⟨x0, y0, z0, l, ⟨hx, hy, hz, hl.1⟩, ⟨rfl, rfl, rfl⟩, rfl⟩⟩
theorem own_of {base : Base} {N : Nat} {σ : St} {E : Env} {a : Act} {w : World} (hR : Rel base N σ E a w) {s : SV} {c : Value} {l : List Int} (hs : s.has E w c) (ho : ownM σ s (.ints l)) :
    ∃ k, s = .row k ∧ lookB σ.b k = some (.row 3 (.ints l)) ∧ c = E.hd k ∧ w.ownsRow base.w.heap.size 3 1 c l.length (fI l) ∧ ∀ b, c.ownBlock = some b ↔ blk c = some b := by
  unfold ownM at ho
  split at ho
  · rename_i k'
    split at ho
    · rename_i e' c' hlk
      obtain ⟨hk0, rfl⟩ := ho
      rw [Bool.and_eq_true, beq_iff_eq] at hk0
      obtain ⟨hk0, rfl⟩ := hk0
      have hc : c = E.hd k' := hs
      obtain ⟨ys, ow, hys⟩ := hR.mem.ok k' _ hlk
      have hys' : ys = fI l := hys
      subst hys'
      have hbb : ∀ b, (E.hd k').ownBlock = some b ↔ blk (E.hd k') = some b := fun b => by
        rcases ow.2 with ⟨h0, _⟩ | ⟨g, cap, cur, h0, _⟩
        · rw [h0]; simp [blk, Value.ownBlock]
        · rw [h0]; simp [blk, Value.ownBlock]
      refine ⟨k', rfl, hlk, hc, ?_, by rw [hc]; exact hbb⟩
      rw [hc]
      refine own_rebase ow fun b hb => ?_
      rcases hR.fr.own k' _ b hlk ((hbb b).1 hb) with h1 | ⟨h1, _⟩
      · exact h1
      · rw [h1] at hk0; cases hk0
    · exact ho.elim
  · exact ho.elim
theorem sv_nil {σ : St} {s : SV} {E : Env} {L : Nat → Prop} {w : World} {v : Value} (m : mSV σ s .nil) (h : s.has E w v) : SV.has (EL L) w v .nil := by
  cases s with
  | nil => exact h
  | _ => exact (show False from m).elim
theorem bxM_ok {base : Base} {N : Nat} {σ : St} {E : Env} {a : Act} {w : World} (hR : Rel base N σ E a w) {t g : Nat} {l : List SV} (hp : a.tmps.getD t undef = .pointer (some ⟨g, 0, none⟩)) (h : bxM σ t l) :
    ∃ k m cs e, lookB σ.b k = some (.box m) ∧ blk (E.hd k) = some g ∧ w.heap[g]? = some (.cells cs e (0, 0)) ∧ hasL E w cs.toList m ∧ mSVs σ m l ∧ E.lv g := by
  unfold bxM at h
  split at h
  · rename_i k hk
    split at h
    · rename_i m hb
      obtain ⟨g', cs, e, q1, _, q2, q3⟩ := hR.mem.ok k _ hb
      have hs := hR.slots t
      rw [hk, hp] at hs
      have hs' : Value.pointer (some ⟨g, 0, none⟩) = ptrIn (E.hd k) 0 := hs
      rw [q1] at hs'
      simp only [ptrIn, Value.pointer.injEq, Option.some.injEq, Addr.mk.injEq, and_true] at hs'
      obtain ⟨rfl, _⟩ := hs'
      have hbl : blk (E.hd k) = some g := by rw [q1]; rfl
      exact ⟨k, m, cs, e, hb, hbl, q2, q3, h.2, hR.mem.lv k _ g hb hbl⟩
    · exact h.elim
  · exact h.elim
set_option maxHeartbeats 1000000 in
theorem dsc_end {base : Base} {N : Nat} {σ : St} {E : Env} {a : Act} {w : World} (hR : Rel base N σ E a w) {g2 g g5 : Nat} {m : Int} (p2 : a.tmps.getD 2 undef = .pointer (some ⟨g2, 0, none⟩)) (p4 : a.tmps.getD 4 undef = .pointer (some ⟨g, 0, none⟩)) (p5 : a.tmps.getD 5 undef = .pointer (some ⟨g5, 0, none⟩)) (hM : dscM m σ) :
    ∃ x y z q, (ilen x ≤ 10 ∧ ilen y ≤ 10 ∧ ilen z ≤ 10 ∧ 0 ≤ q ∧ q ≤ 5001) ∧ boxH (fun b => base.L0 b ∨ b = g2 ∨ b = g ∨ b = g5) w g2 [.nil, .nil, .nil] ∧ boxH (fun b => base.L0 b ∨ b = g2 ∨ b = g ∨ b = g5) w g [.rdr m, .int q] ∧ boxH (fun b => base.L0 b ∨ b = g2 ∨ b = g ∨ b = g5) w g5 [.view (.ints x), .view (.ints y), .view (.ints z)] := by
  obtain ⟨x, y, z, q, hbd, h2, h4, h5⟩ := hM
  obtain ⟨k2, m2, cs2, e2, b2, l2, q2, f2, n2, v2⟩ := bxM_ok hR p2 h2
  obtain ⟨k4, m4, cs4, e4, b4, l4, q4, f4, n4, v4⟩ := bxM_ok hR p4 h4
  unfold armR at h5
  split at h5
  · rename_i k5 hk5
    split at h5
    · rename_i sa sb sc b5
      obtain ⟨g', ⟨cl⟩, e5, r1, _, r2, r3⟩ := hR.mem.ok k5 _ b5
      have hs := hR.slots 5
      rw [hk5, p5] at hs
      have hs' : Value.pointer (some ⟨g5, 0, none⟩) = ptrIn (E.hd k5) 0 := hs
      rw [r1] at hs'
      simp only [ptrIn, Value.pointer.injEq, Option.some.injEq, Addr.mk.injEq, and_true] at hs'
      obtain ⟨rfl, _⟩ := hs'
      have l5 : blk (E.hd k5) = some g5 := by rw [r1]; rfl
      have v5 : E.lv g5 := hR.mem.lv k5 _ g5 b5 l5
      have hLE : ∀ b, (base.L0 b ∨ b = g2 ∨ b = g ∨ b = g5) → E.lv b := fun b hb => by
        rcases hb with hb | rfl | rfl | rfl
        · exact hR.fr.l0 b hb
        · exact v2
        · exact v4
        · exact v5
      obtain ⟨-, o1, o2, o3⟩ := h5
      match cl, r3 with
      | [c1, c2, c3], ⟨f51, f52, f53, _⟩ =>
        have key : ∀ {s : SV} {c : Value} {l : List Int}, s.has E w c → ownM σ s (.ints l) → SV.has (EL fun b => base.L0 b ∨ b = g2 ∨ b = g ∨ b = g5) w c (.view (.ints l)) := by
          intro s c l hsv ho
          obtain ⟨k, rfl, hlk, hc, ow, hbb⟩ := own_of hR hsv ho
          refine ⟨_, Owned.flat ow (fun b hb hl => ?_), rfl⟩
          have hlt := (ow.lt b ((hbb b).2 hb)).1
          have hk : ∀ k' m' g', lookB σ.b k' = some (.box m') → blk (E.hd k') = some g' → b = g' → False := fun k' m' g' h1 h2 h3 => by
            subst h3
            have := hR.dist k k' _ _ b hlk h1 (by rw [← hc]; exact hb) h2
            subst this
            rw [hlk] at h1; cases h1
          rcases hl with hl | hl | hl | hl
          · have := hR.fr.l0lt b hl; omega
          · exact hk k2 _ _ b2 l2 hl
          · exact hk k4 _ _ b4 l4 hl
          · exact hk k5 _ _ b5 l5 hl
        refine ⟨x, y, z, q, hbd, ?_, ?_, ⟨_, e5, r2, key f51 o1, key f52 o2, key f53 o3, trivial⟩⟩
        · refine ⟨cs2, e2, q2, ?_⟩
          obtain ⟨cl2⟩ := cs2
          match m2, cl2, f2, n2 with
          | [s1, s2, s3], [u1, u2, u3], ⟨a1, a2, a3, _⟩, ⟨i1, i2, i3, _⟩ => exact ⟨sv_nil i1 a1, sv_nil i2 a2, sv_nil i3 a3, trivial⟩
        · refine ⟨cs4, e4, q4, ?_⟩
          obtain ⟨cl4⟩ := cs4
          match m4, cl4, f4, n4 with
          | [s1, s2], [u1, u2], ⟨a1, a2, _⟩, ⟨i1, i2, _⟩ => exact ⟨sv_rdr i1 a1 hLE, sv_int i2 a2, trivial⟩
    · exact h5.elim
  · exact h5.elim

theorem RB.evo {L L' : Nat → Prop} {g : Nat} {m q : Int} {w w' : World} (h : RB L g m q w) (hb : w'.heap[g]? = w.heap[g]?) (ev : Evo (EL L) (EL L') w w') : RB L' g m q w' :=
  Bx.ok_evo ev (fun b e => by
    have e' : g = b := by simpa [blk] using e
    subst e'; exact hb) (fun _ _ _ _ _ _ => rfl) h
theorem RB.lt {L : Nat → Prop} {g : Nat} {m q : Int} {w : World} (h : RB L g m q w) : g < w.heap.size := by
  obtain ⟨g', cs, e', e1, _, e2, _⟩ := h
  injection e1 with e1; injection e1 with e1; injection e1 with e1
  subst e1; exact heap_lt e2
theorem pick_b {L : Nat → Prop} {g : Nat} {m q : Int} {w : World} (hL : LtI L w) (hg : L g) (h : RB L g m q w) (hm : m ≤ 2000) (h0 : 0 ≤ q) (h1 : q ≤ 1000000) (n : Int) :
    Calls Tryd.prog 44 #[.pointer (some ⟨g, 0, none⟩), .int .i64 n] w fun e w' => ∃ k, e = .returned (.int .i64 k) ∧ pickP n k ∧ RB L g m (q + 1) w' ∧ w.grownBy w' (some g) := by
  have hc := F_spec_l20Rd_pick (.box [.rdr m, .int q]) [.s (.int n)] _ rfl ⟨hm, h0, h1⟩ L (.pointer (some ⟨g, 0, none⟩)) [.int .i64 n] w hL (fun b e => by injection e with e; exact e ▸ hg) h ⟨rfl, trivial⟩
  refine hc.2.mono ?_
  rintro e w' ⟨v, gs, rfl, hk, hp, hr, ho, _, hgr⟩
  match gs, hk, hp, hr, ho with
  | [.int k], _, hp, hr, ho =>
    have hr' : v = .int .i64 k := hr
    exact ⟨k, by rw [hr'], hp, ho, hgr⟩
theorem open_b {L0 : Nat → Prop} {A : Option Addr} {n c : Nat} {w : World} (hL : LtI L0 w) (hn : (n : Int) ≤ 1048576) (hA : BytesOK L0 w (.slice A n c) n) :
    Calls Tryd.prog 42 #[.slice A n c] w fun e w' => ∃ g m, e = .returned (.pointer (some ⟨g, 0, none⟩)) ∧ m ≤ 2000 ∧ w.heap.size ≤ g ∧ RB (fun b => L0 b ∨ b = g) g m 0 w' ∧ LtI (fun b => L0 b ∨ b = g) w' ∧ Bel w w' := by
  have hc := F_spec_l20Open [.s (.rdr n)] _ rfl hn L0 #[.slice A n c] w hL ⟨hA, trivial⟩
  refine hc.2.mono ?_
  rintro e w' ⟨v, rfl, ⟨g, cs, E, rfl, hg, hh, hcs⟩, hb⟩
  have e1 : (fun b => L0 b ∨ blk (.pointer (some ⟨g, 0, none⟩)) = some b) = (fun b => L0 b ∨ b = g) := by
    funext b; simp [blk, eq_comm]
  rw [e1] at hcs
  exact ⟨g, _, rfl, by split <;> omega, hg, ⟨g, cs, E, rfl, Nat.zero_le _, hh, hcs⟩, ⟨fun b hb' => hb'.elim (fun h => ⟨(hL.lt' b h).1, Nat.lt_of_lt_of_le (hL b h) hb.size⟩) (fun h => ⟨h ▸ Nat.le_trans hL.inv.ng hg, h ▸ heap_lt hh⟩), ginv_bel hL.inv hb⟩, hb⟩

theorem dsc_fin {L0 : Nat → Prop} {n : Int} {w w' : World} {N : Nat} {σ : St} {E : Env} {a : Act} (hR : Rel ⟨w, false, undef, L0, w.heap.size⟩ N σ E a w') (hx : exG [.ints, .ints, .ints, .ints] fun g => (s_spec_DrawSelfClear n).post g ∧ mRes σ Tryd.f18.results.toList ((s_spec_DrawSelfClear n).ret g)) :
    a.defers = [] ∧ ∃ v, (results Tryd.f18 a.tmps).run Tryd.prog w' = .ok v w' ∧ ∃ v' gs, Ending.returned v = .returned v' ∧ gs.map GV.kd = [.ints, .ints, .ints, .ints] ∧ (s_spec_DrawSelfClear n).post gs ∧ retOK w.heap.size L0 w' v' ((s_spec_DrawSelfClear n).ret gs) ∧ Bel w w' := by
  obtain ⟨g, k1, k2, k3⟩ := exG_at hx
  obtain ⟨v, h1, h2, _⟩ := results_run hR k3 (Nat.le_of_ble_eq_true (by kernel_rfl)) (Nat.zero_le _)
  exact ⟨hR.defers, v, h1, v, g, rfl, k1, k2, h2, rel_bel hR⟩
theorem RB.box {L : Nat → Prop} {g : Nat} {m q : Int} {w : World} (h : RB L g m q w) : boxH L w g [.rdr m, .int q] := by
  obtain ⟨g', cs, e, e1, _, e2, e3⟩ := h
  injection e1 with e1; injection e1 with e1; injection e1 with e1
  subst e1
  exact ⟨cs, e, e2, e3⟩
/-- What stands behind items 0 to 2. -/
structure DX (L0 : Nat → Prop) (w w2 w4 : World) (b : Act) (g g5 : Nat) (c1 c2 c3 : Value) (x y z : List Int) (m q : Int) : Prop where
  size : b.tmps.size = Tryd.f18.ntmps
  defers : b.defers = []
  p2 : b.tmps.getD 2 undef = .pointer (some ⟨w.heap.size, 0, none⟩)
  p3 : b.tmps.getD 3 undef = .slice none 0 0
  p4 : b.tmps.getD 4 undef = .pointer (some ⟨g, 0, none⟩)
  p5 : b.tmps.getD 5 undef = .pointer (some ⟨g5, 0, none⟩)
  q2 : ∃ e, w4.heap[w.heap.size]? = some (.cells #[.slice none 0 0, .slice none 0 0, .slice none 0 0] e (0, 0))
  q5 : ∃ e, w4.heap[g5]? = some (.cells #[c1, c2, c3] e (0, 0))
  bel : Bel w w4
  o2 : w.heap.size < g
  o4 : g < w2.heap.size
  o5 : w2.heap.size ≤ g5
  bd : m ≤ 2000 ∧ 0 ≤ q ∧ q ≤ 5000
  hx : ilen x ≤ 10
  hy : ilen y ≤ 10
  hz : ilen z ≤ 10
  arm : (∃ L', Arm3 w2.heap.size w4 c1 c2 c3 x y z ∧ (∀ b, (blk c1 = some b ∨ blk c2 = some b ∨ blk c3 = some b) → w2.heap.size ≤ b ∧ b < g5) ∧ RB L' g m q w4 ∧ ∀ b, (L0 b ∨ blk c1 = some b ∨ blk c2 = some b ∨ blk c3 = some b ∨ b = w.heap.size ∨ b = g ∨ b = g5) → L' b)
    ∨ (boxH (fun b => L0 b ∨ b = w.heap.size ∨ b = g ∨ b = g5) w4 g [.rdr m, .int q] ∧ boxH (fun b => L0 b ∨ b = w.heap.size ∨ b = g ∨ b = g5) w4 g5 [.view (.ints x), .view (.ints y), .view (.ints z)] ∧ armB x y z = false)
theorem boxH_less {L L' : Nat → Prop} {w : World} {g : Nat} {l : List SV} (hf : l.all (·.free) = true) (hL : ∀ b, L' b → L b) (h : boxH L w g l) : boxH L' w g l := by
  obtain ⟨cs, e, k1, k2⟩ := h
  exact ⟨cs, e, k1, hasL_less hL hf k2⟩
def DQ (L0 : Nat → Prop) (n : Int) (w w' : World) (e : Ending) : Prop := ∃ v gs, e = .returned v ∧ gs.map GV.kd = [.ints, .ints, .ints, .ints] ∧ (s_spec_DrawSelfClear n).post gs ∧ retOK w.heap.size L0 w' v ((s_spec_DrawSelfClear n).ret gs) ∧ Bel w w'
def DF (L0 : Nat → Prop) (n : Int) (w : World) (a : Act) (w' : World) : Prop := a.defers = [] ∧ ∃ v, (results Tryd.f18 a.tmps).run Tryd.prog w' = .ok v w' ∧ DQ L0 n w w' (.returned v)
def DE (L0 : Nat → Prop) (n : Int) (w : World) (e : Exit) (a : Act) (w' : World) : Prop := (e = .normal ∨ e = .ret) ∧ DF L0 n w a w'
set_option maxHeartbeats 1000000 in
theorem dsc_N {L0 : Nat → Prop} {n : Int} {w w2 w4 : World} {b : Act} {g g5 : Nat} {c1 c2 c3 : Value} {x y z : List Int} {m q : Int} (hL : LtI L0 w) (h : DX L0 w w2 w4 b g g5 c1 c2 c3 x y z m q)
    (h4 : boxH (fun b => L0 b ∨ b = w.heap.size ∨ b = g ∨ b = g5) w4 g [.rdr m, .int q]) (h5 : boxH (fun b => L0 b ∨ b = w.heap.size ∨ b = g ∨ b = g5) w4 g5 [.view (.ints x), .view (.ints y), .view (.ints z)]) (hf : armB x y z = false) :
    (dropS 3 (codeOf Tryd.f18)).wp Tryd.prog (DE L0 n w) b w4 := by
  obtain ⟨e2, q2⟩ := h.q2
  have o4 := h.o4
  have o5 := h.o5
  refine ev_ok sig_dsc_ok xs_dsc_ok (by kernel_rfl) _ 0 _ _ _ _ _ _ (rel3 (l2 := [.nil, .nil, .nil]) hL (ginv_bel hL.inv h.bel) h.size h.defers h.bel h.p2 h.p3 h.p4 h.p5 ⟨_, e2, q2, rfl, rfl, rfl, trivial⟩ h4 h5 rfl rfl rfl (Nat.le_refl _) h.o2 (by omega)) (PN_dsc m q x y z h.bd.1 h.bd.2 h.hx h.hy h.hz hf) ?_
  intro e σ' E' a' w' hR hk
  cases e with
  | normal => exact ⟨.inl rfl, dsc_fin hR hk⟩
  | exit i => exact hk.elim
  | ret => exact ⟨.inr rfl, dsc_fin hR hk⟩
set_option maxHeartbeats 1000000 in
theorem dsc_Z {L0 : Nat → Prop} {n : Int} {w w5 : World} {b : Act} {g g5 : Nat} {x y z : List Int} {m q : Int} (hL : LtI L0 w) (hB : Bel w w5) (hN : b.tmps.size = Tryd.f18.ntmps) (hd : b.defers = [])
    (p2 : b.tmps.getD 2 undef = .pointer (some ⟨w.heap.size, 0, none⟩)) (p3 : b.tmps.getD 3 undef = .slice none 0 0) (p4 : b.tmps.getD 4 undef = .pointer (some ⟨g, 0, none⟩)) (p5 : b.tmps.getD 5 undef = .pointer (some ⟨g5, 0, none⟩)) (o2 : w.heap.size < g) (o4 : g < g5) (hm : m ≤ 2000) (hq : 0 ≤ q ∧ q ≤ 5001) (hx : ilen x ≤ 10) (hy : ilen y ≤ 10) (hz : ilen z ≤ 10)
    (h2 : boxH (fun b => L0 b ∨ b = w.heap.size ∨ b = g ∨ b = g5) w5 w.heap.size [.nil, .nil, .nil]) (h4 : boxH (fun b => L0 b ∨ b = w.heap.size ∨ b = g ∨ b = g5) w5 g [.rdr m, .int q]) (h5 : boxH (fun b => L0 b ∨ b = w.heap.size ∨ b = g ∨ b = g5) w5 g5 [.view (.ints x), .view (.ints y), .view (.ints z)]) :
    (dropS 4 (codeOf Tryd.f18)).wp Tryd.prog (DE L0 n w) b w5 := by
  refine ev_ok sig_dsc_ok xs_dsc_ok (by kernel_rfl) _ 0 _ _ _ _ _ _ (rel3 hL (ginv_bel hL.inv hB) hN hd hB p2 p3 p4 p5 h2 h4 h5 rfl rfl rfl (Nat.le_refl _) o2 o4) (PZ_dsc m q x y z hm hq hx hy hz) ?_
  intro e σ' E' a' w' hR hk
  cases e with
  | normal => exact ⟨.inl rfl, dsc_fin hR hk⟩
  | exit i => exact hk.elim
  | ret => exact ⟨.inr rfl, dsc_fin hR hk⟩
set_option maxHeartbeats 1000000 in
theorem dsc_R {L0 L' : Nat → Prop} {n : Int} {w w2 w4 : World} {b : Act} {g g5 : Nat} {c1 c2 c3 : Value} {x y z : List Int} {m q : Int} (hL : LtI L0 w) (h : DX L0 w w2 w4 b g g5 c1 c2 c3 x y z m q) (hA : Arm3 w2.heap.size w4 c1 c2 c3 x y z) (hK : ∀ b, (blk c1 = some b ∨ blk c2 = some b ∨ blk c3 = some b) → w2.heap.size ≤ b ∧ b < g5) (hRB : RB L' g m q w4)
    (hL' : ∀ b, (L0 b ∨ blk c1 = some b ∨ blk c2 = some b ∨ blk c3 = some b ∨ b = w.heap.size ∨ b = g ∨ b = g5) → L' b) :
    (dropS 3 (codeOf Tryd.f18)).wp Tryd.prog (DE L0 n w) b w4 := by
  obtain ⟨e2, q2⟩ := h.q2
  obtain ⟨e5, q5⟩ := h.q5
  have o2 := h.o2
  have o4 := h.o4
  have o5 := h.o5
  obtain ⟨a1, a2, a3, d12, d13, d23⟩ := hA
  have hR0 := rel6 (l2 := [.nil, .nil, .nil]) (l4 := [.rdr m, .int q]) hL (ginv_bel hL.inv h.bel) h.size h.defers h.bel h.p2 h.p3 h.p4 h.p5 (own_base a1 (by omega)) (own_base a2 (by omega)) (own_base a3 (by omega))
    (fun b e => hK b (.inl e)) (fun b e => hK b (.inr (.inl e))) (fun b e => hK b (.inr (.inr e))) (fun b e f => d12 b ((own_blk a1 b).1 e) ((own_blk a2 b).1 f)) (fun b e f => d13 b ((own_blk a1 b).1 e) ((own_blk a3 b).1 f)) (fun b e f => d23 b ((own_blk a2 b).1 e) ((own_blk a3 b).1 f))
    ⟨_, e2, q2, rfl, rfl, rfl, trivial⟩ (boxH_less rfl hL' hRB.box) q5 rfl rfl (Nat.le_refl _) o2 o4 (Nat.le_refl _) o5
  refine frag_wpL (ds := inS (wrL (takeS 0 (dropS 3 (codeOf Tryd.f18))))) sig_dsc_ok xs_dsc_ok (by kernel_rfl) 0 _ 0 _ _ _ _ _ _ (by kernel_rfl) hR0 (PR_dsc m q x y z h.bd.1 h.bd.2 h.hx h.hy h.hz) ?_
  intro e σ5 E5 b5 w5 hR5 hk hs5
  cases e with
  | exit i => exact hk.elim
  | ret => exact hk.elim
  | normal =>
    have p2 := (hs5 2 (by kernel_rfl)).trans h.p2
    have p3 := (hs5 3 (by kernel_rfl)).trans h.p3
    have p4 := (hs5 4 (by kernel_rfl)).trans h.p4
    have p5 := (hs5 5 (by kernel_rfl)).trans h.p5
    obtain ⟨x', y', z', q', ⟨i1, i2, i3, i4, i5⟩, k2, k4, k5⟩ := dsc_end hR5 p2 p4 p5 hk
    have hfin := dsc_Z (n := n) hL (rel_bel hR5) hR5.size hR5.defers p2 p3 p4 p5 o2 (by omega) h.bd.1 ⟨i4, i5⟩ i1 i2 i3 k2 k4 k5
    have hc4 : dropS (0 + 1) (dropS 3 (codeOf Tryd.f18)) = dropS 4 (codeOf Tryd.f18) := by kernel_rfl
    rw [← hc4] at hfin
    exact hfin
set_option maxHeartbeats 2000000 in
theorem dsc_x {L0 : Nat → Prop} {A : Option Addr} {n c : Nat} {w : World} {b0 : Act} (hL : LtI L0 w) (hn : (n : Int) ≤ 1048576) (hA : BytesOK L0 w (.slice A n c) n)
    (hb0 : b0 = { tmps := #[.slice A n c] ++ Array.replicate (Tryd.f18.ntmps - 1) undef, defers := [] }) (hN0 : b0.tmps.size = Tryd.f18.ntmps) :
    (dropS 0 (codeOf Tryd.f18)).wp Tryd.prog (DE L0 n w) b0 w := by
  have s0 : b0.tmps.getD 0 undef = .slice A n c := by rw [hb0]; exact init_get rfl
  have hd0 : b0.defers = [] := by rw [hb0]
  clear hb0
  refine item_wp (by kernel_rfl) ?_
  refine an_item (t := 30) (p := 2) (q := 3) (N := Tryd.f18.ntmps) (by kernel_rfl) hN0 rfl ?_
  intro b1 hN1 hd1 hs1 p2 p3
  have s0 : b1.tmps.getD 0 undef = .slice A n c := (hs1 0 (by kernel_rfl)).trans s0
  have hd1 := hd1.trans hd0
  obtain ⟨wa, hwa⟩ : ∃ wa, w.alloc (.cells #[.slice none 0 0, .slice none 0 0, .slice none 0 0] 30) = wa := ⟨_, rfl⟩
  have hBa : Bel w wa := hwa ▸ (Bel.refl w).alloc _
  have q2 : wa.heap[w.heap.size]? = some (.cells #[.slice none 0 0, .slice none 0 0, .slice none 0 0] 30 (0, 0)) := hwa ▸ heap_alloc_new w _
  have hng := hL.inv.ng
  have z2 := heap_lt q2
  rw [hwa]
  clear hwa hs1
  have hLa : LtI (fun b => L0 b ∨ b = w.heap.size) wa := ⟨fun b hb => hb.elim (fun h => ⟨(hL.lt' b h).1, Nat.lt_of_lt_of_le (hL b h) hBa.size⟩) (fun h => by subst h; exact ⟨hng, z2⟩), ginv_bel hL.inv hBa⟩
  have hAa : BytesOK (fun b => L0 b ∨ b = w.heap.size) wa (.slice A n c) n := BytesOK.evo (E := EL L0) (E' := EL fun b => L0 b ∨ b = w.heap.size) ⟨hBa.size, fun b hb _ => hBa.block b hb, fun b hb hl => hl.resolve_right (by omega), fun _ h => h⟩ hA
  refine item_wp (by kernel_rfl) ?_
  refine call_item (f := 42) (srcs := [0]) (e := 4) (N := Tryd.f18.ntmps) (by kernel_rfl) hN1 (enters_of Tryd.func42 (by kernel_rfl) rfl) ?_
  simp only [List.map_cons, List.map_nil, s0]
  refine (open_b hLa hn hAa).mono ?_
  rintro en w1 ⟨g, m, rfl, hm, hg0, hRB1, hL1, hb1⟩
  refine ⟨_, rfl, fun b2 hN2 hd2 hs2 p4 => ?_⟩
  have p2 := (hs2 2 (by kernel_rfl)).trans p2
  have p3 := (hs2 3 (by kernel_rfl)).trans p3
  clear hs2
  refine item_wp (by kernel_rfl) ?_
  refine da_item (fp := 44) (fa := 43) (t := 30) (r := 4) (e := 5) (c1 := 3) (c2 := 2) (c3 := 14) (N := Tryd.f18.ntmps) (by kernel_rfl) hN2 (enters_of Tryd.func44 (by kernel_rfl) rfl) (enters_of Tryd.func43 (by kernel_rfl) rfl) rfl p4 (by omega) ?_
  refine (pick_b hL1 (.inr rfl) hRB1 hm (by omega) (by omega) 2).mono ?_
  rintro en w2 ⟨k, rfl, hk, hRB2, hg2⟩
  obtain ⟨hk0, hk1⟩ := hk.2 (by omega)
  refine ⟨k, rfl, ⟨by omega, by omega⟩, ?_⟩
  have hL2 := hL1.grow hg2 (fun b e => by injection e with e; exact .inr e.symm)
  refine (l20Arm_own (m := ((3 : Nat) : Int) + k) (n := ((14 : Nat) : Int)) hL2 (.inr rfl) hRB2 ⟨hm, by omega, by omega, by omega, by omega, by omega, by omega⟩).mono ?_
  rintro en w3 ⟨c1, c2, c3, x, y, z, q, L', rfl, ⟨hx, hy, hz, hq0, hq1⟩, hD, hRB3, hLL, hg3⟩
  have hzw := hBa.size
  have hgw : g < w2.heap.size := Nat.lt_of_lt_of_le hRB1.lt hg2.size
  refine ⟨c1, c2, c3, rfl, ?_, fun b3 w4 hN3 hd3 hs3 p5 q5 hb4 z5 => ?_⟩
  · rcases hD with ⟨⟨a1, a2, a3, _, _, _⟩, _⟩ | ⟨a1, a2, a3, _⟩
    · exact ⟨own_one a1, own_one a2, own_one a3⟩
    · exact ⟨reads_one a1, reads_one a2, reads_one a3⟩
  have p2 := (hs3 2 (by kernel_rfl)).trans p2
  have p3 := (hs3 3 (by kernel_rfl)).trans p3
  have p4 := (hs3 4 (by kernel_rfl)).trans p4
  have hd3 : b3.defers = [] := (hd3.trans hd2).trans hd1
  clear hs3
  have hB1 := hBa.trans hb1
  have hB3 : Bel w w3 := bel_step (bel_step hB1 hg2 (fun b e => by injection e with e; omega)) hg3 (fun b e => by injection e with e; omega)
  have q4 : w4.heap[w.heap.size]? = some (.cells #[.slice none 0 0, .slice none 0 0, .slice none 0 0] 30 (0, 0)) := by
    have s1 := hb1.size
    have s2 := hg2.size
    have s3 := hg3.size
    rw [hb4.block _ (by omega), hg3.block _ (by omega) (fun e => by injection e with e; omega), hg2.block _ (by omega) (fun e => by injection e with e; omega), hb1.block _ z2]
    exact q2
  have hev : ∀ {L L' : Nat → Prop}, (∀ b, b < w3.heap.size → L' b → L b) → Evo (EL L) (EL L') w3 w4 := fun hl => ⟨hb4.size, fun b hb _ => hb4.block b hb, fun b hb h => hl b hb h, fun _ h => h⟩
  have hX : DX L0 w w2 w4 b3 g w3.heap.size c1 c2 c3 x y z m q := by
    refine ⟨hN3, hd3, p2, p3, p4, p5, ⟨_, q4⟩, ⟨_, q5⟩, hB3.trans hb4, by omega, hgw, hg3.size, ⟨hm, by omega, by omega⟩, hx, hy, hz, ?_⟩
    rcases hD with ⟨⟨a1, a2, a3, d12, d13, d23⟩, hr⟩ | ⟨a1, a2, a3, hf⟩
    · refine .inl ⟨fun b => L0 b ∨ blk c1 = some b ∨ blk c2 = some b ∨ blk c3 = some b ∨ b = w.heap.size ∨ b = g ∨ b = w3.heap.size, ⟨own_bel a1 hb4, own_bel a2 hb4, own_bel a3 hb4, d12, d13, d23⟩, ?_, ?_, fun _ h => h⟩
      · rintro b (h | h | h)
        · exact a1.lt b ((own_blk a1 b).1 h)
        · exact a2.lt b ((own_blk a2 b).1 h)
        · exact a3.lt b ((own_blk a3 b).1 h)
      · refine hRB3.evo (hb4.block _ hRB3.lt) (hev fun b hb h => ?_)
        rcases h with h | h | h | h | h | h | h
        · exact hLL b (.inl (.inl h))
        · exact hr b (.inl ((own_blk a1 b).1 h))
        · exact hr b (.inr (.inl ((own_blk a2 b).1 h)))
        · exact hr b (.inr (.inr ((own_blk a3 b).1 h)))
        · exact hLL b (.inl (.inr h))
        · exact hLL b (.inr h)
        · omega
    · have hl : ∀ b, b < w3.heap.size → (L0 b ∨ b = w.heap.size ∨ b = g ∨ b = w3.heap.size) → (L0 b ∨ b = w.heap.size) ∨ b = g := fun b hb h => by
        rcases h with h | h | h | h
        · exact .inl (.inl h)
        · exact .inl (.inr h)
        · exact .inr h
        · omega
      refine .inr ⟨(hRB3.evo (hb4.block _ hRB3.lt) (hev fun b hb h => hLL b (hl b hb h))).box, ⟨_, _, q5, ?_, ?_, ?_, trivial⟩, hf⟩
      · exact Reads.evo (hev hl) a1
      · exact Reads.evo (hev hl) a2
      · exact Reads.evo (hev hl) a3
  have hc3 : dropS 1 (dropS 1 (dropS 1 (dropS 0 (codeOf Tryd.f18)))) = dropS 3 (codeOf Tryd.f18) := by kernel_rfl
  have hfin : (dropS 3 (codeOf Tryd.f18)).wp Tryd.prog (DE L0 n w) b3 w4 := by
    rcases hX.arm with ⟨L', hA, hK, hRB, hL'⟩ | ⟨h4, h5, hf⟩
    · exact dsc_R hL hX hA hK hRB hL'
    · exact dsc_N hL hX h4 h5 hf
  rw [← hc3] at hfin
  exact hfin
theorem dsc_y {L0 : Nat → Prop} {A : Option Addr} {n c : Nat} {w : World} (hL : LtI L0 w) (hn : (n : Int) ≤ 1048576) (hA : BytesOK L0 w (.slice A n c) n) :
    Calls Tryd.prog 18 #[.slice A n c] w fun e w' => DQ L0 n w w' e := by
  refine calls_of_wp Tryd.func18 (c := dropS 0 (codeOf Tryd.f18)) rfl ?_
  refine Code.wp_mono ?_ (dsc_x hL hn hA ?_ ?_)
  · rintro e a w' ⟨he, h⟩
    rcases he with rfl | rfl
    · exact h
    · exact h
  · show (⟨_, _⟩ : Act) = ⟨_, _⟩
    congr 1
  · rw [Array.size_append, Array.size_replicate]; rfl
theorem F_spec_DrawSelfClear : FunY 18 g_spec_DrawSelfClear := by
  intro avs sg hg hn L0 args w hL hA
  refine ⟨callFunc_enter Tryd.func18 (by kernel_rfl) (by kernel_rfl) _ w, ?_⟩
  unfold g_spec_DrawSelfClear at hg
  split at hg
  · rename_i n
    injection hg with hg; subst hg
    obtain ⟨al⟩ := args
    match al, hA with
    | [v], ⟨hv, _⟩ =>
      have hv0 := hv
      obtain ⟨A, k, c, rfl, rfl, _⟩ := hv
      exact dsc_y hL hn hv0
  · cases hg
def g_impl_within : List AV → Option Sg
  | [.s (.int n), .s (.int lo), .s (.int hi)] => some ⟨True, [.s (.bool (inB n lo hi))]⟩
  | _ => none
def sig_impl_within : FuncId → List AV → Option Sg := sigL []
def xs_impl_within : XS := ⟨xsigL [], ysigL []⟩
theorem sig_impl_within_ok : SigOK sig_impl_within := sigL_nil
theorem xs_impl_within_ok : XSigOK xs_impl_within := ⟨xsigL_nil, ysigL_nil⟩
theorem V_impl_within (n : Int) (lo : Int) (hi : Int) : ((true = true) ∧ ((True) ∧ True) ∧ (true = true) ∧ ((True) ∧ (True) ∧ (True) ∧ (True) ∧ (NIs (ile lo n) true → True) ∧ (NIs (ile lo n) true → True) ∧ (NIs (ile lo n) true → True) ∧ (True) ∧ (True) ∧ True) ∧ (((bite (ile lo n) (ile n hi) false) : Bool) = (inB n lo hi)) ∧ True) = ev sig_impl_within xs_impl_within Tryd.f54.ntmps (fun b => []) (codeOf Tryd.f54) 0 (initS [.s (.int n), .s (.int lo), .s (.int hi)]) (retK Tryd.f54.results.toList [.s (.bool (inB n lo hi))]) := by kernel_rfl
set_option maxHeartbeats 400000 in
theorem F_impl_within : FunOK 54 g_impl_within := by
  refine fun_F (by kernel_rfl) Tryd.func54 rfl (by kernel_rfl) sig_impl_within_ok xs_impl_within_ok ?_
  intro avs sg h hn hl
  unfold g_impl_within at h
  split at h
  · rename_i n lo hi
    injection h with h; subst h
    refine ⟨by kernel_rfl, fun b => [], Eq.mp (V_impl_within n lo hi) ?_⟩
    simp only [true_and, and_true, implies_true, and_self, forall_const, true_implies, lenA, lenL, SV.lenOK, Cont.lenOK] at hn hl ⊢
    simp only [bite_and, inB_eq]
  · cases h
def g_impl_ArmValid : List AV → Option Sg
  | [.agg [.view (.ints a1), .view (.ints a2), .view (.ints a3)]] => some ⟨True, [.s (.bool (armB a1 a2 a3))]⟩
  | _ => none
def sig_impl_ArmValid : FuncId → List AV → Option Sg := sigL [(54, g_impl_within)]
def xs_impl_ArmValid : XS := ⟨xsigL [], ysigL []⟩
theorem sig_impl_ArmValid_ok : SigOK sig_impl_ArmValid := sigL_cons F_impl_within sigL_nil
theorem xs_impl_ArmValid_ok : XSigOK xs_impl_ArmValid := ⟨xsigL_nil, ysigL_nil⟩
theorem V_impl_ArmValid (a1 : List Int) (a2 : List Int) (a3 : List Int) : ((true = true) ∧ ((True) ∧ (True) ∧ True) ∧ (true = true) ∧ ((True) ∧ (True) ∧ (True) ∧ (True) ∧ True) ∧ (true = true) ∧ ((True) ∧ ((True)) ∧ (True) ∧ (True) ∧ (NIs (bnot (inB (ilen a1) (1 : Int) (4 : Int))) false → True) ∧ (NIs (bnot (inB (ilen a1) (1 : Int) (4 : Int))) false → True) ∧ (NIs (bnot (inB (ilen a1) (1 : Int) (4 : Int))) false → True) ∧ (NIs (bnot (inB (ilen a1) (1 : Int) (4 : Int))) false → True) ∧ (NIs (bnot (inB (ilen a1) (1 : Int) (4 : Int))) false → True) ∧ (True) ∧ (True) ∧ (NIs (bite (bnot (inB (ilen a1) (1 : Int) (4 : Int))) true (bnot (ieq (ilen a2) (ilen a1)))) false → True) ∧ (NIs (bite (bnot (inB (ilen a1) (1 : Int) (4 : Int))) true (bnot (ieq (ilen a2) (ilen a1)))) false → True) ∧ (NIs (bite (bnot (inB (ilen a1) (1 : Int) (4 : Int))) true (bnot (ieq (ilen a2) (ilen a1)))) false → True) ∧ (NIs (bite (bnot (inB (ilen a1) (1 : Int) (4 : Int))) true (bnot (ieq (ilen a2) (ilen a1)))) false → True) ∧ (NIs (bite (bnot (inB (ilen a1) (1 : Int) (4 : Int))) true (bnot (ieq (ilen a2) (ilen a1)))) false → True) ∧ (True) ∧ True) ∧ ((bite (bite (bnot (inB (ilen a1) (1 : Int) (4 : Int))) true (bnot (ieq (ilen a2) (ilen a1)))) true (bnot (ieq (ilen a3) (ilen a1)))) = true → ((true = true) ∧ ((True) ∧ True) ∧ ((false : Bool) = (armB a1 a2 a3)) ∧ True)) ∧ ((bite (bite (bnot (inB (ilen a1) (1 : Int) (4 : Int))) true (bnot (ieq (ilen a2) (ilen a1)))) true (bnot (ieq (ilen a3) (ilen a1)))) = false → ((true = true) ∧ ((True) ∧ (True) ∧ True) ∧ ∃ (I1 : List GV → Prop) (μ1 : List GV → Nat), (((true = true) ∧ (((false : Bool) = false) ∧ (((0 : Int) : Int) = (0 : Int)) ∧ (((ilen a1) : Int) = (ilen a1)) ∧ (((ilen a1) : Int) = (ilen a1)) ∧ (((inB (ilen a1) (1 : Int) (4 : Int)) : Bool) = (inB (ilen a1) (1 : Int) (4 : Int))) ∧ (((bnot (inB (ilen a1) (1 : Int) (4 : Int))) : Bool) = (bnot (inB (ilen a1) (1 : Int) (4 : Int)))) ∧ (((bnot (inB (ilen a1) (1 : Int) (4 : Int))) : Bool) = (bnot (inB (ilen a1) (1 : Int) (4 : Int)))) ∧ (((bite (bnot (inB (ilen a1) (1 : Int) (4 : Int))) true (bnot (ieq (ilen a2) (ilen a1)))) : Bool) = (bite (bnot (inB (ilen a1) (1 : Int) (4 : Int))) true (bnot (ieq (ilen a2) (ilen a1))))) ∧ (((bite (bnot (inB (ilen a1) (1 : Int) (4 : Int))) true (bnot (ieq (ilen a2) (ilen a1)))) : Bool) = (bite (bnot (inB (ilen a1) (1 : Int) (4 : Int))) true (bnot (ieq (ilen a2) (ilen a1))))) ∧ (((bite (bite (bnot (inB (ilen a1) (1 : Int) (4 : Int))) true (bnot (ieq (ilen a2) (ilen a1)))) true (bnot (ieq (ilen a3) (ilen a1)))) : Bool) = (bite (bite (bnot (inB (ilen a1) (1 : Int) (4 : Int))) true (bnot (ieq (ilen a2) (ilen a1)))) true (bnot (ieq (ilen a3) (ilen a1))))) ∧ (true = true) ∧ ((Cont.ints a1) = (Cont.ints a1)) ∧ (((ilen a1) : Int) = (ilen a1)) ∧ (((ilen a1) : Int) = (ilen a1)) ∧ (true = true) ∧ (((Cont.ints a1) = (Cont.ints a1)) ∧ ((Cont.ints a2) = (Cont.ints a2)) ∧ ((Cont.ints a3) = (Cont.ints a3)) ∧ True) ∧ True) ∧ ((((Cont.ints a1) = (Cont.ints a1)) ∧ ((Cont.ints a2) = (Cont.ints a2)) ∧ ((Cont.ints a3) = (Cont.ints a3)) ∧ True) ∧ True)) ∧ (([GK.int, GK.bool] : List GK) = ([GK.int, GK.bool] : List GK)) ∧ I1 [GV.int (0 : Int), GV.bool false]) ∧ (∀ i1_0 : Int, ∀ b1_1 : Bool, I1 [GV.int i1_0, GV.bool b1_1] → ((true = true) ∧ ((True) ∧ True) ∧ ((ilt i1_0 (ilen a1)) = true → ((true = true) ∧ ((True) ∧ (True) ∧ True) ∧ (true = true) ∧ ((True) ∧ (True) ∧ (True) ∧ (NLe 0 i1_0 ∧ NLt i1_0 (ilen a1)) ∧ (True) ∧ ((True)) ∧ (True) ∧ (True) ∧ (NIs (bnot (inB (geti a1 i1_0) (1 : Int) (500 : Int))) false → True) ∧ (NIs (bnot (inB (geti a1 i1_0) (1 : Int) (500 : Int))) false → True) ∧ (NIs (bnot (inB (geti a1 i1_0) (1 : Int) (500 : Int))) false → True) ∧ (NIs (bnot (inB (geti a1 i1_0) (1 : Int) (500 : Int))) false → (NLe 0 i1_0 ∧ NLt i1_0 (ilen a2))) ∧ (NIs (bnot (inB (geti a1 i1_0) (1 : Int) (500 : Int))) false → True) ∧ (NIs (bnot (inB (geti a1 i1_0) (1 : Int) (500 : Int))) false → (True)) ∧ (NIs (bnot (inB (geti a1 i1_0) (1 : Int) (500 : Int))) false → True) ∧ (True) ∧ (True) ∧ (NIs (bite (bnot (inB (geti a1 i1_0) (1 : Int) (500 : Int))) true (bnot (inB (geti a2 i1_0) (-180 : Int) (180 : Int)))) false → True) ∧ (NIs (bite (bnot (inB (geti a1 i1_0) (1 : Int) (500 : Int))) true (bnot (inB (geti a2 i1_0) (-180 : Int) (180 : Int)))) false → True) ∧ (NIs (bite (bnot (inB (geti a1 i1_0) (1 : Int) (500 : Int))) true (bnot (inB (geti a2 i1_0) (-180 : Int) (180 : Int)))) false → True) ∧ (NIs (bite (bnot (inB (geti a1 i1_0) (1 : Int) (500 : Int))) true (bnot (inB (geti a2 i1_0) (-180 : Int) (180 : Int)))) false → (NLe 0 i1_0 ∧ NLt i1_0 (ilen a3))) ∧ (NIs (bite (bnot (inB (geti a1 i1_0) (1 : Int) (500 : Int))) true (bnot (inB (geti a2 i1_0) (-180 : Int) (180 : Int)))) false → True) ∧ (NIs (bite (bnot (inB (geti a1 i1_0) (1 : Int) (500 : Int))) true (bnot (inB (geti a2 i1_0) (-180 : Int) (180 : Int)))) false → True) ∧ (NIs (bite (bnot (inB (geti a1 i1_0) (1 : Int) (500 : Int))) true (bnot (inB (geti a2 i1_0) (-180 : Int) (180 : Int)))) false → True) ∧ (NIs (bite (bnot (inB (geti a1 i1_0) (1 : Int) (500 : Int))) true (bnot (inB (geti a2 i1_0) (-180 : Int) (180 : Int)))) false → True) ∧ (NIs (bite (bnot (inB (geti a1 i1_0) (1 : Int) (500 : Int))) true (bnot (inB (geti a2 i1_0) (-180 : Int) (180 : Int)))) false → (NLe 0 i1_0 ∧ NLt i1_0 (ilen a2))) ∧ (NIs (bite (bnot (inB (geti a1 i1_0) (1 : Int) (500 : Int))) true (bnot (inB (geti a2 i1_0) (-180 : Int) (180 : Int)))) false → True) ∧ (NIs (bite (bnot (inB (geti a1 i1_0) (1 : Int) (500 : Int))) true (bnot (inB (geti a2 i1_0) (-180 : Int) (180 : Int)))) false → (True)) ∧ (NIs (bite (bnot (inB (geti a1 i1_0) (1 : Int) (500 : Int))) true (bnot (inB (geti a2 i1_0) (-180 : Int) (180 : Int)))) false → True) ∧ (True) ∧ True) ∧ ((bite (bite (bnot (inB (geti a1 i1_0) (1 : Int) (500 : Int))) true (bnot (inB (geti a2 i1_0) (-180 : Int) (180 : Int)))) true (bnot (inB (geti a3 i1_0) (geti a2 i1_0) (180 : Int)))) = true → ((true = true) ∧ ((True) ∧ True) ∧ ((false : Bool) = (armB a1 a2 a3)) ∧ True)) ∧ ((bite (bite (bnot (inB (geti a1 i1_0) (1 : Int) (500 : Int))) true (bnot (inB (geti a2 i1_0) (-180 : Int) (180 : Int)))) true (bnot (inB (geti a3 i1_0) (geti a2 i1_0) (180 : Int)))) = false → ((true = true) ∧ ((True) ∧ (True) ∧ True) ∧ ((true = true) ∧ (((b1_1 : Bool) = b1_1) ∧ (((iadd i1_0 (1 : Int)) : Int) = (iadd i1_0 (1 : Int))) ∧ (((ilen a1) : Int) = (ilen a1)) ∧ (((ilen a1) : Int) = (ilen a1)) ∧ (((inB (ilen a1) (1 : Int) (4 : Int)) : Bool) = (inB (ilen a1) (1 : Int) (4 : Int))) ∧ (((bnot (inB (ilen a1) (1 : Int) (4 : Int))) : Bool) = (bnot (inB (ilen a1) (1 : Int) (4 : Int)))) ∧ (((bnot (inB (ilen a1) (1 : Int) (4 : Int))) : Bool) = (bnot (inB (ilen a1) (1 : Int) (4 : Int)))) ∧ (((bite (bnot (inB (ilen a1) (1 : Int) (4 : Int))) true (bnot (ieq (ilen a2) (ilen a1)))) : Bool) = (bite (bnot (inB (ilen a1) (1 : Int) (4 : Int))) true (bnot (ieq (ilen a2) (ilen a1))))) ∧ (((bite (bnot (inB (ilen a1) (1 : Int) (4 : Int))) true (bnot (ieq (ilen a2) (ilen a1)))) : Bool) = (bite (bnot (inB (ilen a1) (1 : Int) (4 : Int))) true (bnot (ieq (ilen a2) (ilen a1))))) ∧ (((bite (bite (bnot (inB (ilen a1) (1 : Int) (4 : Int))) true (bnot (ieq (ilen a2) (ilen a1)))) true (bnot (ieq (ilen a3) (ilen a1)))) : Bool) = (bite (bite (bnot (inB (ilen a1) (1 : Int) (4 : Int))) true (bnot (ieq (ilen a2) (ilen a1)))) true (bnot (ieq (ilen a3) (ilen a1))))) ∧ (true = true) ∧ ((Cont.ints a1) = (Cont.ints a1)) ∧ (((ilen a1) : Int) = (ilen a1)) ∧ (((ilen a1) : Int) = (ilen a1)) ∧ (true = true) ∧ (((Cont.ints a1) = (Cont.ints a1)) ∧ ((Cont.ints a2) = (Cont.ints a2)) ∧ ((Cont.ints a3) = (Cont.ints a3)) ∧ True) ∧ True) ∧ ((((Cont.ints a1) = (Cont.ints a1)) ∧ ((Cont.ints a2) = (Cont.ints a2)) ∧ ((Cont.ints a3) = (Cont.ints a3)) ∧ True) ∧ True)) ∧ ((([GK.int, GK.bool] : List GK) = ([GK.int, GK.bool] : List GK)) ∧ I1 [GV.int (iadd i1_0 (1 : Int)), GV.bool b1_1] ∧ μ1 [GV.int (iadd i1_0 (1 : Int)), GV.bool b1_1] < μ1 [GV.int i1_0, GV.bool b1_1]))))) ∧ ((ilt i1_0 (ilen a1)) = false → ((true = true) ∧ ((True) ∧ True) ∧ ((true : Bool) = (armB a1 a2 a3)) ∧ True))))))) = ev sig_impl_ArmValid xs_impl_ArmValid Tryd.f53.ntmps (fun b => if b == 0 then [.v 26, .v 2] else []) (codeOf Tryd.f53) 0 (initS [.agg [.view (.ints a1), .view (.ints a2), .view (.ints a3)]]) (retK Tryd.f53.results.toList [.s (.bool (armB a1 a2 a3))]) := by kernel_rfl
set_option maxHeartbeats 400000 in
theorem F_impl_ArmValid : FunOK 53 g_impl_ArmValid := by
  refine fun_F (by kernel_rfl) Tryd.func53 rfl (by kernel_rfl) sig_impl_ArmValid_ok xs_impl_ArmValid_ok ?_
  intro avs sg h hn hl
  unfold g_impl_ArmValid at h
  split at h
  · rename_i a1 a2 a3
    injection h with h; subst h
    refine ⟨by kernel_rfl, fun b => if b == 0 then [.v 26, .v 2] else [], Eq.mp (V_impl_ArmValid a1 a2 a3) ?_⟩
    simp only [true_and, and_true, implies_true, and_self, forall_const, true_implies, lenA, lenL, SV.lenOK, Cont.lenOK] at hn hl ⊢
    have h0 := ilen_0 a1
    simp only [ilt_t, ilt_f, ile_t, ile_f, ieq_t, ieq_f, bnot_e, band_e, bite_and, bite_or, NLt_e, NLe_e, NNe_e, NIs_e, imax_e, imin_e, irem_e, Bool.not_eq_true', Bool.not_eq_false', Bool.and_eq_true, Bool.or_eq_true, Bool.or_eq_false_iff, Bool.and_eq_false_iff, Cont.pts.injEq, Cont.ints.injEq, Cont.bools.injEq, Cont.ptss.injEq, Cont.intss.injEq, Cont.boolss.injEq, true_and, and_true, implies_true]
    refine ⟨fun h => ?_, fun h => ?_⟩
    · unfold armB
      rcases h with (h | h) | h <;> simp [h]
    · obtain ⟨⟨c1, c2⟩, c3⟩ := h
      refine ⟨fun | .int k :: _ => 0 ≤ k ∧ k ≤ ilen a1 ∧ (∀ j, 0 ≤ j → j < k → armE a1 a2 a3 j = true) | _ => False, fun | .int k :: _ => (ilen a1 - k).toNat | _ => 0, ?_, ?_⟩
      · exact ⟨Int.le_refl 0, h0, fun j h0 h1 => absurd h1 (by omega)⟩
      · rintro k _ ⟨hk0, hk1, hk⟩
        simp only [ilt_t, ilt_f, ile_t, ile_f, ieq_t, ieq_f, bnot_e, band_e, bite_and, bite_or, NLt_e, NLe_e, NNe_e, NIs_e, imax_e, imin_e, irem_e, Bool.not_eq_true', Bool.not_eq_false', Bool.and_eq_true, Bool.or_eq_true, Bool.or_eq_false_iff, Bool.and_eq_false_iff, Cont.pts.injEq, Cont.ints.injEq, Cont.bools.injEq, Cont.ptss.injEq, Cont.intss.injEq, Cont.boolss.injEq, true_and, and_true, implies_true]
        refine ⟨fun hc => ⟨⟨⟨hk0, hc⟩, fun _ => ⟨hk0, by omega⟩, fun _ => ⟨hk0, by omega⟩, fun _ => ⟨hk0, by omega⟩⟩, fun hv => ?_, fun hv => ?_⟩, fun hc => ?_⟩
        · have hE : armE a1 a2 a3 k = false := by unfold armE; rcases hv with (hv | hv) | hv <;> simp [hv]
          unfold armB; rw [allN_no k hk0 hc hE]; simp
        · have hE : armE a1 a2 a3 k = true := by unfold armE; rw [hv.1.1, hv.1.2, hv.2]; rfl
          rw [iadd_1 hk0 hc hl.1]
          exact ⟨⟨by omega, by omega, upTo hk hE⟩, by omega⟩
        · unfold armB; rw [allN_mk fun j h0 h1 => hk j h0 (by omega), c1]; simp [c2, c3]
  · cases h
end Go.Proofs.YtejiomhoflnboaaDoor

/- Contracts by evaluation, part 1. -/
import Derived.Test.YtdpokkegkedlfaaPush
namespace Go.Proofs.Ytdpokkegkedlfaa
open Go.ChangeShapes Go.WideShapes Go.ChangeAt Go.RowKit
set_option maxRecDepth 100000
set_option linter.unusedSimpArgs false
set_option linter.unusedVariables false
theorem bxor_self (a : Bool) : bxor a a = false := by cases a <;> simp [bxor]
theorem getb_setb {l : List Bool} {i j : Int} {x : Bool} (h0 : 0 ≤ i) (h1 : i < ilen l) (h2 : 0 ≤ j) : getb (setb l i x) j = if j = i then x else getb l j := by
  unfold ilen at h1
  unfold getb setb
  by_cases h : j = i
  · subst h; simp [List.getD_eq_getElem?_getD, List.getElem?_set, show j.toNat < l.length by omega]
  · rw [if_neg h]; simp [List.getD_eq_getElem?_getD, List.getElem?_set, show ¬ i.toNat = j.toNat by omega]
theorem bools_ext {l m : List Bool} (h : ilen l = ilen m) (hx : ∀ j, 0 ≤ j → j < ilen l → getb l j = getb m j) : l = m := by
  unfold ilen at h hx
  refine List.ext_getElem (by omega) fun i h1 h2 => ?_
  have e1 := hx i (by omega) (by omega)
  simpa [getb, List.getD_eq_getElem?_getD, h1, h2] using e1
def eqBo (l m : List Bool) : Bool := decide (ilen l = ilen m) && allN (ilen l) fun j => getb l j == getb m j
theorem eqBo_same (l : List Bool) : eqBo l l = true := by
  unfold eqBo
  rw [allN_mk fun j _ _ => by simp]
  simp
def eqBB (l m : List (List Bool)) : Bool := decide (ilen l = ilen m) && allN (ilen l) fun j => eqBo (getl l j) (getl m j)
theorem eqBB_same (l : List (List Bool)) : eqBB l l = true := by
  unfold eqBB
  rw [allN_mk fun j _ _ => eqBo_same _]
  simp
theorem bxor_f {a b : Bool} : (bxor a b = false) = (a = b) := by cases a <;> cases b <;> simp [bxor]
theorem bxor_t {a b : Bool} : (bxor a b = true) = (a ≠ b) := by cases a <;> cases b <;> simp [bxor]
theorem getl_setl {α : Type} {l : List (List α)} {i j : Int} {x : List α} (h0 : 0 ≤ i) (h1 : i < ilen l) (h2 : 0 ≤ j) : getl (setl l i x) j = if j = i then x else getl l j := by
  unfold ilen at h1
  unfold getl setl
  by_cases h : j = i
  · subst h; simp [List.getD_eq_getElem?_getD, List.getElem?_set, show j.toNat < l.length by omega]
  · rw [if_neg h]; simp [List.getD_eq_getElem?_getD, List.getElem?_set, show ¬ i.toNat = j.toNat by omega]
theorem lists_ext {α : Type} {l m : List (List α)} (h : ilen l = ilen m) (hx : ∀ j, 0 ≤ j → j < ilen l → getl l j = getl m j) : l = m := by
  unfold ilen at h hx
  refine List.ext_getElem (by omega) fun i h1 h2 => ?_
  have e1 := hx i (by omega) (by omega)
  simpa [getl, List.getD_eq_getElem?_getD, h1, h2] using e1
theorem getl_len {α : Type} {l : List (List α)} (h : ∀ m ∈ l, ilen m ≤ 9223372036854775807) {j : Int} (h0 : 0 ≤ j) (h1 : j < ilen l) : ilen (getl l j) ≤ 9223372036854775807 := by
  unfold ilen at h1
  unfold getl
  rw [List.getD_eq_getElem?_getD, List.getElem?_eq_getElem (by omega)]
  exact h _ (List.getElem_mem _)
def armE (a1 a2 a3 : List Int) (k : Int) : Bool := inB (geti a1 k) 1 500 && inB (geti a2 k) (-180) 180 && inB (geti a3 k) (geti a2 k) 180
def armB (a1 a2 a3 : List Int) : Bool := inB (ilen a1) 1 4 && decide (ilen a2 = ilen a1) && decide (ilen a3 = ilen a1) && allN (ilen a1) (armE a1 a2 a3)
def crW (a1 a2 b1 b2 c1 c2 : Int) : Int := isub (imul (isub b1 a1) (isub c2 a2)) (imul (isub b2 a2) (isub c1 a1))
def cr (l : List Pt) (i j k : Int) : Int := crW (getx l i) (gety l i) (getx l j) (gety l j) (getx l k) (gety l k)
def nx (l : List Pt) (i : Int) : Int := (i + 1).tmod (ilen l)
def convE (l : List Pt) (i j : Int) : Bool := decide (j = i ∨ j = nx l i ∨ 0 < cr l i (nx l i) j)
def convB (l : List Pt) : Bool := inB (ilen l) 3 8 && allB l && allN (ilen l) fun i => allN (ilen l) fun j => convE l i j
theorem nx_in {l : List Pt} {i : Int} (h0 : 0 ≤ i) (h1 : i < ilen l) : 0 ≤ nx l i ∧ nx l i < ilen l ∧ ((i + 1 < ilen l ∧ nx l i = i + 1) ∨ (i + 1 = ilen l ∧ nx l i = 0)) := by
  have e : nx l i = (i + 1) % ilen l := Int.tmod_eq_emod_of_nonneg (by omega)
  rcases Int.lt_or_le (i + 1) (ilen l) with h | h
  · rw [e, Int.emod_eq_of_lt (by omega) h]; omega
  · have h2 : i + 1 = ilen l := by omega
    rw [e, h2, Int.emod_self]; omega
theorem allN_up {f : Int → Bool} {k : Int} (h : ∀ j, 0 ≤ j → j < k → f j = true) (hk : f k = true) : ∀ j, 0 ≤ j → j < k + 1 → f j = true := by
  intro j h0 h1
  rcases Int.lt_or_le j k with h2 | h2
  · exact h j h0 h2
  · rw [show j = k by omega]; exact hk
theorem upTo {P : Int → Prop} {k : Int} (h : ∀ j, 0 ≤ j → j < k → P j) (hk : P k) : ∀ j, 0 ≤ j → j < k + 1 → P j := by
  intro j h0 h1
  rcases Int.lt_or_le j k with h2 | h2
  · exact h j h0 h2
  · rw [show j = k by omega]; exact hk
theorem iadd_1 {k n : Int} (h0 : 0 ≤ k) (h1 : k < n) (h2 : n ≤ 9223372036854775807) : iadd k 1 = k + 1 := iadd_e (by omega) (by omega)
def gsB (a1 a2 a3 : List Int) (s : Int) : Bool := armB a1 a2 a3 && decide (ilen a1 = 2) && inB s 1 360
def gsN (a2 a3 : List Int) (s i : Int) : Int := iadd (iquo (isub (geti a3 i) (geti a2 i)) s) 1
def gsK (a1 a2 a3 : List Int) (s i : Int) : Int := if gsB a1 a2 a3 s = true ∧ gsN a2 a3 s 0 ≤ 20 ∧ gsN a2 a3 s 1 ≤ 20 then gsN a2 a3 s i else 0
theorem armB_len {a1 a2 a3 : List Int} (h : armB a1 a2 a3 = true) : ilen a2 = ilen a1 ∧ ilen a3 = ilen a1 := by
  unfold armB at h
  simp only [Bool.and_eq_true, decide_eq_true_eq] at h
  exact ⟨h.1.1.2, h.1.2⟩
theorem armB_at {a1 a2 a3 : List Int} (h : armB a1 a2 a3 = true) {i : Int} (h0 : 0 ≤ i) (h1 : i < ilen a1) : (-180 ≤ geti a2 i ∧ geti a2 i ≤ 180) ∧ geti a2 i ≤ geti a3 i ∧ geti a3 i ≤ 180 := by
  unfold armB at h
  simp only [Bool.and_eq_true] at h
  have := allN_iff.1 h.2 i h0 h1
  unfold armE at this
  simp only [Bool.and_eq_true] at this
  have b1 := inB_true this.1.2; have b2 := inB_true this.2
  omega
theorem gsB_parts {a1 a2 a3 : List Int} {s : Int} (h : gsB a1 a2 a3 s = true) : armB a1 a2 a3 = true ∧ ilen a1 = 2 ∧ 1 ≤ s ∧ s ≤ 360 := by
  unfold gsB at h
  simp only [Bool.and_eq_true, decide_eq_true_eq] at h
  have := inB_true h.2
  exact ⟨h.1.1, h.1.2, this.1, this.2⟩
theorem gsN_e {a1 a2 a3 : List Int} {s i : Int} (h : gsB a1 a2 a3 s = true) (h0 : 0 ≤ i) (h1 : i < 2) : gsN a2 a3 s i = (geti a3 i - geti a2 i) / s + 1 ∧ 0 ≤ (geti a3 i - geti a2 i) / s ∧ (geti a3 i - geti a2 i) / s ≤ 360 ∧ (geti a3 i - geti a2 i) / s * s ≤ geti a3 i - geti a2 i := by
  obtain ⟨ha, hl, s1, s2⟩ := gsB_parts h
  obtain ⟨b1, b2, b3⟩ := armB_at ha h0 (by omega)
  have e1 : isub (geti a3 i) (geti a2 i) = geti a3 i - geti a2 i := isub_e (by omega) (by omega)
  have q0 : 0 ≤ (geti a3 i - geti a2 i) / s := Int.ediv_nonneg (by omega) (by omega)
  have q1 : (geti a3 i - geti a2 i) / s ≤ 360 := by
    have := Int.ediv_le_self (a := geti a3 i - geti a2 i) s (by omega)
    omega
  unfold gsN
  rw [e1, iquo_e (by omega) (by omega) s1, Int.tdiv_eq_ediv_of_nonneg (by omega), iadd_e (by omega) (by omega)]
  exact ⟨rfl, q0, q1, Int.ediv_mul_le _ (by omega)⟩
theorem gsK_cases (a1 a2 a3 : List Int) (s : Int) : (gsK a1 a2 a3 s 0 = 0 ∧ gsK a1 a2 a3 s 1 = 0) ∨ (gsB a1 a2 a3 s = true ∧ gsN a2 a3 s 0 ≤ 20 ∧ gsN a2 a3 s 1 ≤ 20 ∧ gsK a1 a2 a3 s 0 = gsN a2 a3 s 0 ∧ gsK a1 a2 a3 s 1 = gsN a2 a3 s 1 ∧ 1 ≤ gsN a2 a3 s 0 ∧ 1 ≤ gsN a2 a3 s 1) := by
  unfold gsK
  by_cases h : gsB a1 a2 a3 s = true ∧ gsN a2 a3 s 0 ≤ 20 ∧ gsN a2 a3 s 1 ≤ 20
  · rw [if_pos h, if_pos h]
    have h0 := gsN_e h.1 (i := 0) (by omega) (by omega)
    have h1 := gsN_e h.1 (i := 1) (by omega) (by omega)
    exact .inr ⟨h.1, h.2.1, h.2.2, rfl, rfl, by omega, by omega⟩
  · rw [if_neg h, if_neg h]; exact .inl ⟨rfl, rfl⟩
theorem div_anti {d s t : Int} (hd : 0 ≤ d) (hs : 1 ≤ s) (ht : s ≤ t) : d / t ≤ d / s := by
  refine (Int.le_ediv_iff_mul_le (by omega)).2 ?_
  have h1 : d / t * t ≤ d := Int.ediv_mul_le _ (by omega)
  have h0 : 0 ≤ d / t := Int.ediv_nonneg hd (by omega)
  have := Int.mul_le_mul_of_nonneg_left ht h0
  omega
theorem gsK_less {a1 a2 a3 : List Int} {s : Int} (hs : 0 ≤ s ∧ s ≤ 361) (h : gsK a1 a2 a3 s 0 ≠ 0) :
    (1 ≤ gsK a1 a2 a3 s 0 ∧ 1 ≤ gsK a1 a2 a3 s 1) ∧ (gsK a1 a2 a3 (min 360 (s + 1)) 0 ≤ gsK a1 a2 a3 s 0 ∧ gsK a1 a2 a3 (min 360 (s + 1)) 1 ≤ gsK a1 a2 a3 s 1) ∧ 1 ≤ gsK a1 a2 a3 (min 360 (s + 1)) 0 ∧ gsK a1 a2 a3 s 0 ≤ 20 ∧ gsK a1 a2 a3 s 1 ≤ 20 := by
  rcases gsK_cases a1 a2 a3 s with ⟨h0, _⟩ | ⟨hB, g0, g1, e0, e1, m0, m1⟩
  · exact absurd h0 h
  obtain ⟨ha, hl, s1, s2⟩ := gsB_parts hB
  have hB' : gsB a1 a2 a3 (min 360 (s + 1)) = true := by
    unfold gsB
    rw [ha, hl]; unfold inB; simp; omega
  obtain ⟨b1, b2, b3⟩ := armB_at ha (i := 0) (by omega) (by omega)
  obtain ⟨c1, c2, c3⟩ := armB_at ha (i := 1) (by omega) (by omega)
  have p0 := (gsN_e hB (i := 0) (by omega) (by omega)).1
  have p1 := (gsN_e hB (i := 1) (by omega) (by omega)).1
  have q0 := gsN_e hB' (i := 0) (by omega) (by omega)
  have q1 := gsN_e hB' (i := 1) (by omega) (by omega)
  have d0 := div_anti (d := geti a3 0 - geti a2 0) (s := s) (t := min 360 (s + 1)) (by omega) s1 (by omega)
  have d1 := div_anti (d := geti a3 1 - geti a2 1) (s := s) (t := min 360 (s + 1)) (by omega) s1 (by omega)
  rcases gsK_cases a1 a2 a3 (min 360 (s + 1)) with ⟨h0, h1⟩ | ⟨_, _, _, f0, f1, _, _⟩
  · exfalso
    unfold gsK at h0
    rw [if_pos ⟨hB', by omega, by omega⟩] at h0
    omega
  · omega
def eqI (l m : List Int) : Bool := decide (ilen l = ilen m) && allN (ilen l) fun j => decide (geti l j = geti m j)
theorem eqI_same (l : List Int) : eqI l l = true := by
  unfold eqI
  rw [allN_mk fun j _ _ => by simp]
  simp
def cjB (a1 a2 a3 : List Int) (s c1 c2 : Int) : Bool := inB c1 0 (isub (gsK a1 a2 a3 s 0) 1) && inB c2 0 (isub (gsK a1 a2 a3 s 1) 1)
def cjL (a1 a2 a3 : List Int) (s c1 c2 : Int) : List Int := if cjB a1 a2 a3 s c1 c2 then [iadd (geti a2 0) (imul c1 s), iadd (geti a2 1) (imul c2 s)] else []
theorem cj_parts {a1 a2 a3 : List Int} {s c1 c2 : Int} (h : cjB a1 a2 a3 s c1 c2 = true) : gsB a1 a2 a3 s = true ∧ ilen a2 = 2 ∧ ilen a3 = 2 ∧ (0 ≤ c1 ∧ c1 ≤ 19 ∧ c1 ≤ (geti a3 0 - geti a2 0) / s) ∧ (0 ≤ c2 ∧ c2 ≤ 19 ∧ c2 ≤ (geti a3 1 - geti a2 1) / s) ∧ gsK a1 a2 a3 s 0 = gsN a2 a3 s 0 ∧ gsK a1 a2 a3 s 1 = gsN a2 a3 s 1 := by
  unfold cjB at h
  simp only [Bool.and_eq_true] at h
  have b1 := inB_true h.1; have b2 := inB_true h.2
  rcases gsK_cases a1 a2 a3 s with ⟨h0, h1⟩ | ⟨hB, g0, g1, e0, e1, m0, m1⟩
  · rw [h0] at b1
    have : isub 0 1 = -1 := isub_e (by omega) (by omega)
    omega
  · obtain ⟨ha, hl, s1, s2⟩ := gsB_parts hB
    obtain ⟨l2, l3⟩ := armB_len ha
    have q0 := gsN_e hB (i := 0) (by omega) (by omega)
    have q1 := gsN_e hB (i := 1) (by omega) (by omega)
    rw [e0, isub_e (by omega) (by omega)] at b1
    rw [e1, isub_e (by omega) (by omega)] at b2
    exact ⟨hB, by omega, by omega, by omega, by omega, e0, e1⟩
theorem cj_val {a1 a2 a3 : List Int} {s c1 c2 : Int} (h : cjB a1 a2 a3 s c1 c2 = true) :
    cjL a1 a2 a3 s c1 c2 = [geti a2 0 + c1 * s, geti a2 1 + c2 * s] ∧ (iadd (geti a2 0) (imul c1 s) = geti a2 0 + c1 * s) ∧ (geti a2 0 ≤ geti a2 0 + c1 * s ∧ geti a2 0 + c1 * s ≤ geti a3 0) ∧ (geti a2 1 ≤ geti a2 1 + c2 * s ∧ geti a2 1 + c2 * s ≤ geti a3 1) := by
  obtain ⟨hB, l2, l3, p1, p2, -, -⟩ := cj_parts h
  obtain ⟨ha, hl, s1, s2⟩ := gsB_parts hB
  obtain ⟨b1, b2, b3⟩ := armB_at ha (i := 0) (by omega) (by omega)
  obtain ⟨d1, d2, d3⟩ := armB_at ha (i := 1) (by omega) (by omega)
  have q0 := gsN_e hB (i := 0) (by omega) (by omega)
  have q1 := gsN_e hB (i := 1) (by omega) (by omega)
  have m1 : 0 ≤ c1 * s := Int.mul_nonneg p1.1 (by omega)
  have m2 : 0 ≤ c2 * s := Int.mul_nonneg p2.1 (by omega)
  have n1 := Int.mul_le_mul_of_nonneg_right p1.2.2 (show 0 ≤ s by omega)
  have n2 := Int.mul_le_mul_of_nonneg_right p2.2.2 (show 0 ≤ s by omega)
  have w1 : imul c1 s = c1 * s := imul_e (by omega) (by omega)
  have w2 : imul c2 s = c2 * s := imul_e (by omega) (by omega)
  have v1 : iadd (geti a2 0) (c1 * s) = geti a2 0 + c1 * s := iadd_e (by omega) (by omega)
  have v2 : iadd (geti a2 1) (c2 * s) = geti a2 1 + c2 * s := iadd_e (by omega) (by omega)
  unfold cjL
  rw [if_pos h, w1, w2, v1, v2]
  exact ⟨rfl, rfl, by omega, by omega⟩
def jvB (a1 a2 a3 j : List Int) : Bool := armB a1 a2 a3 && decide (ilen j = ilen a1) && allN (ilen j) fun k => inB (geti j k) (geti a2 k) (geti a3 k)
theorem floor_e {a b : Int} (hb : 1 ≤ b) : (a.tmod b < 0 → a.tdiv b - 1 = a / b) ∧ (0 ≤ a.tmod b → a.tdiv b = a / b) := by
  rcases Int.le_total 0 a with h | h
  · have e1 : a.tmod b = a % b := Int.tmod_eq_emod_of_nonneg h
    have e2 : a.tdiv b = a / b := Int.tdiv_eq_ediv_of_nonneg h
    have := Int.emod_nonneg a (show b ≠ 0 by omega)
    exact ⟨fun h => by omega, fun _ => e2⟩
  · obtain ⟨c, rfl⟩ : ∃ c, a = -c := ⟨-a, by omega⟩
    have hc : 0 ≤ c := by omega
    have e1 : (-c).tmod b = -(c % b) := by rw [Int.neg_tmod, Int.tmod_eq_emod_of_nonneg hc]
    have e2 : (-c).tdiv b = -(c / b) := by rw [Int.neg_tdiv, Int.tdiv_eq_ediv_of_nonneg hc]
    have m0 := Int.emod_nonneg c (show b ≠ 0 by omega)
    have m1 := Int.emod_lt_of_pos c (show 0 < b by omega)
    have m2 := Int.emod_add_mul_ediv c b
    rw [e1, e2]
    refine ⟨fun h => ?_, fun h => ?_⟩
    · refine (((Int.ediv_emod_unique (r := b - c % b) (q := -(c / b) - 1) (show 0 < b by omega)).2 ⟨?_, by omega, by omega⟩).1).symm
      rw [Int.mul_sub, Int.mul_neg]; omega
    · refine (((Int.ediv_emod_unique (r := 0) (q := -(c / b)) (show 0 < b by omega)).2 ⟨?_, by omega, by omega⟩).1).symm
      rw [Int.mul_neg]; omega
theorem tdiv_bd {a b : Int} (hb : 1 ≤ b) (h1 : -9223372036854775807 ≤ a) (h2 : a ≤ 9223372036854775807) : iquo a b = a.tdiv b ∧ (a.tmod b < 0 → isub (a.tdiv b) 1 = a.tdiv b - 1) := by
  refine ⟨iquo_e (by omega) (by omega) hb, fun _ => ?_⟩
  have : -9223372036854775807 ≤ a.tdiv b ∧ a.tdiv b ≤ 9223372036854775807 := by
    rcases Int.le_total 0 a with h | h
    · rw [Int.tdiv_eq_ediv_of_nonneg h]
      have := Int.ediv_nonneg h (show 0 ≤ b by omega)
      have := Int.ediv_le_self b h
      omega
    · obtain ⟨c, rfl⟩ : ∃ c, a = -c := ⟨-a, by omega⟩
      rw [Int.neg_tdiv, Int.tdiv_eq_ediv_of_nonneg (show 0 ≤ c by omega)]
      have := Int.ediv_nonneg (show 0 ≤ c by omega) (show 0 ≤ b by omega)
      have := Int.ediv_le_self b (show 0 ≤ c by omega)
      omega
  exact isub_e (by omega) (by omega)
/-- The speeds that are still to be added. -/
def restN (r : Int) : Nat → Int → Int
  | 0, _ => 0
  | f + 1, v => if 0 < v then v + restN r f (v - r) else 0
theorem restN_le {r : Int} {v : Int} (h : v ≤ 0) : ∀ f, restN r f v = 0
  | 0 => rfl
  | f + 1 => by unfold restN; rw [if_neg (by omega)]
theorem restN_fuel {r : Int} (hr : 1 ≤ r) : ∀ (f g : Nat) (v : Int), v ≤ f → v ≤ g → restN r f v = restN r g v
  | 0, g, v, h1, h2 => by rw [restN_le (by omega), restN_le (by omega)]
  | f + 1, 0, v, h1, h2 => by rw [restN_le (by omega), restN_le (by omega)]
  | f + 1, g + 1, v, h1, h2 => by
    unfold restN
    by_cases hv : 0 < v
    · rw [if_pos hv, if_pos hv, restN_fuel hr f g (v - r) (by omega) (by omega)]
    · rw [if_neg hv, if_neg hv]
theorem restN_s {r v : Int} (hr : 1 ≤ r) (h0 : 0 < v) (h1 : v ≤ 200) : restN r 200 v = v + restN r 200 (v - r) := by
  have e : restN r 200 v = v + restN r 199 (v - r) := by
    show (if 0 < v then v + restN r 199 (v - r) else 0) = _
    rw [if_pos h0]
  rw [e, restN_fuel hr 199 200 (v - r) (by omega) (by omega)]
theorem restN_bd {r : Int} (hr : 1 ≤ r) : ∀ (f : Nat) (v : Int), v ≤ 200 → 0 ≤ restN r f v ∧ restN r f v ≤ 200 * f
  | 0, v, h => by unfold restN; omega
  | f + 1, v, h => by
    have := restN_bd hr f (v - r) (by omega)
    unfold restN
    split <;> omega
/-- The greatest speed, at most k, from which the distance suffices. -/
def nsN (d r : Int) : Nat → Int
  | 0 => 0
  | k + 1 => if ((k : Int) + 1) + restN r 200 ((k : Int) + 1 - r) ≤ d then (k : Int) + 1 else nsN d r k
theorem nsN_bd {d r : Int} (hr : 1 ≤ r) (hd : 0 ≤ d) : ∀ k : Nat, k ≤ 200 → 0 ≤ nsN d r k ∧ nsN d r k ≤ k ∧ nsN d r k ≤ d
  | 0, _ => by unfold nsN; omega
  | k + 1, hk => by
    have := nsN_bd hr hd k (by omega)
    have hb := restN_bd hr 200 ((k : Int) + 1 - r) (by omega)
    unfold nsN
    split <;> omega
theorem nsN_1 {d r : Int} (hr : 1 ≤ r) (hd : 1 ≤ d) : ∀ k : Nat, 1 ≤ k → k ≤ 200 → 1 ≤ nsN d r k
  | 0, h, _ => by omega
  | 1, _, _ => by
    have e : restN r 200 (((0 : Nat) : Int) + 1 - r) = 0 := restN_le (by simp only [Int.natCast_zero]; omega) _
    unfold nsN
    rw [e, if_pos (by simp only [Int.natCast_zero]; omega)]
    simp
  | k + 2, _, h => by
    have := nsN_1 hr hd (k + 1) (by omega) (by omega)
    unfold nsN
    split <;> omega
/-- The speeds of a motion. -/
def mpN (t r : Int) : Nat → Int → Int → List Int
  | 0, _, _ => []
  | f + 1, s, d => if 0 < d then nsN d r (min t (s + r)).toNat :: mpN t r f (nsN d r (min t (s + r)).toNat) (d - nsN d r (min t (s + r)).toNat) else []
theorem mpN_0 {t r s d : Int} (h : d ≤ 0) : ∀ f, mpN t r f s d = []
  | 0 => rfl
  | f + 1 => by unfold mpN; rw [if_neg (by omega)]
theorem ns_in {t r s d : Int} (hr : 1 ≤ r) (ht0 : 1 ≤ t) (ht : t ≤ 200) (hs : 0 ≤ s) (hd : 1 ≤ d) : 1 ≤ nsN d r (min t (s + r)).toNat ∧ nsN d r (min t (s + r)).toNat ≤ t ∧ nsN d r (min t (s + r)).toNat ≤ d := by
  have h1 := nsN_1 hr hd (min t (s + r)).toNat (by omega) (by omega)
  have h2 := nsN_bd hr (show 0 ≤ d by omega) (min t (s + r)).toNat (by omega)
  omega
theorem mpN_fuel {t r : Int} (hr : 1 ≤ r) (ht0 : 1 ≤ t) (ht : t ≤ 200) : ∀ (f g : Nat) (s d : Int), 0 ≤ s → d ≤ f → d ≤ g → mpN t r f s d = mpN t r g s d
  | 0, g, s, d, _, h1, h2 => by rw [mpN_0 (by omega), mpN_0 (by omega)]
  | f + 1, 0, s, d, _, h1, h2 => by rw [mpN_0 (by omega), mpN_0 (by omega)]
  | f + 1, g + 1, s, d, hs, h1, h2 => by
    unfold mpN
    by_cases hd : 0 < d
    · rw [if_pos hd, if_pos hd]
      have := ns_in (s := s) (d := d) hr ht0 ht hs (by omega)
      rw [mpN_fuel hr ht0 ht f g _ _ (by omega) (by omega) (by omega)]
    · rw [if_neg hd, if_neg hd]
theorem mpN_s {t r s d : Int} (hr : 1 ≤ r) (ht0 : 1 ≤ t) (ht : t ≤ 200) (hs : 0 ≤ s) (hd : 0 < d) : mpN t r d.toNat s d = nsN d r (min t (s + r)).toNat :: mpN t r (d - nsN d r (min t (s + r)).toNat).toNat (nsN d r (min t (s + r)).toNat) (d - nsN d r (min t (s + r)).toNat) := by
  have hn := ns_in (s := s) (d := d) hr ht0 ht hs (by omega)
  obtain ⟨f, hf⟩ : ∃ f, d.toNat = f + 1 := ⟨d.toNat - 1, by omega⟩
  rw [hf]
  show (if 0 < d then _ else _) = _
  rw [if_pos hd, mpN_fuel hr ht0 ht f (d - nsN d r (min t (s + r)).toNat).toNat _ _ (by omega) (by omega) (by omega)]
def sumI : List Int → Int
  | [] => 0
  | v :: l => v + sumI l
theorem mpN_sum {t r : Int} (hr : 1 ≤ r) (ht0 : 1 ≤ t) (ht : t ≤ 200) : ∀ (f : Nat) (s d : Int), 0 ≤ s → 0 ≤ d → d ≤ f → sumI (mpN t r f s d) = d ∧ (∀ v ∈ mpN t r f s d, 1 ≤ v ∧ v ≤ t) ∧ ((mpN t r f s d).length : Int) ≤ d
  | 0, s, d, _, h0, h1 => by unfold mpN; exact ⟨by unfold sumI; omega, by simp, by simp; omega⟩
  | f + 1, s, d, hs, h0, h1 => by
    unfold mpN
    by_cases hd : 0 < d
    · rw [if_pos hd]
      have hn := ns_in (s := s) (d := d) hr ht0 ht hs (by omega)
      obtain ⟨a1, a2, a3⟩ := mpN_sum hr ht0 ht f (nsN d r (min t (s + r)).toNat) (d - nsN d r (min t (s + r)).toNat) (by omega) (by omega) (by omega)
      refine ⟨by unfold sumI; omega, fun v hv => ?_, by simp; omega⟩
      rcases List.mem_cons.1 hv with rfl | hv
      · omega
      · exact a2 v hv
    · rw [if_neg hd]
      exact ⟨by unfold sumI; omega, by simp, by simp; omega⟩
/-! ### The part of a way -/
def shr (d p D : Int) : Int := (d * p).tdiv D
theorem tdiv_neg' (a b : Int) : (-a).tdiv b = -(a.tdiv b) := Int.neg_tdiv ..
theorem shr_pos {d p D : Int} (hd : 0 ≤ d) (hp : 0 ≤ p) : shr d p D = d * p / D := by unfold shr; rw [Int.tdiv_eq_ediv_of_nonneg (Int.mul_nonneg hd hp)]
theorem shr_neg (d p D : Int) : shr (-d) p D = -shr d p D := by unfold shr; rw [Int.neg_mul, Int.neg_tdiv]
theorem shr_bd {d p D : Int} (hd : 0 ≤ d) (hp : 0 ≤ p) (hpD : p ≤ D) (hD : 1 ≤ D) : 0 ≤ shr d p D ∧ shr d p D ≤ d := by
  rw [shr_pos hd hp]
  refine ⟨Int.ediv_nonneg (Int.mul_nonneg hd hp) (by omega), ?_⟩
  have h1 : d * p ≤ d * D := Int.mul_le_mul_of_nonneg_left hpD hd
  have h2 := Int.ediv_le_ediv (show 0 < D by omega) h1
  rwa [Int.mul_ediv_cancel _ (by omega)] at h2
theorem shr_all {d D : Int} (hD : 1 ≤ D) : shr d D D = d := by unfold shr; exact Int.mul_tdiv_cancel _ (by omega)
theorem shr_0 {d D : Int} : shr d 0 D = 0 := by unfold shr; simp
theorem shr_step {d p v D : Int} (hd : 0 ≤ d) (hdD : d ≤ D) (hp : 0 ≤ p) (hv : 0 ≤ v) (hD : 1 ≤ D) : 0 ≤ shr d (p + v) D - shr d p D ∧ shr d (p + v) D - shr d p D ≤ v := by
  rw [shr_pos hd hp, shr_pos hd (by omega)]
  have h1 : d * p ≤ d * (p + v) := Int.mul_le_mul_of_nonneg_left (by omega) hd
  have h2 := Int.ediv_le_ediv (show 0 < D by omega) h1
  have h3 : d * (p + v) ≤ d * p + v * D := by
    rw [Int.mul_add]
    have := Int.mul_le_mul_of_nonneg_right hdD hv
    rw [Int.mul_comm D v] at this
    omega
  have h4 := Int.ediv_le_ediv (show 0 < D by omega) h3
  rw [Int.add_mul_ediv_right _ _ (show D ≠ 0 by omega)] at h4
  omega
/-- of both signs -/
theorem shr_between {x y p D : Int} (hp : 0 ≤ p) (hpD : p ≤ D) (hD : 1 ≤ D) : (x ≤ y → x ≤ x + shr (y - x) p D ∧ x + shr (y - x) p D ≤ y) ∧ (y ≤ x → y ≤ x + shr (y - x) p D ∧ x + shr (y - x) p D ≤ x) := by
  refine ⟨fun h => ?_, fun h => ?_⟩
  · have := shr_bd (d := y - x) (by omega) hp hpD hD
    omega
  · have := shr_bd (d := x - y) (by omega) hp hpD hD
    have e := shr_neg (x - y) p D
    rw [show -(x - y) = y - x by omega] at e
    omega
theorem shr_move {x y p v D : Int} (h1 : y - x ≤ D) (h2 : x - y ≤ D) (hp : 0 ≤ p) (hv : 0 ≤ v) (hD : 1 ≤ D) :
    (x ≤ y → 0 ≤ shr (y - x) (p + v) D - shr (y - x) p D ∧ shr (y - x) (p + v) D - shr (y - x) p D ≤ v) ∧ (y ≤ x → -v ≤ shr (y - x) (p + v) D - shr (y - x) p D ∧ shr (y - x) (p + v) D - shr (y - x) p D ≤ 0) := by
  refine ⟨fun h => shr_step (by omega) h1 hp hv hD, fun h => ?_⟩
  have := shr_step (d := x - y) (by omega) h2 hp hv hD
  have e1 := shr_neg (x - y) p D
  have e2 := shr_neg (x - y) (p + v) D
  rw [show -(x - y) = y - x by omega] at e1 e2
  omega

def lfB (t r : Int) : Bool := inB t 1 200 && inB r 1 50
def sdF (s r : Int) : Int := if inB s 0 200 && inB r 1 50 then restN r 200 (s - r) else -1
def nsF (s d t r : Int) : Int := if inB s 0 200 && inB d 0 5000 && lfB t r then nsN d r (min t (s + r)).toNat else -1
def mpF (d t r : Int) : List Int := if inB d 0 5000 && lfB t r then mpN t r d.toNat 0 d else []

theorem nsN_step {d r v : Int} (h : 1 ≤ v) : nsN d r v.toNat = if v + restN r 200 (v - r) ≤ d then v else nsN d r (v - 1).toNat := by
  obtain ⟨k, hk⟩ : ∃ k : Nat, v = (k : Int) + 1 := ⟨(v - 1).toNat, by omega⟩
  subst hk
  rw [show ((k : Int) + 1).toNat = k + 1 by omega, show ((k : Int) + 1 - 1).toNat = k by omega]
  rfl
theorem sdF_e {v r : Int} (hv : 0 ≤ v ∧ v ≤ 200) (hr : inB r 1 50 = true) : sdF v r = restN r 200 (v - r) := by
  have : inB v 0 200 = true := by unfold inB; simp; omega
  unfold sdF; rw [this, hr]; rfl
theorem lf_parts {t r : Int} (h : lfB t r = true) : (1 ≤ t ∧ t ≤ 200) ∧ (1 ≤ r ∧ r ≤ 50) ∧ inB r 1 50 = true := by
  unfold lfB at h
  simp only [Bool.and_eq_true] at h
  exact ⟨inB_true h.1, inB_true h.2, h.2⟩
theorem nsF_e {s d t r : Int} (hs : 0 ≤ s ∧ s ≤ 200) (hd : 0 ≤ d ∧ d ≤ 5000) (h : lfB t r = true) : nsF s d t r = nsN d r (min t (s + r)).toNat := by
  have h1 : inB s 0 200 = true := by unfold inB; simp; omega
  have h2 : inB d 0 5000 = true := by unfold inB; simp; omega
  unfold nsF; rw [h1, h2, h]; rfl
theorem sumI_app (a b : List Int) : sumI (a ++ b) = sumI a + sumI b := by
  induction a with
  | nil => unfold sumI; simp
  | cons v a ih =>
    show v + sumI (a ++ b) = v + sumI a + sumI b
    rw [ih]; omega
theorem sumI_nn {l : List Int} (h : ∀ v ∈ l, 0 ≤ v) : 0 ≤ sumI l := by
  induction l with
  | nil => unfold sumI; omega
  | cons v l ih =>
    have h1 := h v (by simp)
    have h2 := ih fun w hw => h w (by simp [hw])
    show 0 ≤ v + sumI l
    omega
def pS (l : List Int) (k : Int) : Int := sumI (l.take k.toNat)
theorem pS_0 (l : List Int) : pS l 0 = 0 := rfl
theorem pS_s {l : List Int} {k : Int} (h0 : 0 ≤ k) (h1 : k < ilen l) : pS l (k + 1) = pS l k + geti l k := by
  unfold ilen at h1
  unfold pS geti
  rw [show (k + 1).toNat = k.toNat + 1 by omega, List.take_add_one, sumI_app]
  have : k.toNat < l.length := by omega
  simp [List.getD_eq_getElem?_getD, this, sumI]
theorem pS_all (l : List Int) : pS l (ilen l) = sumI l := by
  unfold pS ilen
  simp
theorem pS_bd {l : List Int} (h : ∀ v ∈ l, 0 ≤ v) (k : Int) : 0 ≤ pS l k ∧ pS l k ≤ sumI l := by
  unfold pS
  have h1 := sumI_nn (l := l.take k.toNat) fun v hv => h v (List.mem_of_mem_take hv)
  have h2 := sumI_nn (l := l.drop k.toNat) fun v hv => h v (List.mem_of_mem_drop hv)
  have h3 := sumI_app (l.take k.toNat) (l.drop k.toNat)
  rw [List.take_append_drop] at h3
  omega
theorem geti_mem {l : List Int} {k : Int} (h0 : 0 ≤ k) (h1 : k < ilen l) : geti l k ∈ l := by
  unfold ilen at h1
  unfold geti
  have : k.toNat < l.length := by omega
  simp [List.getD_eq_getElem?_getD, this]
def rowE (f t : List Int) (p D j : Int) : Int := geti f j + shr (geti t j - geti f j) p D
def rowK (f t : List Int) (p D k : Int) : List Int := (List.range k.toNat).map fun (j : Nat) => rowE f t p D j
def rowL (f t : List Int) (p D : Int) : List Int := rowK f t p D (ilen f)
theorem rowK_len {f t : List Int} {p D k : Int} (h : 0 ≤ k) : ilen (rowK f t p D k) = k := by unfold ilen rowK; simp; omega
theorem rowK_s {f t : List Int} {p D k : Int} (h : 0 ≤ k) : iapp (rowK f t p D k) [rowE f t p D k] = rowK f t p D (k + 1) := by
  unfold iapp rowK
  rw [show (k + 1).toNat = k.toNat + 1 by omega, List.range_succ, List.map_append]
  simp [Int.toNat_of_nonneg h]
theorem rowK_get {f t : List Int} {p D n k : Int} (h0 : 0 ≤ k) (h1 : k < n) : geti (rowK f t p D n) k = rowE f t p D k := by
  unfold geti rowK
  have : k.toNat < n.toNat := by omega
  simp [List.getD_eq_getElem?_getD, this, Int.toNat_of_nonneg h0]
def mvK (f t P : List Int) (D k : Int) : List (List Int) := (List.range k.toNat).map fun (i : Nat) => rowL f t (pS P (i + 1)) D
theorem mvK_len {f t P : List Int} {D k : Int} (h : 0 ≤ k) : ilen (mvK f t P D k) = k := by unfold ilen mvK; simp; omega
theorem mvK_s {f t P : List Int} {D k : Int} (h : 0 ≤ k) : iapp (mvK f t P D k) [rowL f t (pS P (k + 1)) D] = mvK f t P D (k + 1) := by
  unfold iapp mvK
  rw [show (k + 1).toNat = k.toNat + 1 by omega, List.range_succ, List.map_append]
  simp [Int.toNat_of_nonneg h]
theorem mvK_get {f t P : List Int} {D n k : Int} (h0 : 0 ≤ k) (h1 : k < n) : getl (mvK f t P D n) k = rowL f t (pS P (k + 1)) D := by
  unfold getl mvK
  have : k.toNat < n.toNat := by omega
  simp [List.getD_eq_getElem?_getD, this, Int.toNat_of_nonneg h0]
def mostL (a b : List Int) (k : Int) : Int := foldN k (fun m i => max m (max (geti b i - geti a i) (geti a i - geti b i))) 0
theorem mostL_1 {a b : List Int} {k : Int} (h : 0 ≤ k) : mostL a b (k + 1) = max (mostL a b k) (max (geti b k - geti a k) (geti a k - geti b k)) := foldN_1 h
def nearL (a b : List Int) (n : Int) : Prop := ∀ j, 0 ≤ j → j < n → (-180 ≤ geti a j ∧ geti a j ≤ 180) ∧ (-180 ≤ geti b j ∧ geti b j ≤ 180)
theorem mostL_bd {a b : List Int} {n : Int} (h : nearL a b n) : ∀ k : Nat, (k : Int) ≤ n → 0 ≤ mostL a b k ∧ mostL a b k ≤ 360 ∧ ∀ j : Int, 0 ≤ j → j < k → geti b j - geti a j ≤ mostL a b k ∧ geti a j - geti b j ≤ mostL a b k
  | 0, _ => by
    have : mostL a b ((0 : Nat) : Int) = 0 := rfl
    rw [this]
    exact ⟨by omega, by omega, fun j h0 h1 => by omega⟩
  | k + 1, hk => by
    obtain ⟨h1, h2, h3⟩ := mostL_bd h k (by omega)
    have hn := h k (by omega) (by omega)
    rw [show ((k + 1 : Nat) : Int) = (k : Int) + 1 by omega, mostL_1 (by omega)]
    refine ⟨by omega, by omega, fun j j0 j1 => ?_⟩
    rcases Int.lt_or_le j k with hj | hj
    · have := h3 j j0 hj; omega
    · rw [show j = k by omega]; omega
theorem mostL_in {a b : List Int} {n : Int} (h : nearL a b n) {k : Int} (h0 : 0 ≤ k) (h1 : k ≤ n) : 0 ≤ mostL a b k ∧ mostL a b k ≤ 360 ∧ ∀ j : Int, 0 ≤ j → j < k → geti b j - geti a j ≤ mostL a b k ∧ geti a j - geti b j ≤ mostL a b k := by
  have := mostL_bd h k.toNat (by omega)
  rwa [Int.toNat_of_nonneg h0] at this
def okM (a1 a2 a3 f t : List Int) (top rise : Int) : Bool := jvB a1 a2 a3 f && jvB a1 a2 a3 t && lfB top rise
def mvP (f t : List Int) (top rise : Int) : List Int := mpF (mostL f t (ilen f)) top rise
def mvF (a1 a2 a3 f t : List Int) (top rise : Int) : List (List Int) := if okM a1 a2 a3 f t top rise then mvK f t (mvP f t top rise) (mostL f t (ilen f)) (ilen (mvP f t top rise)) else []
theorem jv_parts {a1 a2 a3 j : List Int} (h : jvB a1 a2 a3 j = true) : armB a1 a2 a3 = true ∧ ilen j = ilen a1 ∧ ∀ k, 0 ≤ k → k < ilen j → (geti a2 k ≤ geti j k ∧ geti j k ≤ geti a3 k) ∧ (-180 ≤ geti j k ∧ geti j k ≤ 180) := by
  unfold jvB at h
  simp only [Bool.and_eq_true, decide_eq_true_eq] at h
  obtain ⟨⟨ha, hl⟩, hx⟩ := h
  refine ⟨ha, hl, fun k k0 k1 => ?_⟩
  have b := inB_true (allN_iff.1 hx k k0 k1)
  have := armB_at ha k0 (by omega)
  omega
theorem ok_parts {a1 a2 a3 f t : List Int} {top rise : Int} (h : okM a1 a2 a3 f t top rise = true) : jvB a1 a2 a3 f = true ∧ jvB a1 a2 a3 t = true ∧ lfB top rise = true ∧ (1 ≤ ilen f ∧ ilen f ≤ 4) ∧ ilen t = ilen f ∧ nearL f t (ilen f) ∧
    (0 ≤ mostL f t (ilen f) ∧ mostL f t (ilen f) ≤ 360) ∧ (sumI (mvP f t top rise) = mostL f t (ilen f) ∧ (∀ v ∈ mvP f t top rise, 1 ≤ v ∧ v ≤ top) ∧ ilen (mvP f t top rise) ≤ mostL f t (ilen f)) := by
  unfold okM at h
  simp only [Bool.and_eq_true] at h
  obtain ⟨⟨h1, h2⟩, h3⟩ := h
  obtain ⟨ha, l1, x1⟩ := jv_parts h1
  obtain ⟨_, l2, x2⟩ := jv_parts h2
  have hn : nearL f t (ilen f) := fun j j0 j1 => ⟨(x1 j j0 j1).2, (x2 j j0 (by omega)).2⟩
  have hm := mostL_in hn (ilen_0 f) (Int.le_refl _)
  have hla : 1 ≤ ilen a1 ∧ ilen a1 ≤ 4 := by
    have := ha
    unfold armB at this
    simp only [Bool.and_eq_true] at this
    exact inB_true this.1.1.1
  obtain ⟨ht, hr, _⟩ := lf_parts h3
  have e : mvP f t top rise = mpN top rise (mostL f t (ilen f)).toNat 0 (mostL f t (ilen f)) := by
    have : inB (mostL f t (ilen f)) 0 5000 = true := by unfold inB; simp; omega
    unfold mvP mpF; rw [this, h3]; rfl
  have hs := mpN_sum hr.1 ht.1 ht.2 (mostL f t (ilen f)).toNat 0 (mostL f t (ilen f)) (by omega) (by omega) (by omega)
  rw [← e] at hs
  exact ⟨h1, h2, h3, by omega, by omega, hn, ⟨hm.1, hm.2.1⟩, hs.1, hs.2.1, by unfold ilen at *; exact hs.2.2⟩
theorem rowL_len (f t : List Int) (p D : Int) : ilen (rowL f t p D) = ilen f := rowK_len (ilen_0 f)
theorem rowL_get {f t : List Int} {p D k : Int} (h0 : 0 ≤ k) (h1 : k < ilen f) : geti (rowL f t p D) k = rowE f t p D k := rowK_get h0 h1
theorem rowL_0 (f t : List Int) (D : Int) : rowL f t 0 D = f := by
  refine ints_ext (rowL_len _ _ _ _) fun j j0 j1 => ?_
  rw [rowL_len] at j1
  rw [rowL_get j0 j1]; unfold rowE; rw [shr_0]; omega
theorem rowL_D {f t : List Int} {D : Int} (hD : 1 ≤ D) (hl : ilen t = ilen f) : rowL f t D D = t := by
  refine ints_ext (by rw [rowL_len, hl]) fun j j0 j1 => ?_
  rw [rowL_len] at j1
  rw [rowL_get j0 j1]; unfold rowE; rw [shr_all hD]; omega
def eqLI (l m : List (List Int)) : Bool := decide (ilen l = ilen m) && allN (ilen l) fun j => eqI (getl l j) (getl m j)
theorem eqLI_same (l : List (List Int)) : eqLI l l = true := by
  unfold eqLI
  rw [allN_mk fun j _ _ => eqI_same _]
  simp
def g_laws_FnExactMoveJoints : List AV → Option Sg
  | [.agg [.view (.ints a1), .view (.ints a2), .view (.ints a3)], .s (.view (.ints f)), .s (.view (.ints t)), .s (.int top), .s (.int rise)] => some ⟨True, [.s (.bool (true))]⟩
  | _ => none
def szI (k n : Int) : Int := if k ≤ n then n - k else -1
def g_laws_szIntS : List AV → Option Sg
  | [.s (.view (.ints l)), .s (.int n)] => some ⟨0 ≤ n ∧ n ≤ 1048576, [.s (.int (szI (ilen l) n))]⟩
  | _ => none
def sig_laws_szIntS : FuncId → List AV → Option Sg := sigL []
def xs_laws_szIntS : XS := ⟨xsigL [], ysigL []⟩
theorem sig_laws_szIntS_ok : SigOK sig_laws_szIntS := sigL_nil
theorem xs_laws_szIntS_ok : XSigOK xs_laws_szIntS := ⟨xsigL_nil, ysigL_nil⟩
theorem V_laws_szIntS (l : List Int) (n : Int) : ((true = true) ∧ ((True) ∧ True) ∧ (true = true) ∧ ((True) ∧ (True) ∧ (True) ∧ (True) ∧ (True) ∧ True) ∧ (true = true) ∧ ((True) ∧ (True) ∧ True) ∧ ((ilt (isub n (ilen l)) (0 : Int)) = true → ((true = true) ∧ ((True) ∧ True) ∧ (((-1 : Int) : Int) = (szI (ilen l) n)) ∧ True)) ∧ ((ilt (isub n (ilen l)) (0 : Int)) = false → ((true = true) ∧ ((True) ∧ (True) ∧ True) ∧ (((isub n (ilen l)) : Int) = (szI (ilen l) n)) ∧ True))) = ev sig_laws_szIntS xs_laws_szIntS Try.f74.ntmps (fun b => []) (codeOf Try.f74) 0 (initS [.s (.view (.ints l)), .s (.int n)]) (retK Try.f74.results.toList [.s (.int (szI (ilen l) n))]) := by kernel_rfl
set_option maxHeartbeats 400000 in
theorem F_laws_szIntS : FunOK 74 g_laws_szIntS := by
  refine fun_F (by kernel_rfl) Try.func74 rfl (by kernel_rfl) sig_laws_szIntS_ok xs_laws_szIntS_ok ?_
  intro avs sg h hn hl
  unfold g_laws_szIntS at h
  split at h
  · rename_i l n
    injection h with h; subst h
    refine ⟨by kernel_rfl, fun b => [], Eq.mp (V_laws_szIntS l n) ?_⟩
    simp only [true_and, and_true, implies_true, and_self, forall_const, true_implies, lenA, lenL, SV.lenOK, Cont.lenOK] at hn hl ⊢
    simp only [ilt_t, ilt_f, ile_t, ile_f, ieq_t, ieq_f, bnot_e, band_e, bite_and, bite_or, NLt_e, NLe_e, NNe_e, NIs_e, imax_e, imin_e, irem_e, Bool.not_eq_true', Bool.not_eq_false', Bool.and_eq_true, Bool.or_eq_true, Bool.or_eq_false_iff, Bool.and_eq_false_iff, Cont.pts.injEq, Cont.ints.injEq, Cont.bools.injEq, Cont.ptss.injEq, Cont.intss.injEq, Cont.boolss.injEq, true_and, and_true, implies_true]
    have := ilen_0 l
    rw [isub_e (by omega) (by omega)]
    unfold szI
    refine ⟨fun h => ?_, fun h => ?_⟩
    · rw [if_neg (by omega)]
    · rw [if_pos (by omega)]
  · cases h
def eqPt (p1 p2 q1 q2 : Int) : Bool := decide (p1 = q1) && decide (p2 = q2)
theorem eqPt_same (p q : Int) : eqPt p q p q = true := by simp [eqPt]
def eqL (l m : List Pt) : Bool := decide (ilen l = ilen m) && allN (ilen l) fun j => eqPt (getx l j) (gety l j) (getx m j) (gety m j)
theorem eqL_same (l : List Pt) : eqL l l = true := by
  unfold eqL
  rw [allN_mk fun j _ _ => eqPt_same _ _]
  simp
def eqLL (l m : List (List Pt)) : Bool := decide (ilen l = ilen m) && allN (ilen l) fun j => eqL (getl l j) (getl m j)
theorem eqLL_same (l : List (List Pt)) : eqLL l l = true := by
  unfold eqLL
  rw [allN_mk fun j _ _ => eqL_same _]
  simp
theorem szI_e {k n : Int} (h : 0 ≤ szI k n) : k ≤ n ∧ szI k n = n - k := by
  unfold szI at h ⊢
  split at h
  · rename_i h1; rw [if_pos h1]; exact ⟨h1, rfl⟩
  · omega
def s_laws_szArm (a1 : List Int) (a2 : List Int) (a3 : List Int) (n : Int) : SgY := ⟨0 ≤ n ∧ n ≤ 1048576, [.int], (fun | [.int k] => k < 0 ∨ (0 ≤ k ∧ k ≤ n ∧ ilen a1 ≤ n ∧ ilen a2 ≤ n ∧ ilen a3 ≤ n) | _ => False), (fun | [.int k] => [.s (.int (k))] | _ => [])⟩
def g_laws_szArm : List AV → Option SgY
  | [.agg [.view (.ints a1), .view (.ints a2), .view (.ints a3)], .s (.int n)] => some (s_laws_szArm a1 a2 a3 n)
  | _ => none
def sig_laws_szArm : FuncId → List AV → Option Sg := sigL [(74, g_laws_szIntS)]
def xs_laws_szArm : XS := ⟨xsigL [], ysigL []⟩
theorem sig_laws_szArm_ok : SigOK sig_laws_szArm := sigL_cons F_laws_szIntS sigL_nil
theorem xs_laws_szArm_ok : XSigOK xs_laws_szArm := ⟨xsigL_nil, ysigL_nil⟩
theorem V_laws_szArm (a1 : List Int) (a2 : List Int) (a3 : List Int) (n : Int) : ((true = true) ∧ ((True) ∧ (True) ∧ True) ∧ (true = true) ∧ ((True) ∧ (True) ∧ (True) ∧ ((0 ≤ n ∧ n ≤ 1048576)) ∧ (True) ∧ True) ∧ (true = true) ∧ ((True) ∧ (True) ∧ True) ∧ ((ilt (szI (ilen a1) n) (0 : Int)) = true → ((true = true) ∧ ((True) ∧ True) ∧ ∃ k : Int, ((k < 0 ∨ (0 ≤ k ∧ k ≤ n ∧ ilen a1 ≤ n ∧ ilen a2 ≤ n ∧ ilen a3 ≤ n)) ∧ ((((-1 : Int) : Int) = (k)) ∧ True)))) ∧ ((ilt (szI (ilen a1) n) (0 : Int)) = false → ((true = true) ∧ ((True) ∧ (True) ∧ (True) ∧ ((0 ≤ (szI (ilen a1) n) ∧ (szI (ilen a1) n) ≤ 1048576)) ∧ (True) ∧ True) ∧ (true = true) ∧ ((True) ∧ (True) ∧ True) ∧ ((ilt (szI (ilen a2) (szI (ilen a1) n)) (0 : Int)) = true → ((true = true) ∧ ((True) ∧ True) ∧ ∃ k : Int, ((k < 0 ∨ (0 ≤ k ∧ k ≤ n ∧ ilen a1 ≤ n ∧ ilen a2 ≤ n ∧ ilen a3 ≤ n)) ∧ ((((-1 : Int) : Int) = (k)) ∧ True)))) ∧ ((ilt (szI (ilen a2) (szI (ilen a1) n)) (0 : Int)) = false → ((true = true) ∧ ((True) ∧ (True) ∧ (True) ∧ ((0 ≤ (szI (ilen a2) (szI (ilen a1) n)) ∧ (szI (ilen a2) (szI (ilen a1) n)) ≤ 1048576)) ∧ (True) ∧ True) ∧ (true = true) ∧ ((True) ∧ (True) ∧ True) ∧ ((ilt (szI (ilen a3) (szI (ilen a2) (szI (ilen a1) n))) (0 : Int)) = true → ((true = true) ∧ ((True) ∧ True) ∧ ∃ k : Int, ((k < 0 ∨ (0 ≤ k ∧ k ≤ n ∧ ilen a1 ≤ n ∧ ilen a2 ≤ n ∧ ilen a3 ≤ n)) ∧ ((((-1 : Int) : Int) = (k)) ∧ True)))) ∧ ((ilt (szI (ilen a3) (szI (ilen a2) (szI (ilen a1) n))) (0 : Int)) = false → ((true = true) ∧ ((True) ∧ (True) ∧ True) ∧ ∃ k : Int, ((k < 0 ∨ (0 ≤ k ∧ k ≤ n ∧ ilen a1 ≤ n ∧ ilen a2 ≤ n ∧ ilen a3 ≤ n)) ∧ ((((szI (ilen a3) (szI (ilen a2) (szI (ilen a1) n))) : Int) = (k)) ∧ True))))))))) = (fun sg => ev sig_laws_szArm xs_laws_szArm Try.f28.ntmps (fun b => []) (codeOf Try.f28) 0 (initS [.agg [.view (.ints a1), .view (.ints a2), .view (.ints a3)], .s (.int n)]) (retY Try.f28.results.toList sg.kinds sg.post sg.ret)) (s_laws_szArm a1 a2 a3 n) := by kernel_rfl
set_option maxHeartbeats 400000 in
theorem F_laws_szArm : FunY 28 g_laws_szArm := by
  refine fun_Y (by kernel_rfl) Try.func28 rfl (by kernel_rfl) sig_laws_szArm_ok xs_laws_szArm_ok ?_
  intro avs sg h hn hl
  unfold g_laws_szArm at h
  split at h
  · rename_i a1 a2 a3 n
    injection h with h; subst h
    refine ⟨by kernel_rfl, fun b => [], Eq.mp (V_laws_szArm a1 a2 a3 n) ?_⟩
    simp only [true_and, and_true, implies_true, and_self, forall_const, true_implies, lenA, lenL, SV.lenOK, Cont.lenOK, s_laws_szArm] at hn hl ⊢
    have q1 := ilen_0 a1; have q2 := ilen_0 a2; have q3 := ilen_0 a3
    simp only [ilt_t, ilt_f, ile_t, ile_f, ieq_t, ieq_f, bnot_e, band_e, bite_and, bite_or, NLt_e, NLe_e, NNe_e, NIs_e, imax_e, imin_e, irem_e, Bool.not_eq_true', Bool.not_eq_false', Bool.and_eq_true, Bool.or_eq_true, Bool.or_eq_false_iff, Bool.and_eq_false_iff, Cont.pts.injEq, Cont.ints.injEq, Cont.bools.injEq, Cont.ptss.injEq, Cont.intss.injEq, Cont.boolss.injEq, true_and, and_true, implies_true]
    refine ⟨hn, fun h => ⟨-1, .inl (by omega), rfl⟩, fun h1 => ?_⟩
    obtain ⟨e1, e2⟩ := szI_e h1
    rw [e2] at h1 ⊢
    refine ⟨by omega, fun h => ⟨-1, .inl (by omega), rfl⟩, fun h2 => ?_⟩
    obtain ⟨f1, f2⟩ := szI_e h2
    rw [f2] at h2 ⊢
    refine ⟨by omega, fun h => ⟨-1, .inl (by omega), rfl⟩, fun h3 => ?_⟩
    obtain ⟨g1, g2⟩ := szI_e h3
    exact ⟨_, .inr ⟨h3, by omega, by omega, by omega, by omega⟩, rfl⟩
  · cases h
def g_laws_toIntS : List AV → Option Sg
  | [.s (.view (.ints l))] => some ⟨ilen l ≤ 100000000, [.nrow 3 (.ints (l))]⟩
  | _ => none
def sig_laws_toIntS : FuncId → List AV → Option Sg := sigL []
def xs_laws_toIntS : XS := ⟨xsigL [], ysigL []⟩
theorem sig_laws_toIntS_ok : SigOK sig_laws_toIntS := sigL_nil
theorem xs_laws_toIntS_ok : XSigOK xs_laws_toIntS := ⟨xsigL_nil, ysigL_nil⟩
theorem V_laws_toIntS (l : List Int) : ((true = true) ∧ ((True) ∧ True) ∧ (true = true) ∧ ((True) ∧ (True) ∧ (NLe 0 (ilen l) ∧ NLe (ilen l) 100000000 ∧ NIs (ieq (ilen l) (ilen l)) true) ∧ (True) ∧ True) ∧ (true = true) ∧ ((True) ∧ True) ∧ ∃ (I1 : List GV → Prop) (μ1 : List GV → Nat), (((true = true) ∧ ((((0 : Int) : Int) = (0 : Int)) ∧ ((Cont.ints l) = (Cont.ints l)) ∧ (((ilen l) : Int) = (ilen l)) ∧ (true = true) ∧ (true = true) ∧ ((Cont.ints l) = (Cont.ints l)) ∧ True) ∧ (((true = true) ∧ ((Cont.ints (irep (ilen l) 0)) = (Cont.ints (irep (ilen l) 0)))) ∧ ((true = true) ∧ ((Cont.ints []) = (Cont.ints []))) ∧ True)) ∧ (([GK.int, GK.ints] : List GK) = ([GK.int, GK.ints] : List GK)) ∧ I1 [GV.int (0 : Int), GV.ints (irep (ilen l) 0)]) ∧ (∀ i1_0 : Int, ∀ l1_1 : List Int, I1 [GV.int i1_0, GV.ints l1_1] → ((true = true) ∧ ((True) ∧ (True) ∧ (True) ∧ (True) ∧ True) ∧ ((ilt i1_0 (ilen l)) = true → ((true = true) ∧ ((True) ∧ (True) ∧ (True) ∧ (True) ∧ (NLe 0 i1_0 ∧ NLt i1_0 (ilen l)) ∧ (True) ∧ (NLe 0 i1_0 ∧ NLt i1_0 (ilen l1_1)) ∧ True) ∧ (NLt i1_0 (ilen l1_1)) ∧ (true = true) ∧ ((True) ∧ (True) ∧ (True) ∧ True) ∧ ((true = true) ∧ ((((iadd i1_0 (1 : Int)) : Int) = (iadd i1_0 (1 : Int))) ∧ ((Cont.ints l) = (Cont.ints l)) ∧ (((ilen l) : Int) = (ilen l)) ∧ (true = true) ∧ (true = true) ∧ ((Cont.ints l) = (Cont.ints l)) ∧ True) ∧ (((true = true) ∧ ((Cont.ints (seti l1_1 i1_0 (geti l i1_0))) = (Cont.ints (seti l1_1 i1_0 (geti l i1_0))))) ∧ ((true = true) ∧ ((Cont.ints []) = (Cont.ints []))) ∧ True)) ∧ ((([GK.int, GK.ints] : List GK) = ([GK.int, GK.ints] : List GK)) ∧ I1 [GV.int (iadd i1_0 (1 : Int)), GV.ints (seti l1_1 i1_0 (geti l i1_0))] ∧ μ1 [GV.int (iadd i1_0 (1 : Int)), GV.ints (seti l1_1 i1_0 (geti l i1_0))] < μ1 [GV.int i1_0, GV.ints l1_1]))) ∧ ((ilt i1_0 (ilen l)) = false → ((true = true) ∧ ((True) ∧ (True) ∧ True) ∧ ((true = true) ∧ ((Cont.ints l1_1) = (Cont.ints (l)))) ∧ True))))) = ev sig_laws_toIntS xs_laws_toIntS Try.f38.ntmps (fun b => if b == 0 then [.v 4, .b 3] else []) (codeOf Try.f38) 0 (initS [.s (.view (.ints l))]) (retK Try.f38.results.toList [.nrow 3 (.ints (l))]) := by kernel_rfl
set_option maxHeartbeats 400000 in
theorem F_laws_toIntS : FunOK 38 g_laws_toIntS := by
  refine fun_F (by kernel_rfl) Try.func38 rfl (by kernel_rfl) sig_laws_toIntS_ok xs_laws_toIntS_ok ?_
  intro avs sg h hn hl
  unfold g_laws_toIntS at h
  split at h
  · rename_i l
    injection h with h; subst h
    refine ⟨by kernel_rfl, fun b => if b == 0 then [.v 4, .b 3] else [], Eq.mp (V_laws_toIntS l) ?_⟩
    simp only [true_and, and_true, implies_true, and_self, forall_const, true_implies, lenA, lenL, SV.lenOK, Cont.lenOK] at hn hl ⊢
    simp only [ilt_t, ilt_f, ile_t, ile_f, ieq_t, ieq_f, bnot_e, band_e, bite_and, bite_or, NLt_e, NLe_e, NNe_e, NIs_e, imax_e, imin_e, irem_e, Bool.not_eq_true', Bool.not_eq_false', Bool.and_eq_true, Bool.or_eq_true, Bool.or_eq_false_iff, Bool.and_eq_false_iff, Cont.pts.injEq, Cont.ints.injEq, Cont.bools.injEq, Cont.ptss.injEq, Cont.intss.injEq, Cont.boolss.injEq, true_and, and_true, implies_true]
    have h0 := ilen_0 l
    refine ⟨⟨h0, hn⟩, ?_⟩
    refine ⟨fun | [.int k, .ints m] => 0 ≤ k ∧ k ≤ ilen l ∧ ilen m = ilen l ∧ ∀ j, 0 ≤ j → j < k → geti m j = geti l j | _ => False, fun | [.int k, .ints m] => (ilen l - k).toNat | _ => 0, ?_, ?_⟩
    · exact ⟨Int.le_refl 0, h0, ilen_rep _ h0, fun j h0 h1 => absurd h1 (by omega)⟩
    · rintro k m ⟨hk0, hk1, hm, hk⟩
      refine ⟨fun hc => ?_, fun hc => ?_⟩
      · rw [iadd_e (by omega) (by omega)]
        refine ⟨⟨⟨hk0, hc⟩, hk0, by omega⟩, by omega, ⟨by omega, by omega, by rw [ilen_seti]; exact hm, fun j j0 j1 => ?_⟩, by dsimp only; omega⟩
        rw [geti_seti hk0 (by omega) j0]
        by_cases hj : j = k
        · simp only [hj, if_pos, and_self]
        · simp only [if_neg hj]; exact hk j j0 (by omega)
      · rw [ints_ext (l := m) (m := l) hm fun j j0 j1 => hk j j0 (by omega)]
  · cases h
def g_laws_toArm : List AV → Option Sg
  | [.agg [.view (.ints a1), .view (.ints a2), .view (.ints a3)]] => some ⟨ilen a1 ≤ 100000000 ∧ ilen a2 ≤ 100000000 ∧ ilen a3 ≤ 100000000, [.agg [.view (.ints (a1)), .view (.ints (a2)), .view (.ints (a3))]]⟩
  | _ => none
def sig_laws_toArm : FuncId → List AV → Option Sg := sigL [(38, g_laws_toIntS)]
def xs_laws_toArm : XS := ⟨xsigL [], ysigL []⟩
theorem sig_laws_toArm_ok : SigOK sig_laws_toArm := sigL_cons F_laws_toIntS sigL_nil
theorem xs_laws_toArm_ok : XSigOK xs_laws_toArm := ⟨xsigL_nil, ysigL_nil⟩
theorem V_laws_toArm (a1 : List Int) (a2 : List Int) (a3 : List Int) : ((true = true) ∧ ((True) ∧ (True) ∧ True) ∧ (true = true) ∧ ((True) ∧ True) ∧ (true = true) ∧ ((True) ∧ (True) ∧ ((ilen a1 ≤ 100000000)) ∧ (True) ∧ True) ∧ (True) ∧ (true = true) ∧ ((True) ∧ (True) ∧ ((ilen a2 ≤ 100000000)) ∧ (True) ∧ True) ∧ (True) ∧ (true = true) ∧ ((True) ∧ (True) ∧ ((ilen a3 ≤ 100000000)) ∧ (True) ∧ True) ∧ (True) ∧ (true = true) ∧ ((True) ∧ True) ∧ (True) ∧ (((true = true) ∧ ((Cont.ints (a1)) = (Cont.ints (a1)))) ∧ ((true = true) ∧ ((Cont.ints (a2)) = (Cont.ints (a2)))) ∧ ((true = true) ∧ ((Cont.ints (a3)) = (Cont.ints (a3)))) ∧ True) ∧ True) = ev sig_laws_toArm xs_laws_toArm Try.f30.ntmps (fun b => []) (codeOf Try.f30) 0 (initS [.agg [.view (.ints a1), .view (.ints a2), .view (.ints a3)]]) (retK Try.f30.results.toList [.agg [.view (.ints (a1)), .view (.ints (a2)), .view (.ints (a3))]]) := by kernel_rfl
set_option maxHeartbeats 400000 in
theorem F_laws_toArm : FunOK 30 g_laws_toArm := by
  refine fun_F (by kernel_rfl) Try.func30 rfl (by kernel_rfl) sig_laws_toArm_ok xs_laws_toArm_ok ?_
  intro avs sg h hn hl
  unfold g_laws_toArm at h
  split at h
  · rename_i a1 a2 a3
    injection h with h; subst h
    refine ⟨by kernel_rfl, fun b => [], Eq.mp (V_laws_toArm a1 a2 a3) ?_⟩
    simp only [true_and, and_true, implies_true, and_self, forall_const, true_implies, lenA, lenL, SV.lenOK, Cont.lenOK] at hn hl ⊢
    exact ⟨hn.1, hn.2.1, hn.2.2⟩
  · cases h
theorem inB_eq (n lo hi : Int) : inB n lo hi = (ile lo n && ile n hi) := by
  unfold inB ile
  by_cases h1 : lo ≤ n <;> by_cases h2 : n ≤ hi <;> simp [h1, h2]
def g_spec_l1In : List AV → Option Sg
  | [.s (.int n), .s (.int lo), .s (.int hi)] => some ⟨True, [.s (.bool (inB n lo hi))]⟩
  | _ => none
def sig_spec_l1In : FuncId → List AV → Option Sg := sigL []
def xs_spec_l1In : XS := ⟨xsigL [], ysigL []⟩
theorem sig_spec_l1In_ok : SigOK sig_spec_l1In := sigL_nil
theorem xs_spec_l1In_ok : XSigOK xs_spec_l1In := ⟨xsigL_nil, ysigL_nil⟩
theorem V_spec_l1In (n : Int) (lo : Int) (hi : Int) : ((true = true) ∧ ((True) ∧ True) ∧ (true = true) ∧ ((True) ∧ (True) ∧ (True) ∧ (True) ∧ (NIs (ile lo n) true → True) ∧ (NIs (ile lo n) true → True) ∧ (NIs (ile lo n) true → True) ∧ (True) ∧ (True) ∧ True) ∧ (((bite (ile lo n) (ile n hi) false) : Bool) = (inB n lo hi)) ∧ True) = ev sig_spec_l1In xs_spec_l1In Try.f73.ntmps (fun b => []) (codeOf Try.f73) 0 (initS [.s (.int n), .s (.int lo), .s (.int hi)]) (retK Try.f73.results.toList [.s (.bool (inB n lo hi))]) := by kernel_rfl
set_option maxHeartbeats 400000 in
theorem F_spec_l1In : FunOK 73 g_spec_l1In := by
  refine fun_F (by kernel_rfl) Try.func73 rfl (by kernel_rfl) sig_spec_l1In_ok xs_spec_l1In_ok ?_
  intro avs sg h hn hl
  unfold g_spec_l1In at h
  split at h
  · rename_i n lo hi
    injection h with h; subst h
    refine ⟨by kernel_rfl, fun b => [], Eq.mp (V_spec_l1In n lo hi) ?_⟩
    simp only [true_and, and_true, implies_true, and_self, forall_const, true_implies, lenA, lenL, SV.lenOK, Cont.lenOK] at hn hl ⊢
    simp only [bite_and, inB_eq]
  · cases h
def g_spec_ArmValid : List AV → Option Sg
  | [.agg [.view (.ints a1), .view (.ints a2), .view (.ints a3)]] => some ⟨True, [.s (.bool (armB a1 a2 a3))]⟩
  | _ => none
def sig_spec_ArmValid : FuncId → List AV → Option Sg := sigL [(73, g_spec_l1In)]
def xs_spec_ArmValid : XS := ⟨xsigL [], ysigL []⟩
theorem sig_spec_ArmValid_ok : SigOK sig_spec_ArmValid := sigL_cons F_spec_l1In sigL_nil
theorem xs_spec_ArmValid_ok : XSigOK xs_spec_ArmValid := ⟨xsigL_nil, ysigL_nil⟩
theorem V_spec_ArmValid (a1 : List Int) (a2 : List Int) (a3 : List Int) : ((true = true) ∧ ((True) ∧ (True) ∧ True) ∧ (true = true) ∧ ((True) ∧ (True) ∧ (True) ∧ (True) ∧ True) ∧ (true = true) ∧ ((True) ∧ ((True)) ∧ (True) ∧ (True) ∧ (NIs (bnot (inB (ilen a1) (1 : Int) (4 : Int))) false → True) ∧ (NIs (bnot (inB (ilen a1) (1 : Int) (4 : Int))) false → True) ∧ (NIs (bnot (inB (ilen a1) (1 : Int) (4 : Int))) false → True) ∧ (NIs (bnot (inB (ilen a1) (1 : Int) (4 : Int))) false → True) ∧ (NIs (bnot (inB (ilen a1) (1 : Int) (4 : Int))) false → True) ∧ (True) ∧ (True) ∧ (NIs (bite (bnot (inB (ilen a1) (1 : Int) (4 : Int))) true (bnot (ieq (ilen a2) (ilen a1)))) false → True) ∧ (NIs (bite (bnot (inB (ilen a1) (1 : Int) (4 : Int))) true (bnot (ieq (ilen a2) (ilen a1)))) false → True) ∧ (NIs (bite (bnot (inB (ilen a1) (1 : Int) (4 : Int))) true (bnot (ieq (ilen a2) (ilen a1)))) false → True) ∧ (NIs (bite (bnot (inB (ilen a1) (1 : Int) (4 : Int))) true (bnot (ieq (ilen a2) (ilen a1)))) false → True) ∧ (NIs (bite (bnot (inB (ilen a1) (1 : Int) (4 : Int))) true (bnot (ieq (ilen a2) (ilen a1)))) false → True) ∧ (True) ∧ True) ∧ ((bite (bite (bnot (inB (ilen a1) (1 : Int) (4 : Int))) true (bnot (ieq (ilen a2) (ilen a1)))) true (bnot (ieq (ilen a3) (ilen a1)))) = true → ((true = true) ∧ ((True) ∧ True) ∧ ((false : Bool) = (armB a1 a2 a3)) ∧ True)) ∧ ((bite (bite (bnot (inB (ilen a1) (1 : Int) (4 : Int))) true (bnot (ieq (ilen a2) (ilen a1)))) true (bnot (ieq (ilen a3) (ilen a1)))) = false → ((true = true) ∧ ((True) ∧ True) ∧ ∃ (I1 : List GV → Prop) (μ1 : List GV → Nat), (((true = true) ∧ (((false : Bool) = false) ∧ (((0 : Int) : Int) = (0 : Int)) ∧ (((ilen a1) : Int) = (ilen a1)) ∧ (((inB (ilen a1) (1 : Int) (4 : Int)) : Bool) = (inB (ilen a1) (1 : Int) (4 : Int))) ∧ (((bnot (inB (ilen a1) (1 : Int) (4 : Int))) : Bool) = (bnot (inB (ilen a1) (1 : Int) (4 : Int)))) ∧ (((bnot (inB (ilen a1) (1 : Int) (4 : Int))) : Bool) = (bnot (inB (ilen a1) (1 : Int) (4 : Int)))) ∧ (((bite (bnot (inB (ilen a1) (1 : Int) (4 : Int))) true (bnot (ieq (ilen a2) (ilen a1)))) : Bool) = (bite (bnot (inB (ilen a1) (1 : Int) (4 : Int))) true (bnot (ieq (ilen a2) (ilen a1))))) ∧ (((bite (bnot (inB (ilen a1) (1 : Int) (4 : Int))) true (bnot (ieq (ilen a2) (ilen a1)))) : Bool) = (bite (bnot (inB (ilen a1) (1 : Int) (4 : Int))) true (bnot (ieq (ilen a2) (ilen a1))))) ∧ (((bite (bite (bnot (inB (ilen a1) (1 : Int) (4 : Int))) true (bnot (ieq (ilen a2) (ilen a1)))) true (bnot (ieq (ilen a3) (ilen a1)))) : Bool) = (bite (bite (bnot (inB (ilen a1) (1 : Int) (4 : Int))) true (bnot (ieq (ilen a2) (ilen a1)))) true (bnot (ieq (ilen a3) (ilen a1))))) ∧ (true = true) ∧ ((Cont.ints a1) = (Cont.ints a1)) ∧ (((ilen a1) : Int) = (ilen a1)) ∧ (((ilen a1) : Int) = (ilen a1)) ∧ (true = true) ∧ (((Cont.ints a1) = (Cont.ints a1)) ∧ ((Cont.ints a2) = (Cont.ints a2)) ∧ ((Cont.ints a3) = (Cont.ints a3)) ∧ True) ∧ True) ∧ ((((Cont.ints a1) = (Cont.ints a1)) ∧ ((Cont.ints a2) = (Cont.ints a2)) ∧ ((Cont.ints a3) = (Cont.ints a3)) ∧ True) ∧ True)) ∧ (([GK.int, GK.bool] : List GK) = ([GK.int, GK.bool] : List GK)) ∧ I1 [GV.int (0 : Int), GV.bool false]) ∧ (∀ i1_0 : Int, ∀ b1_1 : Bool, I1 [GV.int i1_0, GV.bool b1_1] → ((true = true) ∧ ((True) ∧ (True) ∧ (True) ∧ True) ∧ ((ilt i1_0 (ilen a1)) = true → ((true = true) ∧ ((True) ∧ (True) ∧ (True) ∧ (NLe 0 i1_0 ∧ NLt i1_0 (ilen a1)) ∧ (True) ∧ ((True)) ∧ (True) ∧ (True) ∧ (NIs (bnot (inB (geti a1 i1_0) (1 : Int) (500 : Int))) false → True) ∧ (NIs (bnot (inB (geti a1 i1_0) (1 : Int) (500 : Int))) false → True) ∧ (NIs (bnot (inB (geti a1 i1_0) (1 : Int) (500 : Int))) false → True) ∧ (NIs (bnot (inB (geti a1 i1_0) (1 : Int) (500 : Int))) false → (NLe 0 i1_0 ∧ NLt i1_0 (ilen a2))) ∧ (NIs (bnot (inB (geti a1 i1_0) (1 : Int) (500 : Int))) false → True) ∧ (NIs (bnot (inB (geti a1 i1_0) (1 : Int) (500 : Int))) false → (True)) ∧ (NIs (bnot (inB (geti a1 i1_0) (1 : Int) (500 : Int))) false → True) ∧ (True) ∧ (True) ∧ (NIs (bite (bnot (inB (geti a1 i1_0) (1 : Int) (500 : Int))) true (bnot (inB (geti a2 i1_0) (-180 : Int) (180 : Int)))) false → True) ∧ (NIs (bite (bnot (inB (geti a1 i1_0) (1 : Int) (500 : Int))) true (bnot (inB (geti a2 i1_0) (-180 : Int) (180 : Int)))) false → True) ∧ (NIs (bite (bnot (inB (geti a1 i1_0) (1 : Int) (500 : Int))) true (bnot (inB (geti a2 i1_0) (-180 : Int) (180 : Int)))) false → True) ∧ (NIs (bite (bnot (inB (geti a1 i1_0) (1 : Int) (500 : Int))) true (bnot (inB (geti a2 i1_0) (-180 : Int) (180 : Int)))) false → (NLe 0 i1_0 ∧ NLt i1_0 (ilen a3))) ∧ (NIs (bite (bnot (inB (geti a1 i1_0) (1 : Int) (500 : Int))) true (bnot (inB (geti a2 i1_0) (-180 : Int) (180 : Int)))) false → True) ∧ (NIs (bite (bnot (inB (geti a1 i1_0) (1 : Int) (500 : Int))) true (bnot (inB (geti a2 i1_0) (-180 : Int) (180 : Int)))) false → True) ∧ (NIs (bite (bnot (inB (geti a1 i1_0) (1 : Int) (500 : Int))) true (bnot (inB (geti a2 i1_0) (-180 : Int) (180 : Int)))) false → True) ∧ (NIs (bite (bnot (inB (geti a1 i1_0) (1 : Int) (500 : Int))) true (bnot (inB (geti a2 i1_0) (-180 : Int) (180 : Int)))) false → True) ∧ (NIs (bite (bnot (inB (geti a1 i1_0) (1 : Int) (500 : Int))) true (bnot (inB (geti a2 i1_0) (-180 : Int) (180 : Int)))) false → (NLe 0 i1_0 ∧ NLt i1_0 (ilen a2))) ∧ (NIs (bite (bnot (inB (geti a1 i1_0) (1 : Int) (500 : Int))) true (bnot (inB (geti a2 i1_0) (-180 : Int) (180 : Int)))) false → True) ∧ (NIs (bite (bnot (inB (geti a1 i1_0) (1 : Int) (500 : Int))) true (bnot (inB (geti a2 i1_0) (-180 : Int) (180 : Int)))) false → (True)) ∧ (NIs (bite (bnot (inB (geti a1 i1_0) (1 : Int) (500 : Int))) true (bnot (inB (geti a2 i1_0) (-180 : Int) (180 : Int)))) false → True) ∧ (True) ∧ True) ∧ ((bite (bite (bnot (inB (geti a1 i1_0) (1 : Int) (500 : Int))) true (bnot (inB (geti a2 i1_0) (-180 : Int) (180 : Int)))) true (bnot (inB (geti a3 i1_0) (geti a2 i1_0) (180 : Int)))) = true → ((true = true) ∧ ((True) ∧ True) ∧ ((false : Bool) = (armB a1 a2 a3)) ∧ True)) ∧ ((bite (bite (bnot (inB (geti a1 i1_0) (1 : Int) (500 : Int))) true (bnot (inB (geti a2 i1_0) (-180 : Int) (180 : Int)))) true (bnot (inB (geti a3 i1_0) (geti a2 i1_0) (180 : Int)))) = false → ((true = true) ∧ ((True) ∧ (True) ∧ (True) ∧ True) ∧ ((true = true) ∧ (((b1_1 : Bool) = b1_1) ∧ (((iadd i1_0 (1 : Int)) : Int) = (iadd i1_0 (1 : Int))) ∧ (((ilen a1) : Int) = (ilen a1)) ∧ (((inB (ilen a1) (1 : Int) (4 : Int)) : Bool) = (inB (ilen a1) (1 : Int) (4 : Int))) ∧ (((bnot (inB (ilen a1) (1 : Int) (4 : Int))) : Bool) = (bnot (inB (ilen a1) (1 : Int) (4 : Int)))) ∧ (((bnot (inB (ilen a1) (1 : Int) (4 : Int))) : Bool) = (bnot (inB (ilen a1) (1 : Int) (4 : Int)))) ∧ (((bite (bnot (inB (ilen a1) (1 : Int) (4 : Int))) true (bnot (ieq (ilen a2) (ilen a1)))) : Bool) = (bite (bnot (inB (ilen a1) (1 : Int) (4 : Int))) true (bnot (ieq (ilen a2) (ilen a1))))) ∧ (((bite (bnot (inB (ilen a1) (1 : Int) (4 : Int))) true (bnot (ieq (ilen a2) (ilen a1)))) : Bool) = (bite (bnot (inB (ilen a1) (1 : Int) (4 : Int))) true (bnot (ieq (ilen a2) (ilen a1))))) ∧ (((bite (bite (bnot (inB (ilen a1) (1 : Int) (4 : Int))) true (bnot (ieq (ilen a2) (ilen a1)))) true (bnot (ieq (ilen a3) (ilen a1)))) : Bool) = (bite (bite (bnot (inB (ilen a1) (1 : Int) (4 : Int))) true (bnot (ieq (ilen a2) (ilen a1)))) true (bnot (ieq (ilen a3) (ilen a1))))) ∧ (true = true) ∧ ((Cont.ints a1) = (Cont.ints a1)) ∧ (((ilen a1) : Int) = (ilen a1)) ∧ (((ilen a1) : Int) = (ilen a1)) ∧ (true = true) ∧ (((Cont.ints a1) = (Cont.ints a1)) ∧ ((Cont.ints a2) = (Cont.ints a2)) ∧ ((Cont.ints a3) = (Cont.ints a3)) ∧ True) ∧ True) ∧ ((((Cont.ints a1) = (Cont.ints a1)) ∧ ((Cont.ints a2) = (Cont.ints a2)) ∧ ((Cont.ints a3) = (Cont.ints a3)) ∧ True) ∧ True)) ∧ ((([GK.int, GK.bool] : List GK) = ([GK.int, GK.bool] : List GK)) ∧ I1 [GV.int (iadd i1_0 (1 : Int)), GV.bool b1_1] ∧ μ1 [GV.int (iadd i1_0 (1 : Int)), GV.bool b1_1] < μ1 [GV.int i1_0, GV.bool b1_1]))))) ∧ ((ilt i1_0 (ilen a1)) = false → ((true = true) ∧ ((True) ∧ True) ∧ ((true : Bool) = (armB a1 a2 a3)) ∧ True))))))) = ev sig_spec_ArmValid xs_spec_ArmValid Try.f105.ntmps (fun b => if b == 0 then [.v 4, .v 2] else []) (codeOf Try.f105) 0 (initS [.agg [.view (.ints a1), .view (.ints a2), .view (.ints a3)]]) (retK Try.f105.results.toList [.s (.bool (armB a1 a2 a3))]) := by kernel_rfl
set_option maxHeartbeats 400000 in
theorem F_spec_ArmValid : FunOK 105 g_spec_ArmValid := by
  refine fun_F (by kernel_rfl) Try.func105 rfl (by kernel_rfl) sig_spec_ArmValid_ok xs_spec_ArmValid_ok ?_
  intro avs sg h hn hl
  unfold g_spec_ArmValid at h
  split at h
  · rename_i a1 a2 a3
    injection h with h; subst h
    refine ⟨by kernel_rfl, fun b => if b == 0 then [.v 4, .v 2] else [], Eq.mp (V_spec_ArmValid a1 a2 a3) ?_⟩
    simp only [true_and, and_true, implies_true, and_self, forall_const, true_implies, lenA, lenL, SV.lenOK, Cont.lenOK] at hn hl ⊢
    have h0 := ilen_0 a1
    simp only [ilt_t, ilt_f, ile_t, ile_f, ieq_t, ieq_f, bnot_e, band_e, bite_and, bite_or, NLt_e, NLe_e, NNe_e, NIs_e, imax_e, imin_e, irem_e, Bool.not_eq_true', Bool.not_eq_false', Bool.and_eq_true, Bool.or_eq_true, Bool.or_eq_false_iff, Bool.and_eq_false_iff, Cont.pts.injEq, Cont.ints.injEq, Cont.bools.injEq, Cont.ptss.injEq, Cont.intss.injEq, Cont.boolss.injEq, true_and, and_true, implies_true]
    refine ⟨fun h => ?_, fun h => ?_⟩
    · unfold armB
      rcases h with (h | h) | h <;> simp [h]
    · obtain ⟨⟨c1, c2⟩, c3⟩ := h
      refine ⟨fun | .int k :: _ => 0 ≤ k ∧ k ≤ ilen a1 ∧ (∀ j, 0 ≤ j → j < k → armE a1 a2 a3 j = true) | _ => False, fun | .int k :: _ => (ilen a1 - k).toNat | _ => 0, ?_, ?_⟩
      · exact ⟨Int.le_refl 0, h0, fun j h0 h1 => absurd h1 (by omega)⟩
      · rintro k _ ⟨hk0, hk1, hk⟩
        simp only [ilt_t, ilt_f, ile_t, ile_f, ieq_t, ieq_f, bnot_e, band_e, bite_and, bite_or, NLt_e, NLe_e, NNe_e, NIs_e, imax_e, imin_e, irem_e, Bool.not_eq_true', Bool.not_eq_false', Bool.and_eq_true, Bool.or_eq_true, Bool.or_eq_false_iff, Bool.and_eq_false_iff, Cont.pts.injEq, Cont.ints.injEq, Cont.bools.injEq, Cont.ptss.injEq, Cont.intss.injEq, Cont.boolss.injEq, true_and, and_true, implies_true]
        refine ⟨fun hc => ⟨⟨⟨hk0, hc⟩, fun _ => ⟨hk0, by omega⟩, fun _ => ⟨hk0, by omega⟩, fun _ => ⟨hk0, by omega⟩⟩, fun hv => ?_, fun hv => ?_⟩, fun hc => ?_⟩
        · have hE : armE a1 a2 a3 k = false := by unfold armE; rcases hv with (hv | hv) | hv <;> simp [hv]
          unfold armB; rw [allN_no k hk0 hc hE]; simp
        · have hE : armE a1 a2 a3 k = true := by unfold armE; rw [hv.1.1, hv.1.2, hv.2]; rfl
          rw [iadd_1 hk0 hc hl.1]
          exact ⟨⟨by omega, by omega, upTo hk hE⟩, by omega⟩
        · unfold armB; rw [allN_mk fun j h0 h1 => hk j h0 (by omega), c1]; simp [c2, c3]
  · cases h
def g_spec_JointsValid : List AV → Option Sg
  | [.agg [.view (.ints a1), .view (.ints a2), .view (.ints a3)], .s (.view (.ints j))] => some ⟨True, [.s (.bool (jvB a1 a2 a3 j))]⟩
  | _ => none
def sig_spec_JointsValid : FuncId → List AV → Option Sg := sigL [(105, g_spec_ArmValid), (73, g_spec_l1In)]
def xs_spec_JointsValid : XS := ⟨xsigL [], ysigL []⟩
theorem sig_spec_JointsValid_ok : SigOK sig_spec_JointsValid := sigL_cons F_spec_ArmValid (sigL_cons F_spec_l1In sigL_nil)
theorem xs_spec_JointsValid_ok : XSigOK xs_spec_JointsValid := ⟨xsigL_nil, ysigL_nil⟩
theorem V_spec_JointsValid (a1 : List Int) (a2 : List Int) (a3 : List Int) (j : List Int) : ((true = true) ∧ ((True) ∧ (True) ∧ True) ∧ (true = true) ∧ ((True) ∧ ((True)) ∧ (True) ∧ (True) ∧ (NIs (bnot (armB a1 a2 a3)) false → True) ∧ (NIs (bnot (armB a1 a2 a3)) false → True) ∧ (NIs (bnot (armB a1 a2 a3)) false → True) ∧ (NIs (bnot (armB a1 a2 a3)) false → True) ∧ (NIs (bnot (armB a1 a2 a3)) false → True) ∧ (NIs (bnot (armB a1 a2 a3)) false → True) ∧ (True) ∧ True) ∧ ((bite (bnot (armB a1 a2 a3)) true (bnot (ieq (ilen j) (ilen a1)))) = true → ((true = true) ∧ ((True) ∧ True) ∧ ((false : Bool) = (jvB a1 a2 a3 j)) ∧ True)) ∧ ((bite (bnot (armB a1 a2 a3)) true (bnot (ieq (ilen j) (ilen a1)))) = false → ((true = true) ∧ ((True) ∧ True) ∧ ∃ (I1 : List GV → Prop) (μ1 : List GV → Nat), (((true = true) ∧ (((false : Bool) = false) ∧ (((0 : Int) : Int) = (0 : Int)) ∧ (((Cont.ints a1) = (Cont.ints a1)) ∧ ((Cont.ints a2) = (Cont.ints a2)) ∧ ((Cont.ints a3) = (Cont.ints a3)) ∧ True) ∧ (((armB a1 a2 a3) : Bool) = (armB a1 a2 a3)) ∧ (((bnot (armB a1 a2 a3)) : Bool) = (bnot (armB a1 a2 a3))) ∧ (((bnot (armB a1 a2 a3)) : Bool) = (bnot (armB a1 a2 a3))) ∧ (((bite (bnot (armB a1 a2 a3)) true (bnot (ieq (ilen j) (ilen a1)))) : Bool) = (bite (bnot (armB a1 a2 a3)) true (bnot (ieq (ilen j) (ilen a1))))) ∧ (true = true) ∧ (((Cont.ints a1) = (Cont.ints a1)) ∧ ((Cont.ints a2) = (Cont.ints a2)) ∧ ((Cont.ints a3) = (Cont.ints a3)) ∧ True) ∧ ((Cont.ints j) = (Cont.ints j)) ∧ True) ∧ ((((Cont.ints a1) = (Cont.ints a1)) ∧ ((Cont.ints a2) = (Cont.ints a2)) ∧ ((Cont.ints a3) = (Cont.ints a3)) ∧ True) ∧ True)) ∧ (([GK.int, GK.bool] : List GK) = ([GK.int, GK.bool] : List GK)) ∧ I1 [GV.int (0 : Int), GV.bool false]) ∧ (∀ i1_0 : Int, ∀ b1_1 : Bool, I1 [GV.int i1_0, GV.bool b1_1] → ((true = true) ∧ ((True) ∧ (True) ∧ (True) ∧ (True) ∧ True) ∧ ((ilt i1_0 (ilen j)) = true → ((true = true) ∧ ((True) ∧ (True) ∧ (NLe 0 i1_0 ∧ NLt i1_0 (ilen j)) ∧ (True) ∧ (True) ∧ (True) ∧ (True) ∧ (NLe 0 i1_0 ∧ NLt i1_0 (ilen a2)) ∧ (True) ∧ (True) ∧ (True) ∧ (True) ∧ (NLe 0 i1_0 ∧ NLt i1_0 (ilen a3)) ∧ (True) ∧ ((True)) ∧ (True) ∧ True) ∧ ((bnot (inB (geti j i1_0) (geti a2 i1_0) (geti a3 i1_0))) = true → ((true = true) ∧ ((True) ∧ True) ∧ ((false : Bool) = (jvB a1 a2 a3 j)) ∧ True)) ∧ ((bnot (inB (geti j i1_0) (geti a2 i1_0) (geti a3 i1_0))) = false → ((true = true) ∧ ((True) ∧ (True) ∧ (True) ∧ True) ∧ ((true = true) ∧ (((b1_1 : Bool) = b1_1) ∧ (((iadd i1_0 (1 : Int)) : Int) = (iadd i1_0 (1 : Int))) ∧ (((Cont.ints a1) = (Cont.ints a1)) ∧ ((Cont.ints a2) = (Cont.ints a2)) ∧ ((Cont.ints a3) = (Cont.ints a3)) ∧ True) ∧ (((armB a1 a2 a3) : Bool) = (armB a1 a2 a3)) ∧ (((bnot (armB a1 a2 a3)) : Bool) = (bnot (armB a1 a2 a3))) ∧ (((bnot (armB a1 a2 a3)) : Bool) = (bnot (armB a1 a2 a3))) ∧ (((bite (bnot (armB a1 a2 a3)) true (bnot (ieq (ilen j) (ilen a1)))) : Bool) = (bite (bnot (armB a1 a2 a3)) true (bnot (ieq (ilen j) (ilen a1))))) ∧ (true = true) ∧ (((Cont.ints a1) = (Cont.ints a1)) ∧ ((Cont.ints a2) = (Cont.ints a2)) ∧ ((Cont.ints a3) = (Cont.ints a3)) ∧ True) ∧ ((Cont.ints j) = (Cont.ints j)) ∧ True) ∧ ((((Cont.ints a1) = (Cont.ints a1)) ∧ ((Cont.ints a2) = (Cont.ints a2)) ∧ ((Cont.ints a3) = (Cont.ints a3)) ∧ True) ∧ True)) ∧ ((([GK.int, GK.bool] : List GK) = ([GK.int, GK.bool] : List GK)) ∧ I1 [GV.int (iadd i1_0 (1 : Int)), GV.bool b1_1] ∧ μ1 [GV.int (iadd i1_0 (1 : Int)), GV.bool b1_1] < μ1 [GV.int i1_0, GV.bool b1_1]))))) ∧ ((ilt i1_0 (ilen j)) = false → ((true = true) ∧ ((True) ∧ True) ∧ ((true : Bool) = (jvB a1 a2 a3 j)) ∧ True))))))) = ev sig_spec_JointsValid xs_spec_JointsValid Try.f107.ntmps (fun b => if b == 0 then [.v 5, .v 4] else []) (codeOf Try.f107) 0 (initS [.agg [.view (.ints a1), .view (.ints a2), .view (.ints a3)], .s (.view (.ints j))]) (retK Try.f107.results.toList [.s (.bool (jvB a1 a2 a3 j))]) := by kernel_rfl
set_option maxHeartbeats 400000 in
theorem F_spec_JointsValid : FunOK 107 g_spec_JointsValid := by
  refine fun_F (by kernel_rfl) Try.func107 rfl (by kernel_rfl) sig_spec_JointsValid_ok xs_spec_JointsValid_ok ?_
  intro avs sg h hn hl
  unfold g_spec_JointsValid at h
  split at h
  · rename_i a1 a2 a3 j
    injection h with h; subst h
    refine ⟨by kernel_rfl, fun b => if b == 0 then [.v 5, .v 4] else [], Eq.mp (V_spec_JointsValid a1 a2 a3 j) ?_⟩
    simp only [true_and, and_true, implies_true, and_self, forall_const, true_implies, lenA, lenL, SV.lenOK, Cont.lenOK] at hn hl ⊢
    have h0 := ilen_0 j
    simp only [ilt_t, ilt_f, ile_t, ile_f, ieq_t, ieq_f, bnot_e, band_e, bite_and, bite_or, NLt_e, NLe_e, NNe_e, NIs_e, imax_e, imin_e, irem_e, Bool.not_eq_true', Bool.not_eq_false', Bool.and_eq_true, Bool.or_eq_true, Bool.or_eq_false_iff, Bool.and_eq_false_iff, Cont.pts.injEq, Cont.ints.injEq, Cont.bools.injEq, Cont.ptss.injEq, Cont.intss.injEq, Cont.boolss.injEq, true_and, and_true, implies_true]
    refine ⟨fun h => ?_, fun h => ?_⟩
    · unfold jvB; rcases h with h | h <;> simp [h]
    obtain ⟨ha, hl1⟩ := h
    obtain ⟨l2, l3⟩ := armB_len ha
    refine ⟨fun | .int k :: _ => 0 ≤ k ∧ k ≤ ilen j ∧ (∀ i, 0 ≤ i → i < k → inB (geti j i) (geti a2 i) (geti a3 i) = true) | _ => False, fun | .int k :: _ => (ilen j - k).toNat | _ => 0, ⟨by omega, by omega, fun i h0 h1 => by omega⟩, ?_⟩
    rintro k XX ⟨hk0, hk1, hk⟩
    refine ⟨fun hc => ⟨⟨⟨hk0, hc⟩, ⟨hk0, by omega⟩, hk0, by omega⟩, fun hv => ?_, fun hv => ?_⟩, fun hc => ?_⟩
    · unfold jvB; rw [allN_no k hk0 hc hv]; simp
    · rw [iadd_1 hk0 hc hl.2]
      exact ⟨⟨by omega, by omega, upTo hk hv⟩, by show (ilen j - (k + 1)).toNat < (ilen j - k).toNat; omega⟩
    · unfold jvB; rw [ha, allN_mk fun i j0 j1 => hk i j0 (by omega)]; simp [hl1]
  · cases h
def g_spec_l6Ok : List AV → Option Sg
  | [.agg [.view (.ints a1), .view (.ints a2), .view (.ints a3)], .s (.view (.ints f)), .s (.view (.ints t)), .s (.int top), .s (.int rise)] => some ⟨True, [.s (.bool (okM a1 a2 a3 f t top rise))]⟩
  | _ => none
def sig_spec_l6Ok : FuncId → List AV → Option Sg := sigL [(107, g_spec_JointsValid), (73, g_spec_l1In)]
def xs_spec_l6Ok : XS := ⟨xsigL [], ysigL []⟩
theorem sig_spec_l6Ok_ok : SigOK sig_spec_l6Ok := sigL_cons F_spec_JointsValid (sigL_cons F_spec_l1In sigL_nil)
theorem xs_spec_l6Ok_ok : XSigOK xs_spec_l6Ok := ⟨xsigL_nil, ysigL_nil⟩
theorem V_spec_l6Ok (a1 : List Int) (a2 : List Int) (a3 : List Int) (f : List Int) (t : List Int) (top : Int) (rise : Int) : ((true = true) ∧ ((True) ∧ (True) ∧ True) ∧ (true = true) ∧ ((True) ∧ (True) ∧ ((True)) ∧ (True) ∧ (NIs (jvB a1 a2 a3 f) true → True) ∧ (NIs (jvB a1 a2 a3 f) true → True) ∧ (NIs (jvB a1 a2 a3 f) true → (True)) ∧ (True) ∧ (True) ∧ (NIs (bite (jvB a1 a2 a3 f) (jvB a1 a2 a3 t) false) true → True) ∧ (NIs (bite (jvB a1 a2 a3 f) (jvB a1 a2 a3 t) false) true → (True)) ∧ (True) ∧ (True) ∧ (NIs (bite (bite (jvB a1 a2 a3 f) (jvB a1 a2 a3 t) false) (inB top (1 : Int) (200 : Int)) false) true → True) ∧ (NIs (bite (bite (jvB a1 a2 a3 f) (jvB a1 a2 a3 t) false) (inB top (1 : Int) (200 : Int)) false) true → (True)) ∧ (True) ∧ (True) ∧ True) ∧ (((bite (bite (bite (jvB a1 a2 a3 f) (jvB a1 a2 a3 t) false) (inB top (1 : Int) (200 : Int)) false) (inB rise (1 : Int) (50 : Int)) false) : Bool) = (okM a1 a2 a3 f t top rise)) ∧ True) = ev sig_spec_l6Ok xs_spec_l6Ok Try.f77.ntmps (fun b => []) (codeOf Try.f77) 0 (initS [.agg [.view (.ints a1), .view (.ints a2), .view (.ints a3)], .s (.view (.ints f)), .s (.view (.ints t)), .s (.int top), .s (.int rise)]) (retK Try.f77.results.toList [.s (.bool (okM a1 a2 a3 f t top rise))]) := by kernel_rfl
set_option maxHeartbeats 400000 in
theorem F_spec_l6Ok : FunOK 77 g_spec_l6Ok := by
  refine fun_F (by kernel_rfl) Try.func77 rfl (by kernel_rfl) sig_spec_l6Ok_ok xs_spec_l6Ok_ok ?_
  intro avs sg h hn hl
  unfold g_spec_l6Ok at h
  split at h
  · rename_i a1 a2 a3 f t top rise
    injection h with h; subst h
    refine ⟨by kernel_rfl, fun b => [], Eq.mp (V_spec_l6Ok a1 a2 a3 f t top rise) ?_⟩
    simp only [true_and, and_true, implies_true, and_self, forall_const, true_implies, lenA, lenL, SV.lenOK, Cont.lenOK] at hn hl ⊢
    simp only [ilt_t, ilt_f, ile_t, ile_f, ieq_t, ieq_f, bnot_e, band_e, bite_and, bite_or, NLt_e, NLe_e, NNe_e, NIs_e, imax_e, imin_e, irem_e, Bool.not_eq_true', Bool.not_eq_false', Bool.and_eq_true, Bool.or_eq_true, Bool.or_eq_false_iff, Bool.and_eq_false_iff, Cont.pts.injEq, Cont.ints.injEq, Cont.bools.injEq, Cont.ptss.injEq, Cont.intss.injEq, Cont.boolss.injEq, true_and, and_true, implies_true]
    unfold okM lfB
    cases jvB a1 a2 a3 f <;> cases jvB a1 a2 a3 t <;> cases inB top 1 200 <;> cases inB rise 1 50 <;> rfl
  · cases h
def g_spec_l6Most : List AV → Option Sg
  | [.s (.view (.ints a)), .s (.view (.ints b))] => some ⟨ilen b = ilen a ∧ nearL a b (ilen a), [.s (.int (mostL a b (ilen a)))]⟩
  | _ => none
def sig_spec_l6Most : FuncId → List AV → Option Sg := sigL []
def xs_spec_l6Most : XS := ⟨xsigL [], ysigL []⟩
theorem sig_spec_l6Most_ok : SigOK sig_spec_l6Most := sigL_nil
theorem xs_spec_l6Most_ok : XSigOK xs_spec_l6Most := ⟨xsigL_nil, ysigL_nil⟩
theorem V_spec_l6Most (a : List Int) (b : List Int) : ((true = true) ∧ ((True) ∧ True) ∧ (true = true) ∧ ((True) ∧ True) ∧ (true = true) ∧ ((True) ∧ True) ∧ ∃ (I1 : List GV → Prop) (μ1 : List GV → Nat), (((true = true) ∧ ((((0 : Int) : Int) = (0 : Int)) ∧ (((0 : Int) : Int) = (0 : Int)) ∧ (((0 : Int) : Int) = (0 : Int)) ∧ ((Cont.ints a) = (Cont.ints a)) ∧ ((Cont.ints b) = (Cont.ints b)) ∧ True) ∧ (True)) ∧ (([GK.int, GK.int] : List GK) = ([GK.int, GK.int] : List GK)) ∧ I1 [GV.int (0 : Int), GV.int (0 : Int)]) ∧ (∀ i1_0 : Int, ∀ i1_1 : Int, I1 [GV.int i1_0, GV.int i1_1] → ((true = true) ∧ ((True) ∧ (True) ∧ (True) ∧ (True) ∧ True) ∧ ((ilt i1_0 (ilen a)) = true → ((true = true) ∧ ((True) ∧ (True) ∧ (True) ∧ (NLe 0 i1_0 ∧ NLt i1_0 (ilen a)) ∧ (True) ∧ (True) ∧ (True) ∧ (NLe 0 i1_0 ∧ NLt i1_0 (ilen b)) ∧ (True) ∧ (True) ∧ (True) ∧ (True) ∧ (NLe 0 i1_0 ∧ NLt i1_0 (ilen b)) ∧ (True) ∧ (True) ∧ (True) ∧ (NLe 0 i1_0 ∧ NLt i1_0 (ilen a)) ∧ (True) ∧ (True) ∧ (True) ∧ (True) ∧ (True) ∧ True) ∧ (true = true) ∧ ((True) ∧ (True) ∧ (True) ∧ True) ∧ ((true = true) ∧ ((((imax i1_1 (imax (isub (geti a i1_0) (geti b i1_0)) (isub (geti b i1_0) (geti a i1_0)))) : Int) = (imax i1_1 (imax (isub (geti a i1_0) (geti b i1_0)) (isub (geti b i1_0) (geti a i1_0))))) ∧ (((iadd i1_0 (1 : Int)) : Int) = (iadd i1_0 (1 : Int))) ∧ (((0 : Int) : Int) = (0 : Int)) ∧ ((Cont.ints a) = (Cont.ints a)) ∧ ((Cont.ints b) = (Cont.ints b)) ∧ True) ∧ (True)) ∧ ((([GK.int, GK.int] : List GK) = ([GK.int, GK.int] : List GK)) ∧ I1 [GV.int (iadd i1_0 (1 : Int)), GV.int (imax i1_1 (imax (isub (geti a i1_0) (geti b i1_0)) (isub (geti b i1_0) (geti a i1_0))))] ∧ μ1 [GV.int (iadd i1_0 (1 : Int)), GV.int (imax i1_1 (imax (isub (geti a i1_0) (geti b i1_0)) (isub (geti b i1_0) (geti a i1_0))))] < μ1 [GV.int i1_0, GV.int i1_1]))) ∧ ((ilt i1_0 (ilen a)) = false → ((true = true) ∧ ((True) ∧ (True) ∧ True) ∧ ((i1_1 : Int) = (mostL a b (ilen a))) ∧ True))))) = ev sig_spec_l6Most xs_spec_l6Most Try.f78.ntmps (fun b => if b == 0 then [.v 6, .v 5] else []) (codeOf Try.f78) 0 (initS [.s (.view (.ints a)), .s (.view (.ints b))]) (retK Try.f78.results.toList [.s (.int (mostL a b (ilen a)))]) := by kernel_rfl
set_option maxHeartbeats 400000 in
theorem F_spec_l6Most : FunOK 78 g_spec_l6Most := by
  refine fun_F (by kernel_rfl) Try.func78 rfl (by kernel_rfl) sig_spec_l6Most_ok xs_spec_l6Most_ok ?_
  intro avs sg h hn hl
  unfold g_spec_l6Most at h
  split at h
  · rename_i a b
    injection h with h; subst h
    refine ⟨by kernel_rfl, fun b => if b == 0 then [.v 6, .v 5] else [], Eq.mp (V_spec_l6Most a b) ?_⟩
    simp only [true_and, and_true, implies_true, and_self, forall_const, true_implies, lenA, lenL, SV.lenOK, Cont.lenOK] at hn hl ⊢
    have ha := ilen_0 a
    simp only [ilt_t, ilt_f, ile_t, ile_f, ieq_t, ieq_f, bnot_e, band_e, bite_and, bite_or, NLt_e, NLe_e, NNe_e, NIs_e, imax_e, imin_e, irem_e, Bool.not_eq_true', Bool.not_eq_false', Bool.and_eq_true, Bool.or_eq_true, Bool.or_eq_false_iff, Bool.and_eq_false_iff, Cont.pts.injEq, Cont.ints.injEq, Cont.bools.injEq, Cont.ptss.injEq, Cont.intss.injEq, Cont.boolss.injEq, true_and, and_true, implies_true]
    refine ⟨fun | [.int k, .int m] => 0 ≤ k ∧ k ≤ ilen a ∧ m = mostL a b k | _ => False, fun | .int k :: _ => (ilen a - k).toNat | _ => 0, ⟨by omega, by omega, rfl⟩, ?_⟩
    rintro k m ⟨k0, k1, rfl⟩
    refine ⟨fun hc => ?_, fun hc => ?_⟩
    · have hk := hn.2 k k0 hc
      obtain ⟨m0, m1, _⟩ := mostL_in hn.2 k0 k1
      have e := mostL_1 (a := a) (b := b) k0
      rw [isub_e (by omega) (by omega), isub_e (by omega) (by omega), iadd_e (by omega) (by omega)]
      exact ⟨⟨⟨k0, hc⟩, ⟨k0, by omega⟩, ⟨k0, by omega⟩, ⟨k0, hc⟩⟩, ⟨by omega, by omega, by omega⟩, by show (ilen a - (k + 1)).toNat < (ilen a - k).toNat; omega⟩
    · rw [show k = ilen a by omega]
  · cases h
def g_spec_StopDistance : List AV → Option Sg
  | [.s (.int s), .s (.int r)] => some ⟨True, [.s (.int (sdF s r))]⟩
  | _ => none
def sig_spec_StopDistance : FuncId → List AV → Option Sg := sigL [(73, g_spec_l1In)]
def xs_spec_StopDistance : XS := ⟨xsigL [], ysigL []⟩
theorem sig_spec_StopDistance_ok : SigOK sig_spec_StopDistance := sigL_cons F_spec_l1In sigL_nil
theorem xs_spec_StopDistance_ok : XSigOK xs_spec_StopDistance := ⟨xsigL_nil, ysigL_nil⟩
theorem V_spec_StopDistance (s : Int) (r : Int) : ((true = true) ∧ ((True) ∧ True) ∧ (true = true) ∧ ((True) ∧ ((True)) ∧ (True) ∧ (True) ∧ (NIs (bnot (inB s (0 : Int) (200 : Int))) false → True) ∧ (NIs (bnot (inB s (0 : Int) (200 : Int))) false → (True)) ∧ (NIs (bnot (inB s (0 : Int) (200 : Int))) false → True) ∧ (True) ∧ True) ∧ ((bite (bnot (inB s (0 : Int) (200 : Int))) true (bnot (inB r (1 : Int) (50 : Int)))) = true → ((true = true) ∧ ((True) ∧ True) ∧ (((-1 : Int) : Int) = (sdF s r)) ∧ True)) ∧ ((bite (bnot (inB s (0 : Int) (200 : Int))) true (bnot (inB r (1 : Int) (50 : Int)))) = false → ((true = true) ∧ ((True) ∧ True) ∧ ∃ (I1 : List GV → Prop) (μ1 : List GV → Nat), (((true = true) ∧ (((s : Int) = s) ∧ (((0 : Int) : Int) = (0 : Int)) ∧ ((s : Int) = s) ∧ (((inB s (0 : Int) (200 : Int)) : Bool) = (inB s (0 : Int) (200 : Int))) ∧ (((bnot (inB s (0 : Int) (200 : Int))) : Bool) = (bnot (inB s (0 : Int) (200 : Int)))) ∧ (((bnot (inB s (0 : Int) (200 : Int))) : Bool) = (bnot (inB s (0 : Int) (200 : Int)))) ∧ (((bite (bnot (inB s (0 : Int) (200 : Int))) true (bnot (inB r (1 : Int) (50 : Int)))) : Bool) = (bite (bnot (inB s (0 : Int) (200 : Int))) true (bnot (inB r (1 : Int) (50 : Int))))) ∧ (((0 : Int) : Int) = (0 : Int)) ∧ ((r : Int) = r) ∧ True) ∧ (True)) ∧ (([GK.int, GK.int] : List GK) = ([GK.int, GK.int] : List GK)) ∧ I1 [GV.int (0 : Int), GV.int s]) ∧ (∀ i1_0 : Int, ∀ i1_1 : Int, I1 [GV.int i1_0, GV.int i1_1] → ((true = true) ∧ ((True) ∧ (True) ∧ (True) ∧ True) ∧ ((ilt r i1_1) = true → ((true = true) ∧ ((True) ∧ (True) ∧ (True) ∧ (True) ∧ True) ∧ (true = true) ∧ ((True) ∧ (True) ∧ (True) ∧ (True) ∧ True) ∧ ((true = true) ∧ ((((isub i1_1 r) : Int) = (isub i1_1 r)) ∧ (((iadd i1_0 (isub i1_1 r)) : Int) = (iadd i1_0 (isub i1_1 r))) ∧ ((s : Int) = s) ∧ (((inB s (0 : Int) (200 : Int)) : Bool) = (inB s (0 : Int) (200 : Int))) ∧ (((bnot (inB s (0 : Int) (200 : Int))) : Bool) = (bnot (inB s (0 : Int) (200 : Int)))) ∧ (((bnot (inB s (0 : Int) (200 : Int))) : Bool) = (bnot (inB s (0 : Int) (200 : Int)))) ∧ (((bite (bnot (inB s (0 : Int) (200 : Int))) true (bnot (inB r (1 : Int) (50 : Int)))) : Bool) = (bite (bnot (inB s (0 : Int) (200 : Int))) true (bnot (inB r (1 : Int) (50 : Int))))) ∧ (((0 : Int) : Int) = (0 : Int)) ∧ ((r : Int) = r) ∧ True) ∧ (True)) ∧ ((([GK.int, GK.int] : List GK) = ([GK.int, GK.int] : List GK)) ∧ I1 [GV.int (iadd i1_0 (isub i1_1 r)), GV.int (isub i1_1 r)] ∧ μ1 [GV.int (iadd i1_0 (isub i1_1 r)), GV.int (isub i1_1 r)] < μ1 [GV.int i1_0, GV.int i1_1]))) ∧ ((ilt r i1_1) = false → ((true = true) ∧ ((True) ∧ (True) ∧ True) ∧ ((i1_0 : Int) = (sdF s r)) ∧ True))))))) = ev sig_spec_StopDistance xs_spec_StopDistance Try.f115.ntmps (fun b => if b == 0 then [.v 5, .v 0] else []) (codeOf Try.f115) 0 (initS [.s (.int s), .s (.int r)]) (retK Try.f115.results.toList [.s (.int (sdF s r))]) := by kernel_rfl
set_option maxHeartbeats 400000 in
theorem F_spec_StopDistance : FunOK 115 g_spec_StopDistance := by
  refine fun_F (by kernel_rfl) Try.func115 rfl (by kernel_rfl) sig_spec_StopDistance_ok xs_spec_StopDistance_ok ?_
  intro avs sg h hn hl
  unfold g_spec_StopDistance at h
  split at h
  · rename_i s r
    injection h with h; subst h
    refine ⟨by kernel_rfl, fun b => if b == 0 then [.v 5, .v 0] else [], Eq.mp (V_spec_StopDistance s r) ?_⟩
    simp only [true_and, and_true, implies_true, and_self, forall_const, true_implies, lenA, lenL, SV.lenOK, Cont.lenOK] at hn hl ⊢
    simp only [ilt_t, ilt_f, ile_t, ile_f, ieq_t, ieq_f, bnot_e, band_e, bite_and, bite_or, NLt_e, NLe_e, NNe_e, NIs_e, imax_e, imin_e, irem_e, Bool.not_eq_true', Bool.not_eq_false', Bool.and_eq_true, Bool.or_eq_true, Bool.or_eq_false_iff, Bool.and_eq_false_iff, Cont.pts.injEq, Cont.ints.injEq, Cont.bools.injEq, Cont.ptss.injEq, Cont.intss.injEq, Cont.boolss.injEq, true_and, and_true, implies_true]
    refine ⟨fun h => ?_, fun h => ?_⟩
    · unfold sdF; rcases h with h | h <;> simp [h]
    have hs := inB_true h.1; have hr := inB_true h.2
    have e : sdF s r = restN r 200 (s - r) := sdF_e hs h.2
    rw [e]
    have hB := restN_bd hr.1 200 (s - r) (by omega)
    refine ⟨fun | [.int a, .int v] => v ≤ 200 ∧ 0 ≤ v ∧ 0 ≤ a ∧ a + restN r 200 (v - r) = restN r 200 (s - r) | _ => False, fun | [.int _, .int v] => v.toNat | _ => 0, ⟨by omega, by omega, by omega, by omega⟩, ?_⟩
    rintro a v ⟨v1, v0, a0, ha⟩
    refine ⟨fun hv => ?_, fun hv => ?_⟩
    · rw [restN_s hr.1 (by omega) (by omega)] at ha
      have hb' := restN_bd hr.1 200 (v - r - r) (by omega)
      have e1 : isub v r = v - r := isub_e (by omega) (by omega)
      rw [e1, iadd_e (by omega) (by omega)]
      exact ⟨⟨by omega, by omega, by omega, by omega⟩, by show (v - r).toNat < v.toNat; omega⟩
    · rw [restN_le (by omega)] at ha; omega
  · cases h
def g_spec_NextSpeed : List AV → Option Sg
  | [.s (.int s), .s (.int d), .s (.int t), .s (.int r)] => some ⟨True, [.s (.int (nsF s d t r))]⟩
  | _ => none
def sig_spec_NextSpeed : FuncId → List AV → Option Sg := sigL [(73, g_spec_l1In), (115, g_spec_StopDistance)]
def xs_spec_NextSpeed : XS := ⟨xsigL [], ysigL []⟩
theorem sig_spec_NextSpeed_ok : SigOK sig_spec_NextSpeed := sigL_cons F_spec_l1In (sigL_cons F_spec_StopDistance sigL_nil)
theorem xs_spec_NextSpeed_ok : XSigOK xs_spec_NextSpeed := ⟨xsigL_nil, ysigL_nil⟩
theorem V_spec_NextSpeed (s : Int) (d : Int) (t : Int) (r : Int) : ((true = true) ∧ ((True) ∧ True) ∧ (true = true) ∧ ((True) ∧ ((True)) ∧ (True) ∧ (True) ∧ (NIs (bnot (inB s (0 : Int) (200 : Int))) false → True) ∧ (NIs (bnot (inB s (0 : Int) (200 : Int))) false → (True)) ∧ (NIs (bnot (inB s (0 : Int) (200 : Int))) false → True) ∧ (True) ∧ (True) ∧ (NIs (bite (bnot (inB s (0 : Int) (200 : Int))) true (bnot (inB d (0 : Int) (5000 : Int)))) false → True) ∧ (NIs (bite (bnot (inB s (0 : Int) (200 : Int))) true (bnot (inB d (0 : Int) (5000 : Int)))) false → (True)) ∧ (NIs (bite (bnot (inB s (0 : Int) (200 : Int))) true (bnot (inB d (0 : Int) (5000 : Int)))) false → True) ∧ (True) ∧ (True) ∧ (NIs (bite (bite (bnot (inB s (0 : Int) (200 : Int))) true (bnot (inB d (0 : Int) (5000 : Int)))) true (bnot (inB t (1 : Int) (200 : Int)))) false → True) ∧ (NIs (bite (bite (bnot (inB s (0 : Int) (200 : Int))) true (bnot (inB d (0 : Int) (5000 : Int)))) true (bnot (inB t (1 : Int) (200 : Int)))) false → (True)) ∧ (NIs (bite (bite (bnot (inB s (0 : Int) (200 : Int))) true (bnot (inB d (0 : Int) (5000 : Int)))) true (bnot (inB t (1 : Int) (200 : Int)))) false → True) ∧ (True) ∧ True) ∧ ((bite (bite (bite (bnot (inB s (0 : Int) (200 : Int))) true (bnot (inB d (0 : Int) (5000 : Int)))) true (bnot (inB t (1 : Int) (200 : Int)))) true (bnot (inB r (1 : Int) (50 : Int)))) = true → ((true = true) ∧ ((True) ∧ True) ∧ (((-1 : Int) : Int) = (nsF s d t r)) ∧ True)) ∧ ((bite (bite (bite (bnot (inB s (0 : Int) (200 : Int))) true (bnot (inB d (0 : Int) (5000 : Int)))) true (bnot (inB t (1 : Int) (200 : Int)))) true (bnot (inB r (1 : Int) (50 : Int)))) = false → ((true = true) ∧ ((True) ∧ (True) ∧ (True) ∧ (True) ∧ (True) ∧ (True) ∧ True) ∧ ∃ (I1 : List GV → Prop) (μ1 : List GV → Nat), (((true = true) ∧ ((((imin t (iadd s r)) : Int) = (imin t (iadd s r))) ∧ ((t : Int) = t) ∧ ((s : Int) = s) ∧ ((r : Int) = r) ∧ (((iadd s r) : Int) = (iadd s r)) ∧ (((imin t (iadd s r)) : Int) = (imin t (iadd s r))) ∧ ((s : Int) = s) ∧ (((inB s (0 : Int) (200 : Int)) : Bool) = (inB s (0 : Int) (200 : Int))) ∧ (((bnot (inB s (0 : Int) (200 : Int))) : Bool) = (bnot (inB s (0 : Int) (200 : Int)))) ∧ (((bnot (inB s (0 : Int) (200 : Int))) : Bool) = (bnot (inB s (0 : Int) (200 : Int)))) ∧ (((bite (bnot (inB s (0 : Int) (200 : Int))) true (bnot (inB d (0 : Int) (5000 : Int)))) : Bool) = (bite (bnot (inB s (0 : Int) (200 : Int))) true (bnot (inB d (0 : Int) (5000 : Int))))) ∧ (((bite (bnot (inB s (0 : Int) (200 : Int))) true (bnot (inB d (0 : Int) (5000 : Int)))) : Bool) = (bite (bnot (inB s (0 : Int) (200 : Int))) true (bnot (inB d (0 : Int) (5000 : Int))))) ∧ (((bite (bite (bnot (inB s (0 : Int) (200 : Int))) true (bnot (inB d (0 : Int) (5000 : Int)))) true (bnot (inB t (1 : Int) (200 : Int)))) : Bool) = (bite (bite (bnot (inB s (0 : Int) (200 : Int))) true (bnot (inB d (0 : Int) (5000 : Int)))) true (bnot (inB t (1 : Int) (200 : Int))))) ∧ (((bite (bite (bnot (inB s (0 : Int) (200 : Int))) true (bnot (inB d (0 : Int) (5000 : Int)))) true (bnot (inB t (1 : Int) (200 : Int)))) : Bool) = (bite (bite (bnot (inB s (0 : Int) (200 : Int))) true (bnot (inB d (0 : Int) (5000 : Int)))) true (bnot (inB t (1 : Int) (200 : Int))))) ∧ (((bite (bite (bite (bnot (inB s (0 : Int) (200 : Int))) true (bnot (inB d (0 : Int) (5000 : Int)))) true (bnot (inB t (1 : Int) (200 : Int)))) true (bnot (inB r (1 : Int) (50 : Int)))) : Bool) = (bite (bite (bite (bnot (inB s (0 : Int) (200 : Int))) true (bnot (inB d (0 : Int) (5000 : Int)))) true (bnot (inB t (1 : Int) (200 : Int)))) true (bnot (inB r (1 : Int) (50 : Int))))) ∧ (((0 : Int) : Int) = (0 : Int)) ∧ ((s : Int) = s) ∧ ((d : Int) = d) ∧ ((t : Int) = t) ∧ ((r : Int) = r) ∧ True) ∧ (True)) ∧ (([GK.int] : List GK) = ([GK.int] : List GK)) ∧ I1 [GV.int (imin t (iadd s r))]) ∧ (∀ i1_0 : Int, I1 [GV.int i1_0] → ((true = true) ∧ ((True) ∧ (True) ∧ (True) ∧ (NIs (ilt (0 : Int) i1_0) true → True) ∧ (NIs (ilt (0 : Int) i1_0) true → True) ∧ (NIs (ilt (0 : Int) i1_0) true → True) ∧ (NIs (ilt (0 : Int) i1_0) true → (True)) ∧ (NIs (ilt (0 : Int) i1_0) true → True) ∧ (NIs (ilt (0 : Int) i1_0) true → True) ∧ (NIs (ilt (0 : Int) i1_0) true → True) ∧ (True) ∧ True) ∧ ((bite (ilt (0 : Int) i1_0) (ilt d (iadd i1_0 (sdF i1_0 r))) false) = true → ((true = true) ∧ ((True) ∧ (True) ∧ (True) ∧ True) ∧ ((true = true) ∧ ((((isub i1_0 (1 : Int)) : Int) = (isub i1_0 (1 : Int))) ∧ ((t : Int) = t) ∧ ((s : Int) = s) ∧ ((r : Int) = r) ∧ (((iadd s r) : Int) = (iadd s r)) ∧ (((imin t (iadd s r)) : Int) = (imin t (iadd s r))) ∧ ((s : Int) = s) ∧ (((inB s (0 : Int) (200 : Int)) : Bool) = (inB s (0 : Int) (200 : Int))) ∧ (((bnot (inB s (0 : Int) (200 : Int))) : Bool) = (bnot (inB s (0 : Int) (200 : Int)))) ∧ (((bnot (inB s (0 : Int) (200 : Int))) : Bool) = (bnot (inB s (0 : Int) (200 : Int)))) ∧ (((bite (bnot (inB s (0 : Int) (200 : Int))) true (bnot (inB d (0 : Int) (5000 : Int)))) : Bool) = (bite (bnot (inB s (0 : Int) (200 : Int))) true (bnot (inB d (0 : Int) (5000 : Int))))) ∧ (((bite (bnot (inB s (0 : Int) (200 : Int))) true (bnot (inB d (0 : Int) (5000 : Int)))) : Bool) = (bite (bnot (inB s (0 : Int) (200 : Int))) true (bnot (inB d (0 : Int) (5000 : Int))))) ∧ (((bite (bite (bnot (inB s (0 : Int) (200 : Int))) true (bnot (inB d (0 : Int) (5000 : Int)))) true (bnot (inB t (1 : Int) (200 : Int)))) : Bool) = (bite (bite (bnot (inB s (0 : Int) (200 : Int))) true (bnot (inB d (0 : Int) (5000 : Int)))) true (bnot (inB t (1 : Int) (200 : Int))))) ∧ (((bite (bite (bnot (inB s (0 : Int) (200 : Int))) true (bnot (inB d (0 : Int) (5000 : Int)))) true (bnot (inB t (1 : Int) (200 : Int)))) : Bool) = (bite (bite (bnot (inB s (0 : Int) (200 : Int))) true (bnot (inB d (0 : Int) (5000 : Int)))) true (bnot (inB t (1 : Int) (200 : Int))))) ∧ (((bite (bite (bite (bnot (inB s (0 : Int) (200 : Int))) true (bnot (inB d (0 : Int) (5000 : Int)))) true (bnot (inB t (1 : Int) (200 : Int)))) true (bnot (inB r (1 : Int) (50 : Int)))) : Bool) = (bite (bite (bite (bnot (inB s (0 : Int) (200 : Int))) true (bnot (inB d (0 : Int) (5000 : Int)))) true (bnot (inB t (1 : Int) (200 : Int)))) true (bnot (inB r (1 : Int) (50 : Int))))) ∧ (((0 : Int) : Int) = (0 : Int)) ∧ ((s : Int) = s) ∧ ((d : Int) = d) ∧ ((t : Int) = t) ∧ ((r : Int) = r) ∧ True) ∧ (True)) ∧ ((([GK.int] : List GK) = ([GK.int] : List GK)) ∧ I1 [GV.int (isub i1_0 (1 : Int))] ∧ μ1 [GV.int (isub i1_0 (1 : Int))] < μ1 [GV.int i1_0]))) ∧ ((bite (ilt (0 : Int) i1_0) (ilt d (iadd i1_0 (sdF i1_0 r))) false) = false → ((true = true) ∧ ((True) ∧ (True) ∧ True) ∧ ((i1_0 : Int) = (nsF s d t r)) ∧ True))))))) = ev sig_spec_NextSpeed xs_spec_NextSpeed Try.f108.ntmps (fun b => if b == 0 then [.v 9] else []) (codeOf Try.f108) 0 (initS [.s (.int s), .s (.int d), .s (.int t), .s (.int r)]) (retK Try.f108.results.toList [.s (.int (nsF s d t r))]) := by kernel_rfl
set_option maxHeartbeats 400000 in
theorem F_spec_NextSpeed : FunOK 108 g_spec_NextSpeed := by
  refine fun_F (by kernel_rfl) Try.func108 rfl (by kernel_rfl) sig_spec_NextSpeed_ok xs_spec_NextSpeed_ok ?_
  intro avs sg h hn hl
  unfold g_spec_NextSpeed at h
  split at h
  · rename_i s d t r
    injection h with h; subst h
    refine ⟨by kernel_rfl, fun b => if b == 0 then [.v 9] else [], Eq.mp (V_spec_NextSpeed s d t r) ?_⟩
    simp only [true_and, and_true, implies_true, and_self, forall_const, true_implies, lenA, lenL, SV.lenOK, Cont.lenOK] at hn hl ⊢
    simp only [ilt_t, ilt_f, ile_t, ile_f, ieq_t, ieq_f, bnot_e, band_e, bite_and, bite_or, NLt_e, NLe_e, NNe_e, NIs_e, imax_e, imin_e, irem_e, Bool.not_eq_true', Bool.not_eq_false', Bool.and_eq_true, Bool.or_eq_true, Bool.or_eq_false_iff, Bool.and_eq_false_iff, Cont.pts.injEq, Cont.ints.injEq, Cont.bools.injEq, Cont.ptss.injEq, Cont.intss.injEq, Cont.boolss.injEq, true_and, and_true, implies_true]
    refine ⟨fun h => ?_, fun h => ?_⟩
    · unfold nsF lfB; rcases h with ((h | h) | h) | h <;> simp [h]
    have hl : lfB t r = true := by unfold lfB; rw [h.1.2, h.2]; rfl
    have hs := inB_true h.1.1.1; have hd := inB_true h.1.1.2
    obtain ⟨ht, hr, hr'⟩ := lf_parts hl
    have e1 : iadd s r = s + r := iadd_e (by omega) (by omega)
    rw [nsF_e hs hd hl, e1]
    refine ⟨fun | [.int v] => v ≤ 200 ∧ 0 ≤ v ∧ nsN d r v.toNat = nsN d r (min t (s + r)).toNat | _ => False, fun | .int v :: _ => v.toNat | _ => 0, ⟨by omega, by omega, rfl⟩, ?_⟩
    rintro v ⟨v1, v0, hv⟩
    have hb := restN_bd hr.1 200 (v - r) (by omega)
    rw [sdF_e ⟨v0, v1⟩ hr', iadd_e (by omega) (by omega)]
    have z : v = 0 → restN r 200 (v - r) = 0 := fun h => restN_le (by omega) _
    refine ⟨fun hc => ?_, fun hc => ?_⟩
    · have v2 : 1 ≤ v := by
        rcases Int.lt_or_le 0 v with h | h
        · omega
        · have := z (by omega); omega
      rw [nsN_step v2, if_neg (by omega)] at hv
      rw [isub_e (by omega) (by omega)]
      exact ⟨⟨by omega, by omega, hv⟩, by show (v - 1).toNat < v.toNat; omega⟩
    · rw [← hv]
      rcases Int.lt_or_le 0 v with h | h
      · rw [nsN_step (by omega), if_pos (by omega)]
      · rw [show v = 0 by omega]; rfl
  · cases h
def g_spec_MotionProfile : List AV → Option Sg
  | [.s (.int d), .s (.int t), .s (.int r)] => some ⟨True, [.nrow 3 (.ints (mpF d t r))]⟩
  | _ => none
def sig_spec_MotionProfile : FuncId → List AV → Option Sg := sigL [(73, g_spec_l1In), (108, g_spec_NextSpeed)]
def xs_spec_MotionProfile : XS := ⟨xsigL [], ysigL []⟩
theorem sig_spec_MotionProfile_ok : SigOK sig_spec_MotionProfile := sigL_cons F_spec_l1In (sigL_cons F_spec_NextSpeed sigL_nil)
theorem xs_spec_MotionProfile_ok : XSigOK xs_spec_MotionProfile := ⟨xsigL_nil, ysigL_nil⟩
theorem V_spec_MotionProfile (d : Int) (t : Int) (r : Int) : ((true = true) ∧ ((True) ∧ True) ∧ (true = true) ∧ ((True) ∧ (True) ∧ True) ∧ (true = true) ∧ ((True) ∧ ((True)) ∧ (True) ∧ (True) ∧ (NIs (bnot (inB d (0 : Int) (5000 : Int))) false → True) ∧ (NIs (bnot (inB d (0 : Int) (5000 : Int))) false → (True)) ∧ (NIs (bnot (inB d (0 : Int) (5000 : Int))) false → True) ∧ (True) ∧ (True) ∧ (NIs (bite (bnot (inB d (0 : Int) (5000 : Int))) true (bnot (inB t (1 : Int) (200 : Int)))) false → True) ∧ (NIs (bite (bnot (inB d (0 : Int) (5000 : Int))) true (bnot (inB t (1 : Int) (200 : Int)))) false → (True)) ∧ (NIs (bite (bnot (inB d (0 : Int) (5000 : Int))) true (bnot (inB t (1 : Int) (200 : Int)))) false → True) ∧ (True) ∧ True) ∧ ((bite (bite (bnot (inB d (0 : Int) (5000 : Int))) true (bnot (inB t (1 : Int) (200 : Int)))) true (bnot (inB r (1 : Int) (50 : Int)))) = true → ((true = true) ∧ ((True) ∧ (True) ∧ True) ∧ ((true = true) ∧ ((Cont.ints []) = (Cont.ints (mpF d t r)))) ∧ True)) ∧ ((bite (bite (bnot (inB d (0 : Int) (5000 : Int))) true (bnot (inB t (1 : Int) (200 : Int)))) true (bnot (inB r (1 : Int) (50 : Int)))) = false → ((true = true) ∧ ((True) ∧ True) ∧ ∃ (I1 : List GV → Prop) (μ1 : List GV → Nat), (((true = true) ∧ (((d : Int) = d) ∧ (((0 : Int) : Int) = (0 : Int)) ∧ ((d : Int) = d) ∧ (((inB d (0 : Int) (5000 : Int)) : Bool) = (inB d (0 : Int) (5000 : Int))) ∧ (((bnot (inB d (0 : Int) (5000 : Int))) : Bool) = (bnot (inB d (0 : Int) (5000 : Int)))) ∧ (((bnot (inB d (0 : Int) (5000 : Int))) : Bool) = (bnot (inB d (0 : Int) (5000 : Int)))) ∧ (((bite (bnot (inB d (0 : Int) (5000 : Int))) true (bnot (inB t (1 : Int) (200 : Int)))) : Bool) = (bite (bnot (inB d (0 : Int) (5000 : Int))) true (bnot (inB t (1 : Int) (200 : Int))))) ∧ (((bite (bnot (inB d (0 : Int) (5000 : Int))) true (bnot (inB t (1 : Int) (200 : Int)))) : Bool) = (bite (bnot (inB d (0 : Int) (5000 : Int))) true (bnot (inB t (1 : Int) (200 : Int))))) ∧ (((bite (bite (bnot (inB d (0 : Int) (5000 : Int))) true (bnot (inB t (1 : Int) (200 : Int)))) true (bnot (inB r (1 : Int) (50 : Int)))) : Bool) = (bite (bite (bnot (inB d (0 : Int) (5000 : Int))) true (bnot (inB t (1 : Int) (200 : Int)))) true (bnot (inB r (1 : Int) (50 : Int))))) ∧ (true = true) ∧ (true = true) ∧ ((t : Int) = t) ∧ ((r : Int) = r) ∧ True) ∧ (((true = true) ∧ ((Cont.ints []) = (Cont.ints []))) ∧ ((true = true) ∧ ((Cont.ints []) = (Cont.ints []))) ∧ True)) ∧ (([GK.int, GK.ints, GK.int] : List GK) = ([GK.int, GK.ints, GK.int] : List GK)) ∧ I1 [GV.int (0 : Int), GV.ints [], GV.int d]) ∧ (∀ i1_0 : Int, ∀ l1_1 : List Int, ∀ i1_2 : Int, I1 [GV.int i1_0, GV.ints l1_1, GV.int i1_2] → ((true = true) ∧ ((True) ∧ (True) ∧ True) ∧ ((ilt (0 : Int) i1_2) = true → ((true = true) ∧ ((True) ∧ (True) ∧ (True) ∧ (True) ∧ ((True)) ∧ (True) ∧ True) ∧ (true = true) ∧ ((True) ∧ (True) ∧ (True) ∧ True) ∧ (NLe (ilen l1_1) 1000000000 ∧ NLe (ilen [(nsF i1_0 i1_2 t r)]) 1000000000) ∧ (True) ∧ (true = true) ∧ ((True) ∧ (True) ∧ (True) ∧ (True) ∧ True) ∧ ((true = true) ∧ ((((isub i1_2 (nsF i1_0 i1_2 t r)) : Int) = (isub i1_2 (nsF i1_0 i1_2 t r))) ∧ (((nsF i1_0 i1_2 t r) : Int) = (nsF i1_0 i1_2 t r)) ∧ ((d : Int) = d) ∧ (((inB d (0 : Int) (5000 : Int)) : Bool) = (inB d (0 : Int) (5000 : Int))) ∧ (((bnot (inB d (0 : Int) (5000 : Int))) : Bool) = (bnot (inB d (0 : Int) (5000 : Int)))) ∧ (((bnot (inB d (0 : Int) (5000 : Int))) : Bool) = (bnot (inB d (0 : Int) (5000 : Int)))) ∧ (((bite (bnot (inB d (0 : Int) (5000 : Int))) true (bnot (inB t (1 : Int) (200 : Int)))) : Bool) = (bite (bnot (inB d (0 : Int) (5000 : Int))) true (bnot (inB t (1 : Int) (200 : Int))))) ∧ (((bite (bnot (inB d (0 : Int) (5000 : Int))) true (bnot (inB t (1 : Int) (200 : Int)))) : Bool) = (bite (bnot (inB d (0 : Int) (5000 : Int))) true (bnot (inB t (1 : Int) (200 : Int))))) ∧ (((bite (bite (bnot (inB d (0 : Int) (5000 : Int))) true (bnot (inB t (1 : Int) (200 : Int)))) true (bnot (inB r (1 : Int) (50 : Int)))) : Bool) = (bite (bite (bnot (inB d (0 : Int) (5000 : Int))) true (bnot (inB t (1 : Int) (200 : Int)))) true (bnot (inB r (1 : Int) (50 : Int))))) ∧ (true = true) ∧ (true = true) ∧ ((t : Int) = t) ∧ ((r : Int) = r) ∧ True) ∧ (((true = true) ∧ ((Cont.ints (iapp l1_1 [(nsF i1_0 i1_2 t r)])) = (Cont.ints (iapp l1_1 [(nsF i1_0 i1_2 t r)])))) ∧ ((true = true) ∧ ((Cont.ints []) = (Cont.ints []))) ∧ True)) ∧ ((([GK.int, GK.ints, GK.int] : List GK) = ([GK.int, GK.ints, GK.int] : List GK)) ∧ I1 [GV.int (nsF i1_0 i1_2 t r), GV.ints (iapp l1_1 [(nsF i1_0 i1_2 t r)]), GV.int (isub i1_2 (nsF i1_0 i1_2 t r))] ∧ μ1 [GV.int (nsF i1_0 i1_2 t r), GV.ints (iapp l1_1 [(nsF i1_0 i1_2 t r)]), GV.int (isub i1_2 (nsF i1_0 i1_2 t r))] < μ1 [GV.int i1_0, GV.ints l1_1, GV.int i1_2]))) ∧ ((ilt (0 : Int) i1_2) = false → ((true = true) ∧ ((True) ∧ (True) ∧ True) ∧ ((true = true) ∧ ((Cont.ints l1_1) = (Cont.ints (mpF d t r)))) ∧ True))))))) = ev sig_spec_MotionProfile xs_spec_MotionProfile Try.f79.ntmps (fun b => if b == 0 then [.v 8, .b 7, .v 0] else []) (codeOf Try.f79) 0 (initS [.s (.int d), .s (.int t), .s (.int r)]) (retK Try.f79.results.toList [.nrow 3 (.ints (mpF d t r))]) := by kernel_rfl
set_option maxHeartbeats 400000 in
theorem F_spec_MotionProfile : FunOK 79 g_spec_MotionProfile := by
  refine fun_F (by kernel_rfl) Try.func79 rfl (by kernel_rfl) sig_spec_MotionProfile_ok xs_spec_MotionProfile_ok ?_
  intro avs sg h hn hl
  unfold g_spec_MotionProfile at h
  split at h
  · rename_i d t r
    injection h with h; subst h
    refine ⟨by kernel_rfl, fun b => if b == 0 then [.v 8, .b 7, .v 0] else [], Eq.mp (V_spec_MotionProfile d t r) ?_⟩
    simp only [true_and, and_true, implies_true, and_self, forall_const, true_implies, lenA, lenL, SV.lenOK, Cont.lenOK] at hn hl ⊢
    simp only [ilt_t, ilt_f, ile_t, ile_f, ieq_t, ieq_f, bnot_e, band_e, bite_and, bite_or, NLt_e, NLe_e, NNe_e, NIs_e, imax_e, imin_e, irem_e, Bool.not_eq_true', Bool.not_eq_false', Bool.and_eq_true, Bool.or_eq_true, Bool.or_eq_false_iff, Bool.and_eq_false_iff, Cont.pts.injEq, Cont.ints.injEq, Cont.bools.injEq, Cont.ptss.injEq, Cont.intss.injEq, Cont.boolss.injEq, true_and, and_true, implies_true]
    refine ⟨fun h => ?_, fun h => ?_⟩
    · unfold mpF lfB; rcases h with (h | h) | h <;> simp [h]
    have hl : lfB t r = true := by unfold lfB; rw [h.1.2, h.2]; rfl
    have hd := inB_true h.1.1
    obtain ⟨ht, hr, hr'⟩ := lf_parts hl
    have e : mpF d t r = mpN t r d.toNat 0 d := by unfold mpF; rw [h.1.1, hl]; rfl
    rw [e]
    refine ⟨fun | [.int s, .ints o, .int q] => (0 ≤ s ∧ s ≤ 200) ∧ (0 ≤ q ∧ q ≤ 5000) ∧ ilen o + q ≤ 5000 ∧ o ++ mpN t r q.toNat s q = mpN t r d.toNat 0 d | _ => False, fun | [.int _, .ints _, .int q] => q.toNat | _ => 0, ⟨by omega, hd, by rw [ilen_nil]; omega, rfl⟩, ?_⟩
    rintro s o q ⟨hs, hq, hlen, heq⟩
    refine ⟨fun hc => ?_, fun hc => ?_⟩
    · rw [nsF_e hs hq hl]
      have hn := ns_in (s := s) (d := q) hr.1 ht.1 ht.2 hs.1 (by omega)
      rw [mpN_s hr.1 ht.1 ht.2 hs.1 hc] at heq
      generalize nsN q r (min t (s + r)).toNat = v at *
      rw [isub_e (by omega) (by omega)]
      have o0 := ilen_0 o
      refine ⟨⟨by omega, by rw [ilen_one]; omega⟩, ⟨by omega, by omega, by rw [ilen_app, ilen_one]; omega, ?_⟩, by show (q - v).toNat < q.toNat; omega⟩
      rw [← heq]; unfold iapp; simp
    · rw [mpN_0 hc, List.append_nil] at heq
      exact heq
  · cases h
def g_spec_l6Share : List AV → Option Sg
  | [.s (.int d), .s (.int p), .s (.int D)] => some ⟨-360 ≤ d ∧ d ≤ 360 ∧ 0 ≤ p ∧ p ≤ 10000 ∧ 1 ≤ D ∧ D ≤ 360, [.s (.int (shr d p D))]⟩
  | _ => none
def sig_spec_l6Share : FuncId → List AV → Option Sg := sigL []
def xs_spec_l6Share : XS := ⟨xsigL [], ysigL []⟩
theorem sig_spec_l6Share_ok : SigOK sig_spec_l6Share := sigL_nil
theorem xs_spec_l6Share_ok : XSigOK xs_spec_l6Share := ⟨xsigL_nil, ysigL_nil⟩
theorem V_spec_l6Share (d : Int) (p : Int) (D : Int) : ((true = true) ∧ ((True) ∧ True) ∧ (true = true) ∧ ((True) ∧ (True) ∧ (True) ∧ (True) ∧ (True) ∧ (True) ∧ (True) ∧ (NNe D 0) ∧ (True) ∧ True) ∧ (true = true) ∧ ((True) ∧ (True) ∧ True) ∧ ((ilt d (0 : Int)) = true → ((true = true) ∧ ((True) ∧ (True) ∧ (True) ∧ True) ∧ (((ineg (iquo (imul (imax d (ineg d)) p) D)) : Int) = (shr d p D)) ∧ True)) ∧ ((ilt d (0 : Int)) = false → ((true = true) ∧ ((True) ∧ (True) ∧ True) ∧ (((iquo (imul (imax d (ineg d)) p) D) : Int) = (shr d p D)) ∧ True))) = ev sig_spec_l6Share xs_spec_l6Share Try.f80.ntmps (fun b => []) (codeOf Try.f80) 0 (initS [.s (.int d), .s (.int p), .s (.int D)]) (retK Try.f80.results.toList [.s (.int (shr d p D))]) := by kernel_rfl
set_option maxHeartbeats 400000 in
theorem F_spec_l6Share : FunOK 80 g_spec_l6Share := by
  refine fun_F (by kernel_rfl) Try.func80 rfl (by kernel_rfl) sig_spec_l6Share_ok xs_spec_l6Share_ok ?_
  intro avs sg h hn hl
  unfold g_spec_l6Share at h
  split at h
  · rename_i d p D
    injection h with h; subst h
    refine ⟨by kernel_rfl, fun b => [], Eq.mp (V_spec_l6Share d p D) ?_⟩
    simp only [true_and, and_true, implies_true, and_self, forall_const, true_implies, lenA, lenL, SV.lenOK, Cont.lenOK] at hn hl ⊢
    simp only [ilt_t, ilt_f, ile_t, ile_f, ieq_t, ieq_f, bnot_e, band_e, bite_and, bite_or, NLt_e, NLe_e, NNe_e, NIs_e, imax_e, imin_e, irem_e, Bool.not_eq_true', Bool.not_eq_false', Bool.and_eq_true, Bool.or_eq_true, Bool.or_eq_false_iff, Bool.and_eq_false_iff, Cont.pts.injEq, Cont.ints.injEq, Cont.bools.injEq, Cont.ptss.injEq, Cont.intss.injEq, Cont.boolss.injEq, true_and, and_true, implies_true]
    have hb : -3600000 ≤ d * p ∧ d * p ≤ 3600000 := by
      have h := mul_box (show -360 ≤ d by omega) (show d ≤ 360 by omega) (show 0 ≤ p by omega) (show p ≤ 10000 by omega)
      omega
    have hb2 : (-d) * p = -(d * p) := Int.neg_mul ..
    have hq := tdiv_bd (a := d * p) (b := D) (by omega) (by omega) (by omega)
    have hq2 := tdiv_bd (a := -(d * p)) (b := D) (by omega) (by omega) (by omega)
    refine ⟨by omega, fun h => ?_, fun h => ?_⟩
    · have hs : -3600000 ≤ (-(d * p)).tdiv D ∧ (-(d * p)).tdiv D ≤ 3600000 := by
        have h0 : 0 ≤ -(d * p) := by rw [← hb2]; exact Int.mul_nonneg (by omega) (by omega)
        rw [Int.tdiv_eq_ediv_of_nonneg h0]
        have := Int.ediv_nonneg h0 (show 0 ≤ D by omega)
        have := Int.ediv_le_self D h0
        omega
      have em : max d (ineg d) = -d := by rw [ineg_u]; omega
      have hng : ineg ((-(d * p)).tdiv D) = -((-(d * p)).tdiv D) := by rw [ineg_u]; omega
      rw [em, imul_e (by omega) (by omega), hb2, hq2.1, hng, Int.neg_tdiv]
      unfold shr; omega
    · have em : max d (ineg d) = d := by rw [ineg_u]; omega
      rw [em, imul_e (by omega) (by omega), hq.1]
      rfl
  · cases h
def g_spec_MoveJoints : List AV → Option Sg
  | [.agg [.view (.ints a1), .view (.ints a2), .view (.ints a3)], .s (.view (.ints f)), .s (.view (.ints t)), .s (.int top), .s (.int rise)] => some ⟨True, [.nrow 45 (.intss (mvF a1 a2 a3 f t top rise))]⟩
  | _ => none
def sig_spec_MoveJoints : FuncId → List AV → Option Sg := sigL [(77, g_spec_l6Ok), (78, g_spec_l6Most), (79, g_spec_MotionProfile), (80, g_spec_l6Share)]
def xs_spec_MoveJoints : XS := ⟨xsigL [], ysigL []⟩
theorem sig_spec_MoveJoints_ok : SigOK sig_spec_MoveJoints := sigL_cons F_spec_l6Ok (sigL_cons F_spec_l6Most (sigL_cons F_spec_MotionProfile (sigL_cons F_spec_l6Share sigL_nil)))
theorem xs_spec_MoveJoints_ok : XSigOK xs_spec_MoveJoints := ⟨xsigL_nil, ysigL_nil⟩
theorem V_spec_MoveJoints (a1 : List Int) (a2 : List Int) (a3 : List Int) (f : List Int) (t : List Int) (top : Int) (rise : Int) : ((true = true) ∧ ((True) ∧ (True) ∧ True) ∧ (true = true) ∧ ((True) ∧ (True) ∧ True) ∧ (true = true) ∧ ((True) ∧ (True) ∧ (True) ∧ (True) ∧ (True) ∧ ((True)) ∧ (True) ∧ True) ∧ ((bnot (okM a1 a2 a3 f t top rise)) = true → ((true = true) ∧ ((True) ∧ (True) ∧ True) ∧ ((true = true) ∧ ((Cont.intss []) = (Cont.intss (mvF a1 a2 a3 f t top rise)))) ∧ True)) ∧ ((bnot (okM a1 a2 a3 f t top rise)) = false → ((true = true) ∧ ((True) ∧ (True) ∧ ((ilen t = ilen f ∧ nearL f t (ilen f))) ∧ (True) ∧ True) ∧ (true = true) ∧ ((True) ∧ (True) ∧ (True) ∧ ((True)) ∧ (True) ∧ True) ∧ (true = true) ∧ ((True) ∧ True) ∧ (true = true) ∧ ((True) ∧ True) ∧ ∃ (I1 : List GV → Prop) (μ1 : List GV → Nat), (((true = true) ∧ ((((0 : Int) : Int) = (0 : Int)) ∧ (((0 : Int) : Int) = (0 : Int)) ∧ (((mostL f t (ilen f)) : Int) = (mostL f t (ilen f))) ∧ ((top : Int) = top) ∧ ((rise : Int) = rise) ∧ (true = true) ∧ (true = true) ∧ ((Cont.ints f) = (Cont.ints f)) ∧ ((Cont.ints t) = (Cont.ints t)) ∧ (((mostL f t (ilen f)) : Int) = (mostL f t (ilen f))) ∧ (((mostL f t (ilen f)) : Int) = (mostL f t (ilen f))) ∧ (((Cont.ints a1) = (Cont.ints a1)) ∧ ((Cont.ints a2) = (Cont.ints a2)) ∧ ((Cont.ints a3) = (Cont.ints a3)) ∧ True) ∧ ((Cont.ints f) = (Cont.ints f)) ∧ ((Cont.ints t) = (Cont.ints t)) ∧ ((top : Int) = top) ∧ ((rise : Int) = rise) ∧ (((okM a1 a2 a3 f t top rise) : Bool) = (okM a1 a2 a3 f t top rise)) ∧ (((bnot (okM a1 a2 a3 f t top rise)) : Bool) = (bnot (okM a1 a2 a3 f t top rise))) ∧ (true = true) ∧ (true = true) ∧ (true = true) ∧ (((Cont.ints a1) = (Cont.ints a1)) ∧ ((Cont.ints a2) = (Cont.ints a2)) ∧ ((Cont.ints a3) = (Cont.ints a3)) ∧ True) ∧ ((Cont.ints f) = (Cont.ints f)) ∧ ((Cont.ints t) = (Cont.ints t)) ∧ ((top : Int) = top) ∧ ((rise : Int) = rise) ∧ True) ∧ (((true = true) ∧ ((Cont.intss []) = (Cont.intss []))) ∧ ((true = true) ∧ ((Cont.ints (mpF (mostL f t (ilen f)) top rise)) = (Cont.ints (mpF (mostL f t (ilen f)) top rise)))) ∧ (((Cont.ints a1) = (Cont.ints a1)) ∧ ((Cont.ints a2) = (Cont.ints a2)) ∧ ((Cont.ints a3) = (Cont.ints a3)) ∧ True) ∧ ((true = true) ∧ ((Cont.intss []) = (Cont.intss []))) ∧ True)) ∧ (([GK.int, GK.int, GK.intss] : List GK) = ([GK.int, GK.int, GK.intss] : List GK)) ∧ I1 [GV.int (0 : Int), GV.int (0 : Int), GV.intss []]) ∧ (∀ i1_0 : Int, ∀ i1_1 : Int, ∀ l1_2 : List (List Int), I1 [GV.int i1_0, GV.int i1_1, GV.intss l1_2] → ((true = true) ∧ ((True) ∧ (True) ∧ (True) ∧ (True) ∧ True) ∧ ((ilt i1_0 (ilen (mpF (mostL f t (ilen f)) top rise))) = true → ((true = true) ∧ ((True) ∧ (True) ∧ (True) ∧ (NLe 0 i1_0 ∧ NLt i1_0 (ilen (mpF (mostL f t (ilen f)) top rise))) ∧ (NLt i1_0 (ilen (mpF (mostL f t (ilen f)) top rise))) ∧ (True) ∧ (True) ∧ True) ∧ (true = true) ∧ ((True) ∧ (True) ∧ True) ∧ (true = true) ∧ ((True) ∧ True) ∧ ∃ (I2 : List GV → Prop) (μ2 : List GV → Nat), (((true = true) ∧ ((((0 : Int) : Int) = (0 : Int)) ∧ (true = true) ∧ ((i1_1 : Int) = i1_1) ∧ (true = true) ∧ ((i1_0 : Int) = i1_0) ∧ (((geti (mpF (mostL f t (ilen f)) top rise) i1_0) : Int) = (geti (mpF (mostL f t (ilen f)) top rise) i1_0)) ∧ (((iadd i1_1 (geti (mpF (mostL f t (ilen f)) top rise) i1_0)) : Int) = (iadd i1_1 (geti (mpF (mostL f t (ilen f)) top rise) i1_0))) ∧ (((iadd i1_1 (geti (mpF (mostL f t (ilen f)) top rise) i1_0)) : Int) = (iadd i1_1 (geti (mpF (mostL f t (ilen f)) top rise) i1_0))) ∧ ((i1_0 : Int) = i1_0) ∧ (true = true) ∧ (((ilen (mpF (mostL f t (ilen f)) top rise)) : Int) = (ilen (mpF (mostL f t (ilen f)) top rise))) ∧ (((ilt i1_0 (ilen (mpF (mostL f t (ilen f)) top rise))) : Bool) = (ilt i1_0 (ilen (mpF (mostL f t (ilen f)) top rise)))) ∧ ((i1_0 : Int) = i1_0) ∧ (((mostL f t (ilen f)) : Int) = (mostL f t (ilen f))) ∧ ((top : Int) = top) ∧ ((rise : Int) = rise) ∧ (true = true) ∧ (true = true) ∧ ((Cont.ints f) = (Cont.ints f)) ∧ ((Cont.ints t) = (Cont.ints t)) ∧ (((mostL f t (ilen f)) : Int) = (mostL f t (ilen f))) ∧ (((mostL f t (ilen f)) : Int) = (mostL f t (ilen f))) ∧ (((Cont.ints a1) = (Cont.ints a1)) ∧ ((Cont.ints a2) = (Cont.ints a2)) ∧ ((Cont.ints a3) = (Cont.ints a3)) ∧ True) ∧ ((Cont.ints f) = (Cont.ints f)) ∧ ((Cont.ints t) = (Cont.ints t)) ∧ ((top : Int) = top) ∧ ((rise : Int) = rise) ∧ (((okM a1 a2 a3 f t top rise) : Bool) = (okM a1 a2 a3 f t top rise)) ∧ (((bnot (okM a1 a2 a3 f t top rise)) : Bool) = (bnot (okM a1 a2 a3 f t top rise))) ∧ (true = true) ∧ (true = true) ∧ (true = true) ∧ (((Cont.ints a1) = (Cont.ints a1)) ∧ ((Cont.ints a2) = (Cont.ints a2)) ∧ ((Cont.ints a3) = (Cont.ints a3)) ∧ True) ∧ ((Cont.ints f) = (Cont.ints f)) ∧ ((Cont.ints t) = (Cont.ints t)) ∧ ((top : Int) = top) ∧ ((rise : Int) = rise) ∧ True) ∧ (((true = true) ∧ ((Cont.ints []) = (Cont.ints []))) ∧ ((true = true) ∧ ((Cont.intss l1_2) = (Cont.intss l1_2))) ∧ ((true = true) ∧ ((Cont.ints (mpF (mostL f t (ilen f)) top rise)) = (Cont.ints (mpF (mostL f t (ilen f)) top rise)))) ∧ (((Cont.ints a1) = (Cont.ints a1)) ∧ ((Cont.ints a2) = (Cont.ints a2)) ∧ ((Cont.ints a3) = (Cont.ints a3)) ∧ True) ∧ ((true = true) ∧ ((Cont.intss []) = (Cont.intss []))) ∧ True)) ∧ (([GK.int, GK.ints] : List GK) = ([GK.int, GK.ints] : List GK)) ∧ I2 [GV.int (0 : Int), GV.ints []]) ∧ (∀ i2_0 : Int, ∀ l2_1 : List Int, I2 [GV.int i2_0, GV.ints l2_1] → ((true = true) ∧ ((True) ∧ (True) ∧ (True) ∧ (True) ∧ True) ∧ ((ilt i2_0 (ilen f)) = true → ((true = true) ∧ ((True) ∧ (True) ∧ (True) ∧ (NLe 0 i2_0 ∧ NLt i2_0 (ilen f)) ∧ (True) ∧ (True) ∧ (True) ∧ (NLe 0 i2_0 ∧ NLt i2_0 (ilen t)) ∧ (True) ∧ (True) ∧ (True) ∧ (NLe 0 i2_0 ∧ NLt i2_0 (ilen f)) ∧ (True) ∧ (True) ∧ (True) ∧ (True) ∧ ((-360 ≤ (isub (geti t i2_0) (geti f i2_0)) ∧ (isub (geti t i2_0) (geti f i2_0)) ≤ 360 ∧ 0 ≤ (iadd i1_1 (geti (mpF (mostL f t (ilen f)) top rise) i1_0)) ∧ (iadd i1_1 (geti (mpF (mostL f t (ilen f)) top rise) i1_0)) ≤ 10000 ∧ 1 ≤ (mostL f t (ilen f)) ∧ (mostL f t (ilen f)) ≤ 360)) ∧ (True) ∧ (True) ∧ True) ∧ (NLe (ilen l2_1) 1000000000 ∧ NLe (ilen [(iadd (geti f i2_0) (shr (isub (geti t i2_0) (geti f i2_0)) (iadd i1_1 (geti (mpF (mostL f t (ilen f)) top rise) i1_0)) (mostL f t (ilen f))))]) 1000000000) ∧ (True) ∧ (true = true) ∧ ((True) ∧ (True) ∧ (True) ∧ True) ∧ ((true = true) ∧ ((((iadd i2_0 (1 : Int)) : Int) = (iadd i2_0 (1 : Int))) ∧ (true = true) ∧ ((i1_1 : Int) = i1_1) ∧ (true = true) ∧ ((i1_0 : Int) = i1_0) ∧ (((geti (mpF (mostL f t (ilen f)) top rise) i1_0) : Int) = (geti (mpF (mostL f t (ilen f)) top rise) i1_0)) ∧ (((iadd i1_1 (geti (mpF (mostL f t (ilen f)) top rise) i1_0)) : Int) = (iadd i1_1 (geti (mpF (mostL f t (ilen f)) top rise) i1_0))) ∧ (((iadd i1_1 (geti (mpF (mostL f t (ilen f)) top rise) i1_0)) : Int) = (iadd i1_1 (geti (mpF (mostL f t (ilen f)) top rise) i1_0))) ∧ ((i1_0 : Int) = i1_0) ∧ (true = true) ∧ (((ilen (mpF (mostL f t (ilen f)) top rise)) : Int) = (ilen (mpF (mostL f t (ilen f)) top rise))) ∧ (((ilt i1_0 (ilen (mpF (mostL f t (ilen f)) top rise))) : Bool) = (ilt i1_0 (ilen (mpF (mostL f t (ilen f)) top rise)))) ∧ ((i1_0 : Int) = i1_0) ∧ (((mostL f t (ilen f)) : Int) = (mostL f t (ilen f))) ∧ ((top : Int) = top) ∧ ((rise : Int) = rise) ∧ (true = true) ∧ (true = true) ∧ ((Cont.ints f) = (Cont.ints f)) ∧ ((Cont.ints t) = (Cont.ints t)) ∧ (((mostL f t (ilen f)) : Int) = (mostL f t (ilen f))) ∧ (((mostL f t (ilen f)) : Int) = (mostL f t (ilen f))) ∧ (((Cont.ints a1) = (Cont.ints a1)) ∧ ((Cont.ints a2) = (Cont.ints a2)) ∧ ((Cont.ints a3) = (Cont.ints a3)) ∧ True) ∧ ((Cont.ints f) = (Cont.ints f)) ∧ ((Cont.ints t) = (Cont.ints t)) ∧ ((top : Int) = top) ∧ ((rise : Int) = rise) ∧ (((okM a1 a2 a3 f t top rise) : Bool) = (okM a1 a2 a3 f t top rise)) ∧ (((bnot (okM a1 a2 a3 f t top rise)) : Bool) = (bnot (okM a1 a2 a3 f t top rise))) ∧ (true = true) ∧ (true = true) ∧ (true = true) ∧ (((Cont.ints a1) = (Cont.ints a1)) ∧ ((Cont.ints a2) = (Cont.ints a2)) ∧ ((Cont.ints a3) = (Cont.ints a3)) ∧ True) ∧ ((Cont.ints f) = (Cont.ints f)) ∧ ((Cont.ints t) = (Cont.ints t)) ∧ ((top : Int) = top) ∧ ((rise : Int) = rise) ∧ True) ∧ (((true = true) ∧ ((Cont.ints (iapp l2_1 [(iadd (geti f i2_0) (shr (isub (geti t i2_0) (geti f i2_0)) (iadd i1_1 (geti (mpF (mostL f t (ilen f)) top rise) i1_0)) (mostL f t (ilen f))))])) = (Cont.ints (iapp l2_1 [(iadd (geti f i2_0) (shr (isub (geti t i2_0) (geti f i2_0)) (iadd i1_1 (geti (mpF (mostL f t (ilen f)) top rise) i1_0)) (mostL f t (ilen f))))])))) ∧ ((true = true) ∧ ((Cont.intss l1_2) = (Cont.intss l1_2))) ∧ ((true = true) ∧ ((Cont.ints (mpF (mostL f t (ilen f)) top rise)) = (Cont.ints (mpF (mostL f t (ilen f)) top rise)))) ∧ (((Cont.ints a1) = (Cont.ints a1)) ∧ ((Cont.ints a2) = (Cont.ints a2)) ∧ ((Cont.ints a3) = (Cont.ints a3)) ∧ True) ∧ ((true = true) ∧ ((Cont.intss []) = (Cont.intss []))) ∧ True)) ∧ ((([GK.int, GK.ints] : List GK) = ([GK.int, GK.ints] : List GK)) ∧ I2 [GV.int (iadd i2_0 (1 : Int)), GV.ints (iapp l2_1 [(iadd (geti f i2_0) (shr (isub (geti t i2_0) (geti f i2_0)) (iadd i1_1 (geti (mpF (mostL f t (ilen f)) top rise) i1_0)) (mostL f t (ilen f))))])] ∧ μ2 [GV.int (iadd i2_0 (1 : Int)), GV.ints (iapp l2_1 [(iadd (geti f i2_0) (shr (isub (geti t i2_0) (geti f i2_0)) (iadd i1_1 (geti (mpF (mostL f t (ilen f)) top rise) i1_0)) (mostL f t (ilen f))))])] < μ2 [GV.int i2_0, GV.ints l2_1]))) ∧ ((ilt i2_0 (ilen f)) = false → ((true = true) ∧ ((True) ∧ (True) ∧ True) ∧ (True) ∧ (NLe (ilen l1_2) 1000000000 ∧ NLe (ilen [l2_1]) 1000000000) ∧ (True) ∧ (true = true) ∧ ((True) ∧ (True) ∧ (True) ∧ True) ∧ ((true = true) ∧ ((((iadd i1_1 (geti (mpF (mostL f t (ilen f)) top rise) i1_0)) : Int) = (iadd i1_1 (geti (mpF (mostL f t (ilen f)) top rise) i1_0))) ∧ (((iadd i1_0 (1 : Int)) : Int) = (iadd i1_0 (1 : Int))) ∧ (((mostL f t (ilen f)) : Int) = (mostL f t (ilen f))) ∧ ((top : Int) = top) ∧ ((rise : Int) = rise) ∧ (true = true) ∧ (true = true) ∧ ((Cont.ints f) = (Cont.ints f)) ∧ ((Cont.ints t) = (Cont.ints t)) ∧ (((mostL f t (ilen f)) : Int) = (mostL f t (ilen f))) ∧ (((mostL f t (ilen f)) : Int) = (mostL f t (ilen f))) ∧ (((Cont.ints a1) = (Cont.ints a1)) ∧ ((Cont.ints a2) = (Cont.ints a2)) ∧ ((Cont.ints a3) = (Cont.ints a3)) ∧ True) ∧ ((Cont.ints f) = (Cont.ints f)) ∧ ((Cont.ints t) = (Cont.ints t)) ∧ ((top : Int) = top) ∧ ((rise : Int) = rise) ∧ (((okM a1 a2 a3 f t top rise) : Bool) = (okM a1 a2 a3 f t top rise)) ∧ (((bnot (okM a1 a2 a3 f t top rise)) : Bool) = (bnot (okM a1 a2 a3 f t top rise))) ∧ (true = true) ∧ (true = true) ∧ (true = true) ∧ (((Cont.ints a1) = (Cont.ints a1)) ∧ ((Cont.ints a2) = (Cont.ints a2)) ∧ ((Cont.ints a3) = (Cont.ints a3)) ∧ True) ∧ ((Cont.ints f) = (Cont.ints f)) ∧ ((Cont.ints t) = (Cont.ints t)) ∧ ((top : Int) = top) ∧ ((rise : Int) = rise) ∧ True) ∧ (((true = true) ∧ ((Cont.intss (iapp l1_2 [l2_1])) = (Cont.intss (iapp l1_2 [l2_1])))) ∧ ((true = true) ∧ ((Cont.ints (mpF (mostL f t (ilen f)) top rise)) = (Cont.ints (mpF (mostL f t (ilen f)) top rise)))) ∧ (((Cont.ints a1) = (Cont.ints a1)) ∧ ((Cont.ints a2) = (Cont.ints a2)) ∧ ((Cont.ints a3) = (Cont.ints a3)) ∧ True) ∧ ((true = true) ∧ ((Cont.intss []) = (Cont.intss []))) ∧ True)) ∧ ((([GK.int, GK.int, GK.intss] : List GK) = ([GK.int, GK.int, GK.intss] : List GK)) ∧ I1 [GV.int (iadd i1_0 (1 : Int)), GV.int (iadd i1_1 (geti (mpF (mostL f t (ilen f)) top rise) i1_0)), GV.intss (iapp l1_2 [l2_1])] ∧ μ1 [GV.int (iadd i1_0 (1 : Int)), GV.int (iadd i1_1 (geti (mpF (mostL f t (ilen f)) top rise) i1_0)), GV.intss (iapp l1_2 [l2_1])] < μ1 [GV.int i1_0, GV.int i1_1, GV.intss l1_2]))))))) ∧ ((ilt i1_0 (ilen (mpF (mostL f t (ilen f)) top rise))) = false → ((true = true) ∧ ((True) ∧ (True) ∧ True) ∧ ((true = true) ∧ ((Cont.intss l1_2) = (Cont.intss (mvF a1 a2 a3 f t top rise)))) ∧ True))))))) = ev sig_spec_MoveJoints xs_spec_MoveJoints Try.f37.ntmps (fun b => if b == 0 then [.v 15, .v 14, .b 11] else if b == 2 then [.v 17, .b 16] else []) (codeOf Try.f37) 0 (initS [.agg [.view (.ints a1), .view (.ints a2), .view (.ints a3)], .s (.view (.ints f)), .s (.view (.ints t)), .s (.int top), .s (.int rise)]) (retK Try.f37.results.toList [.nrow 45 (.intss (mvF a1 a2 a3 f t top rise))]) := by kernel_rfl
set_option maxHeartbeats 400000 in
theorem F_spec_MoveJoints : FunOK 37 g_spec_MoveJoints := by
  refine fun_F (by kernel_rfl) Try.func37 rfl (by kernel_rfl) sig_spec_MoveJoints_ok xs_spec_MoveJoints_ok ?_
  intro avs sg h hn hl
  unfold g_spec_MoveJoints at h
  split at h
  · rename_i a1 a2 a3 f t top rise
    injection h with h; subst h
    refine ⟨by kernel_rfl, fun b => if b == 0 then [.v 15, .v 14, .b 11] else if b == 2 then [.v 17, .b 16] else [], Eq.mp (V_spec_MoveJoints a1 a2 a3 f t top rise) ?_⟩
    simp only [true_and, and_true, implies_true, and_self, forall_const, true_implies, lenA, lenL, SV.lenOK, Cont.lenOK] at hn hl ⊢
    have h0 := ilen_0 f
    simp only [ilt_t, ilt_f, ile_t, ile_f, ieq_t, ieq_f, bnot_e, band_e, bite_and, bite_or, NLt_e, NLe_e, NNe_e, NIs_e, imax_e, imin_e, irem_e, Bool.not_eq_true', Bool.not_eq_false', Bool.and_eq_true, Bool.or_eq_true, Bool.or_eq_false_iff, Bool.and_eq_false_iff, Cont.pts.injEq, Cont.ints.injEq, Cont.bools.injEq, Cont.ptss.injEq, Cont.intss.injEq, Cont.boolss.injEq, true_and, and_true, implies_true]
    refine ⟨fun h => by unfold mvF; rw [h]; rfl, fun h => ?_⟩
    obtain ⟨j1, j2, lf, hf4, htl, hn', hm, hs, hv, hlen⟩ := ok_parts h
    have hd := (mostL_in hn' h0 (Int.le_refl _)).2.2
    have e : mvF a1 a2 a3 f t top rise = mvK f t (mvP f t top rise) (mostL f t (ilen f)) (ilen (mvP f t top rise)) := by unfold mvF; rw [if_pos h]
    have eP : mpF (mostL f t (ilen f)) top rise = mvP f t top rise := rfl
    rw [e, eP]
    generalize mvP f t top rise = P at *
    generalize mostL f t (ilen f) = D at *
    have hv0 : ∀ v ∈ P, 0 ≤ v := fun v hm => by have := (hv v hm).1; omega
    have hP0 := ilen_0 P
    refine ⟨⟨htl, hn'⟩, fun | [.int k, .int p, .intss o] => 0 ≤ k ∧ k ≤ ilen P ∧ p = pS P k ∧ o = mvK f t P D k | _ => False, fun | .int k :: _ => (ilen P - k).toNat | _ => 0, ⟨by omega, by omega, (pS_0 P).symm, rfl⟩, ?_⟩
    rintro k p o ⟨k0, k1, rfl, rfl⟩
    refine ⟨fun hc => ?_, fun hc => ?_⟩
    · have hg := hv _ (geti_mem k0 hc)
      have hb1 := pS_bd hv0 k
      have hb2 := pS_bd hv0 (k + 1)
      have hps := pS_s k0 hc
      have e1 : iadd (pS P k) (geti P k) = pS P (k + 1) := by rw [iadd_e (by omega) (by omega)]; omega
      rw [e1]
      refine ⟨⟨⟨k0, hc⟩, hc⟩, fun | [.int j, .ints r] => 0 ≤ j ∧ j ≤ ilen f ∧ r = rowK f t (pS P (k + 1)) D j | _ => False, fun | .int j :: _ => (ilen f - j).toNat | _ => 0, ⟨by omega, by omega, rfl⟩, ?_⟩
      rintro j r ⟨j0, jn, rfl⟩
      refine ⟨fun hj => ?_, fun hj => ?_⟩
      · have hnj := hn' j j0 hj
        have e2 : isub (geti t j) (geti f j) = geti t j - geti f j := isub_e (by omega) (by omega)
        have hbt := shr_between (x := geti f j) (y := geti t j) (p := pS P (k + 1)) (D := D) (by omega) (by omega) (by omega)
        have e3 : iadd (geti f j) (shr (geti t j - geti f j) (pS P (k + 1)) D) = rowE f t (pS P (k + 1)) D j := by
          rw [iadd_e (by omega) (by omega)]; rfl
        rw [e2, e3, rowK_len j0, iadd_e (by omega) (by omega)]
        exact ⟨⟨⟨j0, hj⟩, ⟨j0, by omega⟩, ⟨j0, hj⟩, by omega, by omega, by omega, by omega, by omega, by omega⟩, ⟨by omega, by rw [ilen_one]; omega⟩, ⟨by omega, by omega, rowK_s j0⟩, by show (ilen f - (j + 1)).toNat < (ilen f - j).toNat; omega⟩
      · have e4 : rowK f t (pS P (k + 1)) D j = rowL f t (pS P (k + 1)) D := by unfold rowL; rw [show j = ilen f by omega]
        rw [e4, mvK_len k0, iadd_e (by omega) (by omega)]
        exact ⟨⟨by omega, by rw [ilen_one]; omega⟩, ⟨by omega, by omega, rfl, mvK_s k0⟩, by show (ilen P - (k + 1)).toNat < (ilen P - k).toNat; omega⟩
    · rw [show k = ilen P by omega]
  · cases h
def g_impl_within : List AV → Option Sg
  | [.s (.int n), .s (.int lo), .s (.int hi)] => some ⟨True, [.s (.bool (inB n lo hi))]⟩
  | _ => none
def sig_impl_within : FuncId → List AV → Option Sg := sigL []
def xs_impl_within : XS := ⟨xsigL [], ysigL []⟩
theorem sig_impl_within_ok : SigOK sig_impl_within := sigL_nil
theorem xs_impl_within_ok : XSigOK xs_impl_within := ⟨xsigL_nil, ysigL_nil⟩
theorem V_impl_within (n : Int) (lo : Int) (hi : Int) : ((true = true) ∧ ((True) ∧ True) ∧ (true = true) ∧ ((True) ∧ (True) ∧ (True) ∧ (True) ∧ (NIs (ile lo n) true → True) ∧ (NIs (ile lo n) true → True) ∧ (NIs (ile lo n) true → True) ∧ (True) ∧ (True) ∧ True) ∧ (((bite (ile lo n) (ile n hi) false) : Bool) = (inB n lo hi)) ∧ True) = ev sig_impl_within xs_impl_within Try.f71.ntmps (fun b => []) (codeOf Try.f71) 0 (initS [.s (.int n), .s (.int lo), .s (.int hi)]) (retK Try.f71.results.toList [.s (.bool (inB n lo hi))]) := by kernel_rfl
set_option maxHeartbeats 400000 in
theorem F_impl_within : FunOK 71 g_impl_within := by
  refine fun_F (by kernel_rfl) Try.func71 rfl (by kernel_rfl) sig_impl_within_ok xs_impl_within_ok ?_
  intro avs sg h hn hl
  unfold g_impl_within at h
  split at h
  · rename_i n lo hi
    injection h with h; subst h
    refine ⟨by kernel_rfl, fun b => [], Eq.mp (V_impl_within n lo hi) ?_⟩
    simp only [true_and, and_true, implies_true, and_self, forall_const, true_implies, lenA, lenL, SV.lenOK, Cont.lenOK] at hn hl ⊢
    simp only [bite_and, inB_eq]
  · cases h
def g_impl_ArmValid : List AV → Option Sg
  | [.agg [.view (.ints a1), .view (.ints a2), .view (.ints a3)]] => some ⟨True, [.s (.bool (armB a1 a2 a3))]⟩
  | _ => none
def sig_impl_ArmValid : FuncId → List AV → Option Sg := sigL [(71, g_impl_within)]
def xs_impl_ArmValid : XS := ⟨xsigL [], ysigL []⟩
theorem sig_impl_ArmValid_ok : SigOK sig_impl_ArmValid := sigL_cons F_impl_within sigL_nil
theorem xs_impl_ArmValid_ok : XSigOK xs_impl_ArmValid := ⟨xsigL_nil, ysigL_nil⟩
theorem V_impl_ArmValid (a1 : List Int) (a2 : List Int) (a3 : List Int) : ((true = true) ∧ ((True) ∧ (True) ∧ True) ∧ (true = true) ∧ ((True) ∧ (True) ∧ (True) ∧ (True) ∧ True) ∧ (true = true) ∧ ((True) ∧ ((True)) ∧ (True) ∧ (True) ∧ (NIs (bnot (inB (ilen a1) (1 : Int) (4 : Int))) false → True) ∧ (NIs (bnot (inB (ilen a1) (1 : Int) (4 : Int))) false → True) ∧ (NIs (bnot (inB (ilen a1) (1 : Int) (4 : Int))) false → True) ∧ (NIs (bnot (inB (ilen a1) (1 : Int) (4 : Int))) false → True) ∧ (NIs (bnot (inB (ilen a1) (1 : Int) (4 : Int))) false → True) ∧ (True) ∧ (True) ∧ (NIs (bite (bnot (inB (ilen a1) (1 : Int) (4 : Int))) true (bnot (ieq (ilen a2) (ilen a1)))) false → True) ∧ (NIs (bite (bnot (inB (ilen a1) (1 : Int) (4 : Int))) true (bnot (ieq (ilen a2) (ilen a1)))) false → True) ∧ (NIs (bite (bnot (inB (ilen a1) (1 : Int) (4 : Int))) true (bnot (ieq (ilen a2) (ilen a1)))) false → True) ∧ (NIs (bite (bnot (inB (ilen a1) (1 : Int) (4 : Int))) true (bnot (ieq (ilen a2) (ilen a1)))) false → True) ∧ (NIs (bite (bnot (inB (ilen a1) (1 : Int) (4 : Int))) true (bnot (ieq (ilen a2) (ilen a1)))) false → True) ∧ (True) ∧ True) ∧ ((bite (bite (bnot (inB (ilen a1) (1 : Int) (4 : Int))) true (bnot (ieq (ilen a2) (ilen a1)))) true (bnot (ieq (ilen a3) (ilen a1)))) = true → ((true = true) ∧ ((True) ∧ True) ∧ ((false : Bool) = (armB a1 a2 a3)) ∧ True)) ∧ ((bite (bite (bnot (inB (ilen a1) (1 : Int) (4 : Int))) true (bnot (ieq (ilen a2) (ilen a1)))) true (bnot (ieq (ilen a3) (ilen a1)))) = false → ((true = true) ∧ ((True) ∧ (True) ∧ True) ∧ ∃ (I1 : List GV → Prop) (μ1 : List GV → Nat), (((true = true) ∧ (((false : Bool) = false) ∧ (((0 : Int) : Int) = (0 : Int)) ∧ (((ilen a1) : Int) = (ilen a1)) ∧ (((ilen a1) : Int) = (ilen a1)) ∧ (((inB (ilen a1) (1 : Int) (4 : Int)) : Bool) = (inB (ilen a1) (1 : Int) (4 : Int))) ∧ (((bnot (inB (ilen a1) (1 : Int) (4 : Int))) : Bool) = (bnot (inB (ilen a1) (1 : Int) (4 : Int)))) ∧ (((bnot (inB (ilen a1) (1 : Int) (4 : Int))) : Bool) = (bnot (inB (ilen a1) (1 : Int) (4 : Int)))) ∧ (((bite (bnot (inB (ilen a1) (1 : Int) (4 : Int))) true (bnot (ieq (ilen a2) (ilen a1)))) : Bool) = (bite (bnot (inB (ilen a1) (1 : Int) (4 : Int))) true (bnot (ieq (ilen a2) (ilen a1))))) ∧ (((bite (bnot (inB (ilen a1) (1 : Int) (4 : Int))) true (bnot (ieq (ilen a2) (ilen a1)))) : Bool) = (bite (bnot (inB (ilen a1) (1 : Int) (4 : Int))) true (bnot (ieq (ilen a2) (ilen a1))))) ∧ (((bite (bite (bnot (inB (ilen a1) (1 : Int) (4 : Int))) true (bnot (ieq (ilen a2) (ilen a1)))) true (bnot (ieq (ilen a3) (ilen a1)))) : Bool) = (bite (bite (bnot (inB (ilen a1) (1 : Int) (4 : Int))) true (bnot (ieq (ilen a2) (ilen a1)))) true (bnot (ieq (ilen a3) (ilen a1))))) ∧ (true = true) ∧ ((Cont.ints a1) = (Cont.ints a1)) ∧ (((ilen a1) : Int) = (ilen a1)) ∧ (((ilen a1) : Int) = (ilen a1)) ∧ (true = true) ∧ (((Cont.ints a1) = (Cont.ints a1)) ∧ ((Cont.ints a2) = (Cont.ints a2)) ∧ ((Cont.ints a3) = (Cont.ints a3)) ∧ True) ∧ True) ∧ ((((Cont.ints a1) = (Cont.ints a1)) ∧ ((Cont.ints a2) = (Cont.ints a2)) ∧ ((Cont.ints a3) = (Cont.ints a3)) ∧ True) ∧ True)) ∧ (([GK.int, GK.bool] : List GK) = ([GK.int, GK.bool] : List GK)) ∧ I1 [GV.int (0 : Int), GV.bool false]) ∧ (∀ i1_0 : Int, ∀ b1_1 : Bool, I1 [GV.int i1_0, GV.bool b1_1] → ((true = true) ∧ ((True) ∧ True) ∧ ((ilt i1_0 (ilen a1)) = true → ((true = true) ∧ ((True) ∧ (True) ∧ True) ∧ (true = true) ∧ ((True) ∧ (True) ∧ (True) ∧ (NLe 0 i1_0 ∧ NLt i1_0 (ilen a1)) ∧ (True) ∧ ((True)) ∧ (True) ∧ (True) ∧ (NIs (bnot (inB (geti a1 i1_0) (1 : Int) (500 : Int))) false → True) ∧ (NIs (bnot (inB (geti a1 i1_0) (1 : Int) (500 : Int))) false → True) ∧ (NIs (bnot (inB (geti a1 i1_0) (1 : Int) (500 : Int))) false → True) ∧ (NIs (bnot (inB (geti a1 i1_0) (1 : Int) (500 : Int))) false → (NLe 0 i1_0 ∧ NLt i1_0 (ilen a2))) ∧ (NIs (bnot (inB (geti a1 i1_0) (1 : Int) (500 : Int))) false → True) ∧ (NIs (bnot (inB (geti a1 i1_0) (1 : Int) (500 : Int))) false → (True)) ∧ (NIs (bnot (inB (geti a1 i1_0) (1 : Int) (500 : Int))) false → True) ∧ (True) ∧ (True) ∧ (NIs (bite (bnot (inB (geti a1 i1_0) (1 : Int) (500 : Int))) true (bnot (inB (geti a2 i1_0) (-180 : Int) (180 : Int)))) false → True) ∧ (NIs (bite (bnot (inB (geti a1 i1_0) (1 : Int) (500 : Int))) true (bnot (inB (geti a2 i1_0) (-180 : Int) (180 : Int)))) false → True) ∧ (NIs (bite (bnot (inB (geti a1 i1_0) (1 : Int) (500 : Int))) true (bnot (inB (geti a2 i1_0) (-180 : Int) (180 : Int)))) false → True) ∧ (NIs (bite (bnot (inB (geti a1 i1_0) (1 : Int) (500 : Int))) true (bnot (inB (geti a2 i1_0) (-180 : Int) (180 : Int)))) false → (NLe 0 i1_0 ∧ NLt i1_0 (ilen a3))) ∧ (NIs (bite (bnot (inB (geti a1 i1_0) (1 : Int) (500 : Int))) true (bnot (inB (geti a2 i1_0) (-180 : Int) (180 : Int)))) false → True) ∧ (NIs (bite (bnot (inB (geti a1 i1_0) (1 : Int) (500 : Int))) true (bnot (inB (geti a2 i1_0) (-180 : Int) (180 : Int)))) false → True) ∧ (NIs (bite (bnot (inB (geti a1 i1_0) (1 : Int) (500 : Int))) true (bnot (inB (geti a2 i1_0) (-180 : Int) (180 : Int)))) false → True) ∧ (NIs (bite (bnot (inB (geti a1 i1_0) (1 : Int) (500 : Int))) true (bnot (inB (geti a2 i1_0) (-180 : Int) (180 : Int)))) false → True) ∧ (NIs (bite (bnot (inB (geti a1 i1_0) (1 : Int) (500 : Int))) true (bnot (inB (geti a2 i1_0) (-180 : Int) (180 : Int)))) false → (NLe 0 i1_0 ∧ NLt i1_0 (ilen a2))) ∧ (NIs (bite (bnot (inB (geti a1 i1_0) (1 : Int) (500 : Int))) true (bnot (inB (geti a2 i1_0) (-180 : Int) (180 : Int)))) false → True) ∧ (NIs (bite (bnot (inB (geti a1 i1_0) (1 : Int) (500 : Int))) true (bnot (inB (geti a2 i1_0) (-180 : Int) (180 : Int)))) false → (True)) ∧ (NIs (bite (bnot (inB (geti a1 i1_0) (1 : Int) (500 : Int))) true (bnot (inB (geti a2 i1_0) (-180 : Int) (180 : Int)))) false → True) ∧ (True) ∧ True) ∧ ((bite (bite (bnot (inB (geti a1 i1_0) (1 : Int) (500 : Int))) true (bnot (inB (geti a2 i1_0) (-180 : Int) (180 : Int)))) true (bnot (inB (geti a3 i1_0) (geti a2 i1_0) (180 : Int)))) = true → ((true = true) ∧ ((True) ∧ True) ∧ ((false : Bool) = (armB a1 a2 a3)) ∧ True)) ∧ ((bite (bite (bnot (inB (geti a1 i1_0) (1 : Int) (500 : Int))) true (bnot (inB (geti a2 i1_0) (-180 : Int) (180 : Int)))) true (bnot (inB (geti a3 i1_0) (geti a2 i1_0) (180 : Int)))) = false → ((true = true) ∧ ((True) ∧ (True) ∧ True) ∧ ((true = true) ∧ (((b1_1 : Bool) = b1_1) ∧ (((iadd i1_0 (1 : Int)) : Int) = (iadd i1_0 (1 : Int))) ∧ (((ilen a1) : Int) = (ilen a1)) ∧ (((ilen a1) : Int) = (ilen a1)) ∧ (((inB (ilen a1) (1 : Int) (4 : Int)) : Bool) = (inB (ilen a1) (1 : Int) (4 : Int))) ∧ (((bnot (inB (ilen a1) (1 : Int) (4 : Int))) : Bool) = (bnot (inB (ilen a1) (1 : Int) (4 : Int)))) ∧ (((bnot (inB (ilen a1) (1 : Int) (4 : Int))) : Bool) = (bnot (inB (ilen a1) (1 : Int) (4 : Int)))) ∧ (((bite (bnot (inB (ilen a1) (1 : Int) (4 : Int))) true (bnot (ieq (ilen a2) (ilen a1)))) : Bool) = (bite (bnot (inB (ilen a1) (1 : Int) (4 : Int))) true (bnot (ieq (ilen a2) (ilen a1))))) ∧ (((bite (bnot (inB (ilen a1) (1 : Int) (4 : Int))) true (bnot (ieq (ilen a2) (ilen a1)))) : Bool) = (bite (bnot (inB (ilen a1) (1 : Int) (4 : Int))) true (bnot (ieq (ilen a2) (ilen a1))))) ∧ (((bite (bite (bnot (inB (ilen a1) (1 : Int) (4 : Int))) true (bnot (ieq (ilen a2) (ilen a1)))) true (bnot (ieq (ilen a3) (ilen a1)))) : Bool) = (bite (bite (bnot (inB (ilen a1) (1 : Int) (4 : Int))) true (bnot (ieq (ilen a2) (ilen a1)))) true (bnot (ieq (ilen a3) (ilen a1))))) ∧ (true = true) ∧ ((Cont.ints a1) = (Cont.ints a1)) ∧ (((ilen a1) : Int) = (ilen a1)) ∧ (((ilen a1) : Int) = (ilen a1)) ∧ (true = true) ∧ (((Cont.ints a1) = (Cont.ints a1)) ∧ ((Cont.ints a2) = (Cont.ints a2)) ∧ ((Cont.ints a3) = (Cont.ints a3)) ∧ True) ∧ True) ∧ ((((Cont.ints a1) = (Cont.ints a1)) ∧ ((Cont.ints a2) = (Cont.ints a2)) ∧ ((Cont.ints a3) = (Cont.ints a3)) ∧ True) ∧ True)) ∧ ((([GK.int, GK.bool] : List GK) = ([GK.int, GK.bool] : List GK)) ∧ I1 [GV.int (iadd i1_0 (1 : Int)), GV.bool b1_1] ∧ μ1 [GV.int (iadd i1_0 (1 : Int)), GV.bool b1_1] < μ1 [GV.int i1_0, GV.bool b1_1]))))) ∧ ((ilt i1_0 (ilen a1)) = false → ((true = true) ∧ ((True) ∧ True) ∧ ((true : Bool) = (armB a1 a2 a3)) ∧ True))))))) = ev sig_impl_ArmValid xs_impl_ArmValid Try.f106.ntmps (fun b => if b == 0 then [.v 26, .v 2] else []) (codeOf Try.f106) 0 (initS [.agg [.view (.ints a1), .view (.ints a2), .view (.ints a3)]]) (retK Try.f106.results.toList [.s (.bool (armB a1 a2 a3))]) := by kernel_rfl
set_option maxHeartbeats 400000 in
theorem F_impl_ArmValid : FunOK 106 g_impl_ArmValid := by
  refine fun_F (by kernel_rfl) Try.func106 rfl (by kernel_rfl) sig_impl_ArmValid_ok xs_impl_ArmValid_ok ?_
  intro avs sg h hn hl
  unfold g_impl_ArmValid at h
  split at h
  · rename_i a1 a2 a3
    injection h with h; subst h
    refine ⟨by kernel_rfl, fun b => if b == 0 then [.v 26, .v 2] else [], Eq.mp (V_impl_ArmValid a1 a2 a3) ?_⟩
    simp only [true_and, and_true, implies_true, and_self, forall_const, true_implies, lenA, lenL, SV.lenOK, Cont.lenOK] at hn hl ⊢
    have h0 := ilen_0 a1
    simp only [ilt_t, ilt_f, ile_t, ile_f, ieq_t, ieq_f, bnot_e, band_e, bite_and, bite_or, NLt_e, NLe_e, NNe_e, NIs_e, imax_e, imin_e, irem_e, Bool.not_eq_true', Bool.not_eq_false', Bool.and_eq_true, Bool.or_eq_true, Bool.or_eq_false_iff, Bool.and_eq_false_iff, Cont.pts.injEq, Cont.ints.injEq, Cont.bools.injEq, Cont.ptss.injEq, Cont.intss.injEq, Cont.boolss.injEq, true_and, and_true, implies_true]
    refine ⟨fun h => ?_, fun h => ?_⟩
    · unfold armB
      rcases h with (h | h) | h <;> simp [h]
    · obtain ⟨⟨c1, c2⟩, c3⟩ := h
      refine ⟨fun | .int k :: _ => 0 ≤ k ∧ k ≤ ilen a1 ∧ (∀ j, 0 ≤ j → j < k → armE a1 a2 a3 j = true) | _ => False, fun | .int k :: _ => (ilen a1 - k).toNat | _ => 0, ?_, ?_⟩
      · exact ⟨Int.le_refl 0, h0, fun j h0 h1 => absurd h1 (by omega)⟩
      · rintro k _ ⟨hk0, hk1, hk⟩
        simp only [ilt_t, ilt_f, ile_t, ile_f, ieq_t, ieq_f, bnot_e, band_e, bite_and, bite_or, NLt_e, NLe_e, NNe_e, NIs_e, imax_e, imin_e, irem_e, Bool.not_eq_true', Bool.not_eq_false', Bool.and_eq_true, Bool.or_eq_true, Bool.or_eq_false_iff, Bool.and_eq_false_iff, Cont.pts.injEq, Cont.ints.injEq, Cont.bools.injEq, Cont.ptss.injEq, Cont.intss.injEq, Cont.boolss.injEq, true_and, and_true, implies_true]
        refine ⟨fun hc => ⟨⟨⟨hk0, hc⟩, fun _ => ⟨hk0, by omega⟩, fun _ => ⟨hk0, by omega⟩, fun _ => ⟨hk0, by omega⟩⟩, fun hv => ?_, fun hv => ?_⟩, fun hc => ?_⟩
        · have hE : armE a1 a2 a3 k = false := by unfold armE; rcases hv with (hv | hv) | hv <;> simp [hv]
          unfold armB; rw [allN_no k hk0 hc hE]; simp
        · have hE : armE a1 a2 a3 k = true := by unfold armE; rw [hv.1.1, hv.1.2, hv.2]; rfl
          rw [iadd_1 hk0 hc hl.1]
          exact ⟨⟨by omega, by omega, upTo hk hE⟩, by omega⟩
        · unfold armB; rw [allN_mk fun j h0 h1 => hk j h0 (by omega), c1]; simp [c2, c3]
  · cases h
def g_impl_JointsValid : List AV → Option Sg
  | [.agg [.view (.ints a1), .view (.ints a2), .view (.ints a3)], .s (.view (.ints j))] => some ⟨True, [.s (.bool (jvB a1 a2 a3 j))]⟩
  | _ => none
def sig_impl_JointsValid : FuncId → List AV → Option Sg := sigL [(106, g_impl_ArmValid), (71, g_impl_within)]
def xs_impl_JointsValid : XS := ⟨xsigL [], ysigL []⟩
theorem sig_impl_JointsValid_ok : SigOK sig_impl_JointsValid := sigL_cons F_impl_ArmValid (sigL_cons F_impl_within sigL_nil)
theorem xs_impl_JointsValid_ok : XSigOK xs_impl_JointsValid := ⟨xsigL_nil, ysigL_nil⟩
theorem V_impl_JointsValid (a1 : List Int) (a2 : List Int) (a3 : List Int) (j : List Int) : ((true = true) ∧ ((True) ∧ (True) ∧ True) ∧ (true = true) ∧ ((True) ∧ ((True)) ∧ (True) ∧ (True) ∧ (NIs (bnot (armB a1 a2 a3)) false → True) ∧ (NIs (bnot (armB a1 a2 a3)) false → True) ∧ (NIs (bnot (armB a1 a2 a3)) false → True) ∧ (NIs (bnot (armB a1 a2 a3)) false → True) ∧ (NIs (bnot (armB a1 a2 a3)) false → True) ∧ (NIs (bnot (armB a1 a2 a3)) false → True) ∧ (True) ∧ True) ∧ ((bite (bnot (armB a1 a2 a3)) true (bnot (ieq (ilen j) (ilen a1)))) = true → ((true = true) ∧ ((True) ∧ True) ∧ ((false : Bool) = (jvB a1 a2 a3 j)) ∧ True)) ∧ ((bite (bnot (armB a1 a2 a3)) true (bnot (ieq (ilen j) (ilen a1)))) = false → ((true = true) ∧ ((True) ∧ (True) ∧ (True) ∧ True) ∧ ∃ (I1 : List GV → Prop) (μ1 : List GV → Nat), (((true = true) ∧ (((false : Bool) = false) ∧ (((0 : Int) : Int) = (0 : Int)) ∧ ((Cont.ints j) = (Cont.ints j)) ∧ (((ilen j) : Int) = (ilen j)) ∧ (((Cont.ints a1) = (Cont.ints a1)) ∧ ((Cont.ints a2) = (Cont.ints a2)) ∧ ((Cont.ints a3) = (Cont.ints a3)) ∧ True) ∧ (((armB a1 a2 a3) : Bool) = (armB a1 a2 a3)) ∧ (((bnot (armB a1 a2 a3)) : Bool) = (bnot (armB a1 a2 a3))) ∧ (((bnot (armB a1 a2 a3)) : Bool) = (bnot (armB a1 a2 a3))) ∧ (((bite (bnot (armB a1 a2 a3)) true (bnot (ieq (ilen j) (ilen a1)))) : Bool) = (bite (bnot (armB a1 a2 a3)) true (bnot (ieq (ilen j) (ilen a1))))) ∧ (true = true) ∧ (((Cont.ints a1) = (Cont.ints a1)) ∧ ((Cont.ints a2) = (Cont.ints a2)) ∧ ((Cont.ints a3) = (Cont.ints a3)) ∧ True) ∧ ((Cont.ints j) = (Cont.ints j)) ∧ True) ∧ ((((Cont.ints a1) = (Cont.ints a1)) ∧ ((Cont.ints a2) = (Cont.ints a2)) ∧ ((Cont.ints a3) = (Cont.ints a3)) ∧ True) ∧ True)) ∧ (([GK.int, GK.bool] : List GK) = ([GK.int, GK.bool] : List GK)) ∧ I1 [GV.int (0 : Int), GV.bool false]) ∧ (∀ i1_0 : Int, ∀ b1_1 : Bool, I1 [GV.int i1_0, GV.bool b1_1] → ((true = true) ∧ ((True) ∧ True) ∧ ((ilt i1_0 (ilen j)) = true → ((true = true) ∧ ((True) ∧ (NLe 0 i1_0 ∧ NLt i1_0 (ilen j)) ∧ (True) ∧ (True) ∧ (True) ∧ True) ∧ (true = true) ∧ ((True) ∧ (True) ∧ (True) ∧ (True) ∧ (NLe 0 i1_0 ∧ NLt i1_0 (ilen a2)) ∧ (True) ∧ (True) ∧ (True) ∧ (True) ∧ (NLe 0 i1_0 ∧ NLt i1_0 (ilen a3)) ∧ (True) ∧ ((True)) ∧ (True) ∧ True) ∧ ((bnot (inB (geti j i1_0) (geti a2 i1_0) (geti a3 i1_0))) = true → ((true = true) ∧ ((True) ∧ True) ∧ ((false : Bool) = (jvB a1 a2 a3 j)) ∧ True)) ∧ ((bnot (inB (geti j i1_0) (geti a2 i1_0) (geti a3 i1_0))) = false → ((true = true) ∧ ((True) ∧ (True) ∧ True) ∧ ((true = true) ∧ (((b1_1 : Bool) = b1_1) ∧ (((iadd i1_0 (1 : Int)) : Int) = (iadd i1_0 (1 : Int))) ∧ ((Cont.ints j) = (Cont.ints j)) ∧ (((ilen j) : Int) = (ilen j)) ∧ (((Cont.ints a1) = (Cont.ints a1)) ∧ ((Cont.ints a2) = (Cont.ints a2)) ∧ ((Cont.ints a3) = (Cont.ints a3)) ∧ True) ∧ (((armB a1 a2 a3) : Bool) = (armB a1 a2 a3)) ∧ (((bnot (armB a1 a2 a3)) : Bool) = (bnot (armB a1 a2 a3))) ∧ (((bnot (armB a1 a2 a3)) : Bool) = (bnot (armB a1 a2 a3))) ∧ (((bite (bnot (armB a1 a2 a3)) true (bnot (ieq (ilen j) (ilen a1)))) : Bool) = (bite (bnot (armB a1 a2 a3)) true (bnot (ieq (ilen j) (ilen a1))))) ∧ (true = true) ∧ (((Cont.ints a1) = (Cont.ints a1)) ∧ ((Cont.ints a2) = (Cont.ints a2)) ∧ ((Cont.ints a3) = (Cont.ints a3)) ∧ True) ∧ ((Cont.ints j) = (Cont.ints j)) ∧ True) ∧ ((((Cont.ints a1) = (Cont.ints a1)) ∧ ((Cont.ints a2) = (Cont.ints a2)) ∧ ((Cont.ints a3) = (Cont.ints a3)) ∧ True) ∧ True)) ∧ ((([GK.int, GK.bool] : List GK) = ([GK.int, GK.bool] : List GK)) ∧ I1 [GV.int (iadd i1_0 (1 : Int)), GV.bool b1_1] ∧ μ1 [GV.int (iadd i1_0 (1 : Int)), GV.bool b1_1] < μ1 [GV.int i1_0, GV.bool b1_1]))))) ∧ ((ilt i1_0 (ilen j)) = false → ((true = true) ∧ ((True) ∧ True) ∧ ((true : Bool) = (jvB a1 a2 a3 j)) ∧ True))))))) = ev sig_impl_JointsValid xs_impl_JointsValid Try.f81.ntmps (fun b => if b == 0 then [.v 20, .v 4] else []) (codeOf Try.f81) 0 (initS [.agg [.view (.ints a1), .view (.ints a2), .view (.ints a3)], .s (.view (.ints j))]) (retK Try.f81.results.toList [.s (.bool (jvB a1 a2 a3 j))]) := by kernel_rfl
set_option maxHeartbeats 400000 in
theorem F_impl_JointsValid : FunOK 81 g_impl_JointsValid := by
  refine fun_F (by kernel_rfl) Try.func81 rfl (by kernel_rfl) sig_impl_JointsValid_ok xs_impl_JointsValid_ok ?_
  intro avs sg h hn hl
  unfold g_impl_JointsValid at h
  split at h
  · rename_i a1 a2 a3 j
    injection h with h; subst h
    refine ⟨by kernel_rfl, fun b => if b == 0 then [.v 20, .v 4] else [], Eq.mp (V_impl_JointsValid a1 a2 a3 j) ?_⟩
    simp only [true_and, and_true, implies_true, and_self, forall_const, true_implies, lenA, lenL, SV.lenOK, Cont.lenOK] at hn hl ⊢
    have h0 := ilen_0 j
    simp only [ilt_t, ilt_f, ile_t, ile_f, ieq_t, ieq_f, bnot_e, band_e, bite_and, bite_or, NLt_e, NLe_e, NNe_e, NIs_e, imax_e, imin_e, irem_e, Bool.not_eq_true', Bool.not_eq_false', Bool.and_eq_true, Bool.or_eq_true, Bool.or_eq_false_iff, Bool.and_eq_false_iff, Cont.pts.injEq, Cont.ints.injEq, Cont.bools.injEq, Cont.ptss.injEq, Cont.intss.injEq, Cont.boolss.injEq, true_and, and_true, implies_true]
    refine ⟨fun h => ?_, fun h => ?_⟩
    · unfold jvB; rcases h with h | h <;> simp [h]
    obtain ⟨ha, hl1⟩ := h
    obtain ⟨l2, l3⟩ := armB_len ha
    refine ⟨fun | .int k :: _ => 0 ≤ k ∧ k ≤ ilen j ∧ (∀ i, 0 ≤ i → i < k → inB (geti j i) (geti a2 i) (geti a3 i) = true) | _ => False, fun | .int k :: _ => (ilen j - k).toNat | _ => 0, ⟨by omega, by omega, fun i h0 h1 => by omega⟩, ?_⟩
    rintro k XX ⟨hk0, hk1, hk⟩
    refine ⟨fun hc => ⟨⟨hk0, hc⟩, ⟨⟨hk0, by omega⟩, hk0, by omega⟩, fun hv => ?_, fun hv => ?_⟩, fun hc => ?_⟩
    · unfold jvB; rw [allN_no k hk0 hc hv]; simp
    · rw [iadd_1 hk0 hc hl.2]
      exact ⟨⟨by omega, by omega, upTo hk hv⟩, by show (ilen j - (k + 1)).toNat < (ilen j - k).toNat; omega⟩
    · unfold jvB; rw [ha, allN_mk fun i j0 j1 => hk i j0 (by omega)]; simp [hl1]
  · cases h
def g_impl_limitsFit : List AV → Option Sg
  | [.s (.int t), .s (.int r)] => some ⟨True, [.s (.bool (lfB t r))]⟩
  | _ => none
def sig_impl_limitsFit : FuncId → List AV → Option Sg := sigL [(71, g_impl_within)]
def xs_impl_limitsFit : XS := ⟨xsigL [], ysigL []⟩
theorem sig_impl_limitsFit_ok : SigOK sig_impl_limitsFit := sigL_cons F_impl_within sigL_nil
theorem xs_impl_limitsFit_ok : XSigOK xs_impl_limitsFit := ⟨xsigL_nil, ysigL_nil⟩
theorem V_impl_limitsFit (t : Int) (r : Int) : ((true = true) ∧ ((True) ∧ True) ∧ (true = true) ∧ ((True) ∧ ((True)) ∧ (True) ∧ (NIs (inB t (1 : Int) (200 : Int)) true → True) ∧ (NIs (inB t (1 : Int) (200 : Int)) true → (True)) ∧ (True) ∧ (True) ∧ True) ∧ (((bite (inB t (1 : Int) (200 : Int)) (inB r (1 : Int) (50 : Int)) false) : Bool) = (lfB t r)) ∧ True) = ev sig_impl_limitsFit xs_impl_limitsFit Try.f82.ntmps (fun b => []) (codeOf Try.f82) 0 (initS [.s (.int t), .s (.int r)]) (retK Try.f82.results.toList [.s (.bool (lfB t r))]) := by kernel_rfl
set_option maxHeartbeats 400000 in
theorem F_impl_limitsFit : FunOK 82 g_impl_limitsFit := by
  refine fun_F (by kernel_rfl) Try.func82 rfl (by kernel_rfl) sig_impl_limitsFit_ok xs_impl_limitsFit_ok ?_
  intro avs sg h hn hl
  unfold g_impl_limitsFit at h
  split at h
  · rename_i t r
    injection h with h; subst h
    refine ⟨by kernel_rfl, fun b => [], Eq.mp (V_impl_limitsFit t r) ?_⟩
    simp only [true_and, and_true, implies_true, and_self, forall_const, true_implies, lenA, lenL, SV.lenOK, Cont.lenOK] at hn hl ⊢
    simp only [ilt_t, ilt_f, ile_t, ile_f, ieq_t, ieq_f, bnot_e, band_e, bite_and, bite_or, NLt_e, NLe_e, NNe_e, NIs_e, imax_e, imin_e, irem_e, Bool.not_eq_true', Bool.not_eq_false', Bool.and_eq_true, Bool.or_eq_true, Bool.or_eq_false_iff, Bool.and_eq_false_iff, Cont.pts.injEq, Cont.ints.injEq, Cont.bools.injEq, Cont.ptss.injEq, Cont.intss.injEq, Cont.boolss.injEq, true_and, and_true, implies_true]
    rfl
  · cases h
def g_impl_StopDistance : List AV → Option Sg
  | [.s (.int s), .s (.int r)] => some ⟨True, [.s (.int (sdF s r))]⟩
  | _ => none
def sig_impl_StopDistance : FuncId → List AV → Option Sg := sigL [(71, g_impl_within)]
def xs_impl_StopDistance : XS := ⟨xsigL [], ysigL []⟩
theorem sig_impl_StopDistance_ok : SigOK sig_impl_StopDistance := sigL_cons F_impl_within sigL_nil
theorem xs_impl_StopDistance_ok : XSigOK xs_impl_StopDistance := ⟨xsigL_nil, ysigL_nil⟩
theorem V_impl_StopDistance (s : Int) (r : Int) : ((true = true) ∧ ((True) ∧ True) ∧ (true = true) ∧ ((True) ∧ ((True)) ∧ (True) ∧ (True) ∧ (NIs (bnot (inB s (0 : Int) (200 : Int))) false → True) ∧ (NIs (bnot (inB s (0 : Int) (200 : Int))) false → (True)) ∧ (NIs (bnot (inB s (0 : Int) (200 : Int))) false → True) ∧ (True) ∧ True) ∧ ((bite (bnot (inB s (0 : Int) (200 : Int))) true (bnot (inB r (1 : Int) (50 : Int)))) = true → ((true = true) ∧ ((True) ∧ True) ∧ (((-1 : Int) : Int) = (sdF s r)) ∧ True)) ∧ ((bite (bnot (inB s (0 : Int) (200 : Int))) true (bnot (inB r (1 : Int) (50 : Int)))) = false → ((true = true) ∧ ((True) ∧ True) ∧ (true = true) ∧ ((True) ∧ (True) ∧ (True) ∧ (True) ∧ True) ∧ ∃ (I1 : List GV → Prop) (μ1 : List GV → Nat), (((true = true) ∧ ((((0 : Int) : Int) = (0 : Int)) ∧ (((isub s r) : Int) = (isub s r)) ∧ ((s : Int) = s) ∧ ((r : Int) = r) ∧ (((isub s r) : Int) = (isub s r)) ∧ ((s : Int) = s) ∧ (((inB s (0 : Int) (200 : Int)) : Bool) = (inB s (0 : Int) (200 : Int))) ∧ (((bnot (inB s (0 : Int) (200 : Int))) : Bool) = (bnot (inB s (0 : Int) (200 : Int)))) ∧ (((bnot (inB s (0 : Int) (200 : Int))) : Bool) = (bnot (inB s (0 : Int) (200 : Int)))) ∧ (((bite (bnot (inB s (0 : Int) (200 : Int))) true (bnot (inB r (1 : Int) (50 : Int)))) : Bool) = (bite (bnot (inB s (0 : Int) (200 : Int))) true (bnot (inB r (1 : Int) (50 : Int))))) ∧ (((0 : Int) : Int) = (0 : Int)) ∧ ((s : Int) = s) ∧ ((r : Int) = r) ∧ True) ∧ (True)) ∧ (([GK.int, GK.int] : List GK) = ([GK.int, GK.int] : List GK)) ∧ I1 [GV.int (isub s r), GV.int (0 : Int)]) ∧ (∀ i1_0 : Int, ∀ i1_1 : Int, I1 [GV.int i1_0, GV.int i1_1] → ((true = true) ∧ ((True) ∧ (True) ∧ True) ∧ ((ilt (0 : Int) i1_0) = true → ((true = true) ∧ ((True) ∧ (True) ∧ (True) ∧ (True) ∧ True) ∧ (true = true) ∧ ((True) ∧ (True) ∧ (True) ∧ (True) ∧ True) ∧ ((true = true) ∧ ((((iadd i1_1 i1_0) : Int) = (iadd i1_1 i1_0)) ∧ (((isub i1_0 r) : Int) = (isub i1_0 r)) ∧ ((s : Int) = s) ∧ ((r : Int) = r) ∧ (((isub s r) : Int) = (isub s r)) ∧ ((s : Int) = s) ∧ (((inB s (0 : Int) (200 : Int)) : Bool) = (inB s (0 : Int) (200 : Int))) ∧ (((bnot (inB s (0 : Int) (200 : Int))) : Bool) = (bnot (inB s (0 : Int) (200 : Int)))) ∧ (((bnot (inB s (0 : Int) (200 : Int))) : Bool) = (bnot (inB s (0 : Int) (200 : Int)))) ∧ (((bite (bnot (inB s (0 : Int) (200 : Int))) true (bnot (inB r (1 : Int) (50 : Int)))) : Bool) = (bite (bnot (inB s (0 : Int) (200 : Int))) true (bnot (inB r (1 : Int) (50 : Int))))) ∧ (((0 : Int) : Int) = (0 : Int)) ∧ ((s : Int) = s) ∧ ((r : Int) = r) ∧ True) ∧ (True)) ∧ ((([GK.int, GK.int] : List GK) = ([GK.int, GK.int] : List GK)) ∧ I1 [GV.int (isub i1_0 r), GV.int (iadd i1_1 i1_0)] ∧ μ1 [GV.int (isub i1_0 r), GV.int (iadd i1_1 i1_0)] < μ1 [GV.int i1_0, GV.int i1_1]))) ∧ ((ilt (0 : Int) i1_0) = false → ((true = true) ∧ ((True) ∧ (True) ∧ True) ∧ ((i1_1 : Int) = (sdF s r)) ∧ True))))))) = ev sig_impl_StopDistance xs_impl_StopDistance Try.f116.ntmps (fun b => if b == 0 then [.v 6, .v 5] else []) (codeOf Try.f116) 0 (initS [.s (.int s), .s (.int r)]) (retK Try.f116.results.toList [.s (.int (sdF s r))]) := by kernel_rfl
set_option maxHeartbeats 400000 in
theorem F_impl_StopDistance : FunOK 116 g_impl_StopDistance := by
  refine fun_F (by kernel_rfl) Try.func116 rfl (by kernel_rfl) sig_impl_StopDistance_ok xs_impl_StopDistance_ok ?_
  intro avs sg h hn hl
  unfold g_impl_StopDistance at h
  split at h
  · rename_i s r
    injection h with h; subst h
    refine ⟨by kernel_rfl, fun b => if b == 0 then [.v 6, .v 5] else [], Eq.mp (V_impl_StopDistance s r) ?_⟩
    simp only [true_and, and_true, implies_true, and_self, forall_const, true_implies, lenA, lenL, SV.lenOK, Cont.lenOK] at hn hl ⊢
    simp only [ilt_t, ilt_f, ile_t, ile_f, ieq_t, ieq_f, bnot_e, band_e, bite_and, bite_or, NLt_e, NLe_e, NNe_e, NIs_e, imax_e, imin_e, irem_e, Bool.not_eq_true', Bool.not_eq_false', Bool.and_eq_true, Bool.or_eq_true, Bool.or_eq_false_iff, Bool.and_eq_false_iff, Cont.pts.injEq, Cont.ints.injEq, Cont.bools.injEq, Cont.ptss.injEq, Cont.intss.injEq, Cont.boolss.injEq, true_and, and_true, implies_true]
    refine ⟨fun h => ?_, fun h => ?_⟩
    · unfold sdF; rcases h with h | h <;> simp [h]
    have hs := inB_true h.1; have hr := inB_true h.2
    have e : sdF s r = restN r 200 (s - r) := sdF_e hs h.2
    rw [e]
    have hB := restN_bd hr.1 200 (s - r) (by omega)
    rw [isub_e (by omega) (by omega)]
    refine ⟨fun | [.int v, .int a] => v ≤ 200 ∧ -50 ≤ v ∧ 0 ≤ a ∧ a + restN r 200 v = restN r 200 (s - r) | _ => False, fun | .int v :: _ => v.toNat | _ => 0, ⟨by omega, by omega, by omega, by omega⟩, ?_⟩
    rintro v a ⟨v1, v0, a0, ha⟩
    refine ⟨fun hv => ?_, fun hv => ?_⟩
    · rw [restN_s hr.1 hv v1] at ha
      have hb' := restN_bd hr.1 200 (v - r) (by omega)
      rw [isub_e (by omega) (by omega), iadd_e (by omega) (by omega)]
      exact ⟨⟨by omega, by omega, by omega, by omega⟩, by show (v - r).toNat < v.toNat; omega⟩
    · rw [restN_le hv] at ha; omega
  · cases h
def g_impl_NextSpeed : List AV → Option Sg
  | [.s (.int s), .s (.int d), .s (.int t), .s (.int r)] => some ⟨True, [.s (.int (nsF s d t r))]⟩
  | _ => none
def sig_impl_NextSpeed : FuncId → List AV → Option Sg := sigL [(71, g_impl_within), (82, g_impl_limitsFit), (116, g_impl_StopDistance)]
def xs_impl_NextSpeed : XS := ⟨xsigL [], ysigL []⟩
theorem sig_impl_NextSpeed_ok : SigOK sig_impl_NextSpeed := sigL_cons F_impl_within (sigL_cons F_impl_limitsFit (sigL_cons F_impl_StopDistance sigL_nil))
theorem xs_impl_NextSpeed_ok : XSigOK xs_impl_NextSpeed := ⟨xsigL_nil, ysigL_nil⟩
theorem V_impl_NextSpeed (s : Int) (d : Int) (t : Int) (r : Int) : ((true = true) ∧ ((True) ∧ True) ∧ (true = true) ∧ ((True) ∧ ((True)) ∧ (True) ∧ (True) ∧ (NIs (bnot (inB s (0 : Int) (200 : Int))) false → True) ∧ (NIs (bnot (inB s (0 : Int) (200 : Int))) false → (True)) ∧ (NIs (bnot (inB s (0 : Int) (200 : Int))) false → True) ∧ (True) ∧ (True) ∧ (NIs (bite (bnot (inB s (0 : Int) (200 : Int))) true (bnot (inB d (0 : Int) (5000 : Int)))) false → True) ∧ (NIs (bite (bnot (inB s (0 : Int) (200 : Int))) true (bnot (inB d (0 : Int) (5000 : Int)))) false → True) ∧ (NIs (bite (bnot (inB s (0 : Int) (200 : Int))) true (bnot (inB d (0 : Int) (5000 : Int)))) false → (True)) ∧ (NIs (bite (bnot (inB s (0 : Int) (200 : Int))) true (bnot (inB d (0 : Int) (5000 : Int)))) false → True) ∧ (True) ∧ True) ∧ ((bite (bite (bnot (inB s (0 : Int) (200 : Int))) true (bnot (inB d (0 : Int) (5000 : Int)))) true (bnot (lfB t r))) = true → ((true = true) ∧ ((True) ∧ True) ∧ (((-1 : Int) : Int) = (nsF s d t r)) ∧ True)) ∧ ((bite (bite (bnot (inB s (0 : Int) (200 : Int))) true (bnot (inB d (0 : Int) (5000 : Int)))) true (bnot (lfB t r))) = false → ((true = true) ∧ ((True) ∧ (True) ∧ (True) ∧ (True) ∧ (True) ∧ (True) ∧ True) ∧ ∃ (I1 : List GV → Prop) (μ1 : List GV → Nat), (((true = true) ∧ ((((imin t (iadd s r)) : Int) = (imin t (iadd s r))) ∧ ((t : Int) = t) ∧ ((s : Int) = s) ∧ ((r : Int) = r) ∧ (((iadd s r) : Int) = (iadd s r)) ∧ (((imin t (iadd s r)) : Int) = (imin t (iadd s r))) ∧ ((s : Int) = s) ∧ (((inB s (0 : Int) (200 : Int)) : Bool) = (inB s (0 : Int) (200 : Int))) ∧ (((bnot (inB s (0 : Int) (200 : Int))) : Bool) = (bnot (inB s (0 : Int) (200 : Int)))) ∧ (((bnot (inB s (0 : Int) (200 : Int))) : Bool) = (bnot (inB s (0 : Int) (200 : Int)))) ∧ (((bite (bnot (inB s (0 : Int) (200 : Int))) true (bnot (inB d (0 : Int) (5000 : Int)))) : Bool) = (bite (bnot (inB s (0 : Int) (200 : Int))) true (bnot (inB d (0 : Int) (5000 : Int))))) ∧ (((bite (bnot (inB s (0 : Int) (200 : Int))) true (bnot (inB d (0 : Int) (5000 : Int)))) : Bool) = (bite (bnot (inB s (0 : Int) (200 : Int))) true (bnot (inB d (0 : Int) (5000 : Int))))) ∧ (((bite (bite (bnot (inB s (0 : Int) (200 : Int))) true (bnot (inB d (0 : Int) (5000 : Int)))) true (bnot (lfB t r))) : Bool) = (bite (bite (bnot (inB s (0 : Int) (200 : Int))) true (bnot (inB d (0 : Int) (5000 : Int)))) true (bnot (lfB t r)))) ∧ (((0 : Int) : Int) = (0 : Int)) ∧ ((s : Int) = s) ∧ ((d : Int) = d) ∧ ((t : Int) = t) ∧ ((r : Int) = r) ∧ True) ∧ (True)) ∧ (([GK.int] : List GK) = ([GK.int] : List GK)) ∧ I1 [GV.int (imin t (iadd s r))]) ∧ (∀ i1_0 : Int, I1 [GV.int i1_0] → ((true = true) ∧ ((True) ∧ (True) ∧ (True) ∧ ((True)) ∧ (True) ∧ (True) ∧ (True) ∧ True) ∧ ((ilt d (iadd i1_0 (sdF i1_0 r))) = true → ((true = true) ∧ ((True) ∧ (True) ∧ (True) ∧ True) ∧ ((true = true) ∧ ((((isub i1_0 (1 : Int)) : Int) = (isub i1_0 (1 : Int))) ∧ ((t : Int) = t) ∧ ((s : Int) = s) ∧ ((r : Int) = r) ∧ (((iadd s r) : Int) = (iadd s r)) ∧ (((imin t (iadd s r)) : Int) = (imin t (iadd s r))) ∧ ((s : Int) = s) ∧ (((inB s (0 : Int) (200 : Int)) : Bool) = (inB s (0 : Int) (200 : Int))) ∧ (((bnot (inB s (0 : Int) (200 : Int))) : Bool) = (bnot (inB s (0 : Int) (200 : Int)))) ∧ (((bnot (inB s (0 : Int) (200 : Int))) : Bool) = (bnot (inB s (0 : Int) (200 : Int)))) ∧ (((bite (bnot (inB s (0 : Int) (200 : Int))) true (bnot (inB d (0 : Int) (5000 : Int)))) : Bool) = (bite (bnot (inB s (0 : Int) (200 : Int))) true (bnot (inB d (0 : Int) (5000 : Int))))) ∧ (((bite (bnot (inB s (0 : Int) (200 : Int))) true (bnot (inB d (0 : Int) (5000 : Int)))) : Bool) = (bite (bnot (inB s (0 : Int) (200 : Int))) true (bnot (inB d (0 : Int) (5000 : Int))))) ∧ (((bite (bite (bnot (inB s (0 : Int) (200 : Int))) true (bnot (inB d (0 : Int) (5000 : Int)))) true (bnot (lfB t r))) : Bool) = (bite (bite (bnot (inB s (0 : Int) (200 : Int))) true (bnot (inB d (0 : Int) (5000 : Int)))) true (bnot (lfB t r)))) ∧ (((0 : Int) : Int) = (0 : Int)) ∧ ((s : Int) = s) ∧ ((d : Int) = d) ∧ ((t : Int) = t) ∧ ((r : Int) = r) ∧ True) ∧ (True)) ∧ ((([GK.int] : List GK) = ([GK.int] : List GK)) ∧ I1 [GV.int (isub i1_0 (1 : Int))] ∧ μ1 [GV.int (isub i1_0 (1 : Int))] < μ1 [GV.int i1_0]))) ∧ ((ilt d (iadd i1_0 (sdF i1_0 r))) = false → ((true = true) ∧ ((True) ∧ (True) ∧ True) ∧ ((i1_0 : Int) = (nsF s d t r)) ∧ True))))))) = ev sig_impl_NextSpeed xs_impl_NextSpeed Try.f109.ntmps (fun b => if b == 0 then [.v 9] else []) (codeOf Try.f109) 0 (initS [.s (.int s), .s (.int d), .s (.int t), .s (.int r)]) (retK Try.f109.results.toList [.s (.int (nsF s d t r))]) := by kernel_rfl
set_option maxHeartbeats 400000 in
theorem F_impl_NextSpeed : FunOK 109 g_impl_NextSpeed := by
  refine fun_F (by kernel_rfl) Try.func109 rfl (by kernel_rfl) sig_impl_NextSpeed_ok xs_impl_NextSpeed_ok ?_
  intro avs sg h hn hl
  unfold g_impl_NextSpeed at h
  split at h
  · rename_i s d t r
    injection h with h; subst h
    refine ⟨by kernel_rfl, fun b => if b == 0 then [.v 9] else [], Eq.mp (V_impl_NextSpeed s d t r) ?_⟩
    simp only [true_and, and_true, implies_true, and_self, forall_const, true_implies, lenA, lenL, SV.lenOK, Cont.lenOK] at hn hl ⊢
    simp only [ilt_t, ilt_f, ile_t, ile_f, ieq_t, ieq_f, bnot_e, band_e, bite_and, bite_or, NLt_e, NLe_e, NNe_e, NIs_e, imax_e, imin_e, irem_e, Bool.not_eq_true', Bool.not_eq_false', Bool.and_eq_true, Bool.or_eq_true, Bool.or_eq_false_iff, Bool.and_eq_false_iff, Cont.pts.injEq, Cont.ints.injEq, Cont.bools.injEq, Cont.ptss.injEq, Cont.intss.injEq, Cont.boolss.injEq, true_and, and_true, implies_true]
    refine ⟨fun h => ?_, fun h => ?_⟩
    · unfold nsF; rcases h with (h | h) | h <;> simp [h]
    have hl : lfB t r = true := h.2
    have hs := inB_true h.1.1; have hd := inB_true h.1.2
    obtain ⟨ht, hr, hr'⟩ := lf_parts hl
    have e1 : iadd s r = s + r := iadd_e (by omega) (by omega)
    rw [nsF_e hs hd hl, e1]
    refine ⟨fun | [.int v] => v ≤ 200 ∧ 0 ≤ v ∧ nsN d r v.toNat = nsN d r (min t (s + r)).toNat | _ => False, fun | .int v :: _ => v.toNat | _ => 0, ⟨by omega, by omega, rfl⟩, ?_⟩
    rintro v ⟨v1, v0, hv⟩
    have hb := restN_bd hr.1 200 (v - r) (by omega)
    rw [sdF_e ⟨v0, v1⟩ hr', iadd_e (by omega) (by omega)]
    have z : v = 0 → restN r 200 (v - r) = 0 := fun h => restN_le (by omega) _
    refine ⟨fun hc => ?_, fun hc => ?_⟩
    · have v2 : 1 ≤ v := by
        rcases Int.lt_or_le 0 v with h | h
        · omega
        · have := z (by omega); omega
      rw [nsN_step v2, if_neg (by omega)] at hv
      rw [isub_e (by omega) (by omega)]
      exact ⟨⟨by omega, by omega, hv⟩, by show (v - 1).toNat < v.toNat; omega⟩
    · rw [← hv]
      rcases Int.lt_or_le 0 v with h | h
      · rw [nsN_step (by omega), if_pos (by omega)]
      · rw [show v = 0 by omega]; rfl
  · cases h
def g_impl_MotionProfile : List AV → Option Sg
  | [.s (.int d), .s (.int t), .s (.int r)] => some ⟨True, [.nrow 3 (.ints (mpF d t r))]⟩
  | _ => none
def sig_impl_MotionProfile : FuncId → List AV → Option Sg := sigL [(71, g_impl_within), (82, g_impl_limitsFit), (109, g_impl_NextSpeed)]
def xs_impl_MotionProfile : XS := ⟨xsigL [], ysigL []⟩
theorem sig_impl_MotionProfile_ok : SigOK sig_impl_MotionProfile := sigL_cons F_impl_within (sigL_cons F_impl_limitsFit (sigL_cons F_impl_NextSpeed sigL_nil))
theorem xs_impl_MotionProfile_ok : XSigOK xs_impl_MotionProfile := ⟨xsigL_nil, ysigL_nil⟩
theorem V_impl_MotionProfile (d : Int) (t : Int) (r : Int) : ((true = true) ∧ ((True) ∧ True) ∧ (true = true) ∧ ((True) ∧ ((True)) ∧ (True) ∧ (True) ∧ (NIs (bnot (inB d (0 : Int) (5000 : Int))) false → True) ∧ (NIs (bnot (inB d (0 : Int) (5000 : Int))) false → True) ∧ (NIs (bnot (inB d (0 : Int) (5000 : Int))) false → (True)) ∧ (NIs (bnot (inB d (0 : Int) (5000 : Int))) false → True) ∧ (True) ∧ True) ∧ ((bite (bnot (inB d (0 : Int) (5000 : Int))) true (bnot (lfB t r))) = true → ((true = true) ∧ ((True) ∧ True) ∧ ((true = true) ∧ ((Cont.ints []) = (Cont.ints (mpF d t r)))) ∧ True)) ∧ ((bite (bnot (inB d (0 : Int) (5000 : Int))) true (bnot (lfB t r))) = false → ((true = true) ∧ ((True) ∧ True) ∧ (true = true) ∧ ((True) ∧ True) ∧ ∃ (I1 : List GV → Prop) (μ1 : List GV → Nat), (((true = true) ∧ (((d : Int) = d) ∧ (((0 : Int) : Int) = (0 : Int)) ∧ (true = true) ∧ ((d : Int) = d) ∧ (((inB d (0 : Int) (5000 : Int)) : Bool) = (inB d (0 : Int) (5000 : Int))) ∧ (((bnot (inB d (0 : Int) (5000 : Int))) : Bool) = (bnot (inB d (0 : Int) (5000 : Int)))) ∧ (((bnot (inB d (0 : Int) (5000 : Int))) : Bool) = (bnot (inB d (0 : Int) (5000 : Int)))) ∧ (((bite (bnot (inB d (0 : Int) (5000 : Int))) true (bnot (lfB t r))) : Bool) = (bite (bnot (inB d (0 : Int) (5000 : Int))) true (bnot (lfB t r)))) ∧ (true = true) ∧ ((t : Int) = t) ∧ ((r : Int) = r) ∧ True) ∧ (((true = true) ∧ ((Cont.ints []) = (Cont.ints []))) ∧ ((true = true) ∧ ((Cont.ints []) = (Cont.ints []))) ∧ True)) ∧ (([GK.int, GK.ints, GK.int] : List GK) = ([GK.int, GK.ints, GK.int] : List GK)) ∧ I1 [GV.int (0 : Int), GV.ints [], GV.int d]) ∧ (∀ i1_0 : Int, ∀ l1_1 : List Int, ∀ i1_2 : Int, I1 [GV.int i1_0, GV.ints l1_1, GV.int i1_2] → ((true = true) ∧ ((True) ∧ (True) ∧ True) ∧ ((ilt (0 : Int) i1_2) = true → ((true = true) ∧ ((True) ∧ (True) ∧ (True) ∧ (True) ∧ ((True)) ∧ (True) ∧ True) ∧ (true = true) ∧ ((True) ∧ (True) ∧ (True) ∧ (True) ∧ True) ∧ (true = true) ∧ ((True) ∧ (True) ∧ (True) ∧ True) ∧ (NLe (ilen l1_1) 1000000000 ∧ NLe (ilen [(nsF i1_0 i1_2 t r)]) 1000000000) ∧ (True) ∧ ((true = true) ∧ ((((isub i1_2 (nsF i1_0 i1_2 t r)) : Int) = (isub i1_2 (nsF i1_0 i1_2 t r))) ∧ (((nsF i1_0 i1_2 t r) : Int) = (nsF i1_0 i1_2 t r)) ∧ (true = true) ∧ ((d : Int) = d) ∧ (((inB d (0 : Int) (5000 : Int)) : Bool) = (inB d (0 : Int) (5000 : Int))) ∧ (((bnot (inB d (0 : Int) (5000 : Int))) : Bool) = (bnot (inB d (0 : Int) (5000 : Int)))) ∧ (((bnot (inB d (0 : Int) (5000 : Int))) : Bool) = (bnot (inB d (0 : Int) (5000 : Int)))) ∧ (((bite (bnot (inB d (0 : Int) (5000 : Int))) true (bnot (lfB t r))) : Bool) = (bite (bnot (inB d (0 : Int) (5000 : Int))) true (bnot (lfB t r)))) ∧ (true = true) ∧ ((t : Int) = t) ∧ ((r : Int) = r) ∧ True) ∧ (((true = true) ∧ ((Cont.ints (iapp l1_1 [(nsF i1_0 i1_2 t r)])) = (Cont.ints (iapp l1_1 [(nsF i1_0 i1_2 t r)])))) ∧ ((true = true) ∧ ((Cont.ints []) = (Cont.ints []))) ∧ True)) ∧ ((([GK.int, GK.ints, GK.int] : List GK) = ([GK.int, GK.ints, GK.int] : List GK)) ∧ I1 [GV.int (nsF i1_0 i1_2 t r), GV.ints (iapp l1_1 [(nsF i1_0 i1_2 t r)]), GV.int (isub i1_2 (nsF i1_0 i1_2 t r))] ∧ μ1 [GV.int (nsF i1_0 i1_2 t r), GV.ints (iapp l1_1 [(nsF i1_0 i1_2 t r)]), GV.int (isub i1_2 (nsF i1_0 i1_2 t r))] < μ1 [GV.int i1_0, GV.ints l1_1, GV.int i1_2]))) ∧ ((ilt (0 : Int) i1_2) = false → ((true = true) ∧ ((True) ∧ (True) ∧ True) ∧ ((true = true) ∧ ((Cont.ints l1_1) = (Cont.ints (mpF d t r)))) ∧ True))))))) = ev sig_impl_MotionProfile xs_impl_MotionProfile Try.f83.ntmps (fun b => if b == 0 then [.v 8, .b 7, .v 0] else []) (codeOf Try.f83) 0 (initS [.s (.int d), .s (.int t), .s (.int r)]) (retK Try.f83.results.toList [.nrow 3 (.ints (mpF d t r))]) := by kernel_rfl
set_option maxHeartbeats 400000 in
theorem F_impl_MotionProfile : FunOK 83 g_impl_MotionProfile := by
  refine fun_F (by kernel_rfl) Try.func83 rfl (by kernel_rfl) sig_impl_MotionProfile_ok xs_impl_MotionProfile_ok ?_
  intro avs sg h hn hl
  unfold g_impl_MotionProfile at h
  split at h
  · rename_i d t r
    injection h with h; subst h
    refine ⟨by kernel_rfl, fun b => if b == 0 then [.v 8, .b 7, .v 0] else [], Eq.mp (V_impl_MotionProfile d t r) ?_⟩
    simp only [true_and, and_true, implies_true, and_self, forall_const, true_implies, lenA, lenL, SV.lenOK, Cont.lenOK] at hn hl ⊢
    simp only [ilt_t, ilt_f, ile_t, ile_f, ieq_t, ieq_f, bnot_e, band_e, bite_and, bite_or, NLt_e, NLe_e, NNe_e, NIs_e, imax_e, imin_e, irem_e, Bool.not_eq_true', Bool.not_eq_false', Bool.and_eq_true, Bool.or_eq_true, Bool.or_eq_false_iff, Bool.and_eq_false_iff, Cont.pts.injEq, Cont.ints.injEq, Cont.bools.injEq, Cont.ptss.injEq, Cont.intss.injEq, Cont.boolss.injEq, true_and, and_true, implies_true]
    refine ⟨fun h => ?_, fun h => ?_⟩
    · unfold mpF; rcases h with h | h <;> simp [h]
    have hl : lfB t r = true := h.2
    have hd := inB_true h.1
    obtain ⟨ht, hr, hr'⟩ := lf_parts hl
    have e : mpF d t r = mpN t r d.toNat 0 d := by unfold mpF; rw [h.1, hl]; rfl
    rw [e]
    refine ⟨fun | [.int s, .ints o, .int q] => (0 ≤ s ∧ s ≤ 200) ∧ (0 ≤ q ∧ q ≤ 5000) ∧ ilen o + q ≤ 5000 ∧ o ++ mpN t r q.toNat s q = mpN t r d.toNat 0 d | _ => False, fun | [.int _, .ints _, .int q] => q.toNat | _ => 0, ⟨by omega, hd, by rw [ilen_nil]; omega, rfl⟩, ?_⟩
    rintro s o q ⟨hs, hq, hlen, heq⟩
    refine ⟨fun hc => ?_, fun hc => ?_⟩
    · rw [nsF_e hs hq hl]
      have hn := ns_in (s := s) (d := q) hr.1 ht.1 ht.2 hs.1 (by omega)
      rw [mpN_s hr.1 ht.1 ht.2 hs.1 hc] at heq
      generalize nsN q r (min t (s + r)).toNat = v at *
      rw [isub_e (by omega) (by omega)]
      have o0 := ilen_0 o
      refine ⟨⟨by omega, by rw [ilen_one]; omega⟩, ⟨by omega, by omega, by rw [ilen_app, ilen_one]; omega, ?_⟩, by show (q - v).toNat < q.toNat; omega⟩
      rw [← heq]; unfold iapp; simp
    · rw [mpN_0 hc, List.append_nil] at heq
      exact heq
  · cases h
def g_slices_Clone_Sint_int : List AV → Option Sg
  | [.s (.view (.ints l))] => some ⟨ilen l ≤ 1000000000, [.nrow 3 (.ints (l))]⟩
  | _ => none
def sig_slices_Clone_Sint_int : FuncId → List AV → Option Sg := sigL []
def xs_slices_Clone_Sint_int : XS := ⟨xsigL [], ysigL []⟩
theorem sig_slices_Clone_Sint_int_ok : SigOK sig_slices_Clone_Sint_int := sigL_nil
theorem xs_slices_Clone_Sint_int_ok : XSigOK xs_slices_Clone_Sint_int := ⟨xsigL_nil, ysigL_nil⟩
theorem V_slices_Clone_Sint_int (l : List Int) : ((true = true) ∧ ((True) ∧ True) ∧ (true = true) ∧ ((True) ∧ True) ∧ (true = true) ∧ (∀ nb_1 : Bool, (nb_1 = true → (ilen l) = 0) → ((nb_1 = true → ((true = true) ∧ ((True) ∧ True) ∧ ((true = true) ∧ ((Cont.ints []) = (Cont.ints (l)))) ∧ True)) ∧ (nb_1 = false → ((true = true) ∧ ((True) ∧ (True) ∧ True) ∧ (NLe (ilen ([] : List Int)) 1000000000 ∧ NLe (ilen l) 1000000000) ∧ (True) ∧ ((true = true) ∧ ((Cont.ints (iapp [] l)) = (Cont.ints (l)))) ∧ True))))) = ev sig_slices_Clone_Sint_int xs_slices_Clone_Sint_int Try.f84.ntmps (fun b => []) (codeOf Try.f84) 0 (initS [.s (.view (.ints l))]) (retK Try.f84.results.toList [.nrow 3 (.ints (l))]) := by kernel_rfl
set_option maxHeartbeats 400000 in
theorem F_slices_Clone_Sint_int : FunOK 84 g_slices_Clone_Sint_int := by
  refine fun_F (by kernel_rfl) Try.func84 rfl (by kernel_rfl) sig_slices_Clone_Sint_int_ok xs_slices_Clone_Sint_int_ok ?_
  intro avs sg h hn hl
  unfold g_slices_Clone_Sint_int at h
  split at h
  · rename_i l
    injection h with h; subst h
    refine ⟨by kernel_rfl, fun b => [], Eq.mp (V_slices_Clone_Sint_int l) ?_⟩
    simp only [true_and, and_true, implies_true, and_self, forall_const, true_implies, lenA, lenL, SV.lenOK, Cont.lenOK] at hn hl ⊢
    have h0 := ilen_0 l
    simp only [ilt_t, ilt_f, ile_t, ile_f, ieq_t, ieq_f, bnot_e, band_e, bite_and, bite_or, NLt_e, NLe_e, NNe_e, NIs_e, imax_e, imin_e, irem_e, Bool.not_eq_true', Bool.not_eq_false', Bool.and_eq_true, Bool.or_eq_true, Bool.or_eq_false_iff, Bool.and_eq_false_iff, Cont.pts.injEq, Cont.ints.injEq, Cont.bools.injEq, Cont.ptss.injEq, Cont.intss.injEq, Cont.boolss.injEq, true_and, and_true, implies_true]
    intro b hb
    refine ⟨fun h => ?_, fun h => ⟨⟨by rw [ilen_nil]; omega, hn⟩, by simp [iapp]⟩⟩
    have := hb h
    have : l.length = 0 := by unfold ilen at this; omega
    exact (List.length_eq_zero_iff.1 this).symm
  · cases h
def g_impl_MoveJoints : List AV → Option Sg
  | [.agg [.view (.ints a1), .view (.ints a2), .view (.ints a3)], .s (.view (.ints f)), .s (.view (.ints t)), .s (.int top), .s (.int rise)] => some ⟨True, [.nrow 45 (.intss (mvF a1 a2 a3 f t top rise))]⟩
  | _ => none
def sig_impl_MoveJoints : FuncId → List AV → Option Sg := sigL [(81, g_impl_JointsValid), (82, g_impl_limitsFit), (83, g_impl_MotionProfile), (84, g_slices_Clone_Sint_int)]
def xs_impl_MoveJoints : XS := ⟨xsigL [], ysigL []⟩
theorem sig_impl_MoveJoints_ok : SigOK sig_impl_MoveJoints := sigL_cons F_impl_JointsValid (sigL_cons F_impl_limitsFit (sigL_cons F_impl_MotionProfile (sigL_cons F_slices_Clone_Sint_int sigL_nil)))
theorem xs_impl_MoveJoints_ok : XSigOK xs_impl_MoveJoints := ⟨xsigL_nil, ysigL_nil⟩
theorem V_impl_MoveJoints (a1 : List Int) (a2 : List Int) (a3 : List Int) (f : List Int) (t : List Int) (top : Int) (rise : Int) : ((true = true) ∧ ((True) ∧ (True) ∧ True) ∧ (true = true) ∧ ((True) ∧ (True) ∧ ((True)) ∧ (True) ∧ (True) ∧ (NIs (bnot (jvB a1 a2 a3 f)) false → True) ∧ (NIs (bnot (jvB a1 a2 a3 f)) false → True) ∧ (NIs (bnot (jvB a1 a2 a3 f)) false → (True)) ∧ (NIs (bnot (jvB a1 a2 a3 f)) false → True) ∧ (True) ∧ (True) ∧ (NIs (bite (bnot (jvB a1 a2 a3 f)) true (bnot (jvB a1 a2 a3 t))) false → True) ∧ (NIs (bite (bnot (jvB a1 a2 a3 f)) true (bnot (jvB a1 a2 a3 t))) false → True) ∧ (NIs (bite (bnot (jvB a1 a2 a3 f)) true (bnot (jvB a1 a2 a3 t))) false → (True)) ∧ (NIs (bite (bnot (jvB a1 a2 a3 f)) true (bnot (jvB a1 a2 a3 t))) false → True) ∧ (True) ∧ True) ∧ ((bite (bite (bnot (jvB a1 a2 a3 f)) true (bnot (jvB a1 a2 a3 t))) true (bnot (lfB top rise))) = true → ((true = true) ∧ ((True) ∧ True) ∧ ((true = true) ∧ ((Cont.intss []) = (Cont.intss (mvF a1 a2 a3 f t top rise)))) ∧ True)) ∧ ((bite (bite (bnot (jvB a1 a2 a3 f)) true (bnot (jvB a1 a2 a3 t))) true (bnot (lfB top rise))) = false → ((true = true) ∧ ((True) ∧ True) ∧ (true = true) ∧ ((True) ∧ (True) ∧ (True) ∧ True) ∧ ∃ (I1 : List GV → Prop) (μ1 : List GV → Nat), (((true = true) ∧ ((((0 : Int) : Int) = (0 : Int)) ∧ (((0 : Int) : Int) = (0 : Int)) ∧ ((Cont.ints f) = (Cont.ints f)) ∧ (((ilen f) : Int) = (ilen f)) ∧ (((Cont.ints a1) = (Cont.ints a1)) ∧ ((Cont.ints a2) = (Cont.ints a2)) ∧ ((Cont.ints a3) = (Cont.ints a3)) ∧ True) ∧ ((Cont.ints f) = (Cont.ints f)) ∧ (((jvB a1 a2 a3 f) : Bool) = (jvB a1 a2 a3 f)) ∧ (((bnot (jvB a1 a2 a3 f)) : Bool) = (bnot (jvB a1 a2 a3 f))) ∧ (((bnot (jvB a1 a2 a3 f)) : Bool) = (bnot (jvB a1 a2 a3 f))) ∧ (((bite (bnot (jvB a1 a2 a3 f)) true (bnot (jvB a1 a2 a3 t))) : Bool) = (bite (bnot (jvB a1 a2 a3 f)) true (bnot (jvB a1 a2 a3 t)))) ∧ (((bite (bnot (jvB a1 a2 a3 f)) true (bnot (jvB a1 a2 a3 t))) : Bool) = (bite (bnot (jvB a1 a2 a3 f)) true (bnot (jvB a1 a2 a3 t)))) ∧ (((bite (bite (bnot (jvB a1 a2 a3 f)) true (bnot (jvB a1 a2 a3 t))) true (bnot (lfB top rise))) : Bool) = (bite (bite (bnot (jvB a1 a2 a3 f)) true (bnot (jvB a1 a2 a3 t))) true (bnot (lfB top rise)))) ∧ (true = true) ∧ (true = true) ∧ (((Cont.ints a1) = (Cont.ints a1)) ∧ ((Cont.ints a2) = (Cont.ints a2)) ∧ ((Cont.ints a3) = (Cont.ints a3)) ∧ True) ∧ ((Cont.ints f) = (Cont.ints f)) ∧ ((Cont.ints t) = (Cont.ints t)) ∧ ((top : Int) = top) ∧ ((rise : Int) = rise) ∧ True) ∧ ((((Cont.ints a1) = (Cont.ints a1)) ∧ ((Cont.ints a2) = (Cont.ints a2)) ∧ ((Cont.ints a3) = (Cont.ints a3)) ∧ True) ∧ ((true = true) ∧ ((Cont.intss []) = (Cont.intss []))) ∧ True)) ∧ (([GK.int, GK.int] : List GK) = ([GK.int, GK.int] : List GK)) ∧ I1 [GV.int (0 : Int), GV.int (0 : Int)]) ∧ (∀ i1_0 : Int, ∀ i1_1 : Int, I1 [GV.int i1_0, GV.int i1_1] → ((true = true) ∧ ((True) ∧ True) ∧ ((ilt i1_0 (ilen f)) = true → ((true = true) ∧ ((True) ∧ (True) ∧ True) ∧ (true = true) ∧ ((True) ∧ (True) ∧ (True) ∧ (NLe 0 i1_0 ∧ NLt i1_0 (ilen t)) ∧ (True) ∧ (True) ∧ (True) ∧ (NLe 0 i1_0 ∧ NLt i1_0 (ilen f)) ∧ (True) ∧ (True) ∧ (True) ∧ (True) ∧ (NLe 0 i1_0 ∧ NLt i1_0 (ilen f)) ∧ (True) ∧ (True) ∧ (True) ∧ (NLe 0 i1_0 ∧ NLt i1_0 (ilen t)) ∧ (True) ∧ (True) ∧ (True) ∧ (True) ∧ True) ∧ (true = true) ∧ ((True) ∧ (True) ∧ True) ∧ ((true = true) ∧ ((((imax (imax i1_1 (isub (geti t i1_0) (geti f i1_0))) (isub (geti f i1_0) (geti t i1_0))) : Int) = (imax (imax i1_1 (isub (geti t i1_0) (geti f i1_0))) (isub (geti f i1_0) (geti t i1_0)))) ∧ (((iadd i1_0 (1 : Int)) : Int) = (iadd i1_0 (1 : Int))) ∧ ((Cont.ints f) = (Cont.ints f)) ∧ (((ilen f) : Int) = (ilen f)) ∧ (((Cont.ints a1) = (Cont.ints a1)) ∧ ((Cont.ints a2) = (Cont.ints a2)) ∧ ((Cont.ints a3) = (Cont.ints a3)) ∧ True) ∧ ((Cont.ints f) = (Cont.ints f)) ∧ (((jvB a1 a2 a3 f) : Bool) = (jvB a1 a2 a3 f)) ∧ (((bnot (jvB a1 a2 a3 f)) : Bool) = (bnot (jvB a1 a2 a3 f))) ∧ (((bnot (jvB a1 a2 a3 f)) : Bool) = (bnot (jvB a1 a2 a3 f))) ∧ (((bite (bnot (jvB a1 a2 a3 f)) true (bnot (jvB a1 a2 a3 t))) : Bool) = (bite (bnot (jvB a1 a2 a3 f)) true (bnot (jvB a1 a2 a3 t)))) ∧ (((bite (bnot (jvB a1 a2 a3 f)) true (bnot (jvB a1 a2 a3 t))) : Bool) = (bite (bnot (jvB a1 a2 a3 f)) true (bnot (jvB a1 a2 a3 t)))) ∧ (((bite (bite (bnot (jvB a1 a2 a3 f)) true (bnot (jvB a1 a2 a3 t))) true (bnot (lfB top rise))) : Bool) = (bite (bite (bnot (jvB a1 a2 a3 f)) true (bnot (jvB a1 a2 a3 t))) true (bnot (lfB top rise)))) ∧ (true = true) ∧ (true = true) ∧ (((Cont.ints a1) = (Cont.ints a1)) ∧ ((Cont.ints a2) = (Cont.ints a2)) ∧ ((Cont.ints a3) = (Cont.ints a3)) ∧ True) ∧ ((Cont.ints f) = (Cont.ints f)) ∧ ((Cont.ints t) = (Cont.ints t)) ∧ ((top : Int) = top) ∧ ((rise : Int) = rise) ∧ True) ∧ ((((Cont.ints a1) = (Cont.ints a1)) ∧ ((Cont.ints a2) = (Cont.ints a2)) ∧ ((Cont.ints a3) = (Cont.ints a3)) ∧ True) ∧ ((true = true) ∧ ((Cont.intss []) = (Cont.intss []))) ∧ True)) ∧ ((([GK.int, GK.int] : List GK) = ([GK.int, GK.int] : List GK)) ∧ I1 [GV.int (iadd i1_0 (1 : Int)), GV.int (imax (imax i1_1 (isub (geti t i1_0) (geti f i1_0))) (isub (geti f i1_0) (geti t i1_0)))] ∧ μ1 [GV.int (iadd i1_0 (1 : Int)), GV.int (imax (imax i1_1 (isub (geti t i1_0) (geti f i1_0))) (isub (geti f i1_0) (geti t i1_0)))] < μ1 [GV.int i1_0, GV.int i1_1]))) ∧ ((ilt i1_0 (ilen f)) = false → ((true = true) ∧ ((True) ∧ True) ∧ (true = true) ∧ ((True) ∧ True) ∧ (true = true) ∧ ((True) ∧ (True) ∧ (True) ∧ ((True)) ∧ (True) ∧ (True) ∧ True) ∧ ∃ (I2 : List GV → Prop) (μ2 : List GV → Nat), (((true = true) ∧ ((((0 : Int) : Int) = (0 : Int)) ∧ (((0 : Int) : Int) = (0 : Int)) ∧ ((i1_1 : Int) = i1_1) ∧ ((top : Int) = top) ∧ ((rise : Int) = rise) ∧ (true = true) ∧ (((ilen (mpF i1_1 top rise)) : Int) = (ilen (mpF i1_1 top rise))) ∧ (true = true) ∧ (((ilt i1_0 (ilen f)) : Bool) = (ilt i1_0 (ilen f))) ∧ ((i1_1 : Int) = i1_1) ∧ ((i1_0 : Int) = i1_0) ∧ ((Cont.ints f) = (Cont.ints f)) ∧ (((ilen f) : Int) = (ilen f)) ∧ (((Cont.ints a1) = (Cont.ints a1)) ∧ ((Cont.ints a2) = (Cont.ints a2)) ∧ ((Cont.ints a3) = (Cont.ints a3)) ∧ True) ∧ ((Cont.ints f) = (Cont.ints f)) ∧ (((jvB a1 a2 a3 f) : Bool) = (jvB a1 a2 a3 f)) ∧ (((bnot (jvB a1 a2 a3 f)) : Bool) = (bnot (jvB a1 a2 a3 f))) ∧ (((bnot (jvB a1 a2 a3 f)) : Bool) = (bnot (jvB a1 a2 a3 f))) ∧ (((bite (bnot (jvB a1 a2 a3 f)) true (bnot (jvB a1 a2 a3 t))) : Bool) = (bite (bnot (jvB a1 a2 a3 f)) true (bnot (jvB a1 a2 a3 t)))) ∧ (((bite (bnot (jvB a1 a2 a3 f)) true (bnot (jvB a1 a2 a3 t))) : Bool) = (bite (bnot (jvB a1 a2 a3 f)) true (bnot (jvB a1 a2 a3 t)))) ∧ (((bite (bite (bnot (jvB a1 a2 a3 f)) true (bnot (jvB a1 a2 a3 t))) true (bnot (lfB top rise))) : Bool) = (bite (bite (bnot (jvB a1 a2 a3 f)) true (bnot (jvB a1 a2 a3 t))) true (bnot (lfB top rise)))) ∧ (true = true) ∧ (true = true) ∧ (((Cont.ints a1) = (Cont.ints a1)) ∧ ((Cont.ints a2) = (Cont.ints a2)) ∧ ((Cont.ints a3) = (Cont.ints a3)) ∧ True) ∧ ((Cont.ints f) = (Cont.ints f)) ∧ ((Cont.ints t) = (Cont.ints t)) ∧ ((top : Int) = top) ∧ ((rise : Int) = rise) ∧ True) ∧ (((true = true) ∧ ((Cont.intss []) = (Cont.intss []))) ∧ ((true = true) ∧ ((Cont.ints (mpF i1_1 top rise)) = (Cont.ints (mpF i1_1 top rise)))) ∧ (((Cont.ints a1) = (Cont.ints a1)) ∧ ((Cont.ints a2) = (Cont.ints a2)) ∧ ((Cont.ints a3) = (Cont.ints a3)) ∧ True) ∧ ((true = true) ∧ ((Cont.intss []) = (Cont.intss []))) ∧ True)) ∧ (([GK.int, GK.int, GK.intss] : List GK) = ([GK.int, GK.int, GK.intss] : List GK)) ∧ I2 [GV.int (0 : Int), GV.int (0 : Int), GV.intss []]) ∧ (∀ i2_0 : Int, ∀ i2_1 : Int, ∀ l2_2 : List (List Int), I2 [GV.int i2_0, GV.int i2_1, GV.intss l2_2] → ((true = true) ∧ ((True) ∧ True) ∧ ((ilt i2_0 (ilen (mpF i1_1 top rise))) = true → ((true = true) ∧ ((NLe 0 i2_0 ∧ NLt i2_0 (ilen (mpF i1_1 top rise))) ∧ (NLt i2_0 (ilen (mpF i1_1 top rise))) ∧ (True) ∧ True) ∧ (true = true) ∧ ((True) ∧ (True) ∧ (True) ∧ (True) ∧ True) ∧ (true = true) ∧ ((True) ∧ ((ilen f ≤ 1000000000)) ∧ (True) ∧ True) ∧ (true = true) ∧ ((True) ∧ (True) ∧ (True) ∧ True) ∧ ∃ (I3 : List GV → Prop) (μ3 : List GV → Nat), (((true = true) ∧ ((((0 : Int) : Int) = (0 : Int)) ∧ (((ilen (f)) : Int) = (ilen (f))) ∧ ((Cont.ints f) = (Cont.ints f)) ∧ (true = true) ∧ ((i2_1 : Int) = i2_1) ∧ (((geti (mpF i1_1 top rise) i2_0) : Int) = (geti (mpF i1_1 top rise) i2_0)) ∧ (((iadd i2_1 (geti (mpF i1_1 top rise) i2_0)) : Int) = (iadd i2_1 (geti (mpF i1_1 top rise) i2_0))) ∧ (((iadd i2_1 (geti (mpF i1_1 top rise) i2_0)) : Int) = (iadd i2_1 (geti (mpF i1_1 top rise) i2_0))) ∧ (((geti (mpF i1_1 top rise) i2_0) : Int) = (geti (mpF i1_1 top rise) i2_0)) ∧ (((geti (mpF i1_1 top rise) i2_0) : Int) = (geti (mpF i1_1 top rise) i2_0)) ∧ (((ilt i2_0 (ilen (mpF i1_1 top rise))) : Bool) = (ilt i2_0 (ilen (mpF i1_1 top rise)))) ∧ ((i2_0 : Int) = i2_0) ∧ ((i1_1 : Int) = i1_1) ∧ ((top : Int) = top) ∧ ((rise : Int) = rise) ∧ (true = true) ∧ (((ilen (mpF i1_1 top rise)) : Int) = (ilen (mpF i1_1 top rise))) ∧ (true = true) ∧ (((ilt i1_0 (ilen f)) : Bool) = (ilt i1_0 (ilen f))) ∧ ((i1_1 : Int) = i1_1) ∧ ((i1_0 : Int) = i1_0) ∧ ((Cont.ints f) = (Cont.ints f)) ∧ (((ilen f) : Int) = (ilen f)) ∧ (((Cont.ints a1) = (Cont.ints a1)) ∧ ((Cont.ints a2) = (Cont.ints a2)) ∧ ((Cont.ints a3) = (Cont.ints a3)) ∧ True) ∧ ((Cont.ints f) = (Cont.ints f)) ∧ (((jvB a1 a2 a3 f) : Bool) = (jvB a1 a2 a3 f)) ∧ (((bnot (jvB a1 a2 a3 f)) : Bool) = (bnot (jvB a1 a2 a3 f))) ∧ (((bnot (jvB a1 a2 a3 f)) : Bool) = (bnot (jvB a1 a2 a3 f))) ∧ (((bite (bnot (jvB a1 a2 a3 f)) true (bnot (jvB a1 a2 a3 t))) : Bool) = (bite (bnot (jvB a1 a2 a3 f)) true (bnot (jvB a1 a2 a3 t)))) ∧ (((bite (bnot (jvB a1 a2 a3 f)) true (bnot (jvB a1 a2 a3 t))) : Bool) = (bite (bnot (jvB a1 a2 a3 f)) true (bnot (jvB a1 a2 a3 t)))) ∧ (((bite (bite (bnot (jvB a1 a2 a3 f)) true (bnot (jvB a1 a2 a3 t))) true (bnot (lfB top rise))) : Bool) = (bite (bite (bnot (jvB a1 a2 a3 f)) true (bnot (jvB a1 a2 a3 t))) true (bnot (lfB top rise)))) ∧ (true = true) ∧ (true = true) ∧ (((Cont.ints a1) = (Cont.ints a1)) ∧ ((Cont.ints a2) = (Cont.ints a2)) ∧ ((Cont.ints a3) = (Cont.ints a3)) ∧ True) ∧ ((Cont.ints f) = (Cont.ints f)) ∧ ((Cont.ints t) = (Cont.ints t)) ∧ ((top : Int) = top) ∧ ((rise : Int) = rise) ∧ True) ∧ (((true = true) ∧ ((Cont.ints (f)) = (Cont.ints (f)))) ∧ ((true = true) ∧ ((Cont.intss l2_2) = (Cont.intss l2_2))) ∧ ((true = true) ∧ ((Cont.ints (mpF i1_1 top rise)) = (Cont.ints (mpF i1_1 top rise)))) ∧ (((Cont.ints a1) = (Cont.ints a1)) ∧ ((Cont.ints a2) = (Cont.ints a2)) ∧ ((Cont.ints a3) = (Cont.ints a3)) ∧ True) ∧ ((true = true) ∧ ((Cont.intss []) = (Cont.intss []))) ∧ True)) ∧ (([GK.int, GK.ints] : List GK) = ([GK.int, GK.ints] : List GK)) ∧ I3 [GV.int (0 : Int), GV.ints (f)]) ∧ (∀ i3_0 : Int, ∀ l3_1 : List Int, I3 [GV.int i3_0, GV.ints l3_1] → ((true = true) ∧ ((True) ∧ True) ∧ ((ilt i3_0 (ilen (f))) = true → ((true = true) ∧ ((True) ∧ (True) ∧ True) ∧ (true = true) ∧ ((True) ∧ (True) ∧ (NLe 0 i3_0 ∧ NLt i3_0 (ilen l3_1)) ∧ (NLt i3_0 (ilen l3_1)) ∧ (True) ∧ (True) ∧ (NLe 0 i3_0 ∧ NLt i3_0 (ilen t)) ∧ (True) ∧ (True) ∧ (True) ∧ (NLe 0 i3_0 ∧ NLt i3_0 (ilen f)) ∧ (True) ∧ (True) ∧ (True) ∧ (True) ∧ (True) ∧ (NNe i1_1 0) ∧ (True) ∧ (NLe 0 i3_0 ∧ NLt i3_0 (ilen l3_1)) ∧ True) ∧ (NLt i3_0 (ilen l3_1)) ∧ (true = true) ∧ ((True) ∧ (True) ∧ True) ∧ ((true = true) ∧ ((((iadd i3_0 (1 : Int)) : Int) = (iadd i3_0 (1 : Int))) ∧ (((ilen (f)) : Int) = (ilen (f))) ∧ ((Cont.ints f) = (Cont.ints f)) ∧ (true = true) ∧ ((i2_1 : Int) = i2_1) ∧ (((geti (mpF i1_1 top rise) i2_0) : Int) = (geti (mpF i1_1 top rise) i2_0)) ∧ (((iadd i2_1 (geti (mpF i1_1 top rise) i2_0)) : Int) = (iadd i2_1 (geti (mpF i1_1 top rise) i2_0))) ∧ (((iadd i2_1 (geti (mpF i1_1 top rise) i2_0)) : Int) = (iadd i2_1 (geti (mpF i1_1 top rise) i2_0))) ∧ (((geti (mpF i1_1 top rise) i2_0) : Int) = (geti (mpF i1_1 top rise) i2_0)) ∧ (((geti (mpF i1_1 top rise) i2_0) : Int) = (geti (mpF i1_1 top rise) i2_0)) ∧ (((ilt i2_0 (ilen (mpF i1_1 top rise))) : Bool) = (ilt i2_0 (ilen (mpF i1_1 top rise)))) ∧ ((i2_0 : Int) = i2_0) ∧ ((i1_1 : Int) = i1_1) ∧ ((top : Int) = top) ∧ ((rise : Int) = rise) ∧ (true = true) ∧ (((ilen (mpF i1_1 top rise)) : Int) = (ilen (mpF i1_1 top rise))) ∧ (true = true) ∧ (((ilt i1_0 (ilen f)) : Bool) = (ilt i1_0 (ilen f))) ∧ ((i1_1 : Int) = i1_1) ∧ ((i1_0 : Int) = i1_0) ∧ ((Cont.ints f) = (Cont.ints f)) ∧ (((ilen f) : Int) = (ilen f)) ∧ (((Cont.ints a1) = (Cont.ints a1)) ∧ ((Cont.ints a2) = (Cont.ints a2)) ∧ ((Cont.ints a3) = (Cont.ints a3)) ∧ True) ∧ ((Cont.ints f) = (Cont.ints f)) ∧ (((jvB a1 a2 a3 f) : Bool) = (jvB a1 a2 a3 f)) ∧ (((bnot (jvB a1 a2 a3 f)) : Bool) = (bnot (jvB a1 a2 a3 f))) ∧ (((bnot (jvB a1 a2 a3 f)) : Bool) = (bnot (jvB a1 a2 a3 f))) ∧ (((bite (bnot (jvB a1 a2 a3 f)) true (bnot (jvB a1 a2 a3 t))) : Bool) = (bite (bnot (jvB a1 a2 a3 f)) true (bnot (jvB a1 a2 a3 t)))) ∧ (((bite (bnot (jvB a1 a2 a3 f)) true (bnot (jvB a1 a2 a3 t))) : Bool) = (bite (bnot (jvB a1 a2 a3 f)) true (bnot (jvB a1 a2 a3 t)))) ∧ (((bite (bite (bnot (jvB a1 a2 a3 f)) true (bnot (jvB a1 a2 a3 t))) true (bnot (lfB top rise))) : Bool) = (bite (bite (bnot (jvB a1 a2 a3 f)) true (bnot (jvB a1 a2 a3 t))) true (bnot (lfB top rise)))) ∧ (true = true) ∧ (true = true) ∧ (((Cont.ints a1) = (Cont.ints a1)) ∧ ((Cont.ints a2) = (Cont.ints a2)) ∧ ((Cont.ints a3) = (Cont.ints a3)) ∧ True) ∧ ((Cont.ints f) = (Cont.ints f)) ∧ ((Cont.ints t) = (Cont.ints t)) ∧ ((top : Int) = top) ∧ ((rise : Int) = rise) ∧ True) ∧ (((true = true) ∧ ((Cont.ints (seti l3_1 i3_0 (iadd (geti l3_1 i3_0) (iquo (imul (isub (geti t i3_0) (geti f i3_0)) (iadd i2_1 (geti (mpF i1_1 top rise) i2_0))) i1_1)))) = (Cont.ints (seti l3_1 i3_0 (iadd (geti l3_1 i3_0) (iquo (imul (isub (geti t i3_0) (geti f i3_0)) (iadd i2_1 (geti (mpF i1_1 top rise) i2_0))) i1_1)))))) ∧ ((true = true) ∧ ((Cont.intss l2_2) = (Cont.intss l2_2))) ∧ ((true = true) ∧ ((Cont.ints (mpF i1_1 top rise)) = (Cont.ints (mpF i1_1 top rise)))) ∧ (((Cont.ints a1) = (Cont.ints a1)) ∧ ((Cont.ints a2) = (Cont.ints a2)) ∧ ((Cont.ints a3) = (Cont.ints a3)) ∧ True) ∧ ((true = true) ∧ ((Cont.intss []) = (Cont.intss []))) ∧ True)) ∧ ((([GK.int, GK.ints] : List GK) = ([GK.int, GK.ints] : List GK)) ∧ I3 [GV.int (iadd i3_0 (1 : Int)), GV.ints (seti l3_1 i3_0 (iadd (geti l3_1 i3_0) (iquo (imul (isub (geti t i3_0) (geti f i3_0)) (iadd i2_1 (geti (mpF i1_1 top rise) i2_0))) i1_1)))] ∧ μ3 [GV.int (iadd i3_0 (1 : Int)), GV.ints (seti l3_1 i3_0 (iadd (geti l3_1 i3_0) (iquo (imul (isub (geti t i3_0) (geti f i3_0)) (iadd i2_1 (geti (mpF i1_1 top rise) i2_0))) i1_1)))] < μ3 [GV.int i3_0, GV.ints l3_1]))) ∧ ((ilt i3_0 (ilen (f))) = false → ((true = true) ∧ ((True) ∧ (True) ∧ True) ∧ (True) ∧ (NLe (ilen l2_2) 1000000000 ∧ NLe (ilen [l3_1]) 1000000000) ∧ (True) ∧ (true = true) ∧ ((True) ∧ (True) ∧ True) ∧ ((true = true) ∧ ((((iadd i2_1 (geti (mpF i1_1 top rise) i2_0)) : Int) = (iadd i2_1 (geti (mpF i1_1 top rise) i2_0))) ∧ (((iadd i2_0 (1 : Int)) : Int) = (iadd i2_0 (1 : Int))) ∧ ((i1_1 : Int) = i1_1) ∧ ((top : Int) = top) ∧ ((rise : Int) = rise) ∧ (true = true) ∧ (((ilen (mpF i1_1 top rise)) : Int) = (ilen (mpF i1_1 top rise))) ∧ (true = true) ∧ (((ilt i1_0 (ilen f)) : Bool) = (ilt i1_0 (ilen f))) ∧ ((i1_1 : Int) = i1_1) ∧ ((i1_0 : Int) = i1_0) ∧ ((Cont.ints f) = (Cont.ints f)) ∧ (((ilen f) : Int) = (ilen f)) ∧ (((Cont.ints a1) = (Cont.ints a1)) ∧ ((Cont.ints a2) = (Cont.ints a2)) ∧ ((Cont.ints a3) = (Cont.ints a3)) ∧ True) ∧ ((Cont.ints f) = (Cont.ints f)) ∧ (((jvB a1 a2 a3 f) : Bool) = (jvB a1 a2 a3 f)) ∧ (((bnot (jvB a1 a2 a3 f)) : Bool) = (bnot (jvB a1 a2 a3 f))) ∧ (((bnot (jvB a1 a2 a3 f)) : Bool) = (bnot (jvB a1 a2 a3 f))) ∧ (((bite (bnot (jvB a1 a2 a3 f)) true (bnot (jvB a1 a2 a3 t))) : Bool) = (bite (bnot (jvB a1 a2 a3 f)) true (bnot (jvB a1 a2 a3 t)))) ∧ (((bite (bnot (jvB a1 a2 a3 f)) true (bnot (jvB a1 a2 a3 t))) : Bool) = (bite (bnot (jvB a1 a2 a3 f)) true (bnot (jvB a1 a2 a3 t)))) ∧ (((bite (bite (bnot (jvB a1 a2 a3 f)) true (bnot (jvB a1 a2 a3 t))) true (bnot (lfB top rise))) : Bool) = (bite (bite (bnot (jvB a1 a2 a3 f)) true (bnot (jvB a1 a2 a3 t))) true (bnot (lfB top rise)))) ∧ (true = true) ∧ (true = true) ∧ (((Cont.ints a1) = (Cont.ints a1)) ∧ ((Cont.ints a2) = (Cont.ints a2)) ∧ ((Cont.ints a3) = (Cont.ints a3)) ∧ True) ∧ ((Cont.ints f) = (Cont.ints f)) ∧ ((Cont.ints t) = (Cont.ints t)) ∧ ((top : Int) = top) ∧ ((rise : Int) = rise) ∧ True) ∧ (((true = true) ∧ ((Cont.intss (iapp l2_2 [l3_1])) = (Cont.intss (iapp l2_2 [l3_1])))) ∧ ((true = true) ∧ ((Cont.ints (mpF i1_1 top rise)) = (Cont.ints (mpF i1_1 top rise)))) ∧ (((Cont.ints a1) = (Cont.ints a1)) ∧ ((Cont.ints a2) = (Cont.ints a2)) ∧ ((Cont.ints a3) = (Cont.ints a3)) ∧ True) ∧ ((true = true) ∧ ((Cont.intss []) = (Cont.intss []))) ∧ True)) ∧ ((([GK.int, GK.int, GK.intss] : List GK) = ([GK.int, GK.int, GK.intss] : List GK)) ∧ I2 [GV.int (iadd i2_0 (1 : Int)), GV.int (iadd i2_1 (geti (mpF i1_1 top rise) i2_0)), GV.intss (iapp l2_2 [l3_1])] ∧ μ2 [GV.int (iadd i2_0 (1 : Int)), GV.int (iadd i2_1 (geti (mpF i1_1 top rise) i2_0)), GV.intss (iapp l2_2 [l3_1])] < μ2 [GV.int i2_0, GV.int i2_1, GV.intss l2_2]))))))) ∧ ((ilt i2_0 (ilen (mpF i1_1 top rise))) = false → ((true = true) ∧ ((True) ∧ (True) ∧ True) ∧ ((true = true) ∧ ((Cont.intss l2_2) = (Cont.intss (mvF a1 a2 a3 f t top rise)))) ∧ True))))))))))) = ev sig_impl_MoveJoints xs_impl_MoveJoints Try.f39.ntmps (fun b => if b == 0 then [.v 37, .v 11] else if b == 2 then [.v 66, .v 14, .b 13] else if b == 4 then [.v 77, .b 17] else []) (codeOf Try.f39) 0 (initS [.agg [.view (.ints a1), .view (.ints a2), .view (.ints a3)], .s (.view (.ints f)), .s (.view (.ints t)), .s (.int top), .s (.int rise)]) (retK Try.f39.results.toList [.nrow 45 (.intss (mvF a1 a2 a3 f t top rise))]) := by kernel_rfl
set_option maxHeartbeats 400000 in
theorem F_impl_MoveJoints : FunOK 39 g_impl_MoveJoints := by
  refine fun_F (by kernel_rfl) Try.func39 rfl (by kernel_rfl) sig_impl_MoveJoints_ok xs_impl_MoveJoints_ok ?_
  intro avs sg h hn hl
  unfold g_impl_MoveJoints at h
  split at h
  · rename_i a1 a2 a3 f t top rise
    injection h with h; subst h
    refine ⟨by kernel_rfl, fun b => if b == 0 then [.v 37, .v 11] else if b == 2 then [.v 66, .v 14, .b 13] else if b == 4 then [.v 77, .b 17] else [], Eq.mp (V_impl_MoveJoints a1 a2 a3 f t top rise) ?_⟩
    simp only [true_and, and_true, implies_true, and_self, forall_const, true_implies, lenA, lenL, SV.lenOK, Cont.lenOK] at hn hl ⊢
    have h0 := ilen_0 f
    simp only [ilt_t, ilt_f, ile_t, ile_f, ieq_t, ieq_f, bnot_e, band_e, bite_and, bite_or, NLt_e, NLe_e, NNe_e, NIs_e, imax_e, imin_e, irem_e, Bool.not_eq_true', Bool.not_eq_false', Bool.and_eq_true, Bool.or_eq_true, Bool.or_eq_false_iff, Bool.and_eq_false_iff, Cont.pts.injEq, Cont.ints.injEq, Cont.bools.injEq, Cont.ptss.injEq, Cont.intss.injEq, Cont.boolss.injEq, true_and, and_true, implies_true]
    refine ⟨fun h => by unfold mvF okM; rcases h with (h | h) | h <;> simp [h], fun h => ?_⟩
    have h : okM a1 a2 a3 f t top rise = true := by unfold okM; rw [h.1.1, h.1.2, h.2]; rfl
    obtain ⟨j1, j2, lf, hf4, htl, hn', hm, hs, hv, hlen⟩ := ok_parts h
    have hd := (mostL_in hn' h0 (Int.le_refl _)).2.2
    have e : mvF a1 a2 a3 f t top rise = mvK f t (mvP f t top rise) (mostL f t (ilen f)) (ilen (mvP f t top rise)) := by unfold mvF; rw [if_pos h]
    rw [e]
    refine ⟨fun | [.int k, .int m] => 0 ≤ k ∧ k ≤ ilen f ∧ m = mostL f t k | _ => False, fun | .int k :: _ => (ilen f - k).toNat | _ => 0, ⟨by omega, by omega, rfl⟩, ?_⟩
    rintro k m ⟨k0, k1, rfl⟩
    refine ⟨fun hc => ?_, fun hc => ?_⟩
    · have hk := hn' k k0 hc
      obtain ⟨m0, m1, _⟩ := mostL_in hn' k0 k1
      have e := mostL_1 (a := f) (b := t) k0
      rw [isub_e (by omega) (by omega), isub_e (by omega) (by omega), iadd_e (by omega) (by omega)]
      exact ⟨⟨⟨k0, by omega⟩, ⟨k0, hc⟩, ⟨k0, hc⟩, ⟨k0, by omega⟩⟩, ⟨by omega, by omega, by omega⟩, by show (ilen f - (k + 1)).toNat < (ilen f - k).toNat; omega⟩
    have ek : k = ilen f := by omega
    subst ek
    have eP : mpF (mostL f t (ilen f)) top rise = mvP f t top rise := rfl
    rw [eP]
    generalize mvP f t top rise = P at *
    generalize mostL f t (ilen f) = D at *
    have hv0 : ∀ v ∈ P, 0 ≤ v := fun v hm => by have := (hv v hm).1; omega
    have hP0 := ilen_0 P
    refine ⟨fun | [.int k, .int p, .intss o] => 0 ≤ k ∧ k ≤ ilen P ∧ p = pS P k ∧ o = mvK f t P D k | _ => False, fun | .int k :: _ => (ilen P - k).toNat | _ => 0, ⟨by omega, by omega, (pS_0 P).symm, rfl⟩, ?_⟩
    rintro k p o ⟨k0, k1, rfl, rfl⟩
    refine ⟨fun hc => ?_, fun hc => ?_⟩
    · have hg := hv _ (geti_mem k0 hc)
      have hb1 := pS_bd hv0 k
      have hb2 := pS_bd hv0 (k + 1)
      have hps := pS_s k0 hc
      have e1 : iadd (pS P k) (geti P k) = pS P (k + 1) := by rw [iadd_e (by omega) (by omega)]; omega
      rw [e1]
      refine ⟨⟨⟨k0, hc⟩, hc⟩, by omega, fun | [.int j, .ints r] => 0 ≤ j ∧ j ≤ ilen f ∧ ilen r = ilen f ∧ (∀ i, 0 ≤ i → i < ilen f → geti r i = if i < j then rowE f t (pS P (k + 1)) D i else geti f i) | _ => False, fun | .int j :: _ => (ilen f - j).toNat | _ => 0, ⟨by omega, by omega, rfl, fun i i0 i1 => by rw [if_neg (by omega)]⟩, ?_⟩
      rintro j r ⟨j0, jn, hrl, hr⟩
      refine ⟨fun hj => ?_, fun hj => ?_⟩
      · have hnj := hn' j j0 hj
        have e2 : isub (geti t j) (geti f j) = geti t j - geti f j := isub_e (by omega) (by omega)
        have hbt := shr_between (x := geti f j) (y := geti t j) (p := pS P (k + 1)) (D := D) (by omega) (by omega) (by omega)
        have hb : -3600000 ≤ (geti t j - geti f j) * pS P (k + 1) ∧ (geti t j - geti f j) * pS P (k + 1) ≤ 3600000 := by
          have h := mul_box (show -360 ≤ geti t j - geti f j by omega) (show geti t j - geti f j ≤ 360 by omega) (show 0 ≤ pS P (k + 1) by omega) (show pS P (k + 1) ≤ 10000 by omega)
          omega
        have e5 : imul (geti t j - geti f j) (pS P (k + 1)) = (geti t j - geti f j) * pS P (k + 1) := imul_e (by omega) (by omega)
        have hq := (tdiv_bd (a := (geti t j - geti f j) * pS P (k + 1)) (b := D) (by omega) (by omega) (by omega)).1
        have e6 : ((geti t j - geti f j) * pS P (k + 1)).tdiv D = shr (geti t j - geti f j) (pS P (k + 1)) D := rfl
        have hrj := hr j j0 hj
        rw [if_neg (by omega)] at hrj
        have e3 : iadd (geti f j) (shr (geti t j - geti f j) (pS P (k + 1)) D) = rowE f t (pS P (k + 1)) D j := by
          rw [iadd_e (by omega) (by omega)]; rfl
        rw [e2, e5, hq, e6, hrj, e3, iadd_e (by omega) (by omega)]
        refine ⟨⟨⟨j0, by omega⟩, by omega, ⟨j0, by omega⟩, ⟨j0, hj⟩, by omega, j0, by omega⟩, by omega, ⟨by omega, by omega, by rw [ilen_seti]; exact hrl, fun i i0 i1 => ?_⟩, by show (ilen f - (j + 1)).toNat < (ilen f - j).toNat; omega⟩
        rw [geti_seti j0 (by omega) i0]
        by_cases hij : i = j
        · subst hij; rw [if_pos rfl, if_pos (by omega)]
        · rw [if_neg hij, hr i i0 i1]
          by_cases hlt : i < j
          · rw [if_pos hlt, if_pos (by omega)]
          · rw [if_neg hlt, if_neg (by omega)]
      · have e4 : r = rowL f t (pS P (k + 1)) D := by
          refine ints_ext (by rw [rowL_len, hrl]) fun i i0 i1 => ?_
          rw [rowL_get i0 (by omega), hr i i0 (by omega), if_pos (by omega)]
        rw [e4, mvK_len k0, iadd_e (by omega) (by omega)]
        exact ⟨⟨by omega, by rw [ilen_one]; omega⟩, ⟨by omega, by omega, rfl, mvK_s k0⟩, by show (ilen P - (k + 1)).toNat < (ilen P - k).toNat; omega⟩
    · rw [show k = ilen P by omega]
  · cases h
def g_laws_eqIntS : List AV → Option Sg
  | [.s (.view (.ints l)), .s (.view (.ints m))] => some ⟨True, [.s (.bool (eqI l m))]⟩
  | _ => none
def sig_laws_eqIntS : FuncId → List AV → Option Sg := sigL []
def xs_laws_eqIntS : XS := ⟨xsigL [], ysigL []⟩
theorem sig_laws_eqIntS_ok : SigOK sig_laws_eqIntS := sigL_nil
theorem xs_laws_eqIntS_ok : XSigOK xs_laws_eqIntS := ⟨xsigL_nil, ysigL_nil⟩
theorem V_laws_eqIntS (l : List Int) (m : List Int) : ((true = true) ∧ ((True) ∧ True) ∧ (true = true) ∧ ((True) ∧ (True) ∧ (True) ∧ (True) ∧ (True) ∧ True) ∧ ((bnot (ieq (ilen l) (ilen m))) = true → ((true = true) ∧ ((True) ∧ True) ∧ ((false : Bool) = (eqI l m)) ∧ True)) ∧ ((bnot (ieq (ilen l) (ilen m))) = false → ((true = true) ∧ ((True) ∧ True) ∧ ∃ (I1 : List GV → Prop) (μ1 : List GV → Nat), (((true = true) ∧ (((false : Bool) = false) ∧ (((0 : Int) : Int) = (0 : Int)) ∧ ((Cont.ints l) = (Cont.ints l)) ∧ (((ilen l) : Int) = (ilen l)) ∧ ((Cont.ints m) = (Cont.ints m)) ∧ (((ilen m) : Int) = (ilen m)) ∧ (((bnot (ieq (ilen l) (ilen m))) : Bool) = (bnot (ieq (ilen l) (ilen m)))) ∧ ((Cont.ints l) = (Cont.ints l)) ∧ ((Cont.ints m) = (Cont.ints m)) ∧ True) ∧ (True)) ∧ (([GK.int, GK.bool] : List GK) = ([GK.int, GK.bool] : List GK)) ∧ I1 [GV.int (0 : Int), GV.bool false]) ∧ (∀ i1_0 : Int, ∀ b1_1 : Bool, I1 [GV.int i1_0, GV.bool b1_1] → ((true = true) ∧ ((True) ∧ (True) ∧ (True) ∧ (True) ∧ True) ∧ ((ilt i1_0 (ilen l)) = true → ((true = true) ∧ ((True) ∧ (True) ∧ (NLe 0 i1_0 ∧ NLt i1_0 (ilen l)) ∧ (True) ∧ (True) ∧ (True) ∧ (NLe 0 i1_0 ∧ NLt i1_0 (ilen m)) ∧ (True) ∧ (True) ∧ True) ∧ ((bnot (ieq (geti l i1_0) (geti m i1_0))) = true → ((true = true) ∧ ((True) ∧ True) ∧ ((false : Bool) = (eqI l m)) ∧ True)) ∧ ((bnot (ieq (geti l i1_0) (geti m i1_0))) = false → ((true = true) ∧ ((True) ∧ (True) ∧ (True) ∧ True) ∧ ((true = true) ∧ (((b1_1 : Bool) = b1_1) ∧ (((iadd i1_0 (1 : Int)) : Int) = (iadd i1_0 (1 : Int))) ∧ ((Cont.ints l) = (Cont.ints l)) ∧ (((ilen l) : Int) = (ilen l)) ∧ ((Cont.ints m) = (Cont.ints m)) ∧ (((ilen m) : Int) = (ilen m)) ∧ (((bnot (ieq (ilen l) (ilen m))) : Bool) = (bnot (ieq (ilen l) (ilen m)))) ∧ ((Cont.ints l) = (Cont.ints l)) ∧ ((Cont.ints m) = (Cont.ints m)) ∧ True) ∧ (True)) ∧ ((([GK.int, GK.bool] : List GK) = ([GK.int, GK.bool] : List GK)) ∧ I1 [GV.int (iadd i1_0 (1 : Int)), GV.bool b1_1] ∧ μ1 [GV.int (iadd i1_0 (1 : Int)), GV.bool b1_1] < μ1 [GV.int i1_0, GV.bool b1_1]))))) ∧ ((ilt i1_0 (ilen l)) = false → ((true = true) ∧ ((True) ∧ True) ∧ ((true : Bool) = (eqI l m)) ∧ True))))))) = ev sig_laws_eqIntS xs_laws_eqIntS Try.f32.ntmps (fun b => if b == 0 then [.v 5, .v 4] else []) (codeOf Try.f32) 0 (initS [.s (.view (.ints l)), .s (.view (.ints m))]) (retK Try.f32.results.toList [.s (.bool (eqI l m))]) := by kernel_rfl
set_option maxHeartbeats 400000 in
theorem F_laws_eqIntS : FunOK 32 g_laws_eqIntS := by
  refine fun_F (by kernel_rfl) Try.func32 rfl (by kernel_rfl) sig_laws_eqIntS_ok xs_laws_eqIntS_ok ?_
  intro avs sg h hn hl
  unfold g_laws_eqIntS at h
  split at h
  · rename_i l m
    injection h with h; subst h
    refine ⟨by kernel_rfl, fun b => if b == 0 then [.v 5, .v 4] else [], Eq.mp (V_laws_eqIntS l m) ?_⟩
    simp only [true_and, and_true, implies_true, and_self, forall_const, true_implies, lenA, lenL, SV.lenOK, Cont.lenOK] at hn hl ⊢
    have h0 := ilen_0 l
    simp only [ilt_t, ilt_f, ile_t, ile_f, ieq_t, ieq_f, bnot_e, band_e, bite_and, bite_or, NLt_e, NLe_e, NNe_e, NIs_e, imax_e, imin_e, irem_e, Bool.not_eq_true', Bool.not_eq_false', Bool.and_eq_true, Bool.or_eq_true, Bool.or_eq_false_iff, Bool.and_eq_false_iff, Cont.pts.injEq, Cont.ints.injEq, Cont.bools.injEq, Cont.ptss.injEq, Cont.intss.injEq, Cont.boolss.injEq, true_and, and_true, implies_true]
    unfold eqI
    refine ⟨fun h => by simp [h], fun h => ?_⟩
    refine ⟨fun | .int k :: _ => 0 ≤ k ∧ k ≤ ilen l ∧ ∀ j, 0 ≤ j → j < k → decide (geti l j = geti m j) = true | _ => False, fun | .int k :: _ => (ilen l - k).toNat | _ => 0, ?_, ?_⟩
    · exact ⟨Int.le_refl 0, h0, fun j h0 h1 => absurd h1 (by omega)⟩
    · rintro k _ ⟨hk0, hk1, hk⟩
      simp only [ilt_t, ilt_f, ile_t, ile_f, ieq_t, ieq_f, bnot_e, band_e, bite_and, bite_or, NLt_e, NLe_e, NNe_e, NIs_e, imax_e, imin_e, irem_e, Bool.not_eq_true', Bool.not_eq_false', Bool.and_eq_true, Bool.or_eq_true, Bool.or_eq_false_iff, Bool.and_eq_false_iff, Cont.pts.injEq, Cont.ints.injEq, Cont.bools.injEq, Cont.ptss.injEq, Cont.intss.injEq, Cont.boolss.injEq, true_and, and_true, implies_true]
      refine ⟨fun hc => ⟨⟨⟨hk0, hc⟩, hk0, by omega⟩, fun hv => ?_, fun hv => ?_⟩, fun hc => ?_⟩
      · rw [allN_no k hk0 hc (by simpa using hv)]; simp
      · rw [iadd_1 hk0 hc hl.1]
        exact ⟨⟨by omega, by omega, allN_up hk (by simpa using hv)⟩, by omega⟩
      · rw [allN_mk fun j h0 h1 => hk j h0 (by omega)]; simp [h]
  · cases h
def eqII (l m : List (List Int)) : Bool := decide (ilen l = ilen m) && allN (ilen l) fun j => eqI (getl l j) (getl m j)
theorem eqII_same (l : List (List Int)) : eqII l l = true := by
  unfold eqII
  rw [allN_mk fun j _ _ => eqI_same _]
  simp
def g_laws_eqIntSS : List AV → Option Sg
  | [.s (.view (.intss l)), .s (.view (.intss m))] => some ⟨True, [.s (.bool (eqII l m))]⟩
  | _ => none
def sig_laws_eqIntSS : FuncId → List AV → Option Sg := sigL [(32, g_laws_eqIntS)]
def xs_laws_eqIntSS : XS := ⟨xsigL [], ysigL []⟩
theorem sig_laws_eqIntSS_ok : SigOK sig_laws_eqIntSS := sigL_cons F_laws_eqIntS sigL_nil
theorem xs_laws_eqIntSS_ok : XSigOK xs_laws_eqIntSS := ⟨xsigL_nil, ysigL_nil⟩
theorem V_laws_eqIntSS (l : List (List Int)) (m : List (List Int)) : ((true = true) ∧ ((True) ∧ True) ∧ (true = true) ∧ ((True) ∧ (True) ∧ (True) ∧ (True) ∧ (True) ∧ True) ∧ ((bnot (ieq (ilen l) (ilen m))) = true → ((true = true) ∧ ((True) ∧ True) ∧ ((false : Bool) = (eqII l m)) ∧ True)) ∧ ((bnot (ieq (ilen l) (ilen m))) = false → ((true = true) ∧ ((True) ∧ True) ∧ ∃ (I1 : List GV → Prop) (μ1 : List GV → Nat), (((true = true) ∧ (((false : Bool) = false) ∧ (((0 : Int) : Int) = (0 : Int)) ∧ ((Cont.intss l) = (Cont.intss l)) ∧ (((ilen l) : Int) = (ilen l)) ∧ ((Cont.intss m) = (Cont.intss m)) ∧ (((ilen m) : Int) = (ilen m)) ∧ (((bnot (ieq (ilen l) (ilen m))) : Bool) = (bnot (ieq (ilen l) (ilen m)))) ∧ ((Cont.intss l) = (Cont.intss l)) ∧ ((Cont.intss m) = (Cont.intss m)) ∧ True) ∧ (True)) ∧ (([GK.int, GK.bool] : List GK) = ([GK.int, GK.bool] : List GK)) ∧ I1 [GV.int (0 : Int), GV.bool false]) ∧ (∀ i1_0 : Int, ∀ b1_1 : Bool, I1 [GV.int i1_0, GV.bool b1_1] → ((true = true) ∧ ((True) ∧ (True) ∧ (True) ∧ (True) ∧ True) ∧ ((ilt i1_0 (ilen l)) = true → ((true = true) ∧ ((True) ∧ (True) ∧ (NLe 0 i1_0 ∧ NLt i1_0 (ilen l)) ∧ (True) ∧ (True) ∧ (True) ∧ (NLe 0 i1_0 ∧ NLt i1_0 (ilen m)) ∧ (True) ∧ ((True)) ∧ (True) ∧ True) ∧ ((bnot (eqI (getl l i1_0) (getl m i1_0))) = true → ((true = true) ∧ ((True) ∧ True) ∧ ((false : Bool) = (eqII l m)) ∧ True)) ∧ ((bnot (eqI (getl l i1_0) (getl m i1_0))) = false → ((true = true) ∧ ((True) ∧ (True) ∧ (True) ∧ True) ∧ ((true = true) ∧ (((b1_1 : Bool) = b1_1) ∧ (((iadd i1_0 (1 : Int)) : Int) = (iadd i1_0 (1 : Int))) ∧ ((Cont.intss l) = (Cont.intss l)) ∧ (((ilen l) : Int) = (ilen l)) ∧ ((Cont.intss m) = (Cont.intss m)) ∧ (((ilen m) : Int) = (ilen m)) ∧ (((bnot (ieq (ilen l) (ilen m))) : Bool) = (bnot (ieq (ilen l) (ilen m)))) ∧ ((Cont.intss l) = (Cont.intss l)) ∧ ((Cont.intss m) = (Cont.intss m)) ∧ True) ∧ (True)) ∧ ((([GK.int, GK.bool] : List GK) = ([GK.int, GK.bool] : List GK)) ∧ I1 [GV.int (iadd i1_0 (1 : Int)), GV.bool b1_1] ∧ μ1 [GV.int (iadd i1_0 (1 : Int)), GV.bool b1_1] < μ1 [GV.int i1_0, GV.bool b1_1]))))) ∧ ((ilt i1_0 (ilen l)) = false → ((true = true) ∧ ((True) ∧ True) ∧ ((true : Bool) = (eqII l m)) ∧ True))))))) = ev sig_laws_eqIntSS xs_laws_eqIntSS Try.f40.ntmps (fun b => if b == 0 then [.v 5, .v 4] else []) (codeOf Try.f40) 0 (initS [.s (.view (.intss l)), .s (.view (.intss m))]) (retK Try.f40.results.toList [.s (.bool (eqII l m))]) := by kernel_rfl
set_option maxHeartbeats 400000 in
theorem F_laws_eqIntSS : FunOK 40 g_laws_eqIntSS := by
  refine fun_F (by kernel_rfl) Try.func40 rfl (by kernel_rfl) sig_laws_eqIntSS_ok xs_laws_eqIntSS_ok ?_
  intro avs sg h hn hl
  unfold g_laws_eqIntSS at h
  split at h
  · rename_i l m
    injection h with h; subst h
    refine ⟨by kernel_rfl, fun b => if b == 0 then [.v 5, .v 4] else [], Eq.mp (V_laws_eqIntSS l m) ?_⟩
    simp only [true_and, and_true, implies_true, and_self, forall_const, true_implies, lenA, lenL, SV.lenOK, Cont.lenOK] at hn hl ⊢
    have h0 := ilen_0 l
    simp only [ilt_t, ilt_f, ile_t, ile_f, ieq_t, ieq_f, bnot_e, band_e, bite_and, bite_or, NLt_e, NLe_e, NNe_e, NIs_e, imax_e, imin_e, irem_e, Bool.not_eq_true', Bool.not_eq_false', Bool.and_eq_true, Bool.or_eq_true, Bool.or_eq_false_iff, Bool.and_eq_false_iff, Cont.pts.injEq, Cont.ints.injEq, Cont.bools.injEq, Cont.ptss.injEq, Cont.intss.injEq, Cont.boolss.injEq, true_and, and_true, implies_true]
    unfold eqII
    refine ⟨fun h => by simp [h], fun h => ?_⟩
    refine ⟨fun | .int k :: _ => 0 ≤ k ∧ k ≤ ilen l ∧ ∀ j, 0 ≤ j → j < k → eqI (getl l j) (getl m j) = true | _ => False, fun | .int k :: _ => (ilen l - k).toNat | _ => 0, ?_, ?_⟩
    · exact ⟨Int.le_refl 0, h0, fun j h0 h1 => absurd h1 (by omega)⟩
    · rintro k _ ⟨hk0, hk1, hk⟩
      simp only [ilt_t, ilt_f, ile_t, ile_f, ieq_t, ieq_f, bnot_e, band_e, bite_and, bite_or, NLt_e, NLe_e, NNe_e, NIs_e, imax_e, imin_e, irem_e, Bool.not_eq_true', Bool.not_eq_false', Bool.and_eq_true, Bool.or_eq_true, Bool.or_eq_false_iff, Bool.and_eq_false_iff, Cont.pts.injEq, Cont.ints.injEq, Cont.bools.injEq, Cont.ptss.injEq, Cont.intss.injEq, Cont.boolss.injEq, true_and, and_true, implies_true]
      refine ⟨fun hc => ⟨⟨⟨hk0, hc⟩, hk0, by omega⟩, fun hv => ?_, fun hv => ?_⟩, fun hc => ?_⟩
      · rw [allN_no k hk0 hc hv]; simp
      · rw [iadd_1 hk0 hc hl.1.1]
        exact ⟨⟨by omega, by omega, allN_up hk hv⟩, by omega⟩
      · rw [allN_mk fun j h0 h1 => hk j h0 (by omega)]; simp [h]
  · cases h
end Go.Proofs.Ytdpokkegkedlfaa

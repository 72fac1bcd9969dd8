/- Plane geometry in integers: orientation, and when two segments meet. No program in sight. -/
import Derived.Test.YtdpokkegkedlfaaPt
namespace Go.Proofs.Ytdpokkegkedlfaa
def crs (a b c : Pt) : Int := (b.1 - a.1) * (c.2 - a.2) - (b.2 - a.2) * (c.1 - a.1)
def sgn (z : Int) : Int := if 0 < z then 1 else if z < 0 then -1 else 0
def btw (a b p : Pt) : Bool := decide (min a.1 b.1 ≤ p.1 ∧ p.1 ≤ max a.1 b.1 ∧ min a.2 b.2 ≤ p.2 ∧ p.2 ≤ max a.2 b.2)
def meetB (a b c d : Pt) : Bool :=
  (decide (sgn (crs a b c) * sgn (crs a b d) < 0) && decide (sgn (crs c d a) * sgn (crs c d b) < 0)) ||
  (decide (crs a b c = 0) && btw a b c || decide (crs a b d = 0) && btw a b d || decide (crs c d a = 0) && btw c d a || decide (crs c d b = 0) && btw c d b)
/-- The segments a b and c d have a common point (with rational coordinates). -/
def Com (a b c d : Pt) : Prop := ∃ s t u v : Int, 0 ≤ s ∧ 0 ≤ t ∧ 0 ≤ u ∧ 0 ≤ v ∧ 0 < s + t ∧ s + t = u + v ∧ s * a.1 + t * b.1 = u * c.1 + v * d.1 ∧ s * a.2 + t * b.2 = u * c.2 + v * d.2
theorem sgn_neg {x y : Int} : sgn x * sgn y < 0 ↔ (0 < x ∧ y < 0) ∨ (x < 0 ∧ 0 < y) := by
  unfold sgn; (repeat' split) <;> omega
theorem btw_iff {a b p : Pt} : btw a b p = true ↔ (min a.1 b.1 ≤ p.1 ∧ p.1 ≤ max a.1 b.1 ∧ min a.2 b.2 ≤ p.2 ∧ p.2 ≤ max a.2 b.2) := by simp [btw]
theorem on_seg {a b p : Pt} (h : crs a b p = 0) (hb : btw a b p = true) : ∃ s t : Int, 0 ≤ s ∧ 0 ≤ t ∧ 0 < s + t ∧ s * a.1 + t * b.1 = (s + t) * p.1 ∧ s * a.2 + t * b.2 = (s + t) * p.2 := by
  rw [btw_iff] at hb
  unfold crs at h
  obtain ⟨h1, h2, h3, h4⟩ := hb
  obtain ⟨ax, ay⟩ := a; obtain ⟨bx, bY⟩ := b; obtain ⟨px, py⟩ := p
  simp only at *
  by_cases hx : ax = bx
  · by_cases hy : ay = bY
    · subst hx; subst hy; exact ⟨1, 0, by omega, by omega, by omega, by omega, by omega⟩
    · rcases Int.lt_or_gt_of_ne hy with hl | hl
      · exact ⟨bY - py, py - ay, by omega, by omega, by omega, by grind, by grind⟩
      · exact ⟨py - bY, ay - py, by omega, by omega, by omega, by grind, by grind⟩
  · rcases Int.lt_or_gt_of_ne hx with hl | hl
    · exact ⟨bx - px, px - ax, by omega, by omega, by omega, by grind, by grind⟩
    · exact ⟨px - bx, ax - px, by omega, by omega, by omega, by grind, by grind⟩
theorem com_proper {a b c d : Pt} (h1 : 0 < crs a b c) (h2 : crs a b d < 0) (h3 : crs c d a < 0) (h4 : 0 < crs c d b) : Com a b c d := by
  refine ⟨crs c d b, - crs c d a, - crs a b d, crs a b c, by omega, by omega, by omega, by omega, by omega, ?_, ?_, ?_⟩ <;> unfold crs <;> grind
theorem com_swap {a b c d : Pt} (h : Com a b c d) : Com c d a b := by
  obtain ⟨s, t, u, v, h1, h2, h3, h4, h5, h6, h7, h8⟩ := h
  exact ⟨u, v, s, t, h3, h4, h1, h2, by omega, h6.symm, h7.symm, h8.symm⟩
theorem com_flip {a b c d : Pt} (h : Com a b c d) : Com b a c d := by
  obtain ⟨s, t, u, v, h1, h2, h3, h4, h5, h6, h7, h8⟩ := h
  exact ⟨t, s, u, v, h2, h1, h3, h4, by omega, by omega, by omega, by omega⟩
theorem com_flip2 {a b c d : Pt} (h : Com a b c d) : Com a b d c := com_swap (com_flip (com_swap h))
theorem crs_flip (a b c : Pt) : crs b a c = - crs a b c := by unfold crs; grind
theorem meet_com {a b c d : Pt} (h : meetB a b c d = true) : Com a b c d := by
  simp only [meetB, Bool.or_eq_true, Bool.and_eq_true, decide_eq_true_eq, sgn_neg] at h
  rcases h with ⟨h1, h2⟩ | ((⟨h1, h2⟩ | ⟨h1, h2⟩) | ⟨h1, h2⟩) | ⟨h1, h2⟩
  · have e : crs a b c - crs a b d = crs c d b - crs c d a := by unfold crs; grind
    rcases h1 with ⟨h1, h1'⟩ | ⟨h1, h1'⟩
    · exact com_proper h1 h1' (by omega) (by omega)
    · exact com_flip2 (com_proper h1' h1 (by rw [crs_flip]; omega) (by rw [crs_flip]; omega))
  · obtain ⟨s, t, k1, k2, k3, k4, k5⟩ := on_seg h1 h2
    exact ⟨s, t, s + t, 0, k1, k2, by omega, by omega, k3, by omega, by omega, by omega⟩
  · obtain ⟨s, t, k1, k2, k3, k4, k5⟩ := on_seg h1 h2
    exact ⟨s, t, 0, s + t, k1, k2, by omega, by omega, k3, by omega, by omega, by omega⟩
  · obtain ⟨s, t, k1, k2, k3, k4, k5⟩ := on_seg h1 h2
    exact ⟨s + t, 0, s, t, by omega, by omega, k1, k2, by omega, by omega, by omega, by omega⟩
  · obtain ⟨s, t, k1, k2, k3, k4, k5⟩ := on_seg h1 h2
    exact ⟨0, s + t, s, t, by omega, by omega, k1, k2, by omega, by omega, by omega, by omega⟩
theorem wt {s t p a b : Int} (hs : 0 ≤ s) (ht : 0 ≤ t) (hst : 0 < s + t) (h : (s + t) * p = s * a + t * b) : min a b ≤ p ∧ p ≤ max a b := by
  have key : s * (a - p) + t * (b - p) = 0 := by grind
  constructor
  · apply Int.not_lt.1
    intro hlt
    have h1 := Int.mul_nonneg hs (show 0 ≤ a - p by omega)
    have h2 := Int.mul_nonneg ht (show 0 ≤ b - p by omega)
    rcases (show 0 < s ∨ 0 < t by omega) with hp | hp
    · have := Int.mul_pos hp (show 0 < a - p by omega); omega
    · have := Int.mul_pos hp (show 0 < b - p by omega); omega
  · apply Int.not_lt.1
    intro hlt
    have e1 : s * (a - p) = -(s * (p - a)) := by grind
    have e2 : t * (b - p) = -(t * (p - b)) := by grind
    have h1 := Int.mul_nonneg hs (show 0 ≤ p - a by omega)
    have h2 := Int.mul_nonneg ht (show 0 ≤ p - b by omega)
    rcases (show 0 < s ∨ 0 < t by omega) with hp | hp
    · have := Int.mul_pos hp (show 0 < p - a by omega); omega
    · have := Int.mul_pos hp (show 0 < p - b by omega); omega
theorem seg_on {a b p : Pt} {s t : Int} (hs : 0 ≤ s) (ht : 0 ≤ t) (hst : 0 < s + t) (hx : s * a.1 + t * b.1 = (s + t) * p.1) (hy : s * a.2 + t * b.2 = (s + t) * p.2) : crs a b p = 0 ∧ btw a b p = true := by
  constructor
  · have : (s + t) * crs a b p = 0 := by unfold crs; grind
    rcases Int.mul_eq_zero.1 this with h | h
    · omega
    · exact h
  · rw [btw_iff]
    have h1 := wt hs ht hst hx.symm
    have h2 := wt hs ht hst hy.symm
    omega
theorem btw_x {a b p : Pt} (h : crs a b p = 0) (hne : a.1 ≠ b.1) (h1 : min a.1 b.1 ≤ p.1) (h2 : p.1 ≤ max a.1 b.1) : btw a b p = true := by
  have key : ∃ s t : Int, 0 ≤ s ∧ 0 ≤ t ∧ 0 < s + t ∧ s * a.1 + t * b.1 = (s + t) * p.1 ∧ s * a.2 + t * b.2 = (s + t) * p.2 := by
    unfold crs at h
    obtain ⟨ax, ay⟩ := a; obtain ⟨bx, bY⟩ := b; obtain ⟨px, py⟩ := p
    simp only at *
    rcases Int.lt_or_gt_of_ne hne with hl | hl
    · exact ⟨bx - px, px - ax, by omega, by omega, by omega, by grind, by grind⟩
    · exact ⟨px - bx, ax - px, by omega, by omega, by omega, by grind, by grind⟩
  obtain ⟨s, t, k1, k2, k3, k4, k5⟩ := key
  exact (seg_on k1 k2 k3 k4 k5).2
/-- Collinear segments with a common point, the line not vertical. -/
theorem col_x {a b c d : Pt} (hA : crs a b c = 0) (hB : crs a b d = 0) (hne : a.1 ≠ b.1) (h : Com a b c d) :
    btw a b c = true ∨ btw a b d = true ∨ (crs c d a = 0 ∧ btw c d a = true) := by
  obtain ⟨s, t, u, v, h1, h2, h3, h4, h5, h6, h7, h8⟩ := h
  by_cases hcd : c.1 = d.1
  · left
    have e : (b.1 - a.1) * (c.2 - d.2) = 0 := by unfold crs at hA hB; grind
    have hy : c.2 = d.2 := by
      rcases Int.mul_eq_zero.1 e with h | h <;> omega
    refine (seg_on h1 h2 h5 ?_ ?_).2
    · rw [h7, h6, hcd]; grind
    · rw [h8, h6, hy]; grind
  · have hC : crs c d a = 0 := by
      have e : (b.1 - a.1) * crs c d a = 0 := by unfold crs at hA hB ⊢; grind
      rcases Int.mul_eq_zero.1 e with h | h
      · omega
      · exact h
    by_cases k1 : min a.1 b.1 ≤ c.1 ∧ c.1 ≤ max a.1 b.1
    · exact .inl (btw_x hA hne k1.1 k1.2)
    · by_cases k2 : min a.1 b.1 ≤ d.1 ∧ d.1 ≤ max a.1 b.1
      · exact .inr (.inl (btw_x hB hne k2.1 k2.2))
      · refine .inr (.inr ⟨hC, btw_x hC hcd ?_ ?_⟩)
        all_goals
          apply Int.not_lt.1
          intro hlt
          -- both ends of c d on one side of a, and outside of a b: no common point
          have key : s * (a.1 - a.1) + t * (b.1 - a.1) = u * (c.1 - a.1) + v * (d.1 - a.1) := by grind
          have keyb : s * (a.1 - b.1) + t * (b.1 - b.1) = u * (c.1 - b.1) + v * (d.1 - b.1) := by grind
          have z1 : s * (a.1 - a.1) = 0 := by grind
          have z2 : t * (b.1 - b.1) = 0 := by grind
          have n1 : u * (c.1 - a.1) = -(u * (a.1 - c.1)) := by grind
          have n2 : v * (d.1 - a.1) = -(v * (a.1 - d.1)) := by grind
          have n3 : u * (c.1 - b.1) = -(u * (b.1 - c.1)) := by grind
          have n4 : v * (d.1 - b.1) = -(v * (b.1 - d.1)) := by grind
          have n5 : t * (b.1 - a.1) = -(t * (a.1 - b.1)) := by grind
          have n6 : s * (a.1 - b.1) = -(s * (b.1 - a.1)) := by grind
          rcases (show 0 < u ∨ 0 < v by omega) with hp | hp <;> rcases Int.lt_or_gt_of_ne hne with hl | hl
          all_goals
            first
            | (have q1 := Int.mul_nonneg h3 (show 0 ≤ c.1 - a.1 by omega); have q2 := Int.mul_nonneg h4 (show 0 ≤ d.1 - a.1 by omega); have q3 := Int.mul_nonneg h2 (show 0 ≤ a.1 - b.1 by omega); first | (have q4 := Int.mul_pos hp (show 0 < c.1 - a.1 by omega); omega) | (have q4 := Int.mul_pos hp (show 0 < d.1 - a.1 by omega); omega))
            | (have q1 := Int.mul_nonneg h3 (show 0 ≤ a.1 - c.1 by omega); have q2 := Int.mul_nonneg h4 (show 0 ≤ a.1 - d.1 by omega); have q3 := Int.mul_nonneg h2 (show 0 ≤ b.1 - a.1 by omega); first | (have q4 := Int.mul_pos hp (show 0 < a.1 - c.1 by omega); omega) | (have q4 := Int.mul_pos hp (show 0 < a.1 - d.1 by omega); omega))
            | (have q1 := Int.mul_nonneg h3 (show 0 ≤ c.1 - b.1 by omega); have q2 := Int.mul_nonneg h4 (show 0 ≤ d.1 - b.1 by omega); have q3 := Int.mul_nonneg h1 (show 0 ≤ b.1 - a.1 by omega); first | (have q4 := Int.mul_pos hp (show 0 < c.1 - b.1 by omega); omega) | (have q4 := Int.mul_pos hp (show 0 < d.1 - b.1 by omega); omega))
            | (have q1 := Int.mul_nonneg h3 (show 0 ≤ b.1 - c.1 by omega); have q2 := Int.mul_nonneg h4 (show 0 ≤ b.1 - d.1 by omega); have q3 := Int.mul_nonneg h1 (show 0 ≤ a.1 - b.1 by omega); first | (have q4 := Int.mul_pos hp (show 0 < b.1 - c.1 by omega); omega) | (have q4 := Int.mul_pos hp (show 0 < b.1 - d.1 by omega); omega))
def swp (p : Pt) : Pt := (p.2, p.1)
theorem crs_swp (a b c : Pt) : crs (swp a) (swp b) (swp c) = - crs a b c := by unfold crs swp; grind
theorem btw_swp (a b c : Pt) : btw (swp a) (swp b) (swp c) = btw a b c := by
  rw [Bool.eq_iff_iff, btw_iff, btw_iff]; unfold swp; simp only; omega
theorem com_swp {a b c d : Pt} (h : Com a b c d) : Com (swp a) (swp b) (swp c) (swp d) := by
  obtain ⟨s, t, u, v, h1, h2, h3, h4, h5, h6, h7, h8⟩ := h
  exact ⟨s, t, u, v, h1, h2, h3, h4, h5, h6, h8, h7⟩
theorem col_any {a b c d : Pt} (hA : crs a b c = 0) (hB : crs a b d = 0) (h : Com a b c d) :
    btw a b c = true ∨ btw a b d = true ∨ (crs c d a = 0 ∧ btw c d a = true) := by
  by_cases hx : a.1 = b.1
  · by_cases hy : a.2 = b.2
    · obtain ⟨s, t, u, v, h1, h2, h3, h4, h5, h6, h7, h8⟩ := h
      refine .inr (.inr (seg_on h3 h4 (by omega) ?_ ?_))
      · rw [← h7, ← h6, hx]; grind
      · rw [← h8, ← h6, hy]; grind
    · have := col_x (a := swp a) (b := swp b) (c := swp c) (d := swp d) (by rw [crs_swp]; omega) (by rw [crs_swp]; omega) hy (com_swp h)
      rw [btw_swp, btw_swp, btw_swp, crs_swp] at this
      rcases this with h | h | ⟨h, h'⟩
      · exact .inl h
      · exact .inr (.inl h)
      · exact .inr (.inr ⟨by omega, h'⟩)
  · exact col_x hA hB hx h
theorem com_meet {a b c d : Pt} (h : Com a b c d) : meetB a b c d = true := by
  have h' := h
  obtain ⟨s, t, u, v, h1, h2, h3, h4, h5, h6, h7, h8⟩ := h
  have e1 : u * crs a b c + v * crs a b d = 0 := by
    have : u * crs a b c + v * crs a b d = (b.1 - a.1) * ((u * c.2 + v * d.2) - (u + v) * a.2) - (b.2 - a.2) * ((u * c.1 + v * d.1) - (u + v) * a.1) := by unfold crs; grind
    rw [this, ← h7, ← h8, ← h6]; grind
  have e2 : s * crs c d a + t * crs c d b = 0 := by
    have : s * crs c d a + t * crs c d b = (d.1 - c.1) * ((s * a.2 + t * b.2) - (s + t) * c.2) - (d.2 - c.2) * ((s * a.1 + t * b.1) - (s + t) * c.1) := by unfold crs; grind
    rw [this, h7, h8, h6]; grind
  simp only [meetB, Bool.or_eq_true, Bool.and_eq_true, decide_eq_true_eq, sgn_neg]
  have opp : ∀ {p q x y : Int}, 0 < p → 0 < q → p * x + q * y = 0 → (0 < x ∧ y < 0) ∨ (x < 0 ∧ 0 < y) ∨ (x = 0 ∧ y = 0) := by
    intro p q x y hp hq h
    rcases Int.lt_trichotomy x 0 with hx | hx | hx
    · have := Int.mul_neg_of_pos_of_neg hp hx
      have : 0 < y := Int.pos_of_mul_pos_right (a := q) (by omega) hq
      exact .inr (.inl ⟨hx, this⟩)
    · subst hx
      have : q * y = 0 := by omega
      rcases Int.mul_eq_zero.1 this with h | h
      · omega
      · exact .inr (.inr ⟨rfl, h⟩)
    · have h1 := Int.mul_pos hp hx
      have : y < 0 := by
        apply Int.not_le.1
        intro hy
        have := Int.mul_nonneg (show 0 ≤ q by omega) hy
        omega
      exact .inl ⟨hx, this⟩
  by_cases hv : v = 0
  · subst hv
    have := seg_on h1 h2 h5 (p := c) (by rw [h7, h6]; grind) (by rw [h8, h6]; grind)
    exact .inr (.inl (.inl (.inl this)))
  by_cases hu : u = 0
  · subst hu
    have := seg_on h1 h2 h5 (p := d) (by rw [h7, h6]; grind) (by rw [h8, h6]; grind)
    exact .inr (.inl (.inl (.inr this)))
  by_cases ht : t = 0
  · subst ht
    have := seg_on h3 h4 (show 0 < u + v by omega) (p := a) (by rw [← h7, ← h6]; grind) (by rw [← h8, ← h6]; grind)
    exact .inr (.inl (.inr this))
  by_cases hs : s = 0
  · subst hs
    have := seg_on h3 h4 (show 0 < u + v by omega) (p := b) (by rw [← h7, ← h6]; grind) (by rw [← h8, ← h6]; grind)
    exact .inr (.inr this)
  have o1 := opp (show 0 < u by omega) (show 0 < v by omega) e1
  have o2 := opp (show 0 < s by omega) (show 0 < t by omega) e2
  rcases o1 with o1 | o1 | ⟨o1, o1'⟩
  · rcases o2 with o2 | o2 | ⟨o2, o2'⟩
    · exact .inl ⟨.inl o1, .inl o2⟩
    · exact .inl ⟨.inl o1, .inr o2⟩
    · rcases col_any o2 o2' (com_swap h') with k | k | k
      · exact .inr (.inl (.inr ⟨o2, k⟩))
      · exact .inr (.inr ⟨o2', k⟩)
      · exact .inr (.inl (.inl (.inl k)))
  · rcases o2 with o2 | o2 | ⟨o2, o2'⟩
    · exact .inl ⟨.inr o1, .inl o2⟩
    · exact .inl ⟨.inr o1, .inr o2⟩
    · rcases col_any o2 o2' (com_swap h') with k | k | k
      · exact .inr (.inl (.inr ⟨o2, k⟩))
      · exact .inr (.inr ⟨o2', k⟩)
      · exact .inr (.inl (.inl (.inl k)))
  · rcases col_any o1 o1' h' with k | k | k
    · exact .inr (.inl (.inl (.inl ⟨o1, k⟩)))
    · exact .inr (.inl (.inl (.inr ⟨o1', k⟩)))
    · exact .inr (.inl (.inr k))
theorem meetB_iff {a b c d : Pt} : meetB a b c d = true ↔ Com a b c d := ⟨meet_com, com_meet⟩
def meetS (a b c d : Pt) : Bool :=
  (decide (sgn (crs a b c) ≠ sgn (crs a b d)) && decide (sgn (crs c d a) ≠ sgn (crs c d b))) ||
  (decide (crs a b c = 0) && btw a b c || decide (crs a b d = 0) && btw a b d || decide (crs c d a = 0) && btw c d a || decide (crs c d b = 0) && btw c d b)
theorem com_weak {a b c d : Pt} (h1 : 0 ≤ crs a b c) (h2 : crs a b d ≤ 0) (h3 : crs c d a ≤ 0) (h4 : 0 ≤ crs c d b) (h5 : crs a b d < crs a b c) : Com a b c d := by
  have e : crs a b c - crs a b d = crs c d b - crs c d a := by unfold crs; grind
  refine ⟨crs c d b, - crs c d a, - crs a b d, crs a b c, by omega, by omega, by omega, by omega, by omega, by omega, ?_, ?_⟩ <;> unfold crs <;> grind
theorem sgn_ne {x y : Int} (h : sgn x ≠ sgn y) : (0 ≤ x ∧ y ≤ 0 ∧ y < x) ∨ (x ≤ 0 ∧ 0 ≤ y ∧ x < y) := by
  unfold sgn at h; (repeat' split at h) <;> omega
theorem meetS_eq (a b c d : Pt) : meetS a b c d = meetB a b c d := by
  rw [Bool.eq_iff_iff]
  constructor
  · intro h
    unfold meetS at h
    rw [Bool.or_eq_true] at h
    rcases h with h | h
    · simp only [Bool.and_eq_true, decide_eq_true_eq] at h
      have e : crs a b c - crs a b d = crs c d b - crs c d a := by unfold crs; grind
      refine com_meet ?_
      rcases sgn_ne h.1 with h1 | h1 <;> rcases sgn_ne h.2 with h2 | h2
      · omega
      · exact com_weak h1.1 h1.2.1 h2.1 h2.2.1 h1.2.2
      · exact com_flip2 (com_weak h1.2.1 h1.1 (by rw [crs_flip]; omega) (by rw [crs_flip]; omega) h1.2.2)
      · omega
    · unfold meetB; rw [h, Bool.or_true]
  · intro h
    unfold meetB at h
    unfold meetS
    rw [Bool.or_eq_true] at h ⊢
    rcases h with h | h
    · left
      simp only [Bool.and_eq_true, decide_eq_true_eq, sgn_neg] at h ⊢
      have : ∀ {x y : Int}, (0 < x ∧ y < 0) ∨ (x < 0 ∧ 0 < y) → sgn x ≠ sgn y := by
        intro x y h; unfold sgn; (repeat' split) <;> omega
      exact ⟨this h.1, this h.2⟩
    · exact .inr h
theorem meetB_swap (a b c d : Pt) : meetB a b c d = meetB c d a b := by
  rw [Bool.eq_iff_iff, meetB_iff, meetB_iff]; exact ⟨com_swap, com_swap⟩
theorem meetB_flip (a b c d : Pt) : meetB a b c d = meetB b a c d := by
  rw [Bool.eq_iff_iff, meetB_iff, meetB_iff]; exact ⟨com_flip, com_flip⟩
theorem meetB_end (a b c : Pt) : meetB a b b c = true := meetB_iff.2 ⟨0, 1, 1, 0, by omega, by omega, by omega, by omega, by omega, by omega, by omega, by omega⟩
theorem meetB_mid {a b m : Pt} (hx : a.1 + b.1 = 2 * m.1) (hy : a.2 + b.2 = 2 * m.2) : meetB a b m m = true := meetB_iff.2 ⟨1, 1, 1, 1, by omega, by omega, by omega, by omega, by omega, by omega, by omega, by omega⟩
end Go.Proofs.Ytdpokkegkedlfaa

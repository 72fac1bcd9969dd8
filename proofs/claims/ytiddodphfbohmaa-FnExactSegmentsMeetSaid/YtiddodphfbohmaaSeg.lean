/- Distances from segments: both programs return the same plain number. -/
import Derived.Test.YtiddodphfbohmaaGeo
import Derived.Test.YtiddodphfbohmaaPlane
namespace Go.Proofs.Ytiddodphfbohmaa
open Go.RowKit
def nearB (x y : Int) : Bool := inB x (-1000) 1000 && inB y (-1000) 1000
def sqd (a b : Pt) : Int := (a.1 - b.1) * (a.1 - b.1) + (a.2 - b.2) * (a.2 - b.2)
def dotA (p a b : Pt) : Int := (p.1 - a.1) * (b.1 - a.1) + (p.2 - a.2) * (b.2 - a.2)
def segSq (p a b : Pt) : Int := if dotA p a b ≤ 0 then sqd p a else if sqd a b ≤ dotA p a b then sqd p b else crs a b p * crs a b p / sqd a b
def segSqV (p a b : Pt) : Int := if nearB p.1 p.2 && nearB a.1 a.2 && nearB b.1 b.2 then segSq p a b else -1
theorem prod_bd {x y X Y : Int} (h1 : -X ≤ x) (h2 : x ≤ X) (h3 : -Y ≤ y) (h4 : y ≤ Y) : -(X * Y) ≤ x * y ∧ x * y ≤ X * Y := by
  have h := mul_box h1 h2 h3 h4
  have e1 : -X * -Y = X * Y := by rw [Int.neg_mul_neg]
  have e2 : -X * Y = -(X * Y) := by rw [Int.neg_mul]
  have e3 : X * -Y = -(X * Y) := by rw [Int.mul_neg]
  rw [e1, e2, e3] at h
  have : 0 ≤ X * Y := Int.mul_nonneg (by omega) (by omega)
  omega
theorem near_iff {x y : Int} : nearB x y = true ↔ -1000 ≤ x ∧ x ≤ 1000 ∧ -1000 ≤ y ∧ y ≤ 1000 := by
  simp only [nearB, inB, Bool.and_eq_true, decide_eq_true_eq]; omega
theorem vB_iff {x y : Int} : vB x y = true ↔ -10000 ≤ x ∧ x ≤ 10000 ∧ -10000 ≤ y ∧ y ≤ 10000 := by
  simp only [vB, inB, Bool.and_eq_true, decide_eq_true_eq]; omega
theorem near_i (x y : Int) (w : World) : Calls Try.prog 98 #[.agg #[.int .i64 x, .int .i64 y]] w fun e w' => e = .returned (.bool (nearB x y)) ∧ Bel w w' := by
  cases h : inB x (-1000) 1000
  all_goals
    go_enter Try.func98, Try.ntmps98
    go_wp2_with (go_at_call 68; refine (within_c _ _ _ _).mono ?_; rintro e w' ⟨rfl, rfl⟩)
    go_ret
    exact ⟨ret_bool (by simp [nearB, h]), (by repeat (first | assumption | exact Bel.refl _ | refine Bel.alloc ?_ _ | refine Bel.drew ?_ | refine Bel.drewN ?_ _ | (apply Bel.snart; assumption)))⟩
theorem near_s (x y : Int) (w : World) : Calls Try.prog 100 #[.agg #[.int .i64 x, .int .i64 y]] w fun e w' => e = .returned (.bool (nearB x y)) ∧ Bel w w' := by
  cases h : inB x (-1000) 1000
  all_goals
    go_enter Try.func100, Try.ntmps100
    go_wp2_with (go_at_call 67; refine (l1In_c _ _ _ _).mono ?_; rintro e w' ⟨rfl, rfl⟩)
    go_ret
    exact ⟨ret_bool (by simp [nearB, h]), (by repeat (first | assumption | exact Bel.refl _ | refine Bel.alloc ?_ _ | refine Bel.drew ?_ | refine Bel.drewN ?_ _ | (apply Bel.snart; assumption)))⟩
theorem sq_nonneg (x : Int) : 0 ≤ x * x := by
  rcases Int.le_total 0 x with h | h
  · exact Int.mul_nonneg h h
  · exact Int.mul_nonneg_of_nonpos_of_nonpos h h
theorem sqd_eq (a b : Pt) : sqd a b = (b.1 - a.1) * (b.1 - a.1) + (b.2 - a.2) * (b.2 - a.2) := by unfold sqd; grind
theorem segSq_1 {p a b : Pt} (h : dotA p a b ≤ 0) : segSq p a b = sqd p a := by unfold segSq; rw [if_pos h]
theorem segSq_2 {p a b : Pt} (h : ¬ dotA p a b ≤ 0) (h2 : sqd a b ≤ dotA p a b) : segSq p a b = sqd p b := by unfold segSq; rw [if_neg h, if_pos h2]
theorem segSq_3 {p a b : Pt} (h : ¬ dotA p a b ≤ 0) (h2 : ¬ sqd a b ≤ dotA p a b) : segSq p a b = crs a b p * crs a b p / sqd a b := by unfold segSq; rw [if_neg h, if_neg h2]
def Lim (x : Int) : Prop := -50000 ≤ x ∧ x ≤ 50000
theorem crs_bd {ax ay bx b_y cx cy : Int} (h1 : Lim ax) (h2 : Lim ay) (h3 : Lim bx) (h4 : Lim b_y) (h5 : Lim cx) (h6 : Lim cy) :
    (-10000000000 ≤ (bx - ax) * (cy - ay) ∧ (bx - ax) * (cy - ay) ≤ 10000000000) ∧ (-10000000000 ≤ (b_y - ay) * (cx - ax) ∧ (b_y - ay) * (cx - ax) ≤ 10000000000) := by
  unfold Lim at *
  exact ⟨prod_bd (X := 100000) (Y := 100000) (by omega) (by omega) (by omega) (by omega), prod_bd (X := 100000) (Y := 100000) (by omega) (by omega) (by omega) (by omega)⟩
theorem sqd_bd {ax ay bx b_y : Int} (h1 : Lim ax) (h2 : Lim ay) (h3 : Lim bx) (h4 : Lim b_y) :
    (-10000000000 ≤ (ax - bx) * (ax - bx) ∧ (ax - bx) * (ax - bx) ≤ 10000000000) ∧ (-10000000000 ≤ (ay - b_y) * (ay - b_y) ∧ (ay - b_y) * (ay - b_y) ≤ 10000000000) := by
  unfold Lim at *
  exact ⟨prod_bd (X := 100000) (Y := 100000) (by omega) (by omega) (by omega) (by omega), prod_bd (X := 100000) (Y := 100000) (by omega) (by omega) (by omega) (by omega)⟩
theorem cross_i (ax ay bx b_y cx cy : Int) (w : World) (h1 : Lim ax) (h2 : Lim ay) (h3 : Lim bx) (h4 : Lim b_y) (h5 : Lim cx) (h6 : Lim cy) :
    Calls Try.prog 112 #[.agg #[.int .i64 ax, .int .i64 ay], .agg #[.int .i64 bx, .int .i64 b_y], .agg #[.int .i64 cx, .int .i64 cy]] w fun e w' => e = .returned (.int .i64 (crs (ax, ay) (bx, b_y) (cx, cy))) ∧ Bel w w' := by
  obtain ⟨⟨p1, p2⟩, q1, q2⟩ := crs_bd h1 h2 h3 h4 h5 h6
  obtain ⟨h11, h12⟩ := h1
  obtain ⟨h21, h22⟩ := h2
  obtain ⟨h31, h32⟩ := h3
  obtain ⟨h41, h42⟩ := h4
  obtain ⟨h51, h52⟩ := h5
  obtain ⟨h61, h62⟩ := h6
  go_enter Try.func112, Try.ntmps112
  go_wp2
  go_ret
  exact ⟨rfl, (by repeat (first | assumption | exact Bel.refl _ | refine Bel.alloc ?_ _ | refine Bel.drew ?_ | refine Bel.drewN ?_ _ | (apply Bel.snart; assumption)))⟩
theorem cross_s (ax ay bx b_y cx cy : Int) (w : World) (h1 : Lim ax) (h2 : Lim ay) (h3 : Lim bx) (h4 : Lim b_y) (h5 : Lim cx) (h6 : Lim cy) :
    Calls Try.prog 109 #[.agg #[.int .i64 ax, .int .i64 ay], .agg #[.int .i64 bx, .int .i64 b_y], .agg #[.int .i64 cx, .int .i64 cy]] w fun e w' => e = .returned (.int .i64 (crs (ax, ay) (bx, b_y) (cx, cy))) ∧ Bel w w' := by
  obtain ⟨⟨p1, p2⟩, q1, q2⟩ := crs_bd h1 h2 h3 h4 h5 h6
  obtain ⟨h11, h12⟩ := h1
  obtain ⟨h21, h22⟩ := h2
  obtain ⟨h31, h32⟩ := h3
  obtain ⟨h41, h42⟩ := h4
  obtain ⟨h51, h52⟩ := h5
  obtain ⟨h61, h62⟩ := h6
  go_enter Try.func109, Try.ntmps109
  go_wp2
  go_ret
  exact ⟨rfl, (by repeat (first | assumption | exact Bel.refl _ | refine Bel.alloc ?_ _ | refine Bel.drew ?_ | refine Bel.drewN ?_ _ | (apply Bel.snart; assumption)))⟩
theorem square_i (ax ay bx b_y : Int) (w : World) (h1 : Lim ax) (h2 : Lim ay) (h3 : Lim bx) (h4 : Lim b_y) :
    Calls Try.prog 102 #[.agg #[.int .i64 ax, .int .i64 ay], .agg #[.int .i64 bx, .int .i64 b_y]] w fun e w' => e = .returned (.int .i64 (sqd (ax, ay) (bx, b_y))) ∧ Bel w w' := by
  obtain ⟨⟨p1, p2⟩, q1, q2⟩ := sqd_bd h1 h2 h3 h4
  obtain ⟨h11, h12⟩ := h1
  obtain ⟨h21, h22⟩ := h2
  obtain ⟨h31, h32⟩ := h3
  obtain ⟨h41, h42⟩ := h4
  go_enter Try.func102, Try.ntmps102
  go_wp2
  go_ret
  exact ⟨rfl, (by repeat (first | assumption | exact Bel.refl _ | refine Bel.alloc ?_ _ | refine Bel.drew ?_ | refine Bel.drewN ?_ _ | (apply Bel.snart; assumption)))⟩
theorem square_s (ax ay bx b_y : Int) (w : World) (h1 : Lim ax) (h2 : Lim ay) (h3 : Lim bx) (h4 : Lim b_y) :
    Calls Try.prog 115 #[.agg #[.int .i64 ax, .int .i64 ay], .agg #[.int .i64 bx, .int .i64 b_y]] w fun e w' => e = .returned (.int .i64 (sqd (ax, ay) (bx, b_y))) ∧ Bel w w' := by
  obtain ⟨⟨p1, p2⟩, q1, q2⟩ := sqd_bd h1 h2 h3 h4
  obtain ⟨h11, h12⟩ := h1
  obtain ⟨h21, h22⟩ := h2
  obtain ⟨h31, h32⟩ := h3
  obtain ⟨h41, h42⟩ := h4
  go_enter Try.func115, Try.ntmps115
  go_wp2
  go_ret
  exact ⟨rfl, (by repeat (first | assumption | exact Bel.refl _ | refine Bel.alloc ?_ _ | refine Bel.drew ?_ | refine Bel.drewN ?_ _ | (apply Bel.snart; assumption)))⟩
set_option maxHeartbeats 1000000 in
theorem segmentSquare_i (px py ax ay bx b_y : Int) (w : World) (hp : nearB px py = true) (ha : nearB ax ay = true) (hb : nearB bx b_y = true) :
    Calls Try.prog 99 #[.agg #[.int .i64 px, .int .i64 py], .agg #[.int .i64 ax, .int .i64 ay], .agg #[.int .i64 bx, .int .i64 b_y]] w fun e w' => e = .returned (.int .i64 (segSq (px, py) (ax, ay) (bx, b_y))) ∧ Bel w w' := by
  obtain ⟨hp1, hp2, hp3, hp4⟩ := near_iff.1 hp
  obtain ⟨ha1, ha2, ha3, ha4⟩ := near_iff.1 ha
  obtain ⟨hb1, hb2, hb3, hb4⟩ := near_iff.1 hb
  clear hp ha hb
  obtain ⟨d1, d2⟩ := prod_bd (x := px - ax) (y := bx - ax) (X := 2000) (Y := 2000) (by omega) (by omega) (by omega) (by omega)
  obtain ⟨d3, d4⟩ := prod_bd (x := py - ay) (y := b_y - ay) (X := 2000) (Y := 2000) (by omega) (by omega) (by omega) (by omega)
  obtain ⟨s5, s6⟩ := prod_bd (x := bx - ax) (y := bx - ax) (X := 2000) (Y := 2000) (by omega) (by omega) (by omega) (by omega)
  obtain ⟨s7, s8⟩ := prod_bd (x := b_y - ay) (y := b_y - ay) (X := 2000) (Y := 2000) (by omega) (by omega) (by omega) (by omega)
  obtain ⟨c1, c2⟩ := prod_bd (x := bx - ax) (y := py - ay) (X := 2000) (Y := 2000) (by omega) (by omega) (by omega) (by omega)
  obtain ⟨c3, c4⟩ := prod_bd (x := b_y - ay) (y := px - ax) (X := 2000) (Y := 2000) (by omega) (by omega) (by omega) (by omega)
  have ec : crs (ax, ay) (bx, b_y) (px, py) = (bx - ax) * (py - ay) - (b_y - ay) * (px - ax) := rfl
  obtain ⟨e1, e2⟩ := prod_bd (x := crs (ax, ay) (bx, b_y) (px, py)) (y := crs (ax, ay) (bx, b_y) (px, py)) (X := 8000000) (Y := 8000000) (by omega) (by omega) (by omega) (by omega)
  have f1 : 0 ≤ crs (ax, ay) (bx, b_y) (px, py) * crs (ax, ay) (bx, b_y) (px, py) := sq_nonneg _
  have es : sqd (ax, ay) (bx, b_y) = (bx - ax) * (bx - ax) + (b_y - ay) * (b_y - ay) := sqd_eq _ _
  have L1 : Lim px := by unfold Lim; omega
  have L2 : Lim py := by unfold Lim; omega
  have L3 : Lim ax := by unfold Lim; omega
  have L4 : Lim ay := by unfold Lim; omega
  have L5 : Lim bx := by unfold Lim; omega
  have L6 : Lim b_y := by unfold Lim; omega
  clear ec
  by_cases h1 : (px - ax) * (bx - ax) + (py - ay) * (b_y - ay) ≤ 0
  · have HF := Lib.hid (segSq_1 (p := (px, py)) (a := (ax, ay)) (b := (bx, b_y)) h1)
    clear es
    go_enter Try.func99, Try.ntmps99
    go_wp2_with (first
      | (go_at_call 102; refine (square_i _ _ _ _ _ (by assumption) (by assumption) (by assumption) (by assumption)).mono ?_; rintro e w1 ⟨rfl, hb1⟩; have hcl := hb1.cells; have hsz := hb1.size)
      | (go_at_call 112; refine (cross_i _ _ _ _ _ _ _ (by assumption) (by assumption) (by assumption) (by assumption) (by assumption) (by assumption)).mono ?_; rintro e w2 ⟨rfl, hb2⟩; have hcl2 := hb2.cells; have hsz2 := hb2.size))
    go_ret
    exact ⟨ret_int HF.out.symm, (by repeat (first | assumption | exact Bel.refl _ | refine Bel.alloc ?_ _ | refine Bel.drew ?_ | refine Bel.drewN ?_ _ | (apply Bel.snart; assumption)))⟩
  · by_cases h2 : sqd (ax, ay) (bx, b_y) ≤ (px - ax) * (bx - ax) + (py - ay) * (b_y - ay)
    · have HF := Lib.hid (segSq_2 (p := (px, py)) (a := (ax, ay)) (b := (bx, b_y)) h1 h2)
      have h2' : (bx - ax) * (bx - ax) + (b_y - ay) * (b_y - ay) ≤ (px - ax) * (bx - ax) + (py - ay) * (b_y - ay) := by omega
      clear es
      go_enter Try.func99, Try.ntmps99
      go_wp2_with (first
        | (go_at_call 102; refine (square_i _ _ _ _ _ (by assumption) (by assumption) (by assumption) (by assumption)).mono ?_; rintro e w1 ⟨rfl, hb1⟩; have hcl := hb1.cells; have hsz := hb1.size)
        | (go_at_call 112; refine (cross_i _ _ _ _ _ _ _ (by assumption) (by assumption) (by assumption) (by assumption) (by assumption) (by assumption)).mono ?_; rintro e w2 ⟨rfl, hb2⟩; have hcl2 := hb2.cells; have hsz2 := hb2.size))
      go_ret
      exact ⟨ret_int HF.out.symm, (by repeat (first | assumption | exact Bel.refl _ | refine Bel.alloc ?_ _ | refine Bel.drew ?_ | refine Bel.drewN ?_ _ | (apply Bel.snart; assumption)))⟩
    · have HF := Lib.hid (segSq_3 (p := (px, py)) (a := (ax, ay)) (b := (bx, b_y)) h1 h2)
      have h2' : ¬ (bx - ax) * (bx - ax) + (b_y - ay) * (b_y - ay) ≤ (px - ax) * (bx - ax) + (py - ay) * (b_y - ay) := by omega
      have h3 : 0 < sqd (ax, ay) (bx, b_y) := by omega
      have h3' : 0 < (bx - ax) * (bx - ax) + (b_y - ay) * (b_y - ay) := by omega
      have g0 : 0 ≤ crs (ax, ay) (bx, b_y) (px, py) * crs (ax, ay) (bx, b_y) (px, py) / sqd (ax, ay) (bx, b_y) := Int.ediv_nonneg f1 (by omega)
      have g1 : crs (ax, ay) (bx, b_y) (px, py) * crs (ax, ay) (bx, b_y) (px, py) / sqd (ax, ay) (bx, b_y) ≤ crs (ax, ay) (bx, b_y) (px, py) * crs (ax, ay) (bx, b_y) (px, py) := Int.ediv_le_self _ f1
      have HES := Lib.hid es
      clear es
      go_enter Try.func99, Try.ntmps99
      go_wp2_with (first
        | (go_at_call 102; refine (square_i _ _ _ _ _ (by assumption) (by assumption) (by assumption) (by assumption)).mono ?_; rintro e w1 ⟨rfl, hb1⟩; have hcl := hb1.cells; have hsz := hb1.size)
        | (go_at_call 112; refine (cross_i _ _ _ _ _ _ _ (by assumption) (by assumption) (by assumption) (by assumption) (by assumption) (by assumption)).mono ?_; rintro e w2 ⟨rfl, hb2⟩; have hcl2 := hb2.cells; have hsz2 := hb2.size))
      go_ret
      exact ⟨ret_int (by rw [HF.out]), (by repeat (first | assumption | exact Bel.refl _ | refine Bel.alloc ?_ _ | refine Bel.drew ?_ | refine Bel.drewN ?_ _ | (apply Bel.snart; assumption)))⟩
set_option maxHeartbeats 1000000 in
theorem segmentSquare_s (px py ax ay bx b_y : Int) (w : World) (hp : nearB px py = true) (ha : nearB ax ay = true) (hb : nearB bx b_y = true) :
    Calls Try.prog 101 #[.agg #[.int .i64 px, .int .i64 py], .agg #[.int .i64 ax, .int .i64 ay], .agg #[.int .i64 bx, .int .i64 b_y]] w fun e w' => e = .returned (.int .i64 (segSq (px, py) (ax, ay) (bx, b_y))) ∧ Bel w w' := by
  obtain ⟨hp1, hp2, hp3, hp4⟩ := near_iff.1 hp
  obtain ⟨ha1, ha2, ha3, ha4⟩ := near_iff.1 ha
  obtain ⟨hb1, hb2, hb3, hb4⟩ := near_iff.1 hb
  clear hp ha hb
  obtain ⟨d1, d2⟩ := prod_bd (x := px - ax) (y := bx - ax) (X := 2000) (Y := 2000) (by omega) (by omega) (by omega) (by omega)
  obtain ⟨d3, d4⟩ := prod_bd (x := py - ay) (y := b_y - ay) (X := 2000) (Y := 2000) (by omega) (by omega) (by omega) (by omega)
  obtain ⟨s5, s6⟩ := prod_bd (x := bx - ax) (y := bx - ax) (X := 2000) (Y := 2000) (by omega) (by omega) (by omega) (by omega)
  obtain ⟨s7, s8⟩ := prod_bd (x := b_y - ay) (y := b_y - ay) (X := 2000) (Y := 2000) (by omega) (by omega) (by omega) (by omega)
  obtain ⟨c1, c2⟩ := prod_bd (x := bx - ax) (y := py - ay) (X := 2000) (Y := 2000) (by omega) (by omega) (by omega) (by omega)
  obtain ⟨c3, c4⟩ := prod_bd (x := b_y - ay) (y := px - ax) (X := 2000) (Y := 2000) (by omega) (by omega) (by omega) (by omega)
  have ec : crs (ax, ay) (bx, b_y) (px, py) = (bx - ax) * (py - ay) - (b_y - ay) * (px - ax) := rfl
  obtain ⟨e1, e2⟩ := prod_bd (x := crs (ax, ay) (bx, b_y) (px, py)) (y := crs (ax, ay) (bx, b_y) (px, py)) (X := 8000000) (Y := 8000000) (by omega) (by omega) (by omega) (by omega)
  have f1 : 0 ≤ crs (ax, ay) (bx, b_y) (px, py) * crs (ax, ay) (bx, b_y) (px, py) := sq_nonneg _
  have es : sqd (ax, ay) (bx, b_y) = (bx - ax) * (bx - ax) + (b_y - ay) * (b_y - ay) := sqd_eq _ _
  have L1 : Lim px := by unfold Lim; omega
  have L2 : Lim py := by unfold Lim; omega
  have L3 : Lim ax := by unfold Lim; omega
  have L4 : Lim ay := by unfold Lim; omega
  have L5 : Lim bx := by unfold Lim; omega
  have L6 : Lim b_y := by unfold Lim; omega
  clear ec
  by_cases h1 : (px - ax) * (bx - ax) + (py - ay) * (b_y - ay) ≤ 0
  · have HF := Lib.hid (segSq_1 (p := (px, py)) (a := (ax, ay)) (b := (bx, b_y)) h1)
    clear es
    go_enter Try.func101, Try.ntmps101
    go_wp2_with (first
      | (go_at_call 115; refine (square_s _ _ _ _ _ (by assumption) (by assumption) (by assumption) (by assumption)).mono ?_; rintro e w1 ⟨rfl, hb1⟩; have hcl := hb1.cells; have hsz := hb1.size)
      | (go_at_call 109; refine (cross_s _ _ _ _ _ _ _ (by assumption) (by assumption) (by assumption) (by assumption) (by assumption) (by assumption)).mono ?_; rintro e w2 ⟨rfl, hb2⟩; have hcl2 := hb2.cells; have hsz2 := hb2.size))
    go_ret
    exact ⟨ret_int HF.out.symm, (by repeat (first | assumption | exact Bel.refl _ | refine Bel.alloc ?_ _ | refine Bel.drew ?_ | refine Bel.drewN ?_ _ | (apply Bel.snart; assumption)))⟩
  · by_cases h2 : sqd (ax, ay) (bx, b_y) ≤ (px - ax) * (bx - ax) + (py - ay) * (b_y - ay)
    · have HF := Lib.hid (segSq_2 (p := (px, py)) (a := (ax, ay)) (b := (bx, b_y)) h1 h2)
      have h2' : (bx - ax) * (bx - ax) + (b_y - ay) * (b_y - ay) ≤ (px - ax) * (bx - ax) + (py - ay) * (b_y - ay) := by omega
      clear es
      go_enter Try.func101, Try.ntmps101
      go_wp2_with (first
        | (go_at_call 115; refine (square_s _ _ _ _ _ (by assumption) (by assumption) (by assumption) (by assumption)).mono ?_; rintro e w1 ⟨rfl, hb1⟩; have hcl := hb1.cells; have hsz := hb1.size)
        | (go_at_call 109; refine (cross_s _ _ _ _ _ _ _ (by assumption) (by assumption) (by assumption) (by assumption) (by assumption) (by assumption)).mono ?_; rintro e w2 ⟨rfl, hb2⟩; have hcl2 := hb2.cells; have hsz2 := hb2.size))
      go_ret
      exact ⟨ret_int HF.out.symm, (by repeat (first | assumption | exact Bel.refl _ | refine Bel.alloc ?_ _ | refine Bel.drew ?_ | refine Bel.drewN ?_ _ | (apply Bel.snart; assumption)))⟩
    · have HF := Lib.hid (segSq_3 (p := (px, py)) (a := (ax, ay)) (b := (bx, b_y)) h1 h2)
      have h2' : ¬ (bx - ax) * (bx - ax) + (b_y - ay) * (b_y - ay) ≤ (px - ax) * (bx - ax) + (py - ay) * (b_y - ay) := by omega
      have h3 : 0 < sqd (ax, ay) (bx, b_y) := by omega
      have h3' : 0 < (bx - ax) * (bx - ax) + (b_y - ay) * (b_y - ay) := by omega
      have g0 : 0 ≤ crs (ax, ay) (bx, b_y) (px, py) * crs (ax, ay) (bx, b_y) (px, py) / sqd (ax, ay) (bx, b_y) := Int.ediv_nonneg f1 (by omega)
      have g1 : crs (ax, ay) (bx, b_y) (px, py) * crs (ax, ay) (bx, b_y) (px, py) / sqd (ax, ay) (bx, b_y) ≤ crs (ax, ay) (bx, b_y) (px, py) * crs (ax, ay) (bx, b_y) (px, py) := Int.ediv_le_self _ f1
      have HES := Lib.hid es
      clear es
      go_enter Try.func101, Try.ntmps101
      go_wp2_with (first
        | (go_at_call 115; refine (square_s _ _ _ _ _ (by assumption) (by assumption) (by assumption) (by assumption)).mono ?_; rintro e w1 ⟨rfl, hb1⟩; have hcl := hb1.cells; have hsz := hb1.size)
        | (go_at_call 109; refine (cross_s _ _ _ _ _ _ _ (by assumption) (by assumption) (by assumption) (by assumption) (by assumption) (by assumption)).mono ?_; rintro e w2 ⟨rfl, hb2⟩; have hcl2 := hb2.cells; have hsz2 := hb2.size))
      go_ret
      exact ⟨ret_int (by rw [HF.out]; rw [HES.out]), (by repeat (first | assumption | exact Bel.refl _ | refine Bel.alloc ?_ _ | refine Bel.drew ?_ | refine Bel.drewN ?_ _ | (apply Bel.snart; assumption)))⟩
set_option maxHeartbeats 400000 in
theorem SegmentSquare_i (px py ax ay bx b_y : Int) (w : World) :
    Calls Try.prog 64 #[.agg #[.int .i64 px, .int .i64 py], .agg #[.int .i64 ax, .int .i64 ay], .agg #[.int .i64 bx, .int .i64 b_y]] w fun e w' => e = .returned (.int .i64 (segSqV (px, py) (ax, ay) (bx, b_y))) ∧ Bel w w' := by
  cases hp : nearB px py <;> cases ha : nearB ax ay <;> cases hb : nearB bx b_y
  case true.true.true =>
    have HP := Lib.hid hp
    have HA := Lib.hid ha
    have HB := Lib.hid hb
    have HF : Hid (segSqV (px, py) (ax, ay) (bx, b_y) = segSq (px, py) (ax, ay) (bx, b_y)) := by show _ = _; simp only [segSqV, hp, ha, hb]; rfl
    clear hp ha hb
    go_enter Try.func64, Try.ntmps64
    go_wp2_with (first
      | (go_at_call 98; refine (near_i _ _ _).mono ?_; rintro e w1 ⟨rfl, hb1⟩; have hcl := hb1.cells; have := hb1.size; have : w.heap.size < w1.heap.size := (by (try simp at this); omega); have := hb1.size; have : w.heap.size + 1 < w1.heap.size := (by (try simp at this); omega); have := hb1.size; have : w.heap.size + 1 + 1 < w1.heap.size := (by (try simp at this); omega); first | rw [HP.out] | rw [HA.out] | rw [HB.out])
      | (go_at_call 99; refine (segmentSquare_i _ _ _ _ _ _ _ HP.out HA.out HB.out).mono ?_; rintro e w2 ⟨rfl, hb2⟩))
    go_ret
    exact ⟨ret_int HF.out.symm, (by repeat (first | assumption | exact Bel.refl _ | refine Bel.alloc ?_ _ | refine Bel.drew ?_ | refine Bel.drewN ?_ _ | (apply Bel.snart; assumption)))⟩
  all_goals
    have HP := Lib.hid hp
    have HA := Lib.hid ha
    have HB := Lib.hid hb
    have HF : Hid (segSqV (px, py) (ax, ay) (bx, b_y) = -1) := by show _ = _; simp only [segSqV, hp, ha, hb]; rfl
    clear hp ha hb
    go_enter Try.func64, Try.ntmps64
    go_wp2_with (go_at_call 98; refine (near_i _ _ _).mono ?_; rintro e w1 ⟨rfl, hb1⟩; have hcl := hb1.cells; have := hb1.size; have : w.heap.size < w1.heap.size := (by (try simp at this); omega); have := hb1.size; have : w.heap.size + 1 < w1.heap.size := (by (try simp at this); omega); have := hb1.size; have : w.heap.size + 1 + 1 < w1.heap.size := (by (try simp at this); omega); first | rw [HP.out] | rw [HA.out] | rw [HB.out])
    go_ret
    exact ⟨ret_int HF.out.symm, (by repeat (first | assumption | exact Bel.refl _ | refine Bel.alloc ?_ _ | refine Bel.drew ?_ | refine Bel.drewN ?_ _ | (apply Bel.snart; assumption)))⟩
set_option maxHeartbeats 400000 in
theorem SegmentSquare_s (px py ax ay bx b_y : Int) (w : World) :
    Calls Try.prog 65 #[.agg #[.int .i64 px, .int .i64 py], .agg #[.int .i64 ax, .int .i64 ay], .agg #[.int .i64 bx, .int .i64 b_y]] w fun e w' => e = .returned (.int .i64 (segSqV (px, py) (ax, ay) (bx, b_y))) ∧ Bel w w' := by
  cases hp : nearB px py <;> cases ha : nearB ax ay <;> cases hb : nearB bx b_y
  case true.true.true =>
    have HP := Lib.hid hp
    have HA := Lib.hid ha
    have HB := Lib.hid hb
    have HF : Hid (segSqV (px, py) (ax, ay) (bx, b_y) = segSq (px, py) (ax, ay) (bx, b_y)) := by show _ = _; simp only [segSqV, hp, ha, hb]; rfl
    clear hp ha hb
    go_enter Try.func65, Try.ntmps65
    go_wp2_with (first
      | (go_at_call 100; refine (near_s _ _ _).mono ?_; rintro e w1 ⟨rfl, hb1⟩; have hcl := hb1.cells; have := hb1.size; have : w.heap.size < w1.heap.size := (by (try simp at this); omega); have := hb1.size; have : w.heap.size + 1 < w1.heap.size := (by (try simp at this); omega); have := hb1.size; have : w.heap.size + 1 + 1 < w1.heap.size := (by (try simp at this); omega); first | rw [HP.out] | rw [HA.out] | rw [HB.out])
      | (go_at_call 101; refine (segmentSquare_s _ _ _ _ _ _ _ HP.out HA.out HB.out).mono ?_; rintro e w2 ⟨rfl, hb2⟩))
    go_ret
    exact ⟨ret_int HF.out.symm, (by repeat (first | assumption | exact Bel.refl _ | refine Bel.alloc ?_ _ | refine Bel.drew ?_ | refine Bel.drewN ?_ _ | (apply Bel.snart; assumption)))⟩
  all_goals
    have HP := Lib.hid hp
    have HA := Lib.hid ha
    have HB := Lib.hid hb
    have HF : Hid (segSqV (px, py) (ax, ay) (bx, b_y) = -1) := by show _ = _; simp only [segSqV, hp, ha, hb]; rfl
    clear hp ha hb
    go_enter Try.func65, Try.ntmps65
    go_wp2_with (go_at_call 100; refine (near_s _ _ _).mono ?_; rintro e w1 ⟨rfl, hb1⟩; have hcl := hb1.cells; have := hb1.size; have : w.heap.size < w1.heap.size := (by (try simp at this); omega); have := hb1.size; have : w.heap.size + 1 < w1.heap.size := (by (try simp at this); omega); have := hb1.size; have : w.heap.size + 1 + 1 < w1.heap.size := (by (try simp at this); omega); first | rw [HP.out] | rw [HA.out] | rw [HB.out])
    go_ret
    exact ⟨ret_int HF.out.symm, (by repeat (first | assumption | exact Bel.refl _ | refine Bel.alloc ?_ _ | refine Bel.drew ?_ | refine Bel.drewN ?_ _ | (apply Bel.snart; assumption)))⟩
end Go.Proofs.Ytiddodphfbohmaa

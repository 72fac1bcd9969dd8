/- Segments that meet: the program's and the reference's function. -/
import Derived.Test.YtiddodphfbohmaaMeet
namespace Go.Proofs.Ytiddodphfbohmaa
open Go.RowKit
theorem sgn_bd (x : Int) : -1 ≤ sgn x ∧ sgn x ≤ 1 := by unfold sgn; (repeat' split) <;> omega
theorem sgn_mul_bd (x y : Int) : -1 ≤ sgn x * sgn y ∧ sgn x * sgn y ≤ 1 := by
  have := sgn_bd x; have := sgn_bd y
  exact prod_bd (X := 1) (Y := 1) (by omega) (by omega) (by omega) (by omega)
theorem sgn_zero {x : Int} : sgn x = 0 ↔ x = 0 := by unfold sgn; (repeat' split) <;> omega
set_option maxHeartbeats 2000000 in
theorem meet_i (ax ay bx b_y cx cy dx dy : Int) (w : World) (h1 : Lim ax) (h2 : Lim ay) (h3 : Lim bx) (h4 : Lim b_y) (h5 : Lim cx) (h6 : Lim cy) (h7 : Lim dx) (h8 : Lim dy) :
    Calls Try.prog 95 #[.agg #[.int .i64 ax, .int .i64 ay], .agg #[.int .i64 bx, .int .i64 b_y], .agg #[.int .i64 cx, .int .i64 cy], .agg #[.int .i64 dx, .int .i64 dy]] w fun e w' => e = .returned (.bool (meetB (ax, ay) (bx, b_y) (cx, cy) (dx, dy))) ∧ Bel w w' := by
  go_enter Try.func95, Try.ntmps95
  go_wp2
  go_region_held3 (fun w' => w'.cell? ⟨w.heap.size, 0, none⟩ = some (.int .i64 ax) ∧ w'.cell? ⟨w.heap.size, 1, none⟩ = some (.int .i64 ay) ∧ w'.cell? ⟨w.heap.size + 1, 0, none⟩ = some (.int .i64 bx) ∧ w'.cell? ⟨w.heap.size + 1, 1, none⟩ = some (.int .i64 b_y) ∧ w'.cell? ⟨w.heap.size + 1 + 1, 0, none⟩ = some (.int .i64 cx) ∧ w'.cell? ⟨w.heap.size + 1 + 1, 1, none⟩ = some (.int .i64 cy) ∧ w'.cell? ⟨w.heap.size + 1 + 1 + 1, 0, none⟩ = some (.int .i64 dx) ∧ w'.cell? ⟨w.heap.size + 1 + 1 + 1, 1, none⟩ = some (.int .i64 dy) ∧ w.heap.size < w'.heap.size ∧ w.heap.size + 1 < w'.heap.size ∧ w.heap.size + 1 + 1 < w'.heap.size ∧ w.heap.size + 1 + 1 + 1 < w'.heap.size ∧ Bel w w') ((first | (repeat' apply And.intro) <;> (first | (go_simp; done) | (apply Bel.cell; assumption; (first | omega | (simp; omega)); (go_simp; done)) | ((repeat (first | assumption | exact Bel.refl _ | refine Bel.alloc ?_ _ | refine Bel.drew ?_ | refine Bel.drewN ?_ _ | (apply Bel.snart; assumption))); done) | omega | (simp; omega)) | go_keep))
    (first
      | (go_at_call 112; refine (cross_i _ _ _ _ _ _ _ (by assumption) (by assumption) (by assumption) (by assumption) (by assumption) (by assumption)).mono ?_; rintro e w1 ⟨rfl, hb1⟩; have := hb1.size; have : w.heap.size < w1.heap.size := (by (try simp at this); omega); have := hb1.size; have : w.heap.size + 1 < w1.heap.size := (by (try simp at this); omega); have := hb1.size; have : w.heap.size + 1 + 1 < w1.heap.size := (by (try simp at this); omega); have := hb1.size; have : w.heap.size + 1 + 1 + 1 < w1.heap.size := (by (try simp at this); omega))
      | (go_at_call 111; refine (compare_c _ _).mono ?_; rintro e w1 ⟨rfl, rfl⟩))
  go_wp2
  go_region_held3 (fun w' => w'.cell? ⟨w.heap.size, 0, none⟩ = some (.int .i64 ax) ∧ w'.cell? ⟨w.heap.size, 1, none⟩ = some (.int .i64 ay) ∧ w'.cell? ⟨w.heap.size + 1, 0, none⟩ = some (.int .i64 bx) ∧ w'.cell? ⟨w.heap.size + 1, 1, none⟩ = some (.int .i64 b_y) ∧ w'.cell? ⟨w.heap.size + 1 + 1, 0, none⟩ = some (.int .i64 cx) ∧ w'.cell? ⟨w.heap.size + 1 + 1, 1, none⟩ = some (.int .i64 cy) ∧ w'.cell? ⟨w.heap.size + 1 + 1 + 1, 0, none⟩ = some (.int .i64 dx) ∧ w'.cell? ⟨w.heap.size + 1 + 1 + 1, 1, none⟩ = some (.int .i64 dy) ∧ w.heap.size < w'.heap.size ∧ w.heap.size + 1 < w'.heap.size ∧ w.heap.size + 1 + 1 < w'.heap.size ∧ w.heap.size + 1 + 1 + 1 < w'.heap.size ∧ Bel w w') ((first | (repeat' apply And.intro) <;> (first | (go_simp; done) | (apply Bel.cell; assumption; (first | omega | (simp; omega)); (go_simp; done)) | ((repeat (first | assumption | exact Bel.refl _ | refine Bel.alloc ?_ _ | refine Bel.drew ?_ | refine Bel.drewN ?_ _ | (apply Bel.snart; assumption))); done) | omega | (simp; omega)) | go_keep))
    (first
      | (go_at_call 112; refine (cross_i _ _ _ _ _ _ _ (by assumption) (by assumption) (by assumption) (by assumption) (by assumption) (by assumption)).mono ?_; rintro e w1 ⟨rfl, hb1⟩; have := hb1.size; have : w.heap.size < w1.heap.size := (by (try simp at this); omega); have := hb1.size; have : w.heap.size + 1 < w1.heap.size := (by (try simp at this); omega); have := hb1.size; have : w.heap.size + 1 + 1 < w1.heap.size := (by (try simp at this); omega); have := hb1.size; have : w.heap.size + 1 + 1 + 1 < w1.heap.size := (by (try simp at this); omega))
      | (go_at_call 111; refine (compare_c _ _).mono ?_; rintro e w1 ⟨rfl, rfl⟩))
  generalize hA : crs (ax, ay) (bx, b_y) (cx, cy) = A at *
  generalize hB : crs (ax, ay) (bx, b_y) (dx, dy) = B at *
  generalize hC : crs (cx, cy) (dx, dy) (ax, ay) = C at *
  generalize hD : crs (cx, cy) (dx, dy) (bx, b_y) = D at *
  have HF : Hid (meetB (ax, ay) (bx, b_y) (cx, cy) (dx, dy) = ((decide (sgn A * sgn B < 0) && decide (sgn C * sgn D < 0)) || (decide (sgn A = 0) && btw (ax, ay) (bx, b_y) (cx, cy) || decide (sgn B = 0) && btw (ax, ay) (bx, b_y) (dx, dy) || decide (sgn C = 0) && btw (cx, cy) (dx, dy) (ax, ay) || decide (sgn D = 0) && btw (cx, cy) (dx, dy) (bx, b_y)))) := by
    show _ = _; unfold meetB; rw [hA, hB, hC, hD]; simp only [sgn_zero]
  clear hA hB hC hD
  obtain ⟨m1, m2⟩ := sgn_mul_bd A B
  obtain ⟨m3, m4⟩ := sgn_mul_bd C D
  generalize sgn A = sA at *
  generalize sgn B = sB at *
  generalize sgn C = sC at *
  generalize sgn D = sD at *
  go_wp2_with (go_at_call 113; refine (between_i _ _ _ _ _ _ _).mono ?_; rintro e w2 ⟨rfl, hb2⟩; have hcl := hb2.cells; have := hb2.size; have : w.heap.size < w2.heap.size := (by (try simp at this); omega); have := hb2.size; have : w.heap.size + 1 < w2.heap.size := (by (try simp at this); omega); have := hb2.size; have : w.heap.size + 1 + 1 < w2.heap.size := (by (try simp at this); omega); have := hb2.size; have : w.heap.size + 1 + 1 + 1 < w2.heap.size := (by (try simp at this); omega))
  all_goals
    go_ret
    refine ⟨ret_bool ?_, (by repeat (first | assumption | exact Bel.refl _ | refine Bel.alloc ?_ _ | refine Bel.drew ?_ | refine Bel.drewN ?_ _ | (apply Bel.snart; assumption)))⟩
    rw [HF.out]
    clear HF
    first | (simp [*]; done) | (simp [*]; omega)
end Go.Proofs.Ytiddodphfbohmaa

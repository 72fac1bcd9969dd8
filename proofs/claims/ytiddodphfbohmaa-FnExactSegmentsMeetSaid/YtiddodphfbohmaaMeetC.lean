/- Segments that meet: the program's and the reference's function. -/
import Derived.Test.YtiddodphfbohmaaMeetB
import Derived.Deep.Cut
namespace Go.Proofs.Ytiddodphfbohmaa
open Go.RowKit
set_option maxHeartbeats 2000000 in
theorem meet_s (ax ay bx b_y cx cy dx dy : Int) (w : World) (h1 : Lim ax) (h2 : Lim ay) (h3 : Lim bx) (h4 : Lim b_y) (h5 : Lim cx) (h6 : Lim cy) (h7 : Lim dx) (h8 : Lim dy) :
    Calls Try.prog 94 #[.agg #[.int .i64 ax, .int .i64 ay], .agg #[.int .i64 bx, .int .i64 b_y], .agg #[.int .i64 cx, .int .i64 cy], .agg #[.int .i64 dx, .int .i64 dy]] w fun e w' => e = .returned (.bool (meetS (ax, ay) (bx, b_y) (cx, cy) (dx, dy))) ∧ Bel w w' := by
  go_enter Try.func94, Try.ntmps94
  go_upto_region 5 with (first
      | (go_at_call 109; refine (cross_s _ _ _ _ _ _ _ (by assumption) (by assumption) (by assumption) (by assumption) (by assumption) (by assumption)).mono ?_; rintro e w1 ⟨rfl, hb1⟩; have hcl := hb1.cells; have := hb1.size; have : w.heap.size < w1.heap.size := (by (try simp at this); omega); have := hb1.size; have : w.heap.size + 1 < w1.heap.size := (by (try simp at this); omega); have := hb1.size; have : w.heap.size + 1 + 1 < w1.heap.size := (by (try simp at this); omega); have := hb1.size; have : w.heap.size + 1 + 1 + 1 < w1.heap.size := (by (try simp at this); omega))
      | (go_at_call 108; refine (l2Sign_c _ _).mono ?_; rintro e w1 ⟨rfl, rfl⟩))
  generalize hA : crs (ax, ay) (bx, b_y) (cx, cy) = A at *
  generalize hB : crs (ax, ay) (bx, b_y) (dx, dy) = B at *
  generalize hC : crs (cx, cy) (dx, dy) (ax, ay) = C at *
  generalize hD : crs (cx, cy) (dx, dy) (bx, b_y) = D at *
  have HF : Hid (meetS (ax, ay) (bx, b_y) (cx, cy) (dx, dy) = ((decide (sgn A ≠ sgn B) && decide (sgn C ≠ sgn D)) || (decide (sgn A = 0) && btw (ax, ay) (bx, b_y) (cx, cy) || decide (sgn B = 0) && btw (ax, ay) (bx, b_y) (dx, dy) || decide (sgn C = 0) && btw (cx, cy) (dx, dy) (ax, ay) || decide (sgn D = 0) && btw (cx, cy) (dx, dy) (bx, b_y)))) := by
    show _ = _; unfold meetS; rw [hA, hB, hC, hD]; simp only [sgn_zero]
  clear hA hB hC hD
  obtain ⟨m1, m2⟩ := sgn_bd A
  obtain ⟨m3, m4⟩ := sgn_bd B
  obtain ⟨m5, m6⟩ := sgn_bd C
  obtain ⟨m7, m8⟩ := sgn_bd D
  generalize sgn A = sA at *
  generalize sgn B = sB at *
  generalize sgn C = sC at *
  generalize sgn D = sD at *
  go_wp2_with (go_at_call 110; refine (between_s _ _ _ _ _ _ _).mono ?_; rintro e w2 ⟨rfl, hb2⟩; have hcl := hb2.cells; have := hb2.size; have : w.heap.size < w2.heap.size := (by (try simp at this); omega); have := hb2.size; have : w.heap.size + 1 < w2.heap.size := (by (try simp at this); omega); have := hb2.size; have : w.heap.size + 1 + 1 < w2.heap.size := (by (try simp at this); omega); have := hb2.size; have : w.heap.size + 1 + 1 + 1 < w2.heap.size := (by (try simp at this); omega))
  all_goals
    go_ret
    refine ⟨ret_bool ?_, (by repeat (first | assumption | exact Bel.refl _ | refine Bel.alloc ?_ _ | refine Bel.drew ?_ | refine Bel.drewN ?_ _ | (apply Bel.snart; assumption)))⟩
    rw [HF.out]
    clear HF
    first | (simp [*]; done) | (simp only [bne_iff_ne, ne_eq] at *; (first | (simp [*]; done) | (simp [*]; omega) | (simp_all; done) | (trace_state; sorry)))
end Go.Proofs.Ytiddodphfbohmaa

/- Segments that meet: both programs' answers. -/
import Derived.Test.YtiddodphfbohmaaSeg
import Derived.Deep.RegionHeld3
namespace Go.Proofs.Ytiddodphfbohmaa
open Go.RowKit
theorem compare_c (x : Int) (w : World) : Calls Try.prog 111 #[.int .i64 x, .int .i64 0] w fun e w' => e = .returned (.int .i64 (sgn x)) ∧ w = w' := by
  have h1 : (x != x) = false := by simp
  rcases Int.lt_trichotomy x 0 with h | h | h
  · have hs : Hid (sgn x = -1) := by show _ = _; unfold sgn; rw [if_neg (by omega), if_pos h]
    go_enter Try.func111, Try.ntmps111
    go_wp2
    go_ret
    exact ⟨ret_int hs.out.symm, rfl⟩
  · subst h
    go_enter Try.func111, Try.ntmps111
    go_wp2
    go_ret
    exact ⟨rfl, rfl⟩
  · have hs : Hid (sgn x = 1) := by show _ = _; unfold sgn; rw [if_pos h]
    go_enter Try.func111, Try.ntmps111
    go_wp2
    go_ret
    exact ⟨ret_int hs.out.symm, rfl⟩
theorem l2Sign_c (x : Int) (w : World) : Calls Try.prog 108 #[.int .i64 x] w fun e w' => e = .returned (.int .i64 (sgn x)) ∧ w = w' := by
  rcases Int.lt_trichotomy x 0 with h | h | h
  · have hs : Hid (sgn x = -1) := by show _ = _; unfold sgn; rw [if_neg (by omega), if_pos h]
    go_enter Try.func108, Try.ntmps108
    go_wp2
    go_ret
    exact ⟨ret_int hs.out.symm, rfl⟩
  · subst h
    go_enter Try.func108, Try.ntmps108
    go_wp2
    go_ret
    exact ⟨rfl, rfl⟩
  · have hs : Hid (sgn x = 1) := by show _ = _; unfold sgn; rw [if_pos h]
    go_enter Try.func108, Try.ntmps108
    go_wp2
    go_ret
    exact ⟨ret_int hs.out.symm, rfl⟩
theorem between_i (ax ay bx b_y px py : Int) (w : World) :
    Calls Try.prog 113 #[.agg #[.int .i64 ax, .int .i64 ay], .agg #[.int .i64 bx, .int .i64 b_y], .agg #[.int .i64 px, .int .i64 py]] w fun e w' => e = .returned (.bool (btw (ax, ay) (bx, b_y) (px, py))) ∧ Bel w w' := by
  rcases Int.lt_trichotomy ax bx with hx | hx | hx <;> rcases Int.lt_trichotomy ay b_y with hy | hy | hy
  all_goals
    first | subst hx | skip
    first | subst hy | skip
    go_enter Try.func113, Try.ntmps113
    go_wp2_with (go_at_call 68; refine (within_c _ _ _ _).mono ?_; rintro e w' ⟨rfl, rfl⟩)
    all_goals
      go_ret
      refine ⟨ret_bool ?_, (by repeat (first | assumption | exact Bel.refl _ | refine Bel.alloc ?_ _ | refine Bel.drew ?_ | refine Bel.drewN ?_ _ | (apply Bel.snart; assumption)))⟩
      rw [Bool.eq_iff_iff, btw_iff]
      simp only [inB, decide_eq_true_eq, Bool.false_eq_true, false_iff] at *
      omega
theorem between_s (ax ay bx b_y px py : Int) (w : World) :
    Calls Try.prog 110 #[.agg #[.int .i64 ax, .int .i64 ay], .agg #[.int .i64 bx, .int .i64 b_y], .agg #[.int .i64 px, .int .i64 py]] w fun e w' => e = .returned (.bool (btw (ax, ay) (bx, b_y) (px, py))) ∧ Bel w w' := by
  rcases Int.lt_trichotomy ax bx with hx | hx | hx <;> rcases Int.lt_trichotomy ay b_y with hy | hy | hy
  all_goals
    first | subst hx | skip
    first | subst hy | skip
    go_enter Try.func110, Try.ntmps110
    go_wp2_with (go_at_call 67; refine (l1In_c _ _ _ _).mono ?_; rintro e w' ⟨rfl, rfl⟩)
    all_goals
      go_ret
      refine ⟨ret_bool ?_, (by repeat (first | assumption | exact Bel.refl _ | refine Bel.alloc ?_ _ | refine Bel.drew ?_ | refine Bel.drewN ?_ _ | (apply Bel.snart; assumption)))⟩
      rw [Bool.eq_iff_iff, btw_iff]
      simp only [inB, decide_eq_true_eq, Bool.false_eq_true, false_iff] at *
      omega
end Go.Proofs.Ytiddodphfbohmaa

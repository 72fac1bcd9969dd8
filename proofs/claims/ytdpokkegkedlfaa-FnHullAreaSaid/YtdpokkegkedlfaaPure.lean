/- Contracts of the functions that only compute with numbers: they return what the plain functions of this text say and leave the world alone. -/
import Derived.Test.YtdpokkegkedlfaaProg
import Derived.WalkKit
import Derived.Lib.Hide
namespace Go.Proofs.Ytdpokkegkedlfaa
open Go.RowKit
def inB (n lo hi : Int) : Bool := decide (lo ≤ n ∧ n ≤ hi)
theorem inB_true {n lo hi : Int} (h : inB n lo hi = true) : lo ≤ n ∧ n ≤ hi := by simpa [inB] using h
theorem inB_false {n lo hi : Int} (h : inB n lo hi = false) : ¬ (lo ≤ n ∧ n ≤ hi) := by
  intro h'; simp [inB, h'] at h
theorem inB_mk {n lo hi : Int} (h1 : lo ≤ n) (h2 : n ≤ hi) : inB n lo hi = true := by simp [inB, h1, h2]
theorem inB_no {n lo hi : Int} (h1 : ¬ (lo ≤ n ∧ n ≤ hi)) : inB n lo hi = false := by simp only [inB, h1, decide_false]
theorem ret_bool {a b : Bool} (h : a = b) : Ending.returned (.bool a) = .returned (.bool b) := by rw [h]
theorem ret_int {k : IntKind} {a b : Int} (h : a = b) : Ending.returned (.int k a) = .returned (.int k b) := by rw [h]
theorem mul_bd {a b A B : Int} (ha : 0 ≤ a) (hA : a ≤ A) (hb : 0 ≤ b) (hB : b ≤ B) : 0 ≤ a * b ∧ a * b ≤ A * B :=
  ⟨Int.mul_nonneg ha hb, Int.mul_le_mul hA hB hb (by omega)⟩
theorem ret_two {k : IntKind} {a b : Int} {x y : Bool} (h : a = b) (h2 : x = y) : Ending.returned (.tuple #[.int k a, .bool x]) = .returned (.tuple #[.int k b, .bool y]) := by rw [h, h2]
theorem mul_box {x y a b c d : Int} (h1 : a ≤ x) (h2 : x ≤ b) (h3 : c ≤ y) (h4 : y ≤ d) : min (min (a * c) (a * d)) (min (b * c) (b * d)) ≤ x * y ∧ x * y ≤ max (max (a * c) (a * d)) (max (b * c) (b * d)) := by
  have key : ∀ y : Int, (a * y ≤ x * y ∧ x * y ≤ b * y) ∨ (b * y ≤ x * y ∧ x * y ≤ a * y) := by
    intro y
    rcases Int.le_total 0 y with h | h
    · exact .inl ⟨Int.mul_le_mul_of_nonneg_right h1 h, Int.mul_le_mul_of_nonneg_right h2 h⟩
    · exact .inr ⟨Int.mul_le_mul_of_nonpos_right h2 h, Int.mul_le_mul_of_nonpos_right h1 h⟩
  have lin : ∀ z : Int, (z * c ≤ z * y ∧ z * y ≤ z * d) ∨ (z * d ≤ z * y ∧ z * y ≤ z * c) := by
    intro z
    rcases Int.le_total 0 z with h | h
    · exact .inl ⟨Int.mul_le_mul_of_nonneg_left h3 h, Int.mul_le_mul_of_nonneg_left h4 h⟩
    · exact .inr ⟨Int.mul_le_mul_of_nonpos_left h h4, Int.mul_le_mul_of_nonpos_left h h3⟩
  have k := key y
  have la := lin a
  have lb := lin b
  generalize x * y = q at *
  generalize a * y = ay at *
  generalize b * y = bby at *
  generalize a * c = ac at *
  generalize a * d = ad at *
  generalize b * c = bc at *
  generalize b * d = bd at *
  omega
theorem within_c (n lo hi : Int) (w : World) : Calls Try.prog 71 #[.int .i64 n, .int .i64 lo, .int .i64 hi] w fun e w' => e = .returned (.bool (inB n lo hi)) ∧ w = w' := by
  by_cases h1 : lo ≤ n
  all_goals
    go_enter Try.func71, Try.ntmps71
    go_wp2
    go_ret
    exact ⟨ret_bool (by by_cases h2 : n ≤ hi <;> simp [inB, h1, h2] <;> omega), rfl⟩
theorem l1In_c (n lo hi : Int) (w : World) : Calls Try.prog 73 #[.int .i64 n, .int .i64 lo, .int .i64 hi] w fun e w' => e = .returned (.bool (inB n lo hi)) ∧ w = w' := by
  by_cases h1 : lo ≤ n
  all_goals
    go_enter Try.func73, Try.ntmps73
    go_wp2
    go_ret
    exact ⟨ret_bool (by by_cases h2 : n ≤ hi <;> simp [inB, h1, h2] <;> omega), rfl⟩
theorem alive_c (w : World) : Calls Try.prog 23 #[] w fun e w' => e = .returned (.bool true) ∧ w = w' := by
  go_enter Try.func23, Try.ntmps23
  go_wp2
  go_ret
  exact ⟨rfl, rfl⟩
end Go.Proofs.Ytdpokkegkedlfaa

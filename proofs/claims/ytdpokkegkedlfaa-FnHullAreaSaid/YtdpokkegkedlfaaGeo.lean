/- test -/
import Derived.Test.YtdpokkegkedlfaaBase
import Derived.Test.YtdpokkegkedlfaaPure
namespace Go.Proofs.Ytdpokkegkedlfaa
open Go.RowKit
def vB (x y : Int) : Bool := inB x (-10000) 10000 && inB y (-10000) 10000
def allB (ps : List Pt) : Bool := ps.all fun p => vB p.1 p.2
theorem allB_true {ps : List Pt} (h : ∀ q ∈ ps, vB q.1 q.2 = true) : allB ps = true := by simpa [allB] using h
theorem allB_false {ps : List Pt} {k : Nat} (hk : k < ps.length) (h : vB ps[k].1 ps[k].2 = false) : allB ps = false := by
  simp only [allB, List.all_eq_false]; exact ⟨ps[k], List.getElem_mem hk, by simp [h]⟩
theorem take_all {ps : List Pt} {k : Nat} (hk : k < ps.length) {P : Pt → Prop} (ha : ∀ q ∈ ps.take k, P q) (h : P ps[k]) : ∀ q ∈ ps.take (k + 1), P q := by
  intro q hq
  rw [List.take_succ_eq_append_getElem hk, List.mem_append, List.mem_singleton] at hq
  rcases hq with hq | rfl
  · exact ha q hq
  · exact h
theorem PointValid_i (x y : Int) (w : World) : Calls Try.prog 101 #[.agg #[.int .i64 x, .int .i64 y]] w fun e w' => e = .returned (.bool (vB x y)) ∧ Bel w w' := by
  cases h : inB x (-10000) 10000
  all_goals
    go_enter Try.func101, Try.ntmps101
    go_wp2_with (go_at_call 71; refine (within_c _ _ _ _).mono ?_; rintro e w' ⟨rfl, rfl⟩)
    go_ret
    exact ⟨ret_bool (by simp [vB, h]), (Bel.refl _).alloc _⟩
theorem PointValid_s (x y : Int) (w : World) : Calls Try.prog 85 #[.agg #[.int .i64 x, .int .i64 y]] w fun e w' => e = .returned (.bool (vB x y)) ∧ Bel w w' := by
  cases h : inB x (-10000) 10000
  all_goals
    go_enter Try.func85, Try.ntmps85
    go_wp2_with (go_at_call 73; refine (l1In_c _ _ _ _).mono ?_; rintro e w' ⟨rfl, rfl⟩)
    go_ret
    exact ⟨ret_bool (by simp [vB, h]), (Bel.refl _).alloc _⟩
set_option maxHeartbeats 400000 in
theorem allPoints_c (v : Value) (ps : List Pt) (w : World) (hP : Pts w v ps) : Calls Try.prog 89 #[v] w fun e w' => e = .returned (.bool (allB ps)) ∧ Bel w w' := by
  obtain ⟨A, c, rfl, hc1, hc2, hf⟩ := hP.form
  unfold maxLen at hc2
  go_enter Try.func89, Try.ntmps89
  go_wp2
  go_loopw [7] (fun i wr => ∃ k : Nat, k ≤ ps.length ∧ i = .int .i64 k ∧ (∀ q ∈ ps.take k, vB q.1 q.2 = true) ∧ Bel w wr) (fun i _ => ps.length - (intOf i).toNat)
  case atStart => exact ⟨0, Nat.zero_le _, rfl, by simp, Bel.refl _⟩
  case round =>
    obtain ⟨k, hk, rfl, hall, hb⟩ := hrel
    by_cases hlt : k < ps.length
    · obtain ⟨b, off, rfl, hbs, hcell⟩ := hf (by omega)
      have c1 := hb.cell hbs (hcell k hlt).1
      have c2 := hb.cell hbs (hcell k hlt).2
      clear hcell hf
      go_wp2_with (go_at_call 101; refine (PointValid_i _ _ _).mono ?_; rintro e w1 ⟨rfl, hb1⟩)
      · have h : (!vB ps[k].1 ps[k].2) = true := by assumption
        go_ret
        exact ⟨ret_bool (allB_false hlt (by simpa using h)).symm, (by repeat (first | assumption | exact Bel.refl _ | refine Bel.alloc ?_ _ | refine Bel.drew ?_ | refine Bel.drewN ?_ _ | (apply Bel.snart; assumption)))⟩
      · have h : (!vB ps[k].1 ps[k].2) = false := by assumption
        have h' : vB ps[k].1 ps[k].2 = true := by simpa using h
        clear h
        go_roundw
        case rel => exact ⟨k + 1, by omega, by go_num, take_all hlt hall h', (by repeat (first | assumption | exact Bel.refl _ | refine Bel.alloc ?_ _ | refine Bel.drew ?_ | refine Bel.drewN ?_ _ | (apply Bel.snart; assumption)))⟩
        case measure => simp [intOf]; omega
    · go_wp2
      go_ret
      exact ⟨ret_bool (allB_true (by rwa [List.take_of_length_le (by omega)] at hall)).symm, hb⟩
def curveB (ps : List Pt) : Bool := inB ps.length 1 4 && allB ps
end Go.Proofs.Ytdpokkegkedlfaa

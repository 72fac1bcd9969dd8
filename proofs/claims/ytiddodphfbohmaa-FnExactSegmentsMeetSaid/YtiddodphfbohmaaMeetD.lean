/- SegmentsMeet: the program's and the reference's function. -/
import Derived.Test.YtiddodphfbohmaaMeetC
import Derived.Test.YtiddodphfbohmaaGeo
namespace Go.Proofs.Ytiddodphfbohmaa
open Go.RowKit
def smB (a b c d : Pt) : Bool := (vB a.1 a.2 && vB b.1 b.2 && vB c.1 c.2 && vB d.1 d.2) && meetB a b c d
theorem lim_of {x y : Int} (h : vB x y = true) : Lim x ∧ Lim y := by
  simp [vB, inB] at h
  unfold Lim
  omega
theorem lit4 (w : World) (e : TypeId) (b : Nat) (hb : b = w.heap.size) (ax ay bx b_y cx cy dx dy : Int) : Pts (w.alloc (.cells #[.int .i64 ax, .int .i64 ay, .int .i64 bx, .int .i64 b_y, .int .i64 cx, .int .i64 cy, .int .i64 dx, .int .i64 dy] e)) (.slice (some ⟨b, 0, none⟩) 4 4) [(ax, ay), (bx, b_y), (cx, cy), (dx, dy)] := by
  subst hb
  exact own_pts (World.ownsRow_lit (base := w.heap.size) (e := e) (size := 2) w #[.int .i64 ax, .int .i64 ay, .int .i64 bx, .int .i64 b_y, .int .i64 cx, .int .i64 cy, .int .i64 dx, .int .i64 dy] 4 (Nat.le_refl _) (by unfold maxLen; omega) rfl)
theorem allB_four (a b c d : Pt) : allB [a, b, c, d] = (vB a.1 a.2 && vB b.1 b.2 && vB c.1 c.2 && vB d.1 d.2) := by simp [allB, Bool.and_assoc]
set_option maxHeartbeats 1000000 in
theorem SegmentsMeet_i (ax ay bx b_y cx cy dx dy : Int) (w : World) :
    Calls Try.prog 60 #[.agg #[.int .i64 ax, .int .i64 ay], .agg #[.int .i64 bx, .int .i64 b_y], .agg #[.int .i64 cx, .int .i64 cy], .agg #[.int .i64 dx, .int .i64 dy]] w fun e w' => e = .returned (.bool (smB (ax, ay) (bx, b_y) (cx, cy) (dx, dy))) ∧ Bel w w' := by
  cases h : allB [(ax, ay), (bx, b_y), (cx, cy), (dx, dy)]
  case true =>
    have h' := h
    rw [allB_four] at h'
    simp only [Bool.and_eq_true] at h'
    obtain ⟨l1, l2⟩ := lim_of h'.1.1.1
    obtain ⟨l3, l4⟩ := lim_of h'.1.1.2
    obtain ⟨l5, l6⟩ := lim_of h'.1.2
    obtain ⟨l7, l8⟩ := lim_of h'.2
    have HF : Hid (smB (ax, ay) (bx, b_y) (cx, cy) (dx, dy) = meetB (ax, ay) (bx, b_y) (cx, cy) (dx, dy)) := by show _ = _; rw [smB, ← allB_four, h, Bool.true_and]
    have H := Lib.hid h
    clear h h'
    go_enter Try.func60, Try.ntmps60
    go_wp2_with (first
      | (go_at_call 69; refine (allPoints_c _ [(ax, ay), (bx, b_y), (cx, cy), (dx, dy)] _ ?_).mono ?_; (exact lit4 _ _ _ (by simp) _ _ _ _ _ _ _ _); rintro e w1 ⟨rfl, hb1⟩; rw [H.out]; have hcl := hb1.cells; have := hb1.size; have : w.heap.size < w1.heap.size := (by (try simp at this); omega); have := hb1.size; have : w.heap.size + 1 < w1.heap.size := (by (try simp at this); omega); have := hb1.size; have : w.heap.size + 1 + 1 < w1.heap.size := (by (try simp at this); omega); have := hb1.size; have : w.heap.size + 1 + 1 + 1 < w1.heap.size := (by (try simp at this); omega))
      | (go_at_call 95; refine (meet_i _ _ _ _ _ _ _ _ _ l1 l2 l3 l4 l5 l6 l7 l8).mono ?_; rintro e w2 ⟨rfl, hb2⟩))
    go_ret
    exact ⟨ret_bool HF.out.symm, (by repeat (first | assumption | exact Bel.refl _ | refine Bel.alloc ?_ _ | refine Bel.drew ?_ | refine Bel.drewN ?_ _ | (apply Bel.snart; assumption)))⟩
  case false =>
    have HF : Hid (smB (ax, ay) (bx, b_y) (cx, cy) (dx, dy) = false) := by show _ = _; rw [smB, ← allB_four, h, Bool.false_and]
    have H := Lib.hid h
    clear h
    go_enter Try.func60, Try.ntmps60
    go_wp2_with (go_at_call 69; refine (allPoints_c _ [(ax, ay), (bx, b_y), (cx, cy), (dx, dy)] _ ?_).mono ?_; (exact lit4 _ _ _ (by simp) _ _ _ _ _ _ _ _); rintro e w1 ⟨rfl, hb1⟩; rw [H.out])
    go_ret
    exact ⟨ret_bool HF.out.symm, (by repeat (first | assumption | exact Bel.refl _ | refine Bel.alloc ?_ _ | refine Bel.drew ?_ | refine Bel.drewN ?_ _ | (apply Bel.snart; assumption)))⟩
set_option maxHeartbeats 1000000 in
theorem SegmentsMeet_s (ax ay bx b_y cx cy dx dy : Int) (w : World) :
    Calls Try.prog 58 #[.agg #[.int .i64 ax, .int .i64 ay], .agg #[.int .i64 bx, .int .i64 b_y], .agg #[.int .i64 cx, .int .i64 cy], .agg #[.int .i64 dx, .int .i64 dy]] w fun e w' => e = .returned (.bool (smB (ax, ay) (bx, b_y) (cx, cy) (dx, dy))) ∧ Bel w w' := by
  cases hp : vB ax ay <;> cases hq : vB bx b_y <;> cases hr : vB cx cy <;> cases hs : vB dx dy
  case true.true.true.true =>
    obtain ⟨l1, l2⟩ := lim_of hp
    obtain ⟨l3, l4⟩ := lim_of hq
    obtain ⟨l5, l6⟩ := lim_of hr
    obtain ⟨l7, l8⟩ := lim_of hs
    have HF : Hid (smB (ax, ay) (bx, b_y) (cx, cy) (dx, dy) = meetS (ax, ay) (bx, b_y) (cx, cy) (dx, dy)) := by show _ = _; rw [smB, hp, hq, hr, hs, meetS_eq]; rfl
    have HP := Lib.hid hp
    have HQ := Lib.hid hq
    have HR := Lib.hid hr
    have HS := Lib.hid hs
    clear hp hq hr hs
    go_enter Try.func58, Try.ntmps58
    go_wp2_with (first
      | (go_at_call 37; refine (PointValid_s _ _ _).mono ?_; rintro e w1 ⟨rfl, hb1⟩; have hcl := hb1.cells; have := hb1.size; have : w.heap.size < w1.heap.size := (by (try simp at this); omega); have := hb1.size; have : w.heap.size + 1 < w1.heap.size := (by (try simp at this); omega); have := hb1.size; have : w.heap.size + 1 + 1 < w1.heap.size := (by (try simp at this); omega); have := hb1.size; have : w.heap.size + 1 + 1 + 1 < w1.heap.size := (by (try simp at this); omega); first | rw [HP.out] | rw [HQ.out] | rw [HR.out] | rw [HS.out])
      | (go_at_call 94; refine (meet_s _ _ _ _ _ _ _ _ _ l1 l2 l3 l4 l5 l6 l7 l8).mono ?_; rintro e w2 ⟨rfl, hb2⟩))
    go_ret
    exact ⟨ret_bool HF.out.symm, (by repeat (first | assumption | exact Bel.refl _ | refine Bel.alloc ?_ _ | refine Bel.drew ?_ | refine Bel.drewN ?_ _ | (apply Bel.snart; assumption)))⟩
  all_goals
    have HF : Hid (smB (ax, ay) (bx, b_y) (cx, cy) (dx, dy) = false) := by show _ = _; simp only [smB, hp, hq, hr, hs]; rfl
    have HP := Lib.hid hp
    have HQ := Lib.hid hq
    have HR := Lib.hid hr
    have HS := Lib.hid hs
    clear hp hq hr hs
    go_enter Try.func58, Try.ntmps58
    go_wp2_with (go_at_call 37; refine (PointValid_s _ _ _).mono ?_; rintro e w1 ⟨rfl, hb1⟩; have hcl := hb1.cells; have := hb1.size; have : w.heap.size < w1.heap.size := (by (try simp at this); omega); have := hb1.size; have : w.heap.size + 1 < w1.heap.size := (by (try simp at this); omega); have := hb1.size; have : w.heap.size + 1 + 1 < w1.heap.size := (by (try simp at this); omega); have := hb1.size; have : w.heap.size + 1 + 1 + 1 < w1.heap.size := (by (try simp at this); omega); first | rw [HP.out] | rw [HQ.out] | rw [HR.out] | rw [HS.out])
    go_ret
    exact ⟨ret_bool HF.out.symm, (by repeat (first | assumption | exact Bel.refl _ | refine Bel.alloc ?_ _ | refine Bel.drew ?_ | refine Bel.drewN ?_ _ | (apply Bel.snart; assumption)))⟩
end Go.Proofs.Ytiddodphfbohmaa

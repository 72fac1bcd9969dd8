/- 'FnExactSegmentsMeet': for every four points the program's SegmentsMeet returns what the reference's returns. Conditions: none. -/
import Derived.Test.YtiddodphfbohmaaOpen
import Derived.Test.YtiddodphfbohmaaMeetD
import Derived.Test.YtiddodphfbohmaaToEq
import Derived.Deep.RegionHeld3
namespace Go.Proofs.Ytiddodphfbohmaa
open Go.ChangeShapes Go.WideShapes Go.ChangeAt Go.RowKit
set_option maxHeartbeats 2000000 in
theorem fnExactSegmentsMeet_walk (w : World) (v0 : Value) (x0 : Pt) (w0 : PointArg v0 x0) (v1 : Value) (x1 : Pt) (w1 : PointArg v1 x1) (v2 : Value) (x2 : Pt) (w2 : PointArg v2 x2) (v3 : Value) (x3 : Pt) (w3 : PointArg v3 x3) :
    Calls Try.prog 13 #[v0, v1, v2, v3] w fun e w' => e = .returned (.bool true) ∧ Bel w w' := by
  obtain ⟨rfl, b0⟩ := w0
  obtain ⟨rfl, b1⟩ := w1
  obtain ⟨rfl, b2⟩ := w2
  obtain ⟨rfl, b3⟩ := w3
  clear b0 b1 b2 b3
  go_enter Try.func13, Try.ntmps13
  go_wp2
  go_region_held3 (fun w' => w'.cell? ⟨w.heap.size, 0, none⟩ = some (.int .i64 x0.1) ∧ w'.cell? ⟨w.heap.size, 1, none⟩ = some (.int .i64 x0.2) ∧ w'.cell? ⟨w.heap.size + 1, 0, none⟩ = some (.int .i64 x1.1) ∧ w'.cell? ⟨w.heap.size + 1, 1, none⟩ = some (.int .i64 x1.2) ∧ w'.cell? ⟨w.heap.size + 1 + 1, 0, none⟩ = some (.int .i64 x2.1) ∧ w'.cell? ⟨w.heap.size + 1 + 1, 1, none⟩ = some (.int .i64 x2.2) ∧ w'.cell? ⟨w.heap.size + 1 + 1 + 1, 0, none⟩ = some (.int .i64 x3.1) ∧ w'.cell? ⟨w.heap.size + 1 + 1 + 1, 1, none⟩ = some (.int .i64 x3.2) ∧ w.heap.size < w'.heap.size ∧ w.heap.size + 1 < w'.heap.size ∧ w.heap.size + 1 + 1 < w'.heap.size ∧ w.heap.size + 1 + 1 + 1 < w'.heap.size ∧ Bel w w') ((first | (repeat' apply And.intro) <;> (first | (go_simp; done) | (apply Bel.cell; assumption; (first | omega | (simp; omega)); (go_simp; done)) | ((repeat (first | assumption | exact Bel.refl _ | refine Bel.alloc ?_ _ | refine Bel.drew ?_ | refine Bel.drewN ?_ _ | (apply Bel.snart; assumption))); done) | omega | (simp; omega)) | go_keep)) (first
    | (go_at_call 59; refine (toPoint_c _ _ _).mono ?_; rintro e w1 ⟨rfl, hb1⟩; have := hb1.size; have : w.heap.size < w1.heap.size := (by (try simp at this); omega); have := hb1.size; have : w.heap.size + 1 < w1.heap.size := (by (try simp at this); omega); have := hb1.size; have : w.heap.size + 1 + 1 < w1.heap.size := (by (try simp at this); omega); have := hb1.size; have : w.heap.size + 1 + 1 + 1 < w1.heap.size := (by (try simp at this); omega))
    | (go_at_call 60; refine (SegmentsMeet_i _ _ _ _ _ _ _ _ _).mono ?_; rintro e w1 ⟨rfl, hb1⟩; have := hb1.size; have : w.heap.size < w1.heap.size := (by (try simp at this); omega); have := hb1.size; have : w.heap.size + 1 < w1.heap.size := (by (try simp at this); omega); have := hb1.size; have : w.heap.size + 1 + 1 < w1.heap.size := (by (try simp at this); omega); have := hb1.size; have : w.heap.size + 1 + 1 + 1 < w1.heap.size := (by (try simp at this); omega))
    | (go_at_call 58; refine (SegmentsMeet_s _ _ _ _ _ _ _ _ _).mono ?_; rintro e w1 ⟨rfl, hb1⟩; have := hb1.size; have : w.heap.size < w1.heap.size := (by (try simp at this); omega); have := hb1.size; have : w.heap.size + 1 < w1.heap.size := (by (try simp at this); omega); have := hb1.size; have : w.heap.size + 1 + 1 < w1.heap.size := (by (try simp at this); omega); have := hb1.size; have : w.heap.size + 1 + 1 + 1 < w1.heap.size := (by (try simp at this); omega)))
  go_wp2
  go_region_held3 (fun w' => w'.cell? ⟨w.heap.size, 0, none⟩ = some (.int .i64 x0.1) ∧ w'.cell? ⟨w.heap.size, 1, none⟩ = some (.int .i64 x0.2) ∧ w'.cell? ⟨w.heap.size + 1, 0, none⟩ = some (.int .i64 x1.1) ∧ w'.cell? ⟨w.heap.size + 1, 1, none⟩ = some (.int .i64 x1.2) ∧ w'.cell? ⟨w.heap.size + 1 + 1, 0, none⟩ = some (.int .i64 x2.1) ∧ w'.cell? ⟨w.heap.size + 1 + 1, 1, none⟩ = some (.int .i64 x2.2) ∧ w'.cell? ⟨w.heap.size + 1 + 1 + 1, 0, none⟩ = some (.int .i64 x3.1) ∧ w'.cell? ⟨w.heap.size + 1 + 1 + 1, 1, none⟩ = some (.int .i64 x3.2) ∧ w.heap.size < w'.heap.size ∧ w.heap.size + 1 < w'.heap.size ∧ w.heap.size + 1 + 1 < w'.heap.size ∧ w.heap.size + 1 + 1 + 1 < w'.heap.size ∧ Bel w w') ((first | (repeat' apply And.intro) <;> (first | (go_simp; done) | (apply Bel.cell; assumption; (first | omega | (simp; omega)); (go_simp; done)) | ((repeat (first | assumption | exact Bel.refl _ | refine Bel.alloc ?_ _ | refine Bel.drew ?_ | refine Bel.drewN ?_ _ | (apply Bel.snart; assumption))); done) | omega | (simp; omega)) | go_keep)) (first
    | (go_at_call 59; refine (toPoint_c _ _ _).mono ?_; rintro e w1 ⟨rfl, hb1⟩; have := hb1.size; have : w.heap.size < w1.heap.size := (by (try simp at this); omega); have := hb1.size; have : w.heap.size + 1 < w1.heap.size := (by (try simp at this); omega); have := hb1.size; have : w.heap.size + 1 + 1 < w1.heap.size := (by (try simp at this); omega); have := hb1.size; have : w.heap.size + 1 + 1 + 1 < w1.heap.size := (by (try simp at this); omega))
    | (go_at_call 60; refine (SegmentsMeet_i _ _ _ _ _ _ _ _ _).mono ?_; rintro e w1 ⟨rfl, hb1⟩; have := hb1.size; have : w.heap.size < w1.heap.size := (by (try simp at this); omega); have := hb1.size; have : w.heap.size + 1 < w1.heap.size := (by (try simp at this); omega); have := hb1.size; have : w.heap.size + 1 + 1 < w1.heap.size := (by (try simp at this); omega); have := hb1.size; have : w.heap.size + 1 + 1 + 1 < w1.heap.size := (by (try simp at this); omega))
    | (go_at_call 58; refine (SegmentsMeet_s _ _ _ _ _ _ _ _ _).mono ?_; rintro e w1 ⟨rfl, hb1⟩; have := hb1.size; have : w.heap.size < w1.heap.size := (by (try simp at this); omega); have := hb1.size; have : w.heap.size + 1 < w1.heap.size := (by (try simp at this); omega); have := hb1.size; have : w.heap.size + 1 + 1 < w1.heap.size := (by (try simp at this); omega); have := hb1.size; have : w.heap.size + 1 + 1 + 1 < w1.heap.size := (by (try simp at this); omega)))
  go_wp2
  go_ret
  exact ⟨rfl, (by repeat (first | assumption | exact Bel.refl _ | refine Bel.alloc ?_ _ | refine Bel.drew ?_ | refine Bel.drewN ?_ _ | (apply Bel.snart; assumption)))⟩
set_option maxRecDepth 100000 in
theorem fnExactSegmentsMeet_lifted (os : Os) (started : os.Started) (H : Type) (enc : TypeId × Value → H) :
    ReturnsInHanded {} Try.checked os 13 .any (Rows.fnExactSegmentsMeetSpec.pre6 enc Try.prog Try.f13 Rows.fnExactSegmentsMeetRow.domain false) (Rows.fnExactSegmentsMeetSpec.post enc Try.prog Try.f13 false true false false) := by
  have own : ownKnob Try.prog.godebug = none := by kernel_rfl
  have laidOut : laidOutB Try.prog = true := by kernel_rfl
  refine returnsInHanded_of_change (C := Try.checked) own started (by kernel_rfl) Try.func13
    (ChangeSpec.witness6 (enc := enc) (C := Try.checked) false ⟨#[], #[.agg #[.int .i64 0, .int .i64 0], .agg #[.int .i64 0, .int .i64 0], .agg #[.int .i64 0, .int .i64 0], .agg #[.int .i64 0, .int .i64 0]], []⟩ 8 (by kernel_rfl) (by kernel_rfl) (by kernel_rfl) (by kernel_rfl)) ?_
  intro W base args ds gs before hval0 hW hcnd _
  have hval : ∀ (j : Nat) t v, Try.f13.params[j]? = some t → args[j]? = some v → Value.okWide Try.prog W .any base t v := hval0
  have hW' := hW
  obtain ⟨p, q, hA0, hV, rfl, hfz, hnd⟩ := hW
  have hA : DataW.TrodAll enc Try.prog W 0 (fun _ => true) true Try.f13.params.toList args.toList ds p := hA0
  rw [Try.params13] at hA hval
  obtain ⟨v0, vs0, d0, ds0, p0, q0, hargs, rfl, rfl, h0, r0⟩ := trodAll_cons hA
  obtain ⟨v1, vs1, d1, ds1, p1, q1, rfl, rfl, rfl, h1, r1⟩ := trodAll_cons r0
  obtain ⟨v2, vs2, d2, ds2, p2, q2, rfl, rfl, rfl, h2, r2⟩ := trodAll_cons r1
  obtain ⟨v3, vs3, d3, ds3, p3, q3, rfl, rfl, rfl, h3, r3⟩ := trodAll_cons r2
  obtain ⟨rfl, rfl, rfl⟩ := trodAll_nil r3
  obtain rfl : args = #[v0, v1, v2, v3] := by cases args; simp_all
  obtain ⟨rfl, rfl⟩ := trodVars_none hV
  have k0 := h0
  have lt0 : ∀ x ∈ p0, x.block < W.heap.size := by obtain ⟨m, hm⟩ := k0; exact DataW.trod_lt m _ _ _ hm
  have k1 := h1
  have lt1 : ∀ x ∈ p1, x.block < W.heap.size := by obtain ⟨m, hm⟩ := k1; exact DataW.trod_lt m _ _ _ hm
  have k2 := h2
  have lt2 : ∀ x ∈ p2, x.block < W.heap.size := by obtain ⟨m, hm⟩ := k2; exact DataW.trod_lt m _ _ _ hm
  have k3 := h3
  have lt3 : ∀ x ∈ p3, x.block < W.heap.size := by obtain ⟨m, hm⟩ := k3; exact DataW.trod_lt m _ _ _ hm
  obtain ⟨x0, w0⟩ := opn_Point (hval 0 69 v0 rfl rfl) h0
  obtain ⟨x1, w1⟩ := opn_Point (hval 1 69 v1 rfl rfl) h1
  obtain ⟨x2, w2⟩ := opn_Point (hval 2 69 v2 rfl rfl) h2
  obtain ⟨x3, w3⟩ := opn_Point (hval 3 69 v3 rfl rfl) h3
  clear hA0 hval0
  refine (fnExactSegmentsMeet_walk W v0 x0 w0 v1 x1 w1 v2 x2 w2 v3 x3 w3).mono fun e W' ⟨he, bel⟩ => ?_
  subst he
  exact ⟨_, rfl, _, _, _, [], _, [], hW', trodAll_mk1 (shut_bool Try.underlying4 _), (trodAll_cons_mk (Below.trod laidOut (by kernel_rfl) (of_decide_eq_true (by kernel_rfl)) k0 bel lt0) (trodAll_cons_mk (Below.trod laidOut (by kernel_rfl) (of_decide_eq_true (by kernel_rfl)) k1 bel lt1) (trodAll_cons_mk (Below.trod laidOut (by kernel_rfl) (of_decide_eq_true (by kernel_rfl)) k2 bel lt2) (trodAll_cons_mk (Below.trod laidOut (by kernel_rfl) (of_decide_eq_true (by kernel_rfl)) k3 bel lt3) trodAll_mk0)))), rfl, Below.frame bel _, fun h => by cases h⟩
theorem fnExactSegmentsMeet_over : Rows.fnExactSegmentsMeetRow.holds Try.pinned (OpenSpec.ofChange Rows.fnExactSegmentsMeetSpec) :=
  OpenClaim.holds_of_wide 13 Try.f13 rfl rfl rfl rfl rfl rfl rfl ⟨rfl, rfl, rfl, rfl, rfl⟩ rfl rfl rfl rfl rfl (by kernel_rfl) Try.func13 (by kernel_rfl)
    (of_decide_eq_true (by kernel_rfl)) (by unfold Func.isWrapper; first | (rw [if_pos (by decide +kernel)]; kernel_rfl) | (rw [if_neg (by decide +kernel)]; exact ⟨rfl, rfl⟩))
    (fun os started H enc _ => fnExactSegmentsMeet_lifted os started H enc)
theorem fnExactSegmentsMeet_proved : Rows.FnExactSegmentsMeetSaid := fnExactSegmentsMeet_over
#print axioms fnExactSegmentsMeet_proved
end Go.Proofs.Ytiddodphfbohmaa

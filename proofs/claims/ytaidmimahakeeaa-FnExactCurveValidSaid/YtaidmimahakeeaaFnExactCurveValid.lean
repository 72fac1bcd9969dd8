/- 'FnExactCurveValid': for every list of points the program's CurveValid returns what the reference's returns and leaves the list alone. Conditions: none. -/
import Derived.Test.YtaidmimahakeeaaOpen
import Derived.Test.YtaidmimahakeeaaToEq
namespace Go.Proofs.Ytaidmimahakeeaa
open Go.ChangeShapes Go.WideShapes Go.ChangeAt Go.RowKit
set_option maxHeartbeats 400000 in
theorem fnExactCurveValid_walk (w : World) (v0 : Value) (x0 : List Pt) (w0 : PointsArg w v0 x0) :
    Calls Try.prog 9 #[v0] w fun e w' => e = .returned (.bool true) ∧ Bel w w' := by
  obtain ⟨hP, -⟩ := w0
  by_cases hn : x0.length ≤ 1048576
  · have hP' := hP
    obtain ⟨A, c, rfl, hc1, hc2, -⟩ := hP.form
    clear hP
    have HS : Hid (szR x0.length 1048576 = 1048576 - x0.length) := by show _ = _; unfold szR; rw [if_pos (by omega)]
    go_enter Try.func9, Try.ntmps9
    go_wp2_with fail
    refine (szPointS_c _ _ _ _ hP' (by omega) (by omega)).mono ?_
    rintro e w1 ⟨rfl, rfl⟩
    rw [HS.out]
    go_wp2_with fail
    refine (toPointS_c _ _ _ hP' hn).mono ?_
    rintro e w1 ⟨⟨r1, rfl, ho1⟩, hb1⟩
    go_wp2_with fail
    refine (CurveValid_s _ _ _ (own_pts ho1)).mono ?_
    rintro e w2 ⟨rfl, hb2⟩
    go_wp2_with fail
    refine (toPointS_c _ _ _ ((hP'.below hb1).below hb2) hn).mono ?_
    rintro e w3 ⟨⟨r2, rfl, ho2⟩, hb3⟩
    go_wp2_with fail
    refine (CurveValid_i _ _ _ (own_pts ho2)).mono ?_
    rintro e w4 ⟨rfl, hb4⟩
    go_wp2_with fail
    refine (toPointS_c _ _ _ ((((hP'.below hb1).below hb2).below hb3).below hb4) hn).mono ?_
    rintro e w5 ⟨⟨r3, rfl, ho3⟩, hb5⟩
    go_wp2_with fail
    refine (eqPointS_same _ _ _ _ (own_pts (own_bel (own_bel ho2 hb4) hb5)) (own_pts ho3)).mono ?_
    rintro e w6 ⟨rfl, hb6⟩
    go_wp2
    go_ret
    exact ⟨rfl, (by repeat (first | assumption | exact Bel.refl _ | refine Bel.alloc ?_ _ | refine Bel.drew ?_ | refine Bel.drewN ?_ _ | (apply Bel.snart; assumption)))⟩
  · have hP' := hP
    obtain ⟨A, c, rfl, hc1, hc2, -⟩ := hP.form
    clear hP
    have HS : Hid (szR x0.length 1048576 = -1) := by show _ = _; unfold szR; rw [if_neg (by omega)]
    go_enter Try.func9, Try.ntmps9
    go_wp2_with fail
    refine (szPointS_c _ _ _ _ hP' (by omega) (by omega)).mono ?_
    rintro e w1 ⟨rfl, rfl⟩
    rw [HS.out]
    go_wp2
    go_ret
    exact ⟨rfl, Bel.refl _⟩
set_option maxRecDepth 100000 in
theorem fnExactCurveValid_lifted (os : Os) (started : os.Started) (H : Type) (enc : TypeId × Value → H) :
    ReturnsInHanded {} Try.checked os 9 .any (Rows.fnExactCurveValidSpec.pre6 enc Try.prog Try.f9 Rows.fnExactCurveValidRow.domain false) (Rows.fnExactCurveValidSpec.post enc Try.prog Try.f9 false true false false) := by
  have own : ownKnob Try.prog.godebug = none := by kernel_rfl
  have laidOut : laidOutB Try.prog = true := by kernel_rfl
  refine returnsInHanded_of_change (C := Try.checked) own started (by kernel_rfl) Try.func9
    (ChangeSpec.witness6 (enc := enc) (C := Try.checked) false ⟨#[], #[.slice none 0 0], []⟩ 8 (by kernel_rfl) (by kernel_rfl) (by kernel_rfl) (by kernel_rfl)) ?_
  intro W base args ds gs before hval0 hW hcnd _
  have hval : ∀ (j : Nat) t v, Try.f9.params[j]? = some t → args[j]? = some v → Value.okWide Try.prog W .any base t v := hval0
  have hW' := hW
  obtain ⟨p, q, hA0, hV, rfl, hfz, hnd⟩ := hW
  have hA : DataW.TrodAll enc Try.prog W 0 (fun _ => true) true Try.f9.params.toList args.toList ds p := hA0
  rw [Try.params9] at hA hval
  obtain ⟨v0, vs0, d0, ds0, p0, q0, hargs, rfl, rfl, h0, r0⟩ := trodAll_cons hA
  obtain ⟨rfl, rfl, rfl⟩ := trodAll_nil r0
  obtain rfl : args = #[v0] := by cases args; simp_all
  obtain ⟨rfl, rfl⟩ := trodVars_none hV
  have k0 := h0
  have lt0 : ∀ x ∈ p0, x.block < W.heap.size := by obtain ⟨m, hm⟩ := k0; exact DataW.trod_lt m _ _ _ hm
  obtain ⟨x0, w0⟩ := opn_Points (hval 0 40 v0 rfl rfl) h0
  clear hA0 hval0
  refine (fnExactCurveValid_walk W v0 x0 w0).mono fun e W' ⟨he, bel⟩ => ?_
  subst he
  exact ⟨_, rfl, _, _, _, [], _, [], hW', trodAll_mk1 (shut_bool Try.underlying4 _), (trodAll_cons_mk (Below.trod laidOut (by kernel_rfl) (of_decide_eq_true (by kernel_rfl)) k0 bel lt0) trodAll_mk0), rfl, Below.frame bel _, fun h => by cases h⟩
theorem fnExactCurveValid_over : Rows.fnExactCurveValidRow.holds Try.pinned (OpenSpec.ofChange Rows.fnExactCurveValidSpec) :=
  OpenClaim.holds_of_wide 9 Try.f9 rfl rfl rfl rfl rfl rfl rfl ⟨rfl, rfl, rfl, rfl, rfl⟩ rfl rfl rfl rfl rfl (by kernel_rfl) Try.func9 (by kernel_rfl)
    (of_decide_eq_true (by kernel_rfl)) (by unfold Func.isWrapper; first | (rw [if_pos (by decide +kernel)]; kernel_rfl) | (rw [if_neg (by decide +kernel)]; exact ⟨rfl, rfl⟩))
    (fun os started H enc _ => fnExactCurveValid_lifted os started H enc)
theorem fnExactCurveValid_proved : Rows.FnExactCurveValidSaid := fnExactCurveValid_over
#print axioms fnExactCurveValid_proved
end Go.Proofs.Ytaidmimahakeeaa

/- 'FnHoldsWeight': a weight that is held is held with more force, more friction and less weight. Conditions: none. -/
import Derived.Test.YtaidmimahakeeaaOpen
import Derived.Test.YtaidmimahakeeaaGrip
import Derived.Test.YtaidmimahakeeaaDrawGrip
namespace Go.Proofs.Ytaidmimahakeeaa
open Go.ChangeShapes Go.WideShapes Go.ChangeAt Go.RowKit
theorem holdsB_no {f u x : Int} (h : ¬ (0 ≤ f ∧ f ≤ 1000 ∧ 0 ≤ u ∧ u ≤ 200 ∧ 0 ≤ x ∧ x ≤ 1000)) : holdsB f u x = false := by
  unfold holdsB
  cases h1 : inB f 0 1000 <;> cases h2 : inB u 0 200 <;> cases h3 : inB x 0 1000 <;> simp
  have := inB_true h1; have := inB_true h2; have := inB_true h3; omega
theorem holdsB_iff {f u x : Int} : holdsB f u x = true ↔ (0 ≤ f ∧ f ≤ 1000 ∧ 0 ≤ u ∧ u ≤ 200 ∧ 0 ≤ x ∧ x ≤ 1000) ∧ 100 * x ≤ 2 * f * u := by
  simp only [holdsB, inB, Bool.and_eq_true, decide_eq_true_eq]; omega
theorem holdsB_zero {f u : Int} (h1 : 0 ≤ f) (h2 : f ≤ 1000) (h3 : 0 ≤ u) (h4 : u ≤ 200) : holdsB f u 0 = true := by
  have := Int.mul_nonneg (show 0 ≤ 2 * f by omega) h3
  exact holdsB_iff.2 ⟨by omega, by omega⟩
theorem holdsB_f {f u x : Int} (h : holdsB f u x = true) (hf : f < 1000) : holdsB (f + 1) u x = true := by
  obtain ⟨h1, h2⟩ := holdsB_iff.1 h
  have : 2 * (f + 1) * u = 2 * f * u + 2 * u := by rw [Int.mul_add, Int.add_mul, Int.mul_one]
  exact holdsB_iff.2 ⟨by omega, by omega⟩
theorem holdsB_u {f u x : Int} (h : holdsB f u x = true) (hf : u < 200) : holdsB f (u + 1) x = true := by
  obtain ⟨h1, h2⟩ := holdsB_iff.1 h
  have : 2 * f * (u + 1) = 2 * f * u + 2 * f := by rw [Int.mul_add, Int.mul_one]
  exact holdsB_iff.2 ⟨by omega, by omega⟩
theorem holdsB_x {f u x : Int} (h : holdsB f u x = true) (hf : 0 < x) : holdsB f u (x - 1) = true := by
  obtain ⟨h1, h2⟩ := holdsB_iff.1 h
  exact holdsB_iff.2 ⟨by omega, by omega⟩
set_option maxHeartbeats 1000000 in
theorem fnHoldsWeight_walk (w : World) (v0 : Value) (x0 : Nat) (w0 : BytesArg w v0 x0) :
    Calls Try.prog 5 #[v0] w fun e w' => e = .returned (.bool true) ∧ Bel w w' := by
  obtain ⟨A, c, rfl, hc, hc2, hb⟩ := w0
  have hc3 := hc2
  unfold maxLen at hc3
  by_cases hn : x0 ≤ 1048576
  · go_enter Try.func5, Try.ntmps5
    go_wp2_with fail
    refine (DrawHoldsWeight_c _ _ _ _ _ rfl hn hc hc2 hb).mono ?_
    rintro e w1 ⟨⟨f, u, x, rfl, f1, f2, u1, u2, x1, x2⟩, hB⟩
    by_cases hr : 0 ≤ f ∧ f ≤ 1000 ∧ 0 ≤ u ∧ u ≤ 200 ∧ 0 ≤ x ∧ x ≤ 1000
    · obtain ⟨r1, r2, r3, r4, r5, r6⟩ := hr
      have H0 := Lib.hid (holdsB_zero r1 r2 r3 r4)
      cases hk : holdsB f u x
      · have HK := Lib.hid hk
        clear hk
        go_wp2_with (first
          | (go_at_call 11; refine (HoldsWeight_i _ _ _ _).mono ?_; rintro e w' ⟨rfl, rfl⟩; first | rw [HK.out] | rw [H0.out])
          | (go_at_call 10; refine (HoldsWeight_s _ _ _ _).mono ?_; rintro e w' ⟨rfl, rfl⟩; rw [HK.out]))
        go_ret
        exact ⟨rfl, hB⟩
      · have HK := Lib.hid hk
        have HF := Lib.hid (fun h => holdsB_f hk h)
        have HU := Lib.hid (fun h => holdsB_u hk h)
        have HX := Lib.hid (fun h => holdsB_x hk h)
        clear hk
        rcases Int.lt_or_eq_of_le r2 with q2 | rfl <;> rcases Int.lt_or_eq_of_le r4 with q4 | rfl <;> rcases Int.lt_or_eq_of_le r5 with q5 | rfl
        all_goals
          go_wp2_with (first
            | (go_at_call 11; refine (HoldsWeight_i _ _ _ _).mono ?_; rintro e w' ⟨rfl, rfl⟩; first | rw [HK.out] | rw [H0.out] | rw [HF.out q2] | rw [HU.out q4] | rw [HX.out q5])
            | (go_at_call 10; refine (HoldsWeight_s _ _ _ _).mono ?_; rintro e w' ⟨rfl, rfl⟩; rw [HK.out]))
          go_ret
          exact ⟨rfl, hB⟩
    · have HK := Lib.hid (holdsB_no hr)
      have hs : f < 0 ∨ (0 ≤ f ∧ 1000 < f) ∨ (0 ≤ f ∧ f ≤ 1000 ∧ u < 0) ∨ (0 ≤ f ∧ f ≤ 1000 ∧ 0 ≤ u ∧ 200 < u) ∨ (0 ≤ f ∧ f ≤ 1000 ∧ 0 ≤ u ∧ u ≤ 200 ∧ x < 0) ∨ (0 ≤ f ∧ f ≤ 1000 ∧ 0 ≤ u ∧ u ≤ 200 ∧ 0 ≤ x ∧ 1000 < x) := by omega
      clear hr
      rcases hs with q | ⟨q1, q⟩ | ⟨q1, q2, q⟩ | ⟨q1, q2, q3, q⟩ | ⟨q1, q2, q3, q4, q⟩ | ⟨q1, q2, q3, q4, q5, q⟩
      all_goals
        go_wp2_with (first
          | (go_at_call 11; refine (HoldsWeight_i _ _ _ _).mono ?_; rintro e w' ⟨rfl, rfl⟩; rw [HK.out])
          | (go_at_call 10; refine (HoldsWeight_s _ _ _ _).mono ?_; rintro e w' ⟨rfl, rfl⟩; rw [HK.out])
          | (go_at_call 15; refine (alive_c _).mono ?_; rintro e w' ⟨rfl, rfl⟩))
        go_ret
        exact ⟨rfl, hB⟩
  · go_enter Try.func5, Try.ntmps5
    go_wp2
    go_ret
    exact ⟨rfl, Bel.refl _⟩
set_option maxRecDepth 100000 in
theorem fnHoldsWeight_lifted (os : Os) (started : os.Started) (H : Type) (enc : TypeId × Value → H) :
    ReturnsInHanded {} Try.checked os 5 .any (Rows.fnHoldsWeightSpec.pre6 enc Try.prog Try.f5 Rows.fnHoldsWeightRow.domain false) (Rows.fnHoldsWeightSpec.post enc Try.prog Try.f5 false true false false) := by
  have own : ownKnob Try.prog.godebug = none := by kernel_rfl
  have laidOut : laidOutB Try.prog = true := by kernel_rfl
  refine returnsInHanded_of_change (C := Try.checked) own started (by kernel_rfl) Try.func5
    (ChangeSpec.witness6 (enc := enc) (C := Try.checked) false ⟨#[], #[.slice none 0 0], []⟩ 8 (by kernel_rfl) (by kernel_rfl) (by kernel_rfl) (by kernel_rfl)) ?_
  intro W base args ds gs before hval0 hW hcnd _
  have hval : ∀ (j : Nat) t v, Try.f5.params[j]? = some t → args[j]? = some v → Value.okWide Try.prog W .any base t v := hval0
  have hW' := hW
  obtain ⟨p, q, hA0, hV, rfl, hfz, hnd⟩ := hW
  have hA : DataW.TrodAll enc Try.prog W 0 (fun _ => true) true Try.f5.params.toList args.toList ds p := hA0
  rw [Try.params5] at hA hval
  obtain ⟨v0, vs0, d0, ds0, p0, q0, hargs, rfl, rfl, h0, r0⟩ := trodAll_cons hA
  obtain ⟨rfl, rfl, rfl⟩ := trodAll_nil r0
  obtain rfl : args = #[v0] := by cases args; simp_all
  obtain ⟨rfl, rfl⟩ := trodVars_none hV
  have k0 := h0
  have lt0 : ∀ x ∈ p0, x.block < W.heap.size := by obtain ⟨m, hm⟩ := k0; exact DataW.trod_lt m _ _ _ hm
  obtain ⟨x0, w0⟩ := opn_bytes (hval 0 26 v0 rfl rfl) h0
  clear hA0 hval0
  refine (fnHoldsWeight_walk W v0 x0 w0).mono fun e W' ⟨he, bel⟩ => ?_
  subst he
  exact ⟨_, rfl, _, _, _, [], _, [], hW', trodAll_mk1 (shut_bool Try.underlying4 _), (trodAll_cons_mk (Below.trod laidOut (by kernel_rfl) (of_decide_eq_true (by kernel_rfl)) k0 bel lt0) trodAll_mk0), rfl, Below.frame bel _, fun h => by cases h⟩
theorem fnHoldsWeight_over : Rows.fnHoldsWeightRow.holds Try.pinned (OpenSpec.ofChange Rows.fnHoldsWeightSpec) :=
  OpenClaim.holds_of_wide 5 Try.f5 rfl rfl rfl rfl rfl rfl rfl ⟨rfl, rfl, rfl, rfl, rfl⟩ rfl rfl rfl rfl rfl (by kernel_rfl) Try.func5 (by kernel_rfl)
    (of_decide_eq_true (by kernel_rfl)) (by unfold Func.isWrapper; first | (rw [if_pos (by decide +kernel)]; kernel_rfl) | (rw [if_neg (by decide +kernel)]; exact ⟨rfl, rfl⟩))
    (fun os started H enc _ => fnHoldsWeight_lifted os started H enc)
theorem fnHoldsWeight_proved : Rows.FnHoldsWeightSaid := fnHoldsWeight_over
#print axioms fnHoldsWeight_proved
end Go.Proofs.Ytaidmimahakeeaa

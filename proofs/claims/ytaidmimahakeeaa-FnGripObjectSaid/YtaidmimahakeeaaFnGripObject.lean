/- 'FnGripObject': a gripper that closes to 0 with a high speed holds an object between its fingers; an opening gripper holds nothing. Conditions: none. -/
import Derived.Test.YtaidmimahakeeaaOpen
import Derived.Test.YtaidmimahakeeaaGrip
import Derived.Test.YtaidmimahakeeaaDrawGrip
namespace Go.Proofs.Ytaidmimahakeeaa
open Go.ChangeShapes Go.WideShapes Go.ChangeAt Go.RowKit
theorem gripV_close {a o : Int} (h : fitsB a 0 200 o = true) : ∃ n, 0 ≤ n ∧ gripV a 0 200 o = .tuple #[.int .i64 n, .bool (decide (0 < o ∧ o ≤ a))] ∧ ∃ m, gripV a 200 200 o = .tuple #[.int .i64 m, .bool false] := by
  obtain ⟨b1, b2, b3, b4, b5, b6, b7, b8⟩ := fits_bd h
  have h2 : fitsB a 200 200 o = true := by
    obtain ⟨c1, c2, c3, c4⟩ := fits_yes h
    rw [fitsB, c1, c3, c4]; rfl
  have e2 : gripN a 0 200 o = if o ≤ a then o else 0 := by unfold gripN; split <;> omega
  refine ⟨gripN a 0 200 o, ?_, ?_, gripN a 200 200 o, ?_⟩
  · rw [e2]; split <;> omega
  · have e : gripH a 0 200 o = decide (0 < o ∧ o ≤ a) := by
      rw [Bool.eq_iff_iff]
      simp only [gripH, Bool.and_eq_true, decide_eq_true_eq]
      rw [e2]
      split <;> omega
    unfold gripV
    rw [if_pos h, e]
  · have e : gripH a 200 200 o = false := by
      simp only [gripH, Bool.and_eq_false_iff, decide_eq_false_iff_not]
      omega
    unfold gripV
    rw [if_pos h2, e]
theorem gripV_no {a b c o : Int} (h : fitsB a b c o = false) : gripV a b c o = .tuple #[.int .i64 (-1), .bool false] := by
  unfold gripV; rw [h]; rfl
set_option maxHeartbeats 1000000 in
theorem fnGripObject_walk (w : World) (v0 : Value) (x0 : Nat) (w0 : BytesArg w v0 x0) :
    Calls Try.prog 8 #[v0] w fun e w' => e = .returned (.bool true) ∧ Bel w w' := by
  obtain ⟨A, c, rfl, hc, hc2, hb⟩ := w0
  have hc3 := hc2
  unfold maxLen at hc3
  by_cases hn : x0 ≤ 1048576
  · go_enter Try.func8, Try.ntmps8
    go_wp2_with fail
    refine (DrawGripStep_c _ _ _ _ _ rfl hn hc hc2 hb).mono ?_
    rintro e w1 ⟨⟨a, t, s, o, rfl, f1, f2, u1, u2, x1, x2, y1, y2⟩, hB⟩
    cases hk : fitsB a 0 200 o
    · have HK := Lib.hid (gripV_no hk)
      clear hk
      go_wp2_with (first
        | (go_at_call 13; refine (GripStep_i _ _ _ _ _).mono ?_; rintro e w' ⟨rfl, rfl⟩; rw [HK.out])
        | (go_at_call 12; refine (GripStep_s _ _ _ _ _).mono ?_; rintro e w' ⟨rfl, rfl⟩; rw [HK.out])
        | (go_at_call 15; refine (alive_c _).mono ?_; rintro e w' ⟨rfl, rfl⟩))
      go_ret
      exact ⟨rfl, hB⟩
    · obtain ⟨n, hn0, hV, m, hV2⟩ := gripV_close hk
      have HK := Lib.hid hV
      have HK2 := Lib.hid hV2
      clear hk hV hV2
      by_cases q1 : 0 < o <;> by_cases q2 : o ≤ a
      all_goals
        have HD : Hid (decide (0 < o ∧ o ≤ a) = (decide (0 < o) && decide (o ≤ a))) := by show _ = _; simp
        go_wp2_with (first
          | (go_at_call 13; refine (GripStep_i _ _ _ _ _).mono ?_; rintro e w' ⟨rfl, rfl⟩; first | rw [HK.out] | rw [HK2.out])
          | (go_at_call 12; refine (GripStep_s _ _ _ _ _).mono ?_; rintro e w' ⟨rfl, rfl⟩; rw [HK.out]))
        go_ret
        exact ⟨rfl, hB⟩
  · go_enter Try.func8, Try.ntmps8
    go_wp2
    go_ret
    exact ⟨rfl, Bel.refl _⟩
set_option maxRecDepth 100000 in
theorem fnGripObject_lifted (os : Os) (started : os.Started) (H : Type) (enc : TypeId × Value → H) :
    ReturnsInHanded {} Try.checked os 8 .any (Rows.fnGripObjectSpec.pre6 enc Try.prog Try.f8 Rows.fnGripObjectRow.domain false) (Rows.fnGripObjectSpec.post enc Try.prog Try.f8 false true false false) := by
  have own : ownKnob Try.prog.godebug = none := by kernel_rfl
  have laidOut : laidOutB Try.prog = true := by kernel_rfl
  refine returnsInHanded_of_change (C := Try.checked) own started (by kernel_rfl) Try.func8
    (ChangeSpec.witness6 (enc := enc) (C := Try.checked) false ⟨#[], #[.slice none 0 0], []⟩ 8 (by kernel_rfl) (by kernel_rfl) (by kernel_rfl) (by kernel_rfl)) ?_
  intro W base args ds gs before hval0 hW hcnd _
  have hval : ∀ (j : Nat) t v, Try.f8.params[j]? = some t → args[j]? = some v → Value.okWide Try.prog W .any base t v := hval0
  have hW' := hW
  obtain ⟨p, q, hA0, hV, rfl, hfz, hnd⟩ := hW
  have hA : DataW.TrodAll enc Try.prog W 0 (fun _ => true) true Try.f8.params.toList args.toList ds p := hA0
  rw [Try.params8] at hA hval
  obtain ⟨v0, vs0, d0, ds0, p0, q0, hargs, rfl, rfl, h0, r0⟩ := trodAll_cons hA
  obtain ⟨rfl, rfl, rfl⟩ := trodAll_nil r0
  obtain rfl : args = #[v0] := by cases args; simp_all
  obtain ⟨rfl, rfl⟩ := trodVars_none hV
  have k0 := h0
  have lt0 : ∀ x ∈ p0, x.block < W.heap.size := by obtain ⟨m, hm⟩ := k0; exact DataW.trod_lt m _ _ _ hm
  obtain ⟨x0, w0⟩ := opn_bytes (hval 0 26 v0 rfl rfl) h0
  clear hA0 hval0
  refine (fnGripObject_walk W v0 x0 w0).mono fun e W' ⟨he, bel⟩ => ?_
  subst he
  exact ⟨_, rfl, _, _, _, [], _, [], hW', trodAll_mk1 (shut_bool Try.underlying4 _), (trodAll_cons_mk (Below.trod laidOut (by kernel_rfl) (of_decide_eq_true (by kernel_rfl)) k0 bel lt0) trodAll_mk0), rfl, Below.frame bel _, fun h => by cases h⟩
theorem fnGripObject_over : Rows.fnGripObjectRow.holds Try.pinned (OpenSpec.ofChange Rows.fnGripObjectSpec) :=
  OpenClaim.holds_of_wide 8 Try.f8 rfl rfl rfl rfl rfl rfl rfl ⟨rfl, rfl, rfl, rfl, rfl⟩ rfl rfl rfl rfl rfl (by kernel_rfl) Try.func8 (by kernel_rfl)
    (of_decide_eq_true (by kernel_rfl)) (by unfold Func.isWrapper; first | (rw [if_pos (by decide +kernel)]; kernel_rfl) | (rw [if_neg (by decide +kernel)]; exact ⟨rfl, rfl⟩))
    (fun os started H enc _ => fnGripObject_lifted os started H enc)
theorem fnGripObject_proved : Rows.FnGripObjectSaid := fnGripObject_over
#print axioms fnGripObject_proved
end Go.Proofs.Ytaidmimahakeeaa

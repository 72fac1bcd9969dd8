/- 'FnSelfClear': for every code both sides tell the same of a drawn arm; an arm of one link is clear of itself; and so is a stretched arm, with all angles 0. Conditions: none. -/
import Derived.Test.YtejiomhoflnboaaDoorFnSelfClearP1
namespace Go.Proofs.YtejiomhoflnboaaDoor
open Go.ChangeShapes Go.WideShapes Go.ChangeAt Go.RowKit
set_option maxRecDepth 100000
set_option linter.unusedSimpArgs false
set_option linter.unusedVariables false
def g_impl_JointsValid : List AV → Option Sg
  | [.agg [.view (.ints a1), .view (.ints a2), .view (.ints a3)], .s (.view (.ints j))] => some ⟨True, [.s (.bool (jvB a1 a2 a3 j))]⟩
  | _ => none
def sig_impl_JointsValid : FuncId → List AV → Option Sg := sigL [(53, g_impl_ArmValid), (54, g_impl_within)]
def xs_impl_JointsValid : XS := ⟨xsigL [], ysigL []⟩
theorem sig_impl_JointsValid_ok : SigOK sig_impl_JointsValid := sigL_cons F_impl_ArmValid (sigL_cons F_impl_within sigL_nil)
theorem xs_impl_JointsValid_ok : XSigOK xs_impl_JointsValid := ⟨xsigL_nil, ysigL_nil⟩
theorem V_impl_JointsValid (a1 : List Int) (a2 : List Int) (a3 : List Int) (j : List Int) : ((true = true) ∧ ((True) ∧ (True) ∧ True) ∧ (true = true) ∧ ((True) ∧ ((True)) ∧ (True) ∧ (True) ∧ (NIs (bnot (armB a1 a2 a3)) false → True) ∧ (NIs (bnot (armB a1 a2 a3)) false → True) ∧ (NIs (bnot (armB a1 a2 a3)) false → True) ∧ (NIs (bnot (armB a1 a2 a3)) false → True) ∧ (NIs (bnot (armB a1 a2 a3)) false → True) ∧ (NIs (bnot (armB a1 a2 a3)) false → True) ∧ (True) ∧ True) ∧ ((bite (bnot (armB a1 a2 a3)) true (bnot (ieq (ilen j) (ilen a1)))) = true → ((true = true) ∧ ((True) ∧ True) ∧ ((false : Bool) = (jvB a1 a2 a3 j)) ∧ True)) ∧ ((bite (bnot (armB a1 a2 a3)) true (bnot (ieq (ilen j) (ilen a1)))) = false → ((true = true) ∧ ((True) ∧ (True) ∧ (True) ∧ True) ∧ ∃ (I1 : List GV → Prop) (μ1 : List GV → Nat), (((true = true) ∧ (((false : Bool) = false) ∧ (((0 : Int) : Int) = (0 : Int)) ∧ ((Cont.ints j) = (Cont.ints j)) ∧ (((ilen j) : Int) = (ilen j)) ∧ (((Cont.ints a1) = (Cont.ints a1)) ∧ ((Cont.ints a2) = (Cont.ints a2)) ∧ ((Cont.ints a3) = (Cont.ints a3)) ∧ True) ∧ (((armB a1 a2 a3) : Bool) = (armB a1 a2 a3)) ∧ (((bnot (armB a1 a2 a3)) : Bool) = (bnot (armB a1 a2 a3))) ∧ (((bnot (armB a1 a2 a3)) : Bool) = (bnot (armB a1 a2 a3))) ∧ (((bite (bnot (armB a1 a2 a3)) true (bnot (ieq (ilen j) (ilen a1)))) : Bool) = (bite (bnot (armB a1 a2 a3)) true (bnot (ieq (ilen j) (ilen a1))))) ∧ (true = true) ∧ (((Cont.ints a1) = (Cont.ints a1)) ∧ ((Cont.ints a2) = (Cont.ints a2)) ∧ ((Cont.ints a3) = (Cont.ints a3)) ∧ True) ∧ ((Cont.ints j) = (Cont.ints j)) ∧ True) ∧ ((((Cont.ints a1) = (Cont.ints a1)) ∧ ((Cont.ints a2) = (Cont.ints a2)) ∧ ((Cont.ints a3) = (Cont.ints a3)) ∧ True) ∧ True)) ∧ (([GK.int, GK.bool] : List GK) = ([GK.int, GK.bool] : List GK)) ∧ I1 [GV.int (0 : Int), GV.bool false]) ∧ (∀ i1_0 : Int, ∀ b1_1 : Bool, I1 [GV.int i1_0, GV.bool b1_1] → ((true = true) ∧ ((True) ∧ True) ∧ ((ilt i1_0 (ilen j)) = true → ((true = true) ∧ ((True) ∧ (NLe 0 i1_0 ∧ NLt i1_0 (ilen j)) ∧ (True) ∧ (True) ∧ (True) ∧ True) ∧ (true = true) ∧ ((True) ∧ (True) ∧ (True) ∧ (True) ∧ (NLe 0 i1_0 ∧ NLt i1_0 (ilen a2)) ∧ (True) ∧ (True) ∧ (True) ∧ (True) ∧ (NLe 0 i1_0 ∧ NLt i1_0 (ilen a3)) ∧ (True) ∧ ((True)) ∧ (True) ∧ True) ∧ ((bnot (inB (geti j i1_0) (geti a2 i1_0) (geti a3 i1_0))) = true → ((true = true) ∧ ((True) ∧ True) ∧ ((false : Bool) = (jvB a1 a2 a3 j)) ∧ True)) ∧ ((bnot (inB (geti j i1_0) (geti a2 i1_0) (geti a3 i1_0))) = false → ((true = true) ∧ ((True) ∧ (True) ∧ True) ∧ ((true = true) ∧ (((b1_1 : Bool) = b1_1) ∧ (((iadd i1_0 (1 : Int)) : Int) = (iadd i1_0 (1 : Int))) ∧ ((Cont.ints j) = (Cont.ints j)) ∧ (((ilen j) : Int) = (ilen j)) ∧ (((Cont.ints a1) = (Cont.ints a1)) ∧ ((Cont.ints a2) = (Cont.ints a2)) ∧ ((Cont.ints a3) = (Cont.ints a3)) ∧ True) ∧ (((armB a1 a2 a3) : Bool) = (armB a1 a2 a3)) ∧ (((bnot (armB a1 a2 a3)) : Bool) = (bnot (armB a1 a2 a3))) ∧ (((bnot (armB a1 a2 a3)) : Bool) = (bnot (armB a1 a2 a3))) ∧ (((bite (bnot (armB a1 a2 a3)) true (bnot (ieq (ilen j) (ilen a1)))) : Bool) = (bite (bnot (armB a1 a2 a3)) true (bnot (ieq (ilen j) (ilen a1))))) ∧ (true = true) ∧ (((Cont.ints a1) = (Cont.ints a1)) ∧ ((Cont.ints a2) = (Cont.ints a2)) ∧ ((Cont.ints a3) = (Cont.ints a3)) ∧ True) ∧ ((Cont.ints j) = (Cont.ints j)) ∧ True) ∧ ((((Cont.ints a1) = (Cont.ints a1)) ∧ ((Cont.ints a2) = (Cont.ints a2)) ∧ ((Cont.ints a3) = (Cont.ints a3)) ∧ True) ∧ True)) ∧ ((([GK.int, GK.bool] : List GK) = ([GK.int, GK.bool] : List GK)) ∧ I1 [GV.int (iadd i1_0 (1 : Int)), GV.bool b1_1] ∧ μ1 [GV.int (iadd i1_0 (1 : Int)), GV.bool b1_1] < μ1 [GV.int i1_0, GV.bool b1_1]))))) ∧ ((ilt i1_0 (ilen j)) = false → ((true = true) ∧ ((True) ∧ True) ∧ ((true : Bool) = (jvB a1 a2 a3 j)) ∧ True))))))) = ev sig_impl_JointsValid xs_impl_JointsValid Tryd.f23.ntmps (fun b => if b == 0 then [.v 20, .v 4] else []) (codeOf Tryd.f23) 0 (initS [.agg [.view (.ints a1), .view (.ints a2), .view (.ints a3)], .s (.view (.ints j))]) (retK Tryd.f23.results.toList [.s (.bool (jvB a1 a2 a3 j))]) := by kernel_rfl
set_option maxHeartbeats 400000 in
theorem F_impl_JointsValid : FunOK 23 g_impl_JointsValid := by
  refine fun_F (by kernel_rfl) Tryd.func23 rfl (by kernel_rfl) sig_impl_JointsValid_ok xs_impl_JointsValid_ok ?_
  intro avs sg h hn hl
  unfold g_impl_JointsValid at h
  split at h
  · rename_i a1 a2 a3 j
    injection h with h; subst h
    refine ⟨by kernel_rfl, fun b => if b == 0 then [.v 20, .v 4] else [], Eq.mp (V_impl_JointsValid a1 a2 a3 j) ?_⟩
    simp only [true_and, and_true, implies_true, and_self, forall_const, true_implies, lenA, lenL, SV.lenOK, Cont.lenOK] at hn hl ⊢
    have h0 := ilen_0 j
    simp only [ilt_t, ilt_f, ile_t, ile_f, ieq_t, ieq_f, bnot_e, band_e, bite_and, bite_or, NLt_e, NLe_e, NNe_e, NIs_e, imax_e, imin_e, irem_e, Bool.not_eq_true', Bool.not_eq_false', Bool.and_eq_true, Bool.or_eq_true, Bool.or_eq_false_iff, Bool.and_eq_false_iff, Cont.pts.injEq, Cont.ints.injEq, Cont.bools.injEq, Cont.ptss.injEq, Cont.intss.injEq, Cont.boolss.injEq, true_and, and_true, implies_true]
    refine ⟨fun h => ?_, fun h => ?_⟩
    · unfold jvB; rcases h with h | h <;> simp [h]
    obtain ⟨ha, hl1⟩ := h
    obtain ⟨l2, l3⟩ := armB_len ha
    refine ⟨fun | .int k :: _ => 0 ≤ k ∧ k ≤ ilen j ∧ (∀ i, 0 ≤ i → i < k → inB (geti j i) (geti a2 i) (geti a3 i) = true) | _ => False, fun | .int k :: _ => (ilen j - k).toNat | _ => 0, ⟨by omega, by omega, fun i h0 h1 => by omega⟩, ?_⟩
    rintro k XX ⟨hk0, hk1, hk⟩
    refine ⟨fun hc => ⟨⟨hk0, hc⟩, ⟨⟨hk0, by omega⟩, hk0, by omega⟩, fun hv => ?_, fun hv => ?_⟩, fun hc => ?_⟩
    · unfold jvB; rw [allN_no k hk0 hc hv]; simp
    · rw [iadd_1 hk0 hc hl.2]
      exact ⟨⟨by omega, by omega, upTo hk hv⟩, by show (ilen j - (k + 1)).toNat < (ilen j - k).toNat; omega⟩
    · unfold jvB; rw [ha, allN_mk fun i j0 j1 => hk i j0 (by omega)]; simp [hl1]
  · cases h
def g_impl_PointValid : List AV → Option Sg
  | [.agg [.int p1, .int p2]] => some ⟨True, [.s (.bool (vB p1 p2))]⟩
  | _ => none
def sig_impl_PointValid : FuncId → List AV → Option Sg := sigL [(54, g_impl_within)]
def xs_impl_PointValid : XS := ⟨xsigL [], ysigL []⟩
theorem sig_impl_PointValid_ok : SigOK sig_impl_PointValid := sigL_cons F_impl_within sigL_nil
theorem xs_impl_PointValid_ok : XSigOK xs_impl_PointValid := ⟨xsigL_nil, ysigL_nil⟩
theorem V_impl_PointValid (p1 : Int) (p2 : Int) : ((true = true) ∧ ((True) ∧ (True) ∧ True) ∧ (true = true) ∧ ((True) ∧ (True) ∧ ((True)) ∧ (True) ∧ (NIs (inB p1 (-10000 : Int) (10000 : Int)) true → True) ∧ (NIs (inB p1 (-10000 : Int) (10000 : Int)) true → True) ∧ (NIs (inB p1 (-10000 : Int) (10000 : Int)) true → (True)) ∧ (True) ∧ (True) ∧ True) ∧ (((bite (inB p1 (-10000 : Int) (10000 : Int)) (inB p2 (-10000 : Int) (10000 : Int)) false) : Bool) = (vB p1 p2)) ∧ True) = ev sig_impl_PointValid xs_impl_PointValid Tryd.f77.ntmps (fun b => []) (codeOf Tryd.f77) 0 (initS [.agg [.int p1, .int p2]]) (retK Tryd.f77.results.toList [.s (.bool (vB p1 p2))]) := by kernel_rfl
set_option maxHeartbeats 400000 in
theorem F_impl_PointValid : FunOK 77 g_impl_PointValid := by
  refine fun_F (by kernel_rfl) Tryd.func77 rfl (by kernel_rfl) sig_impl_PointValid_ok xs_impl_PointValid_ok ?_
  intro avs sg h hn hl
  unfold g_impl_PointValid at h
  split at h
  · rename_i p1 p2
    injection h with h; subst h
    refine ⟨by kernel_rfl, fun b => [], Eq.mp (V_impl_PointValid p1 p2) ?_⟩
    simp only [true_and, and_true, implies_true, and_self, forall_const, true_implies, lenA, lenL, SV.lenOK, Cont.lenOK] at hn hl ⊢
    simp only [bite_and, vB]
  · cases h
def g_impl_Degrees : List AV → Option Sg
  | [.s (.int d)] => some ⟨True, [.s (.int (degW d))]⟩
  | _ => none
def sig_impl_Degrees : FuncId → List AV → Option Sg := sigL []
def xs_impl_Degrees : XS := ⟨xsigL [], ysigL []⟩
theorem sig_impl_Degrees_ok : SigOK sig_impl_Degrees := sigL_nil
theorem xs_impl_Degrees_ok : XSigOK xs_impl_Degrees := ⟨xsigL_nil, ysigL_nil⟩
theorem V_impl_Degrees (d : Int) : ((true = true) ∧ ((True) ∧ True) ∧ (true = true) ∧ ((True) ∧ (NNe (360 : Int) 0) ∧ (True) ∧ (NNe (360 : Int) 0) ∧ (True) ∧ True) ∧ (((irem (iadd (irem d (360 : Int)) (360 : Int)) (360 : Int)) : Int) = (degW d)) ∧ True) = ev sig_impl_Degrees xs_impl_Degrees Tryd.f52.ntmps (fun b => []) (codeOf Tryd.f52) 0 (initS [.s (.int d)]) (retK Tryd.f52.results.toList [.s (.int (degW d))]) := by kernel_rfl
set_option maxHeartbeats 400000 in
theorem F_impl_Degrees : FunOK 52 g_impl_Degrees := by
  refine fun_F (by kernel_rfl) Tryd.func52 rfl (by kernel_rfl) sig_impl_Degrees_ok xs_impl_Degrees_ok ?_
  intro avs sg h hn hl
  unfold g_impl_Degrees at h
  split at h
  · rename_i d
    injection h with h; subst h
    refine ⟨by kernel_rfl, fun b => [], Eq.mp (V_impl_Degrees d) ?_⟩
    simp only [true_and, and_true, implies_true, and_self, forall_const, true_implies, lenA, lenL, SV.lenOK, Cont.lenOK] at hn hl ⊢
    simp only [ilt_t, ilt_f, ile_t, ile_f, ieq_t, ieq_f, bnot_e, band_e, bite_and, bite_or, NLt_e, NLe_e, NNe_e, NIs_e, imax_e, imin_e, irem_e, Bool.not_eq_true', Bool.not_eq_false', Bool.and_eq_true, Bool.or_eq_true, Bool.or_eq_false_iff, Bool.and_eq_false_iff, Cont.pts.injEq, Cont.ints.injEq, Cont.bools.injEq, Cont.ptss.injEq, Cont.intss.injEq, Cont.boolss.injEq, true_and, and_true, implies_true]
    exact ⟨by decide, by simp [degW, irem_e]⟩
  · cases h
def g_impl_Cosine : List AV → Option Sg
  | [.s (.int d)] => some ⟨True, [.s (.int (cosF d))]⟩
  | _ => none
def sig_impl_Cosine : FuncId → List AV → Option Sg := sigL [(52, g_impl_Degrees), (78, g_impl_Sine)]
def xs_impl_Cosine : XS := ⟨xsigL [], ysigL []⟩
theorem sig_impl_Cosine_ok : SigOK sig_impl_Cosine := sigL_cons F_impl_Degrees (sigL_cons F_impl_Sine sigL_nil)
theorem xs_impl_Cosine_ok : XSigOK xs_impl_Cosine := ⟨xsigL_nil, ysigL_nil⟩
theorem V_impl_Cosine (d : Int) : ((true = true) ∧ ((True) ∧ True) ∧ (true = true) ∧ ((True) ∧ ((True)) ∧ (True) ∧ ((True)) ∧ (True) ∧ True) ∧ (((sinF (iadd (degW d) (90 : Int))) : Int) = (cosF d)) ∧ True) = ev sig_impl_Cosine xs_impl_Cosine Tryd.f79.ntmps (fun b => []) (codeOf Tryd.f79) 0 (initS [.s (.int d)]) (retK Tryd.f79.results.toList [.s (.int (cosF d))]) := by kernel_rfl
set_option maxHeartbeats 400000 in
theorem F_impl_Cosine : FunOK 79 g_impl_Cosine := by
  refine fun_F (by kernel_rfl) Tryd.func79 rfl (by kernel_rfl) sig_impl_Cosine_ok xs_impl_Cosine_ok ?_
  intro avs sg h hn hl
  unfold g_impl_Cosine at h
  split at h
  · rename_i d
    injection h with h; subst h
    refine ⟨by kernel_rfl, fun b => [], Eq.mp (V_impl_Cosine d) ?_⟩
    simp only [true_and, and_true, implies_true, and_self, forall_const, true_implies, lenA, lenL, SV.lenOK, Cont.lenOK] at hn hl ⊢
    try simp only [ilt_t, ilt_f, ile_t, ile_f, ieq_t, ieq_f, bnot_e, band_e, bite_and, bite_or, NLt_e, NLe_e, NNe_e, NIs_e, imax_e, imin_e, irem_e, Bool.not_eq_true', Bool.not_eq_false', Bool.and_eq_true, Bool.or_eq_true, Bool.or_eq_false_iff, Bool.and_eq_false_iff, Cont.pts.injEq, Cont.ints.injEq, Cont.bools.injEq, Cont.ptss.injEq, Cont.intss.injEq, Cont.boolss.injEq, true_and, and_true, implies_true]
    rw [degW_e]
    unfold cosF
    rw [iadd_e (by omega) (by omega)]
  · cases h
def g_impl_floor : List AV → Option Sg
  | [.s (.int a), .s (.int b)] => some ⟨1 ≤ b ∧ -9223372036854775807 ≤ a ∧ a ≤ 9223372036854775807, [.s (.int (a / b))]⟩
  | _ => none
def sig_impl_floor : FuncId → List AV → Option Sg := sigL []
def xs_impl_floor : XS := ⟨xsigL [], ysigL []⟩
theorem sig_impl_floor_ok : SigOK sig_impl_floor := sigL_nil
theorem xs_impl_floor_ok : XSigOK xs_impl_floor := ⟨xsigL_nil, ysigL_nil⟩
theorem V_impl_floor (a : Int) (b : Int) : ((true = true) ∧ ((True) ∧ True) ∧ (true = true) ∧ ((True) ∧ (True) ∧ (NNe b 0) ∧ (True) ∧ True) ∧ (true = true) ∧ ((True) ∧ (True) ∧ (NNe b 0) ∧ (True) ∧ True) ∧ ((ilt (irem a b) (0 : Int)) = true → ((true = true) ∧ ((True) ∧ (True) ∧ (True) ∧ True) ∧ (true = true) ∧ ((True) ∧ (True) ∧ True) ∧ (((isub (iquo a b) (1 : Int)) : Int) = (a / b)) ∧ True)) ∧ ((ilt (irem a b) (0 : Int)) = false → ((true = true) ∧ ((True) ∧ (True) ∧ True) ∧ (((iquo a b) : Int) = (a / b)) ∧ True))) = ev sig_impl_floor xs_impl_floor Tryd.f88.ntmps (fun b => []) (codeOf Tryd.f88) 0 (initS [.s (.int a), .s (.int b)]) (retK Tryd.f88.results.toList [.s (.int (a / b))]) := by kernel_rfl
set_option maxHeartbeats 400000 in
theorem F_impl_floor : FunOK 88 g_impl_floor := by
  refine fun_F (by kernel_rfl) Tryd.func88 rfl (by kernel_rfl) sig_impl_floor_ok xs_impl_floor_ok ?_
  intro avs sg h hn hl
  unfold g_impl_floor at h
  split at h
  · rename_i a b
    injection h with h; subst h
    refine ⟨by kernel_rfl, fun b => [], Eq.mp (V_impl_floor a b) ?_⟩
    simp only [true_and, and_true, implies_true, and_self, forall_const, true_implies, lenA, lenL, SV.lenOK, Cont.lenOK] at hn hl ⊢
    obtain ⟨n1, n2, n3⟩ := hn
    obtain ⟨q1, q2⟩ := tdiv_bd n1 n2 n3
    obtain ⟨f1, f2⟩ := floor_e (a := a) n1
    simp only [ilt_t, ilt_f, ile_t, ile_f, ieq_t, ieq_f, bnot_e, band_e, bite_and, bite_or, NLt_e, NLe_e, NNe_e, NIs_e, imax_e, imin_e, irem_e, Bool.not_eq_true', Bool.not_eq_false', Bool.and_eq_true, Bool.or_eq_true, Bool.or_eq_false_iff, Bool.and_eq_false_iff, Cont.pts.injEq, Cont.ints.injEq, Cont.bools.injEq, Cont.ptss.injEq, Cont.intss.injEq, Cont.boolss.injEq, true_and, and_true, implies_true]
    refine ⟨by omega, by omega, fun h => ?_, fun h => ?_⟩
    · rw [q1, q2 h, f1 h]
    · rw [q1, f2 h]
  · cases h
def g_impl_nearest : List AV → Option Sg
  | [.s (.int a), .s (.int b)] => some ⟨1 ≤ b ∧ b ≤ 1000000 ∧ -1000000000000 ≤ a ∧ a ≤ 1000000000000, [.s (.int (rnd a b))]⟩
  | _ => none
def sig_impl_nearest : FuncId → List AV → Option Sg := sigL [(88, g_impl_floor)]
def xs_impl_nearest : XS := ⟨xsigL [], ysigL []⟩
theorem sig_impl_nearest_ok : SigOK sig_impl_nearest := sigL_cons F_impl_floor sigL_nil
theorem xs_impl_nearest_ok : XSigOK xs_impl_nearest := ⟨xsigL_nil, ysigL_nil⟩
theorem V_impl_nearest (a : Int) (b : Int) : ((true = true) ∧ ((True) ∧ True) ∧ (true = true) ∧ ((True) ∧ (True) ∧ (True) ∧ (True) ∧ (True) ∧ (True) ∧ ((1 ≤ (imul (2 : Int) b) ∧ -9223372036854775807 ≤ (iadd (imul (2 : Int) a) b) ∧ (iadd (imul (2 : Int) a) b) ≤ 9223372036854775807)) ∧ (True) ∧ True) ∧ ((((iadd (imul (2 : Int) a) b) / (imul (2 : Int) b)) : Int) = (rnd a b)) ∧ True) = ev sig_impl_nearest xs_impl_nearest Tryd.f80.ntmps (fun b => []) (codeOf Tryd.f80) 0 (initS [.s (.int a), .s (.int b)]) (retK Tryd.f80.results.toList [.s (.int (rnd a b))]) := by kernel_rfl
set_option maxHeartbeats 400000 in
theorem F_impl_nearest : FunOK 80 g_impl_nearest := by
  refine fun_F (by kernel_rfl) Tryd.func80 rfl (by kernel_rfl) sig_impl_nearest_ok xs_impl_nearest_ok ?_
  intro avs sg h hn hl
  unfold g_impl_nearest at h
  split at h
  · rename_i a b
    injection h with h; subst h
    refine ⟨by kernel_rfl, fun b => [], Eq.mp (V_impl_nearest a b) ?_⟩
    simp only [true_and, and_true, implies_true, and_self, forall_const, true_implies, lenA, lenL, SV.lenOK, Cont.lenOK] at hn hl ⊢
    rw [imul_e (by omega) (by omega), imul_e (by omega) (by omega), iadd_e (by omega) (by omega)]
    exact ⟨by omega, rfl⟩
  · cases h
def g_impl_RotatePoint : List AV → Option Sg
  | [.agg [.int p1, .int p2], .s (.int d)] => some ⟨vB p1 p2 = true, [.agg [.int (rotX p1 p2 d), .int (rotY p1 p2 d)]]⟩
  | _ => none
def sig_impl_RotatePoint : FuncId → List AV → Option Sg := sigL [(77, g_impl_PointValid), (78, g_impl_Sine), (79, g_impl_Cosine), (80, g_impl_nearest)]
def xs_impl_RotatePoint : XS := ⟨xsigL [], ysigL []⟩
theorem sig_impl_RotatePoint_ok : SigOK sig_impl_RotatePoint := sigL_cons F_impl_PointValid (sigL_cons F_impl_Sine (sigL_cons F_impl_Cosine (sigL_cons F_impl_nearest sigL_nil)))
theorem xs_impl_RotatePoint_ok : XSigOK xs_impl_RotatePoint := ⟨xsigL_nil, ysigL_nil⟩
theorem V_impl_RotatePoint (p1 : Int) (p2 : Int) (d : Int) : ((true = true) ∧ ((True) ∧ (True) ∧ True) ∧ (true = true) ∧ ((True) ∧ ((True)) ∧ (True) ∧ True) ∧ ((bnot (vB p1 p2)) = true → ((true = true) ∧ ((True) ∧ True) ∧ (True) ∧ ((((0 : Int) : Int) = (rotX p1 p2 d)) ∧ (((0 : Int) : Int) = (rotY p1 p2 d)) ∧ True) ∧ True)) ∧ ((bnot (vB p1 p2)) = false → ((true = true) ∧ ((True) ∧ ((True)) ∧ (True) ∧ ((True)) ∧ (True) ∧ (True) ∧ True) ∧ (true = true) ∧ ((True) ∧ (True) ∧ (True) ∧ (True) ∧ (True) ∧ (True) ∧ (True) ∧ (True) ∧ (True) ∧ ((1 ≤ (4096 : Int) ∧ (4096 : Int) ≤ 1000000 ∧ -1000000000000 ≤ (isub (imul p1 (cosF d)) (imul p2 (sinF d))) ∧ (isub (imul p1 (cosF d)) (imul p2 (sinF d))) ≤ 1000000000000)) ∧ (True) ∧ (True) ∧ (True) ∧ (True) ∧ (True) ∧ (True) ∧ (True) ∧ (True) ∧ (True) ∧ ((1 ≤ (4096 : Int) ∧ (4096 : Int) ≤ 1000000 ∧ -1000000000000 ≤ (iadd (imul p1 (sinF d)) (imul p2 (cosF d))) ∧ (iadd (imul p1 (sinF d)) (imul p2 (cosF d))) ≤ 1000000000000)) ∧ (True) ∧ True) ∧ (True) ∧ ((((rnd (isub (imul p1 (cosF d)) (imul p2 (sinF d))) (4096 : Int)) : Int) = (rotX p1 p2 d)) ∧ (((rnd (iadd (imul p1 (sinF d)) (imul p2 (cosF d))) (4096 : Int)) : Int) = (rotY p1 p2 d)) ∧ True) ∧ True))) = ev sig_impl_RotatePoint xs_impl_RotatePoint Tryd.f64.ntmps (fun b => []) (codeOf Tryd.f64) 0 (initS [.agg [.int p1, .int p2], .s (.int d)]) (retK Tryd.f64.results.toList [.agg [.int (rotX p1 p2 d), .int (rotY p1 p2 d)]]) := by kernel_rfl
set_option maxHeartbeats 400000 in
theorem F_impl_RotatePoint : FunOK 64 g_impl_RotatePoint := by
  refine fun_F (by kernel_rfl) Tryd.func64 rfl (by kernel_rfl) sig_impl_RotatePoint_ok xs_impl_RotatePoint_ok ?_
  intro avs sg h hn hl
  unfold g_impl_RotatePoint at h
  split at h
  · rename_i p1 p2 d
    injection h with h; subst h
    refine ⟨by kernel_rfl, fun b => [], Eq.mp (V_impl_RotatePoint p1 p2 d) ?_⟩
    simp only [true_and, and_true, implies_true, and_self, forall_const, true_implies, lenA, lenL, SV.lenOK, Cont.lenOK] at hn hl ⊢
    have c := cosF_bd d; have s := sinF_bd d
    have hv := vB_bd hn
    have q1 := mul40 (x := p1) (y := cosF d) (a := 10000) (by omega) (by omega) c
    have q2 := mul40 (x := p2) (y := sinF d) (a := 10000) (by omega) (by omega) s
    have q3 := mul40 (x := p1) (y := sinF d) (a := 10000) (by omega) (by omega) s
    have q4 := mul40 (x := p2) (y := cosF d) (a := 10000) (by omega) (by omega) c
    simp only [ilt_t, ilt_f, ile_t, ile_f, ieq_t, ieq_f, bnot_e, band_e, bite_and, bite_or, NLt_e, NLe_e, NNe_e, NIs_e, imax_e, imin_e, irem_e, Bool.not_eq_true', Bool.not_eq_false', Bool.and_eq_true, Bool.or_eq_true, Bool.or_eq_false_iff, Bool.and_eq_false_iff, Cont.pts.injEq, Cont.ints.injEq, Cont.bools.injEq, Cont.ptss.injEq, Cont.intss.injEq, Cont.boolss.injEq, true_and, and_true, implies_true]
    refine ⟨fun h => (by rw [hn] at h; cases h), fun _ => ?_⟩
    rw [imul_e (a := p1) (b := cosF d) (by omega) (by omega), imul_e (a := p2) (b := sinF d) (by omega) (by omega), imul_e (a := p1) (b := sinF d) (by omega) (by omega), imul_e (a := p2) (b := cosF d) (by omega) (by omega), isub_e (by omega) (by omega), iadd_e (by omega) (by omega)]
    exact ⟨⟨⟨by omega, by omega, by omega, by omega⟩, by omega, by omega, by omega, by omega⟩, by rw [rnd_4]; rfl, by rw [rnd_4]; rfl⟩
  · cases h
def g_impl_armPoints : List AV → Option Sg
  | [.agg [.view (.ints a1), .view (.ints a2), .view (.ints a3)], .s (.view (.ints j))] => some ⟨jvB a1 a2 a3 j = true, [.nrow 75 (.pts (apL a1 j (ilen a1 + 1)))]⟩
  | _ => none
def sig_impl_armPoints : FuncId → List AV → Option Sg := sigL [(64, g_impl_RotatePoint)]
def xs_impl_armPoints : XS := ⟨xsigL [], ysigL []⟩
theorem sig_impl_armPoints_ok : SigOK sig_impl_armPoints := sigL_cons F_impl_RotatePoint sigL_nil
theorem xs_impl_armPoints_ok : XSigOK xs_impl_armPoints := ⟨xsigL_nil, ysigL_nil⟩
theorem V_impl_armPoints (a1 : List Int) (a2 : List Int) (a3 : List Int) (j : List Int) : ((true = true) ∧ ((True) ∧ (True) ∧ True) ∧ (true = true) ∧ ((True) ∧ (True) ∧ (True) ∧ True) ∧ (true = true) ∧ ((True) ∧ (True) ∧ True) ∧ (True) ∧ (True) ∧ (true = true) ∧ ((True) ∧ (True) ∧ (True) ∧ (True) ∧ True) ∧ ∃ (I1 : List GV → Prop) (μ1 : List GV → Nat), (((true = true) ∧ ((((0 : Int) : Int) = (0 : Int)) ∧ (((0 : Int) : Int) = (0 : Int)) ∧ (true = true) ∧ ((Cont.ints a1) = (Cont.ints a1)) ∧ (((ilen a1) : Int) = (ilen a1)) ∧ ((((0 : Int) : Int) = (0 : Int)) ∧ (((0 : Int) : Int) = (0 : Int)) ∧ True) ∧ (true = true) ∧ ((((0 : Int) : Int) = (0 : Int)) ∧ (((0 : Int) : Int) = (0 : Int)) ∧ True) ∧ (true = true) ∧ (true = true) ∧ (true = true) ∧ (((Cont.ints a1) = (Cont.ints a1)) ∧ ((Cont.ints a2) = (Cont.ints a2)) ∧ ((Cont.ints a3) = (Cont.ints a3)) ∧ True) ∧ ((Cont.ints j) = (Cont.ints j)) ∧ True) ∧ (((((0 : Int) : Int) = (0 : Int)) ∧ (((0 : Int) : Int) = (0 : Int)) ∧ True) ∧ ((true = true) ∧ ((Cont.pts [((0 : Int), (0 : Int))]) = (Cont.pts [((0 : Int), (0 : Int))]))) ∧ (((Cont.ints a1) = (Cont.ints a1)) ∧ ((Cont.ints a2) = (Cont.ints a2)) ∧ ((Cont.ints a3) = (Cont.ints a3)) ∧ True) ∧ ((true = true) ∧ ((Cont.pts []) = (Cont.pts []))) ∧ True)) ∧ (([GK.int, GK.int, GK.pts, GK.int, GK.int] : List GK) = ([GK.int, GK.int, GK.pts, GK.int, GK.int] : List GK)) ∧ I1 [GV.int (0 : Int), GV.int (0 : Int), GV.pts [((0 : Int), (0 : Int))], GV.int (0 : Int), GV.int (0 : Int)]) ∧ (∀ i1_0 : Int, ∀ i1_1 : Int, ∀ l1_2 : List Pt, ∀ i1_3 : Int, ∀ i1_4 : Int, I1 [GV.int i1_0, GV.int i1_1, GV.pts l1_2, GV.int i1_3, GV.int i1_4] → ((true = true) ∧ ((True) ∧ True) ∧ ((ilt i1_0 (ilen a1)) = true → ((true = true) ∧ ((True) ∧ (NLe 0 i1_0 ∧ NLt i1_0 (ilen a1)) ∧ (True) ∧ (True) ∧ (True) ∧ True) ∧ (true = true) ∧ ((True) ∧ (True) ∧ (True) ∧ (NLe 0 i1_0 ∧ NLt i1_0 (ilen j)) ∧ (True) ∧ (True) ∧ (True) ∧ True) ∧ (true = true) ∧ ((True) ∧ (True) ∧ (True) ∧ ((vB (geti a1 i1_0) (0 : Int) = true)) ∧ (True) ∧ True) ∧ (True) ∧ (true = true) ∧ ((True) ∧ (True) ∧ (True) ∧ (True) ∧ (True) ∧ (True) ∧ (True) ∧ (True) ∧ (True) ∧ (True) ∧ (True) ∧ True) ∧ (True) ∧ (true = true) ∧ ((True) ∧ (True) ∧ (True) ∧ True) ∧ (NLe (ilen l1_2) 1000000000 ∧ NLe (ilen [((iadd i1_3 (rotX (geti a1 i1_0) (0 : Int) (iadd i1_1 (geti j i1_0)))), (iadd i1_4 (rotY (geti a1 i1_0) (0 : Int) (iadd i1_1 (geti j i1_0)))))]) 1000000000) ∧ (True) ∧ (true = true) ∧ ((True) ∧ (True) ∧ True) ∧ ((true = true) ∧ ((((iadd i1_1 (geti j i1_0)) : Int) = (iadd i1_1 (geti j i1_0))) ∧ (((iadd i1_0 (1 : Int)) : Int) = (iadd i1_0 (1 : Int))) ∧ (true = true) ∧ ((Cont.ints a1) = (Cont.ints a1)) ∧ (((ilen a1) : Int) = (ilen a1)) ∧ ((((0 : Int) : Int) = (0 : Int)) ∧ (((0 : Int) : Int) = (0 : Int)) ∧ True) ∧ (true = true) ∧ ((((0 : Int) : Int) = (0 : Int)) ∧ (((0 : Int) : Int) = (0 : Int)) ∧ True) ∧ (true = true) ∧ (true = true) ∧ (true = true) ∧ (((Cont.ints a1) = (Cont.ints a1)) ∧ ((Cont.ints a2) = (Cont.ints a2)) ∧ ((Cont.ints a3) = (Cont.ints a3)) ∧ True) ∧ ((Cont.ints j) = (Cont.ints j)) ∧ True) ∧ (((((iadd i1_3 (rotX (geti a1 i1_0) (0 : Int) (iadd i1_1 (geti j i1_0)))) : Int) = (iadd i1_3 (rotX (geti a1 i1_0) (0 : Int) (iadd i1_1 (geti j i1_0))))) ∧ (((iadd i1_4 (rotY (geti a1 i1_0) (0 : Int) (iadd i1_1 (geti j i1_0)))) : Int) = (iadd i1_4 (rotY (geti a1 i1_0) (0 : Int) (iadd i1_1 (geti j i1_0))))) ∧ True) ∧ ((true = true) ∧ ((Cont.pts (iapp l1_2 [((iadd i1_3 (rotX (geti a1 i1_0) (0 : Int) (iadd i1_1 (geti j i1_0)))), (iadd i1_4 (rotY (geti a1 i1_0) (0 : Int) (iadd i1_1 (geti j i1_0)))))])) = (Cont.pts (iapp l1_2 [((iadd i1_3 (rotX (geti a1 i1_0) (0 : Int) (iadd i1_1 (geti j i1_0)))), (iadd i1_4 (rotY (geti a1 i1_0) (0 : Int) (iadd i1_1 (geti j i1_0)))))])))) ∧ (((Cont.ints a1) = (Cont.ints a1)) ∧ ((Cont.ints a2) = (Cont.ints a2)) ∧ ((Cont.ints a3) = (Cont.ints a3)) ∧ True) ∧ ((true = true) ∧ ((Cont.pts []) = (Cont.pts []))) ∧ True)) ∧ ((([GK.int, GK.int, GK.pts, GK.int, GK.int] : List GK) = ([GK.int, GK.int, GK.pts, GK.int, GK.int] : List GK)) ∧ I1 [GV.int (iadd i1_0 (1 : Int)), GV.int (iadd i1_1 (geti j i1_0)), GV.pts (iapp l1_2 [((iadd i1_3 (rotX (geti a1 i1_0) (0 : Int) (iadd i1_1 (geti j i1_0)))), (iadd i1_4 (rotY (geti a1 i1_0) (0 : Int) (iadd i1_1 (geti j i1_0)))))]), GV.int (iadd i1_3 (rotX (geti a1 i1_0) (0 : Int) (iadd i1_1 (geti j i1_0)))), GV.int (iadd i1_4 (rotY (geti a1 i1_0) (0 : Int) (iadd i1_1 (geti j i1_0))))] ∧ μ1 [GV.int (iadd i1_0 (1 : Int)), GV.int (iadd i1_1 (geti j i1_0)), GV.pts (iapp l1_2 [((iadd i1_3 (rotX (geti a1 i1_0) (0 : Int) (iadd i1_1 (geti j i1_0)))), (iadd i1_4 (rotY (geti a1 i1_0) (0 : Int) (iadd i1_1 (geti j i1_0)))))]), GV.int (iadd i1_3 (rotX (geti a1 i1_0) (0 : Int) (iadd i1_1 (geti j i1_0)))), GV.int (iadd i1_4 (rotY (geti a1 i1_0) (0 : Int) (iadd i1_1 (geti j i1_0))))] < μ1 [GV.int i1_0, GV.int i1_1, GV.pts l1_2, GV.int i1_3, GV.int i1_4]))) ∧ ((ilt i1_0 (ilen a1)) = false → ((true = true) ∧ ((True) ∧ (True) ∧ True) ∧ ((true = true) ∧ ((Cont.pts l1_2) = (Cont.pts (apL a1 j (ilen a1 + 1))))) ∧ True))))) = ev sig_impl_armPoints xs_impl_armPoints Tryd.f47.ntmps (fun b => if b == 0 then [.v 17, .v 7, .b 5, .b 6] else []) (codeOf Tryd.f47) 0 (initS [.agg [.view (.ints a1), .view (.ints a2), .view (.ints a3)], .s (.view (.ints j))]) (retK Tryd.f47.results.toList [.nrow 75 (.pts (apL a1 j (ilen a1 + 1)))]) := by kernel_rfl
set_option maxHeartbeats 400000 in
theorem F_impl_armPoints : FunOK 47 g_impl_armPoints := by
  refine fun_F (by kernel_rfl) Tryd.func47 rfl (by kernel_rfl) sig_impl_armPoints_ok xs_impl_armPoints_ok ?_
  intro avs sg h hn hl
  unfold g_impl_armPoints at h
  split at h
  · rename_i a1 a2 a3 j
    injection h with h; subst h
    refine ⟨by kernel_rfl, fun b => if b == 0 then [.v 17, .v 7, .b 5, .b 6] else [], Eq.mp (V_impl_armPoints a1 a2 a3 j) ?_⟩
    simp only [true_and, and_true, implies_true, and_self, forall_const, true_implies, lenA, lenL, SV.lenOK, Cont.lenOK] at hn hl ⊢
    obtain ⟨ha, hjl, hl4, hlk, hjk⟩ := jv_p hn
    simp only [ilt_t, ilt_f, ile_t, ile_f, ieq_t, ieq_f, bnot_e, band_e, bite_and, bite_or, NLt_e, NLe_e, NNe_e, NIs_e, imax_e, imin_e, irem_e, Bool.not_eq_true', Bool.not_eq_false', Bool.and_eq_true, Bool.or_eq_true, Bool.or_eq_false_iff, Bool.and_eq_false_iff, Cont.pts.injEq, Cont.ints.injEq, Cont.bools.injEq, Cont.ptss.injEq, Cont.intss.injEq, Cont.boolss.injEq, true_and, and_true, implies_true]
    refine ⟨fun | [.int k, .int d, .pts o, .int x, .int y] => 0 ≤ k ∧ k ≤ ilen a1 ∧ o = apL a1 j (k + 1) ∧ d = dirK j k ∧ x = apX a1 j k ∧ y = apY a1 j k | _ => False, fun | .int k :: _ => (ilen a1 - k).toNat | _ => 0, ⟨by omega, by omega, rfl, rfl, rfl, rfl⟩, ?_⟩
    rintro k d o x y ⟨k0, k1, rfl, rfl, rfl, rfl⟩
    refine ⟨fun hc => ?_, fun hc => ?_⟩
    · have hk : k < ilen a1 := by omega
      have b1 := jv_bd hn k0 k1
      have b2 := jv_bd hn (k := k + 1) (by omega) (by omega)
      have hL := hlk k k0 hk
      have hJ := hjk k k0 hk
      have hd := dirK_1 (J := j) k0
      have hx := apX_1 (L := a1) (J := j) k0
      have hy := apY_1 (L := a1) (J := j) k0
      have e1 : iadd (dirK j k) (geti j k) = dirK j (k + 1) := by rw [iadd_e (by omega) (by omega), hd]
      rw [e1]
      have e2 : iadd (apX a1 j k) (rotX (geti a1 k) 0 (dirK j (k + 1))) = apX a1 j (k + 1) := by rw [iadd_e (by omega) (by omega), hx]
      have e3 : iadd (apY a1 j k) (rotY (geti a1 k) 0 (dirK j (k + 1))) = apY a1 j (k + 1) := by rw [iadd_e (by omega) (by omega), hy]
      rw [e2, e3, apL_len (by omega), iadd_e (by omega) (by omega)]
      exact ⟨⟨k0, by omega⟩, ⟨k0, by omega⟩, vB_mk (by omega), ⟨by omega, by rw [ilen_one]; omega⟩, ⟨by omega, by omega, apL_s (by omega), rfl, rfl, rfl⟩, by show (ilen a1 - (k + 1)).toNat < (ilen a1 - k).toNat; omega⟩
    · rw [show k = ilen a1 by omega]
  · cases h
def g_impl_cross : List AV → Option Sg
  | [.agg [.int a1, .int a2], .agg [.int b1, .int b2], .agg [.int c1, .int c2]] => some ⟨True, [.s (.int (crW a1 a2 b1 b2 c1 c2))]⟩
  | _ => none
def sig_impl_cross : FuncId → List AV → Option Sg := sigL []
def xs_impl_cross : XS := ⟨xsigL [], ysigL []⟩
theorem sig_impl_cross_ok : SigOK sig_impl_cross := sigL_nil
theorem xs_impl_cross_ok : XSigOK xs_impl_cross := ⟨xsigL_nil, ysigL_nil⟩
theorem V_impl_cross (a1 : Int) (a2 : Int) (b1 : Int) (b2 : Int) (c1 : Int) (c2 : Int) : ((true = true) ∧ ((True) ∧ (True) ∧ (True) ∧ (True) ∧ True) ∧ (true = true) ∧ ((True) ∧ (True) ∧ (True) ∧ (True) ∧ (True) ∧ (True) ∧ (True) ∧ (True) ∧ (True) ∧ (True) ∧ (True) ∧ (True) ∧ (True) ∧ (True) ∧ (True) ∧ (True) ∧ (True) ∧ (True) ∧ (True) ∧ (True) ∧ (True) ∧ (True) ∧ (True) ∧ (True) ∧ True) ∧ (((isub (imul (isub b1 a1) (isub c2 a2)) (imul (isub b2 a2) (isub c1 a1))) : Int) = (crW a1 a2 b1 b2 c1 c2)) ∧ True) = ev sig_impl_cross xs_impl_cross Tryd.f66.ntmps (fun b => []) (codeOf Tryd.f66) 0 (initS [.agg [.int a1, .int a2], .agg [.int b1, .int b2], .agg [.int c1, .int c2]]) (retK Tryd.f66.results.toList [.s (.int (crW a1 a2 b1 b2 c1 c2))]) := by kernel_rfl
set_option maxHeartbeats 400000 in
theorem F_impl_cross : FunOK 66 g_impl_cross := by
  refine fun_F (by kernel_rfl) Tryd.func66 rfl (by kernel_rfl) sig_impl_cross_ok xs_impl_cross_ok ?_
  intro avs sg h hn hl
  unfold g_impl_cross at h
  split at h
  · rename_i a1 a2 b1 b2 c1 c2
    injection h with h; subst h
    refine ⟨by kernel_rfl, fun b => [], Eq.mp (V_impl_cross a1 a2 b1 b2 c1 c2) ?_⟩
    simp only [true_and, and_true, implies_true, and_self, forall_const, true_implies, lenA, lenL, SV.lenOK, Cont.lenOK] at hn hl ⊢
    simp only [crW]
  · cases h
def g_cmp_isNaN_int : List AV → Option Sg
  | [.s (.int n)] => some ⟨True, [.s (.bool (false))]⟩
  | _ => none
def sig_cmp_isNaN_int : FuncId → List AV → Option Sg := sigL []
def xs_cmp_isNaN_int : XS := ⟨xsigL [], ysigL []⟩
theorem sig_cmp_isNaN_int_ok : SigOK sig_cmp_isNaN_int := sigL_nil
theorem xs_cmp_isNaN_int_ok : XSigOK xs_cmp_isNaN_int := ⟨xsigL_nil, ysigL_nil⟩
theorem V_cmp_isNaN_int (n : Int) : ((true = true) ∧ ((True) ∧ True) ∧ (true = true) ∧ ((True) ∧ (True) ∧ (True) ∧ (True) ∧ True) ∧ (((bnot (ieq n n)) : Bool) = (false)) ∧ True) = ev sig_cmp_isNaN_int xs_cmp_isNaN_int Tryd.f81.ntmps (fun b => []) (codeOf Tryd.f81) 0 (initS [.s (.int n)]) (retK Tryd.f81.results.toList [.s (.bool (false))]) := by kernel_rfl
set_option maxHeartbeats 400000 in
theorem F_cmp_isNaN_int : FunOK 81 g_cmp_isNaN_int := by
  refine fun_F (by kernel_rfl) Tryd.func81 rfl (by kernel_rfl) sig_cmp_isNaN_int_ok xs_cmp_isNaN_int_ok ?_
  intro avs sg h hn hl
  unfold g_cmp_isNaN_int at h
  split at h
  · rename_i n
    injection h with h; subst h
    refine ⟨by kernel_rfl, fun b => [], Eq.mp (V_cmp_isNaN_int n) ?_⟩
    simp only [true_and, and_true, implies_true, and_self, forall_const, true_implies, lenA, lenL, SV.lenOK, Cont.lenOK] at hn hl ⊢
    simp [bnot, ieq]
  · cases h
def g_cmp_Compare_int : List AV → Option Sg
  | [.s (.int a), .s (.int b)] => some ⟨True, [.s (.int (sgn (a - b)))]⟩
  | _ => none
def sig_cmp_Compare_int : FuncId → List AV → Option Sg := sigL [(81, g_cmp_isNaN_int)]
def xs_cmp_Compare_int : XS := ⟨xsigL [], ysigL []⟩
theorem sig_cmp_Compare_int_ok : SigOK sig_cmp_Compare_int := sigL_cons F_cmp_isNaN_int sigL_nil
theorem xs_cmp_Compare_int_ok : XSigOK xs_cmp_Compare_int := ⟨xsigL_nil, ysigL_nil⟩
theorem V_cmp_Compare_int (a : Int) (b : Int) : ((true = true) ∧ ((True) ∧ True) ∧ (true = true) ∧ ((True) ∧ ((True)) ∧ (True) ∧ True) ∧ (true = true) ∧ ((True) ∧ ((True)) ∧ (True) ∧ True) ∧ (true = true) ∧ ((True) ∧ True) ∧ ((false) = true → ((true = true) ∧ ((True) ∧ True) ∧ ((false) = true → ((true = true) ∧ ((True) ∧ True) ∧ (((0 : Int) : Int) = (sgn (a - b))) ∧ True)) ∧ ((false) = false → ((true = true) ∧ ((True) ∧ True) ∧ (((-1 : Int) : Int) = (sgn (a - b))) ∧ True)))) ∧ ((false) = false → ((true = true) ∧ ((True) ∧ True) ∧ ((false) = true → ((true = true) ∧ ((True) ∧ True) ∧ (((1 : Int) : Int) = (sgn (a - b))) ∧ True)) ∧ ((false) = false → ((true = true) ∧ ((True) ∧ (True) ∧ (True) ∧ True) ∧ ((ilt a b) = true → ((true = true) ∧ ((True) ∧ True) ∧ (((-1 : Int) : Int) = (sgn (a - b))) ∧ True)) ∧ ((ilt a b) = false → ((true = true) ∧ ((True) ∧ (True) ∧ (True) ∧ True) ∧ ((ilt b a) = true → ((true = true) ∧ ((True) ∧ True) ∧ (((1 : Int) : Int) = (sgn (a - b))) ∧ True)) ∧ ((ilt b a) = false → ((true = true) ∧ ((True) ∧ True) ∧ (((0 : Int) : Int) = (sgn (a - b))) ∧ True))))))))) = ev sig_cmp_Compare_int xs_cmp_Compare_int Tryd.f65.ntmps (fun b => []) (codeOf Tryd.f65) 0 (initS [.s (.int a), .s (.int b)]) (retK Tryd.f65.results.toList [.s (.int (sgn (a - b)))]) := by kernel_rfl
set_option maxHeartbeats 400000 in
theorem F_cmp_Compare_int : FunOK 65 g_cmp_Compare_int := by
  refine fun_F (by kernel_rfl) Tryd.func65 rfl (by kernel_rfl) sig_cmp_Compare_int_ok xs_cmp_Compare_int_ok ?_
  intro avs sg h hn hl
  unfold g_cmp_Compare_int at h
  split at h
  · rename_i a b
    injection h with h; subst h
    refine ⟨by kernel_rfl, fun b => [], Eq.mp (V_cmp_Compare_int a b) ?_⟩
    simp only [true_and, and_true, implies_true, and_self, forall_const, true_implies, lenA, lenL, SV.lenOK, Cont.lenOK] at hn hl ⊢
    simp only [ilt_t, ilt_f, ile_t, ile_f, ieq_t, ieq_f, bnot_e, band_e, bite_and, bite_or, NLt_e, NLe_e, NNe_e, NIs_e, imax_e, imin_e, irem_e, Bool.not_eq_true', Bool.not_eq_false', Bool.and_eq_true, Bool.or_eq_true, Bool.or_eq_false_iff, Bool.and_eq_false_iff, Cont.pts.injEq, Cont.ints.injEq, Cont.bools.injEq, Cont.ptss.injEq, Cont.intss.injEq, Cont.boolss.injEq, true_and, and_true, implies_true, Bool.false_eq_true, false_implies, true_implies, true_and, forall_const]
    unfold sgn
    by_cases h1 : a < b
    · rw [if_neg (show ¬ 0 < a - b by omega), if_pos (show a - b < 0 by omega)]
      simp [h1]; try omega
    · by_cases h2 : b < a
      · rw [if_pos (show 0 < a - b by omega)]
        simp [h1, h2]; try omega
      · rw [if_neg (show ¬ 0 < a - b by omega), if_neg (show ¬ a - b < 0 by omega)]
        simp [h1, h2]; try omega
  · cases h
def g_impl_between : List AV → Option Sg
  | [.agg [.int a1, .int a2], .agg [.int b1, .int b2], .agg [.int p1, .int p2]] => some ⟨True, [.s (.bool (btW a1 a2 b1 b2 p1 p2))]⟩
  | _ => none
def sig_impl_between : FuncId → List AV → Option Sg := sigL [(54, g_impl_within)]
def xs_impl_between : XS := ⟨xsigL [], ysigL []⟩
theorem sig_impl_between_ok : SigOK sig_impl_between := sigL_cons F_impl_within sigL_nil
theorem xs_impl_between_ok : XSigOK xs_impl_between := ⟨xsigL_nil, ysigL_nil⟩
theorem V_impl_between (a1 : Int) (a2 : Int) (b1 : Int) (b2 : Int) (p1 : Int) (p2 : Int) : ((true = true) ∧ ((True) ∧ (True) ∧ (True) ∧ (True) ∧ True) ∧ (true = true) ∧ ((True) ∧ (True) ∧ (True) ∧ (True) ∧ (True) ∧ (True) ∧ (True) ∧ (True) ∧ (True) ∧ (True) ∧ (True) ∧ (True) ∧ ((True)) ∧ (True) ∧ (NIs (inB p1 (imin a1 b1) (imax a1 b1)) true → True) ∧ (NIs (inB p1 (imin a1 b1) (imax a1 b1)) true → True) ∧ (NIs (inB p1 (imin a1 b1) (imax a1 b1)) true → True) ∧ (NIs (inB p1 (imin a1 b1) (imax a1 b1)) true → True) ∧ (NIs (inB p1 (imin a1 b1) (imax a1 b1)) true → True) ∧ (NIs (inB p1 (imin a1 b1) (imax a1 b1)) true → True) ∧ (NIs (inB p1 (imin a1 b1) (imax a1 b1)) true → True) ∧ (NIs (inB p1 (imin a1 b1) (imax a1 b1)) true → True) ∧ (NIs (inB p1 (imin a1 b1) (imax a1 b1)) true → True) ∧ (NIs (inB p1 (imin a1 b1) (imax a1 b1)) true → True) ∧ (NIs (inB p1 (imin a1 b1) (imax a1 b1)) true → True) ∧ (NIs (inB p1 (imin a1 b1) (imax a1 b1)) true → True) ∧ (NIs (inB p1 (imin a1 b1) (imax a1 b1)) true → (True)) ∧ (True) ∧ (True) ∧ True) ∧ (((bite (inB p1 (imin a1 b1) (imax a1 b1)) (inB p2 (imin a2 b2) (imax a2 b2)) false) : Bool) = (btW a1 a2 b1 b2 p1 p2)) ∧ True) = ev sig_impl_between xs_impl_between Tryd.f67.ntmps (fun b => []) (codeOf Tryd.f67) 0 (initS [.agg [.int a1, .int a2], .agg [.int b1, .int b2], .agg [.int p1, .int p2]]) (retK Tryd.f67.results.toList [.s (.bool (btW a1 a2 b1 b2 p1 p2))]) := by kernel_rfl
set_option maxHeartbeats 400000 in
theorem F_impl_between : FunOK 67 g_impl_between := by
  refine fun_F (by kernel_rfl) Tryd.func67 rfl (by kernel_rfl) sig_impl_between_ok xs_impl_between_ok ?_
  intro avs sg h hn hl
  unfold g_impl_between at h
  split at h
  · rename_i a1 a2 b1 b2 p1 p2
    injection h with h; subst h
    refine ⟨by kernel_rfl, fun b => [], Eq.mp (V_impl_between a1 a2 b1 b2 p1 p2) ?_⟩
    simp only [true_and, and_true, implies_true, and_self, forall_const, true_implies, lenA, lenL, SV.lenOK, Cont.lenOK] at hn hl ⊢
    simp only [ilt_t, ilt_f, ile_t, ile_f, ieq_t, ieq_f, bnot_e, band_e, bite_and, bite_or, NLt_e, NLe_e, NNe_e, NIs_e, imax_e, imin_e, irem_e, Bool.not_eq_true', Bool.not_eq_false', Bool.and_eq_true, Bool.or_eq_true, Bool.or_eq_false_iff, Bool.and_eq_false_iff, Cont.pts.injEq, Cont.ints.injEq, Cont.bools.injEq, Cont.ptss.injEq, Cont.intss.injEq, Cont.boolss.injEq, true_and, and_true, implies_true]
    rfl
  · cases h
def g_impl_meet : List AV → Option Sg
  | [.agg [.int a1, .int a2], .agg [.int b1, .int b2], .agg [.int c1, .int c2], .agg [.int d1, .int d2]] => some ⟨vB a1 a2 = true ∧ vB b1 b2 = true ∧ vB c1 c2 = true ∧ vB d1 d2 = true, [.s (.bool (meetB (a1, a2) (b1, b2) (c1, c2) (d1, d2)))]⟩
  | _ => none
def sig_impl_meet : FuncId → List AV → Option Sg := sigL [(66, g_impl_cross), (65, g_cmp_Compare_int), (67, g_impl_between)]
def xs_impl_meet : XS := ⟨xsigL [], ysigL []⟩
theorem sig_impl_meet_ok : SigOK sig_impl_meet := sigL_cons F_impl_cross (sigL_cons F_cmp_Compare_int (sigL_cons F_impl_between sigL_nil))
theorem xs_impl_meet_ok : XSigOK xs_impl_meet := ⟨xsigL_nil, ysigL_nil⟩
theorem V_impl_meet (a1 : Int) (a2 : Int) (b1 : Int) (b2 : Int) (c1 : Int) (c2 : Int) (d1 : Int) (d2 : Int) : ((true = true) ∧ ((True) ∧ (True) ∧ (True) ∧ (True) ∧ (True) ∧ True) ∧ (true = true) ∧ ((True) ∧ (True) ∧ (True) ∧ ((True)) ∧ ((True)) ∧ (True) ∧ (True) ∧ (True) ∧ ((True)) ∧ ((True)) ∧ (True) ∧ (True) ∧ True) ∧ (true = true) ∧ ((True) ∧ (True) ∧ (True) ∧ ((True)) ∧ ((True)) ∧ (True) ∧ (True) ∧ (True) ∧ ((True)) ∧ ((True)) ∧ (True) ∧ (True) ∧ True) ∧ (true = true) ∧ ((True) ∧ (True) ∧ (True) ∧ (True) ∧ (True) ∧ (NIs (ilt (imul (sgn ((crW a1 a2 b1 b2 c1 c2) - (0 : Int))) (sgn ((crW a1 a2 b1 b2 d1 d2) - (0 : Int)))) (0 : Int)) true → True) ∧ (NIs (ilt (imul (sgn ((crW a1 a2 b1 b2 c1 c2) - (0 : Int))) (sgn ((crW a1 a2 b1 b2 d1 d2) - (0 : Int)))) (0 : Int)) true → True) ∧ (NIs (ilt (imul (sgn ((crW a1 a2 b1 b2 c1 c2) - (0 : Int))) (sgn ((crW a1 a2 b1 b2 d1 d2) - (0 : Int)))) (0 : Int)) true → True) ∧ (NIs (ilt (imul (sgn ((crW a1 a2 b1 b2 c1 c2) - (0 : Int))) (sgn ((crW a1 a2 b1 b2 d1 d2) - (0 : Int)))) (0 : Int)) true → True) ∧ (True) ∧ True) ∧ ((bite (ilt (imul (sgn ((crW a1 a2 b1 b2 c1 c2) - (0 : Int))) (sgn ((crW a1 a2 b1 b2 d1 d2) - (0 : Int)))) (0 : Int)) (ilt (imul (sgn ((crW c1 c2 d1 d2 a1 a2) - (0 : Int))) (sgn ((crW c1 c2 d1 d2 b1 b2) - (0 : Int)))) (0 : Int)) false) = true → ((true = true) ∧ ((True) ∧ True) ∧ ((true : Bool) = (meetB (a1, a2) (b1, b2) (c1, c2) (d1, d2))) ∧ True)) ∧ ((bite (ilt (imul (sgn ((crW a1 a2 b1 b2 c1 c2) - (0 : Int))) (sgn ((crW a1 a2 b1 b2 d1 d2) - (0 : Int)))) (0 : Int)) (ilt (imul (sgn ((crW c1 c2 d1 d2 a1 a2) - (0 : Int))) (sgn ((crW c1 c2 d1 d2 b1 b2) - (0 : Int)))) (0 : Int)) false) = false → ((true = true) ∧ ((True) ∧ (True) ∧ (True) ∧ (NIs (ieq (sgn ((crW a1 a2 b1 b2 c1 c2) - (0 : Int))) (0 : Int)) true → True) ∧ (NIs (ieq (sgn ((crW a1 a2 b1 b2 c1 c2) - (0 : Int))) (0 : Int)) true → True) ∧ (NIs (ieq (sgn ((crW a1 a2 b1 b2 c1 c2) - (0 : Int))) (0 : Int)) true → True) ∧ (NIs (ieq (sgn ((crW a1 a2 b1 b2 c1 c2) - (0 : Int))) (0 : Int)) true → (True)) ∧ (True) ∧ (True) ∧ (NIs (bite (ieq (sgn ((crW a1 a2 b1 b2 c1 c2) - (0 : Int))) (0 : Int)) (btW a1 a2 b1 b2 c1 c2) false) false → True) ∧ (NIs (bite (ieq (sgn ((crW a1 a2 b1 b2 c1 c2) - (0 : Int))) (0 : Int)) (btW a1 a2 b1 b2 c1 c2) false) false → True) ∧ (NIs (bite (ieq (sgn ((crW a1 a2 b1 b2 c1 c2) - (0 : Int))) (0 : Int)) (btW a1 a2 b1 b2 c1 c2) false) false → True) ∧ (NIs (bite (ieq (sgn ((crW a1 a2 b1 b2 c1 c2) - (0 : Int))) (0 : Int)) (btW a1 a2 b1 b2 c1 c2) false) false → (NIs (ieq (sgn ((crW a1 a2 b1 b2 d1 d2) - (0 : Int))) (0 : Int)) true → True)) ∧ (NIs (bite (ieq (sgn ((crW a1 a2 b1 b2 c1 c2) - (0 : Int))) (0 : Int)) (btW a1 a2 b1 b2 c1 c2) false) false → (NIs (ieq (sgn ((crW a1 a2 b1 b2 d1 d2) - (0 : Int))) (0 : Int)) true → True)) ∧ (NIs (bite (ieq (sgn ((crW a1 a2 b1 b2 c1 c2) - (0 : Int))) (0 : Int)) (btW a1 a2 b1 b2 c1 c2) false) false → (NIs (ieq (sgn ((crW a1 a2 b1 b2 d1 d2) - (0 : Int))) (0 : Int)) true → True)) ∧ (NIs (bite (ieq (sgn ((crW a1 a2 b1 b2 c1 c2) - (0 : Int))) (0 : Int)) (btW a1 a2 b1 b2 c1 c2) false) false → (NIs (ieq (sgn ((crW a1 a2 b1 b2 d1 d2) - (0 : Int))) (0 : Int)) true → (True))) ∧ (NIs (bite (ieq (sgn ((crW a1 a2 b1 b2 c1 c2) - (0 : Int))) (0 : Int)) (btW a1 a2 b1 b2 c1 c2) false) false → True) ∧ (True) ∧ (True) ∧ (NIs (bite (bite (ieq (sgn ((crW a1 a2 b1 b2 c1 c2) - (0 : Int))) (0 : Int)) (btW a1 a2 b1 b2 c1 c2) false) true (bite (ieq (sgn ((crW a1 a2 b1 b2 d1 d2) - (0 : Int))) (0 : Int)) (btW a1 a2 b1 b2 d1 d2) false)) false → True) ∧ (NIs (bite (bite (ieq (sgn ((crW a1 a2 b1 b2 c1 c2) - (0 : Int))) (0 : Int)) (btW a1 a2 b1 b2 c1 c2) false) true (bite (ieq (sgn ((crW a1 a2 b1 b2 d1 d2) - (0 : Int))) (0 : Int)) (btW a1 a2 b1 b2 d1 d2) false)) false → True) ∧ (NIs (bite (bite (ieq (sgn ((crW a1 a2 b1 b2 c1 c2) - (0 : Int))) (0 : Int)) (btW a1 a2 b1 b2 c1 c2) false) true (bite (ieq (sgn ((crW a1 a2 b1 b2 d1 d2) - (0 : Int))) (0 : Int)) (btW a1 a2 b1 b2 d1 d2) false)) false → True) ∧ (NIs (bite (bite (ieq (sgn ((crW a1 a2 b1 b2 c1 c2) - (0 : Int))) (0 : Int)) (btW a1 a2 b1 b2 c1 c2) false) true (bite (ieq (sgn ((crW a1 a2 b1 b2 d1 d2) - (0 : Int))) (0 : Int)) (btW a1 a2 b1 b2 d1 d2) false)) false → (NIs (ieq (sgn ((crW c1 c2 d1 d2 a1 a2) - (0 : Int))) (0 : Int)) true → True)) ∧ (NIs (bite (bite (ieq (sgn ((crW a1 a2 b1 b2 c1 c2) - (0 : Int))) (0 : Int)) (btW a1 a2 b1 b2 c1 c2) false) true (bite (ieq (sgn ((crW a1 a2 b1 b2 d1 d2) - (0 : Int))) (0 : Int)) (btW a1 a2 b1 b2 d1 d2) false)) false → (NIs (ieq (sgn ((crW c1 c2 d1 d2 a1 a2) - (0 : Int))) (0 : Int)) true → True)) ∧ (NIs (bite (bite (ieq (sgn ((crW a1 a2 b1 b2 c1 c2) - (0 : Int))) (0 : Int)) (btW a1 a2 b1 b2 c1 c2) false) true (bite (ieq (sgn ((crW a1 a2 b1 b2 d1 d2) - (0 : Int))) (0 : Int)) (btW a1 a2 b1 b2 d1 d2) false)) false → (NIs (ieq (sgn ((crW c1 c2 d1 d2 a1 a2) - (0 : Int))) (0 : Int)) true → True)) ∧ (NIs (bite (bite (ieq (sgn ((crW a1 a2 b1 b2 c1 c2) - (0 : Int))) (0 : Int)) (btW a1 a2 b1 b2 c1 c2) false) true (bite (ieq (sgn ((crW a1 a2 b1 b2 d1 d2) - (0 : Int))) (0 : Int)) (btW a1 a2 b1 b2 d1 d2) false)) false → (NIs (ieq (sgn ((crW c1 c2 d1 d2 a1 a2) - (0 : Int))) (0 : Int)) true → (True))) ∧ (NIs (bite (bite (ieq (sgn ((crW a1 a2 b1 b2 c1 c2) - (0 : Int))) (0 : Int)) (btW a1 a2 b1 b2 c1 c2) false) true (bite (ieq (sgn ((crW a1 a2 b1 b2 d1 d2) - (0 : Int))) (0 : Int)) (btW a1 a2 b1 b2 d1 d2) false)) false → True) ∧ (True) ∧ (True) ∧ (NIs (bite (bite (bite (ieq (sgn ((crW a1 a2 b1 b2 c1 c2) - (0 : Int))) (0 : Int)) (btW a1 a2 b1 b2 c1 c2) false) true (bite (ieq (sgn ((crW a1 a2 b1 b2 d1 d2) - (0 : Int))) (0 : Int)) (btW a1 a2 b1 b2 d1 d2) false)) true (bite (ieq (sgn ((crW c1 c2 d1 d2 a1 a2) - (0 : Int))) (0 : Int)) (btW c1 c2 d1 d2 a1 a2) false)) false → True) ∧ (NIs (bite (bite (bite (ieq (sgn ((crW a1 a2 b1 b2 c1 c2) - (0 : Int))) (0 : Int)) (btW a1 a2 b1 b2 c1 c2) false) true (bite (ieq (sgn ((crW a1 a2 b1 b2 d1 d2) - (0 : Int))) (0 : Int)) (btW a1 a2 b1 b2 d1 d2) false)) true (bite (ieq (sgn ((crW c1 c2 d1 d2 a1 a2) - (0 : Int))) (0 : Int)) (btW c1 c2 d1 d2 a1 a2) false)) false → True) ∧ (NIs (bite (bite (bite (ieq (sgn ((crW a1 a2 b1 b2 c1 c2) - (0 : Int))) (0 : Int)) (btW a1 a2 b1 b2 c1 c2) false) true (bite (ieq (sgn ((crW a1 a2 b1 b2 d1 d2) - (0 : Int))) (0 : Int)) (btW a1 a2 b1 b2 d1 d2) false)) true (bite (ieq (sgn ((crW c1 c2 d1 d2 a1 a2) - (0 : Int))) (0 : Int)) (btW c1 c2 d1 d2 a1 a2) false)) false → True) ∧ (NIs (bite (bite (bite (ieq (sgn ((crW a1 a2 b1 b2 c1 c2) - (0 : Int))) (0 : Int)) (btW a1 a2 b1 b2 c1 c2) false) true (bite (ieq (sgn ((crW a1 a2 b1 b2 d1 d2) - (0 : Int))) (0 : Int)) (btW a1 a2 b1 b2 d1 d2) false)) true (bite (ieq (sgn ((crW c1 c2 d1 d2 a1 a2) - (0 : Int))) (0 : Int)) (btW c1 c2 d1 d2 a1 a2) false)) false → (NIs (ieq (sgn ((crW c1 c2 d1 d2 b1 b2) - (0 : Int))) (0 : Int)) true → True)) ∧ (NIs (bite (bite (bite (ieq (sgn ((crW a1 a2 b1 b2 c1 c2) - (0 : Int))) (0 : Int)) (btW a1 a2 b1 b2 c1 c2) false) true (bite (ieq (sgn ((crW a1 a2 b1 b2 d1 d2) - (0 : Int))) (0 : Int)) (btW a1 a2 b1 b2 d1 d2) false)) true (bite (ieq (sgn ((crW c1 c2 d1 d2 a1 a2) - (0 : Int))) (0 : Int)) (btW c1 c2 d1 d2 a1 a2) false)) false → (NIs (ieq (sgn ((crW c1 c2 d1 d2 b1 b2) - (0 : Int))) (0 : Int)) true → True)) ∧ (NIs (bite (bite (bite (ieq (sgn ((crW a1 a2 b1 b2 c1 c2) - (0 : Int))) (0 : Int)) (btW a1 a2 b1 b2 c1 c2) false) true (bite (ieq (sgn ((crW a1 a2 b1 b2 d1 d2) - (0 : Int))) (0 : Int)) (btW a1 a2 b1 b2 d1 d2) false)) true (bite (ieq (sgn ((crW c1 c2 d1 d2 a1 a2) - (0 : Int))) (0 : Int)) (btW c1 c2 d1 d2 a1 a2) false)) false → (NIs (ieq (sgn ((crW c1 c2 d1 d2 b1 b2) - (0 : Int))) (0 : Int)) true → True)) ∧ (NIs (bite (bite (bite (ieq (sgn ((crW a1 a2 b1 b2 c1 c2) - (0 : Int))) (0 : Int)) (btW a1 a2 b1 b2 c1 c2) false) true (bite (ieq (sgn ((crW a1 a2 b1 b2 d1 d2) - (0 : Int))) (0 : Int)) (btW a1 a2 b1 b2 d1 d2) false)) true (bite (ieq (sgn ((crW c1 c2 d1 d2 a1 a2) - (0 : Int))) (0 : Int)) (btW c1 c2 d1 d2 a1 a2) false)) false → (NIs (ieq (sgn ((crW c1 c2 d1 d2 b1 b2) - (0 : Int))) (0 : Int)) true → (True))) ∧ (NIs (bite (bite (bite (ieq (sgn ((crW a1 a2 b1 b2 c1 c2) - (0 : Int))) (0 : Int)) (btW a1 a2 b1 b2 c1 c2) false) true (bite (ieq (sgn ((crW a1 a2 b1 b2 d1 d2) - (0 : Int))) (0 : Int)) (btW a1 a2 b1 b2 d1 d2) false)) true (bite (ieq (sgn ((crW c1 c2 d1 d2 a1 a2) - (0 : Int))) (0 : Int)) (btW c1 c2 d1 d2 a1 a2) false)) false → True) ∧ (True) ∧ (True) ∧ True) ∧ (((bite (bite (bite (bite (ieq (sgn ((crW a1 a2 b1 b2 c1 c2) - (0 : Int))) (0 : Int)) (btW a1 a2 b1 b2 c1 c2) false) true (bite (ieq (sgn ((crW a1 a2 b1 b2 d1 d2) - (0 : Int))) (0 : Int)) (btW a1 a2 b1 b2 d1 d2) false)) true (bite (ieq (sgn ((crW c1 c2 d1 d2 a1 a2) - (0 : Int))) (0 : Int)) (btW c1 c2 d1 d2 a1 a2) false)) true (bite (ieq (sgn ((crW c1 c2 d1 d2 b1 b2) - (0 : Int))) (0 : Int)) (btW c1 c2 d1 d2 b1 b2) false)) : Bool) = (meetB (a1, a2) (b1, b2) (c1, c2) (d1, d2))) ∧ True))) = ev sig_impl_meet xs_impl_meet Tryd.f48.ntmps (fun b => []) (codeOf Tryd.f48) 0 (initS [.agg [.int a1, .int a2], .agg [.int b1, .int b2], .agg [.int c1, .int c2], .agg [.int d1, .int d2]]) (retK Tryd.f48.results.toList [.s (.bool (meetB (a1, a2) (b1, b2) (c1, c2) (d1, d2)))]) := by kernel_rfl
set_option maxHeartbeats 400000 in
theorem F_impl_meet : FunOK 48 g_impl_meet := by
  refine fun_F (by kernel_rfl) Tryd.func48 rfl (by kernel_rfl) sig_impl_meet_ok xs_impl_meet_ok ?_
  intro avs sg h hn hl
  unfold g_impl_meet at h
  split at h
  · rename_i a1 a2 b1 b2 c1 c2 d1 d2
    injection h with h; subst h
    refine ⟨by kernel_rfl, fun b => [], Eq.mp (V_impl_meet a1 a2 b1 b2 c1 c2 d1 d2) ?_⟩
    simp only [true_and, and_true, implies_true, and_self, forall_const, true_implies, lenA, lenL, SV.lenOK, Cont.lenOK] at hn hl ⊢
    obtain ⟨va, vb, vc, vd⟩ := hn
    simp only [ilt_t, ilt_f, ile_t, ile_f, ieq_t, ieq_f, bnot_e, band_e, bite_and, bite_or, NLt_e, NLe_e, NNe_e, NIs_e, imax_e, imin_e, irem_e, Bool.not_eq_true', Bool.not_eq_false', Bool.and_eq_true, Bool.or_eq_true, Bool.or_eq_false_iff, Bool.and_eq_false_iff, Cont.pts.injEq, Cont.ints.injEq, Cont.bools.injEq, Cont.ptss.injEq, Cont.intss.injEq, Cont.boolss.injEq, true_and, and_true, implies_true, crW_e va vb vc, crW_e va vb vd, crW_e vc vd va, crW_e vc vd vb, btW_e, Int.sub_zero, imul_sgn, ieq_sgn]
    unfold meetB
    generalize crs (a1, a2) (b1, b2) (c1, c2) = x1 at *
    generalize crs (a1, a2) (b1, b2) (d1, d2) = x2 at *
    generalize crs (c1, c2) (d1, d2) (a1, a2) = x3 at *
    generalize crs (c1, c2) (d1, d2) (b1, b2) = x4 at *
    refine ⟨fun h => by simp [h.1, h.2], fun h => ?_⟩
    have e : (decide (sgn x1 * sgn x2 < 0) && decide (sgn x3 * sgn x4 < 0)) = false := by
      rcases h with h | h <;> simp [h] <;> omega
    rw [e, Bool.false_or]
  · cases h
def g_impl_SelfClear : List AV → Option Sg
  | [.agg [.view (.ints a1), .view (.ints a2), .view (.ints a3)], .s (.view (.ints j))] => some ⟨True, [.s (.bool (scB a1 a2 a3 j))]⟩
  | _ => none
def sig_impl_SelfClear : FuncId → List AV → Option Sg := sigL [(23, g_impl_JointsValid), (47, g_impl_armPoints), (48, g_impl_meet)]
def xs_impl_SelfClear : XS := ⟨xsigL [], ysigL []⟩
theorem sig_impl_SelfClear_ok : SigOK sig_impl_SelfClear := sigL_cons F_impl_JointsValid (sigL_cons F_impl_armPoints (sigL_cons F_impl_meet sigL_nil))
theorem xs_impl_SelfClear_ok : XSigOK xs_impl_SelfClear := ⟨xsigL_nil, ysigL_nil⟩
theorem V_impl_SelfClear (a1 : List Int) (a2 : List Int) (a3 : List Int) (j : List Int) : ((true = true) ∧ ((True) ∧ (True) ∧ True) ∧ (true = true) ∧ ((True) ∧ (True) ∧ ((True)) ∧ (True) ∧ True) ∧ ((bnot (jvB a1 a2 a3 j)) = true → ((true = true) ∧ ((True) ∧ True) ∧ ((false : Bool) = (scB a1 a2 a3 j)) ∧ True)) ∧ ((bnot (jvB a1 a2 a3 j)) = false → ((true = true) ∧ ((True) ∧ (True) ∧ ((jvB a1 a2 a3 j = true)) ∧ (True) ∧ True) ∧ (true = true) ∧ ((True) ∧ (True) ∧ (True) ∧ (True) ∧ True) ∧ ∃ (I1 : List GV → Prop) (μ1 : List GV → Nat), (((true = true) ∧ (((false : Bool) = false) ∧ (((0 : Int) : Int) = (0 : Int)) ∧ (true = true) ∧ (((ilen (apL a1 j (ilen a1 + 1))) : Int) = (ilen (apL a1 j (ilen a1 + 1)))) ∧ (((isub (ilen (apL a1 j (ilen a1 + 1))) (1 : Int)) : Int) = (isub (ilen (apL a1 j (ilen a1 + 1))) (1 : Int))) ∧ (((Cont.ints a1) = (Cont.ints a1)) ∧ ((Cont.ints a2) = (Cont.ints a2)) ∧ ((Cont.ints a3) = (Cont.ints a3)) ∧ True) ∧ ((Cont.ints j) = (Cont.ints j)) ∧ (true = true) ∧ (true = true) ∧ (((Cont.ints a1) = (Cont.ints a1)) ∧ ((Cont.ints a2) = (Cont.ints a2)) ∧ ((Cont.ints a3) = (Cont.ints a3)) ∧ True) ∧ ((Cont.ints j) = (Cont.ints j)) ∧ (((jvB a1 a2 a3 j) : Bool) = (jvB a1 a2 a3 j)) ∧ (((bnot (jvB a1 a2 a3 j)) : Bool) = (bnot (jvB a1 a2 a3 j))) ∧ (true = true) ∧ (((Cont.ints a1) = (Cont.ints a1)) ∧ ((Cont.ints a2) = (Cont.ints a2)) ∧ ((Cont.ints a3) = (Cont.ints a3)) ∧ True) ∧ ((Cont.ints j) = (Cont.ints j)) ∧ True) ∧ (((true = true) ∧ ((Cont.pts (apL a1 j (ilen a1 + 1))) = (Cont.pts (apL a1 j (ilen a1 + 1))))) ∧ (((Cont.ints a1) = (Cont.ints a1)) ∧ ((Cont.ints a2) = (Cont.ints a2)) ∧ ((Cont.ints a3) = (Cont.ints a3)) ∧ True) ∧ True)) ∧ (([GK.int, GK.bool] : List GK) = ([GK.int, GK.bool] : List GK)) ∧ I1 [GV.int (0 : Int), GV.bool false]) ∧ (∀ i1_0 : Int, ∀ b1_1 : Bool, I1 [GV.int i1_0, GV.bool b1_1] → ((true = true) ∧ ((True) ∧ True) ∧ ((ilt i1_0 (isub (ilen (apL a1 j (ilen a1 + 1))) (1 : Int))) = true → ((true = true) ∧ ((True) ∧ (True) ∧ True) ∧ (true = true) ∧ ((True) ∧ (True) ∧ (True) ∧ True) ∧ ∃ (I2 : List GV → Prop) (μ2 : List GV → Nat), (((true = true) ∧ (((b1_1 : Bool) = b1_1) ∧ (((iadd i1_0 (2 : Int)) : Int) = (iadd i1_0 (2 : Int))) ∧ ((i1_0 : Int) = i1_0) ∧ (((iadd i1_0 (2 : Int)) : Int) = (iadd i1_0 (2 : Int))) ∧ ((i1_0 : Int) = i1_0) ∧ ((i1_0 : Int) = i1_0) ∧ (((ilt i1_0 (isub (ilen (apL a1 j (ilen a1 + 1))) (1 : Int))) : Bool) = (ilt i1_0 (isub (ilen (apL a1 j (ilen a1 + 1))) (1 : Int)))) ∧ ((i1_0 : Int) = i1_0) ∧ (true = true) ∧ (((ilen (apL a1 j (ilen a1 + 1))) : Int) = (ilen (apL a1 j (ilen a1 + 1)))) ∧ (((isub (ilen (apL a1 j (ilen a1 + 1))) (1 : Int)) : Int) = (isub (ilen (apL a1 j (ilen a1 + 1))) (1 : Int))) ∧ (((Cont.ints a1) = (Cont.ints a1)) ∧ ((Cont.ints a2) = (Cont.ints a2)) ∧ ((Cont.ints a3) = (Cont.ints a3)) ∧ True) ∧ ((Cont.ints j) = (Cont.ints j)) ∧ (true = true) ∧ (true = true) ∧ (((Cont.ints a1) = (Cont.ints a1)) ∧ ((Cont.ints a2) = (Cont.ints a2)) ∧ ((Cont.ints a3) = (Cont.ints a3)) ∧ True) ∧ ((Cont.ints j) = (Cont.ints j)) ∧ (((jvB a1 a2 a3 j) : Bool) = (jvB a1 a2 a3 j)) ∧ (((bnot (jvB a1 a2 a3 j)) : Bool) = (bnot (jvB a1 a2 a3 j))) ∧ (true = true) ∧ (((Cont.ints a1) = (Cont.ints a1)) ∧ ((Cont.ints a2) = (Cont.ints a2)) ∧ ((Cont.ints a3) = (Cont.ints a3)) ∧ True) ∧ ((Cont.ints j) = (Cont.ints j)) ∧ True) ∧ (((true = true) ∧ ((Cont.pts (apL a1 j (ilen a1 + 1))) = (Cont.pts (apL a1 j (ilen a1 + 1))))) ∧ (((Cont.ints a1) = (Cont.ints a1)) ∧ ((Cont.ints a2) = (Cont.ints a2)) ∧ ((Cont.ints a3) = (Cont.ints a3)) ∧ True) ∧ True)) ∧ (([GK.int, GK.bool] : List GK) = ([GK.int, GK.bool] : List GK)) ∧ I2 [GV.int (iadd i1_0 (2 : Int)), GV.bool b1_1]) ∧ (∀ i2_0 : Int, ∀ b2_1 : Bool, I2 [GV.int i2_0, GV.bool b2_1] → ((true = true) ∧ ((True) ∧ (True) ∧ (True) ∧ (True) ∧ (True) ∧ True) ∧ ((ilt i2_0 (isub (ilen (apL a1 j (ilen a1 + 1))) (1 : Int))) = true → ((true = true) ∧ ((True) ∧ (True) ∧ (NLe 0 i1_0 ∧ NLt i1_0 (ilen (apL a1 j (ilen a1 + 1)))) ∧ (NLt i1_0 (ilen (apL a1 j (ilen a1 + 1)))) ∧ (True) ∧ (True) ∧ (True) ∧ (NLe 0 (iadd i1_0 (1 : Int)) ∧ NLt (iadd i1_0 (1 : Int)) (ilen (apL a1 j (ilen a1 + 1)))) ∧ (NLt (iadd i1_0 (1 : Int)) (ilen (apL a1 j (ilen a1 + 1)))) ∧ (True) ∧ (True) ∧ (NLe 0 i2_0 ∧ NLt i2_0 (ilen (apL a1 j (ilen a1 + 1)))) ∧ (NLt i2_0 (ilen (apL a1 j (ilen a1 + 1)))) ∧ (True) ∧ (True) ∧ (True) ∧ (NLe 0 (iadd i2_0 (1 : Int)) ∧ NLt (iadd i2_0 (1 : Int)) (ilen (apL a1 j (ilen a1 + 1)))) ∧ (NLt (iadd i2_0 (1 : Int)) (ilen (apL a1 j (ilen a1 + 1)))) ∧ ((vB (getx (apL a1 j (ilen a1 + 1)) i1_0) (gety (apL a1 j (ilen a1 + 1)) i1_0) = true ∧ vB (getx (apL a1 j (ilen a1 + 1)) (iadd i1_0 (1 : Int))) (gety (apL a1 j (ilen a1 + 1)) (iadd i1_0 (1 : Int))) = true ∧ vB (getx (apL a1 j (ilen a1 + 1)) i2_0) (gety (apL a1 j (ilen a1 + 1)) i2_0) = true ∧ vB (getx (apL a1 j (ilen a1 + 1)) (iadd i2_0 (1 : Int))) (gety (apL a1 j (ilen a1 + 1)) (iadd i2_0 (1 : Int))) = true)) ∧ True) ∧ ((meetB ((getx (apL a1 j (ilen a1 + 1)) i1_0), (gety (apL a1 j (ilen a1 + 1)) i1_0)) ((getx (apL a1 j (ilen a1 + 1)) (iadd i1_0 (1 : Int))), (gety (apL a1 j (ilen a1 + 1)) (iadd i1_0 (1 : Int)))) ((getx (apL a1 j (ilen a1 + 1)) i2_0), (gety (apL a1 j (ilen a1 + 1)) i2_0)) ((getx (apL a1 j (ilen a1 + 1)) (iadd i2_0 (1 : Int))), (gety (apL a1 j (ilen a1 + 1)) (iadd i2_0 (1 : Int))))) = true → ((true = true) ∧ ((True) ∧ True) ∧ ((false : Bool) = (scB a1 a2 a3 j)) ∧ True)) ∧ ((meetB ((getx (apL a1 j (ilen a1 + 1)) i1_0), (gety (apL a1 j (ilen a1 + 1)) i1_0)) ((getx (apL a1 j (ilen a1 + 1)) (iadd i1_0 (1 : Int))), (gety (apL a1 j (ilen a1 + 1)) (iadd i1_0 (1 : Int)))) ((getx (apL a1 j (ilen a1 + 1)) i2_0), (gety (apL a1 j (ilen a1 + 1)) i2_0)) ((getx (apL a1 j (ilen a1 + 1)) (iadd i2_0 (1 : Int))), (gety (apL a1 j (ilen a1 + 1)) (iadd i2_0 (1 : Int))))) = false → ((true = true) ∧ ((True) ∧ (True) ∧ (True) ∧ True) ∧ ((true = true) ∧ (((b2_1 : Bool) = b2_1) ∧ (((iadd i2_0 (1 : Int)) : Int) = (iadd i2_0 (1 : Int))) ∧ ((i1_0 : Int) = i1_0) ∧ (((iadd i1_0 (2 : Int)) : Int) = (iadd i1_0 (2 : Int))) ∧ ((i1_0 : Int) = i1_0) ∧ ((i1_0 : Int) = i1_0) ∧ (((ilt i1_0 (isub (ilen (apL a1 j (ilen a1 + 1))) (1 : Int))) : Bool) = (ilt i1_0 (isub (ilen (apL a1 j (ilen a1 + 1))) (1 : Int)))) ∧ ((i1_0 : Int) = i1_0) ∧ (true = true) ∧ (((ilen (apL a1 j (ilen a1 + 1))) : Int) = (ilen (apL a1 j (ilen a1 + 1)))) ∧ (((isub (ilen (apL a1 j (ilen a1 + 1))) (1 : Int)) : Int) = (isub (ilen (apL a1 j (ilen a1 + 1))) (1 : Int))) ∧ (((Cont.ints a1) = (Cont.ints a1)) ∧ ((Cont.ints a2) = (Cont.ints a2)) ∧ ((Cont.ints a3) = (Cont.ints a3)) ∧ True) ∧ ((Cont.ints j) = (Cont.ints j)) ∧ (true = true) ∧ (true = true) ∧ (((Cont.ints a1) = (Cont.ints a1)) ∧ ((Cont.ints a2) = (Cont.ints a2)) ∧ ((Cont.ints a3) = (Cont.ints a3)) ∧ True) ∧ ((Cont.ints j) = (Cont.ints j)) ∧ (((jvB a1 a2 a3 j) : Bool) = (jvB a1 a2 a3 j)) ∧ (((bnot (jvB a1 a2 a3 j)) : Bool) = (bnot (jvB a1 a2 a3 j))) ∧ (true = true) ∧ (((Cont.ints a1) = (Cont.ints a1)) ∧ ((Cont.ints a2) = (Cont.ints a2)) ∧ ((Cont.ints a3) = (Cont.ints a3)) ∧ True) ∧ ((Cont.ints j) = (Cont.ints j)) ∧ True) ∧ (((true = true) ∧ ((Cont.pts (apL a1 j (ilen a1 + 1))) = (Cont.pts (apL a1 j (ilen a1 + 1))))) ∧ (((Cont.ints a1) = (Cont.ints a1)) ∧ ((Cont.ints a2) = (Cont.ints a2)) ∧ ((Cont.ints a3) = (Cont.ints a3)) ∧ True) ∧ True)) ∧ ((([GK.int, GK.bool] : List GK) = ([GK.int, GK.bool] : List GK)) ∧ I2 [GV.int (iadd i2_0 (1 : Int)), GV.bool b2_1] ∧ μ2 [GV.int (iadd i2_0 (1 : Int)), GV.bool b2_1] < μ2 [GV.int i2_0, GV.bool b2_1]))))) ∧ ((ilt i2_0 (isub (ilen (apL a1 j (ilen a1 + 1))) (1 : Int))) = false → ((true = true) ∧ ((True) ∧ (True) ∧ True) ∧ ((true = true) ∧ (((b2_1 : Bool) = b2_1) ∧ (((iadd i1_0 (1 : Int)) : Int) = (iadd i1_0 (1 : Int))) ∧ (true = true) ∧ (((ilen (apL a1 j (ilen a1 + 1))) : Int) = (ilen (apL a1 j (ilen a1 + 1)))) ∧ (((isub (ilen (apL a1 j (ilen a1 + 1))) (1 : Int)) : Int) = (isub (ilen (apL a1 j (ilen a1 + 1))) (1 : Int))) ∧ (((Cont.ints a1) = (Cont.ints a1)) ∧ ((Cont.ints a2) = (Cont.ints a2)) ∧ ((Cont.ints a3) = (Cont.ints a3)) ∧ True) ∧ ((Cont.ints j) = (Cont.ints j)) ∧ (true = true) ∧ (true = true) ∧ (((Cont.ints a1) = (Cont.ints a1)) ∧ ((Cont.ints a2) = (Cont.ints a2)) ∧ ((Cont.ints a3) = (Cont.ints a3)) ∧ True) ∧ ((Cont.ints j) = (Cont.ints j)) ∧ (((jvB a1 a2 a3 j) : Bool) = (jvB a1 a2 a3 j)) ∧ (((bnot (jvB a1 a2 a3 j)) : Bool) = (bnot (jvB a1 a2 a3 j))) ∧ (true = true) ∧ (((Cont.ints a1) = (Cont.ints a1)) ∧ ((Cont.ints a2) = (Cont.ints a2)) ∧ ((Cont.ints a3) = (Cont.ints a3)) ∧ True) ∧ ((Cont.ints j) = (Cont.ints j)) ∧ True) ∧ (((true = true) ∧ ((Cont.pts (apL a1 j (ilen a1 + 1))) = (Cont.pts (apL a1 j (ilen a1 + 1))))) ∧ (((Cont.ints a1) = (Cont.ints a1)) ∧ ((Cont.ints a2) = (Cont.ints a2)) ∧ ((Cont.ints a3) = (Cont.ints a3)) ∧ True) ∧ True)) ∧ ((([GK.int, GK.bool] : List GK) = ([GK.int, GK.bool] : List GK)) ∧ I1 [GV.int (iadd i1_0 (1 : Int)), GV.bool b2_1] ∧ μ1 [GV.int (iadd i1_0 (1 : Int)), GV.bool b2_1] < μ1 [GV.int i1_0, GV.bool b1_1]))))))) ∧ ((ilt i1_0 (isub (ilen (apL a1 j (ilen a1 + 1))) (1 : Int))) = false → ((true = true) ∧ ((True) ∧ True) ∧ ((true : Bool) = (scB a1 a2 a3 j)) ∧ True))))))) = ev sig_impl_SelfClear xs_impl_SelfClear Tryd.f19.ntmps (fun b => if b == 0 then [.v 18, .v 4] else if b == 2 then [.v 7, .v 4] else []) (codeOf Tryd.f19) 0 (initS [.agg [.view (.ints a1), .view (.ints a2), .view (.ints a3)], .s (.view (.ints j))]) (retK Tryd.f19.results.toList [.s (.bool (scB a1 a2 a3 j))]) := by kernel_rfl
set_option maxHeartbeats 400000 in
theorem F_impl_SelfClear : FunOK 19 g_impl_SelfClear := by
  refine fun_F (by kernel_rfl) Tryd.func19 rfl (by kernel_rfl) sig_impl_SelfClear_ok xs_impl_SelfClear_ok ?_
  intro avs sg h hn hl
  unfold g_impl_SelfClear at h
  split at h
  · rename_i a1 a2 a3 j
    injection h with h; subst h
    refine ⟨by kernel_rfl, fun b => if b == 0 then [.v 18, .v 4] else if b == 2 then [.v 7, .v 4] else [], Eq.mp (V_impl_SelfClear a1 a2 a3 j) ?_⟩
    simp only [true_and, and_true, implies_true, and_self, forall_const, true_implies, lenA, lenL, SV.lenOK, Cont.lenOK] at hn hl ⊢
    simp only [ilt_t, ilt_f, ile_t, ile_f, ieq_t, ieq_f, bnot_e, band_e, bite_and, bite_or, NLt_e, NLe_e, NNe_e, NIs_e, imax_e, imin_e, irem_e, Bool.not_eq_true', Bool.not_eq_false', Bool.and_eq_true, Bool.or_eq_true, Bool.or_eq_false_iff, Bool.and_eq_false_iff, Cont.pts.injEq, Cont.ints.injEq, Cont.bools.injEq, Cont.ptss.injEq, Cont.intss.injEq, Cont.boolss.injEq, true_and, and_true, implies_true]
    refine ⟨fun h => by unfold scB; simp [h], fun hj => ⟨hj, ?_⟩⟩
    obtain ⟨ha, hjl, hl4, hlk, hjk⟩ := jv_p hj
    have hv := fun (k : Int) (h0 : 0 ≤ k) (h1 : k ≤ ilen a1) => jv_vB hj h0 h1
    have hlen : ilen (apL a1 j (ilen a1 + 1)) = ilen a1 + 1 := apL_len (by omega)
    have hg : ∀ i, 0 ≤ i → i ≤ ilen a1 → getx (apL a1 j (ilen a1 + 1)) i = apX a1 j i ∧ gety (apL a1 j (ilen a1 + 1)) i = apY a1 j i := fun i h0 h1 => apL_get h0 (by omega)
    rw [hlen]
    generalize apL a1 j (ilen a1 + 1) = P at *
    have es : isub (ilen a1 + 1) 1 = ilen a1 := by rw [isub_e (by omega) (by omega)]; omega
    rw [es]
    refine ⟨fun | [.int i, .bool _] => 0 ≤ i ∧ i ≤ ilen a1 ∧ (∀ a, 0 ≤ a → a < i → allN (ilen a1) (scE a1 j a) = true) | _ => False, fun | .int i :: _ => (ilen a1 - i).toNat | _ => 0, ⟨by omega, by omega, fun a h0 h1 => by omega⟩, ?_⟩
    rintro i b ⟨i0, i1, hi⟩
    have e1 : iadd i 1 = i + 1 := iadd_e (by omega) (by omega)
    have e2 : iadd i 2 = i + 2 := iadd_e (by omega) (by omega)
    rw [e1, e2]
    refine ⟨fun hc => ?_, fun hc => ?_⟩
    · refine ⟨fun | [.int k, .bool _] => i + 2 ≤ k ∧ k ≤ ilen a1 + 1 ∧ (∀ m, 0 ≤ m → m < k → scE a1 j i m = true) | _ => False, fun | .int k :: _ => (ilen a1 + 1 - k).toNat | _ => 0, ⟨by omega, by omega, fun m h0 h1 => by unfold scE; simp; omega⟩, ?_⟩
      rintro k b2 ⟨k0, k1, hk⟩
      have e3 : iadd k 1 = k + 1 := iadd_e (by omega) (by omega)
      rw [e3]
      refine ⟨fun hc2 => ?_, fun hc2 => ?_⟩
      · obtain ⟨x1, y1⟩ := hg i (by omega) (by omega)
        obtain ⟨x2, y2⟩ := hg (i + 1) (by omega) (by omega)
        obtain ⟨x3, y3⟩ := hg k (by omega) (by omega)
        obtain ⟨x4, y4⟩ := hg (k + 1) (by omega) (by omega)
        rw [x1, y1, x2, y2, x3, y3, x4, y4]
        refine ⟨⟨⟨by omega, by omega⟩, by omega, ⟨by omega, by omega⟩, by omega, ⟨by omega, by omega⟩, by omega, ⟨by omega, by omega⟩, by omega, hv _ (by omega) (by omega), hv _ (by omega) (by omega), hv _ (by omega) (by omega), hv _ (by omega) (by omega)⟩, fun hm => ?_, fun hm => ?_⟩
        · have hE : scE a1 j i k = false := by unfold scE segM; rw [hm]; simp; omega
          unfold scB
          rw [allN_no i i0 (by omega) (allN_no k (by omega) (by omega) hE)]; simp
        · have hE : scE a1 j i k = true := by unfold scE segM; rw [hm]; simp
          exact ⟨⟨by omega, by omega, fun m m0 m1 => by
            by_cases h : m = k
            · rw [h]; exact hE
            · exact hk m m0 (by omega)⟩, by show (ilen a1 + 1 - (k + 1)).toNat < (ilen a1 + 1 - k).toNat; omega⟩
      · exact ⟨⟨by omega, by omega, fun a h0 h1 => by
          by_cases h : a = i
          · rw [h]; exact allN_mk fun m m0 m1 => hk m m0 (by omega)
          · exact hi a h0 (by omega)⟩, by show (ilen a1 - (i + 1)).toNat < (ilen a1 - i).toNat; omega⟩
    · unfold scB
      rw [hj, allN_mk fun a h0 h1 => hi a h0 (by omega)]; rfl
  · cases h
def g_spec_JointsValid : List AV → Option Sg
  | [.agg [.view (.ints a1), .view (.ints a2), .view (.ints a3)], .s (.view (.ints j))] => some ⟨True, [.s (.bool (jvB a1 a2 a3 j))]⟩
  | _ => none
def sig_spec_JointsValid : FuncId → List AV → Option Sg := sigL [(45, g_spec_ArmValid), (51, g_spec_l1In)]
def xs_spec_JointsValid : XS := ⟨xsigL [], ysigL []⟩
theorem sig_spec_JointsValid_ok : SigOK sig_spec_JointsValid := sigL_cons F_spec_ArmValid (sigL_cons F_spec_l1In sigL_nil)
theorem xs_spec_JointsValid_ok : XSigOK xs_spec_JointsValid := ⟨xsigL_nil, ysigL_nil⟩
theorem V_spec_JointsValid (a1 : List Int) (a2 : List Int) (a3 : List Int) (j : List Int) : ((true = true) ∧ ((True) ∧ (True) ∧ True) ∧ (true = true) ∧ ((True) ∧ ((True)) ∧ (True) ∧ (True) ∧ (NIs (bnot (armB a1 a2 a3)) false → True) ∧ (NIs (bnot (armB a1 a2 a3)) false → True) ∧ (NIs (bnot (armB a1 a2 a3)) false → True) ∧ (NIs (bnot (armB a1 a2 a3)) false → True) ∧ (NIs (bnot (armB a1 a2 a3)) false → True) ∧ (NIs (bnot (armB a1 a2 a3)) false → True) ∧ (True) ∧ True) ∧ ((bite (bnot (armB a1 a2 a3)) true (bnot (ieq (ilen j) (ilen a1)))) = true → ((true = true) ∧ ((True) ∧ True) ∧ ((false : Bool) = (jvB a1 a2 a3 j)) ∧ True)) ∧ ((bite (bnot (armB a1 a2 a3)) true (bnot (ieq (ilen j) (ilen a1)))) = false → ((true = true) ∧ ((True) ∧ True) ∧ ∃ (I1 : List GV → Prop) (μ1 : List GV → Nat), (((true = true) ∧ (((false : Bool) = false) ∧ (((0 : Int) : Int) = (0 : Int)) ∧ (((Cont.ints a1) = (Cont.ints a1)) ∧ ((Cont.ints a2) = (Cont.ints a2)) ∧ ((Cont.ints a3) = (Cont.ints a3)) ∧ True) ∧ (((armB a1 a2 a3) : Bool) = (armB a1 a2 a3)) ∧ (((bnot (armB a1 a2 a3)) : Bool) = (bnot (armB a1 a2 a3))) ∧ (((bnot (armB a1 a2 a3)) : Bool) = (bnot (armB a1 a2 a3))) ∧ (((bite (bnot (armB a1 a2 a3)) true (bnot (ieq (ilen j) (ilen a1)))) : Bool) = (bite (bnot (armB a1 a2 a3)) true (bnot (ieq (ilen j) (ilen a1))))) ∧ (true = true) ∧ (((Cont.ints a1) = (Cont.ints a1)) ∧ ((Cont.ints a2) = (Cont.ints a2)) ∧ ((Cont.ints a3) = (Cont.ints a3)) ∧ True) ∧ ((Cont.ints j) = (Cont.ints j)) ∧ True) ∧ ((((Cont.ints a1) = (Cont.ints a1)) ∧ ((Cont.ints a2) = (Cont.ints a2)) ∧ ((Cont.ints a3) = (Cont.ints a3)) ∧ True) ∧ True)) ∧ (([GK.int, GK.bool] : List GK) = ([GK.int, GK.bool] : List GK)) ∧ I1 [GV.int (0 : Int), GV.bool false]) ∧ (∀ i1_0 : Int, ∀ b1_1 : Bool, I1 [GV.int i1_0, GV.bool b1_1] → ((true = true) ∧ ((True) ∧ (True) ∧ (True) ∧ (True) ∧ True) ∧ ((ilt i1_0 (ilen j)) = true → ((true = true) ∧ ((True) ∧ (True) ∧ (NLe 0 i1_0 ∧ NLt i1_0 (ilen j)) ∧ (True) ∧ (True) ∧ (True) ∧ (True) ∧ (NLe 0 i1_0 ∧ NLt i1_0 (ilen a2)) ∧ (True) ∧ (True) ∧ (True) ∧ (True) ∧ (NLe 0 i1_0 ∧ NLt i1_0 (ilen a3)) ∧ (True) ∧ ((True)) ∧ (True) ∧ True) ∧ ((bnot (inB (geti j i1_0) (geti a2 i1_0) (geti a3 i1_0))) = true → ((true = true) ∧ ((True) ∧ True) ∧ ((false : Bool) = (jvB a1 a2 a3 j)) ∧ True)) ∧ ((bnot (inB (geti j i1_0) (geti a2 i1_0) (geti a3 i1_0))) = false → ((true = true) ∧ ((True) ∧ (True) ∧ (True) ∧ True) ∧ ((true = true) ∧ (((b1_1 : Bool) = b1_1) ∧ (((iadd i1_0 (1 : Int)) : Int) = (iadd i1_0 (1 : Int))) ∧ (((Cont.ints a1) = (Cont.ints a1)) ∧ ((Cont.ints a2) = (Cont.ints a2)) ∧ ((Cont.ints a3) = (Cont.ints a3)) ∧ True) ∧ (((armB a1 a2 a3) : Bool) = (armB a1 a2 a3)) ∧ (((bnot (armB a1 a2 a3)) : Bool) = (bnot (armB a1 a2 a3))) ∧ (((bnot (armB a1 a2 a3)) : Bool) = (bnot (armB a1 a2 a3))) ∧ (((bite (bnot (armB a1 a2 a3)) true (bnot (ieq (ilen j) (ilen a1)))) : Bool) = (bite (bnot (armB a1 a2 a3)) true (bnot (ieq (ilen j) (ilen a1))))) ∧ (true = true) ∧ (((Cont.ints a1) = (Cont.ints a1)) ∧ ((Cont.ints a2) = (Cont.ints a2)) ∧ ((Cont.ints a3) = (Cont.ints a3)) ∧ True) ∧ ((Cont.ints j) = (Cont.ints j)) ∧ True) ∧ ((((Cont.ints a1) = (Cont.ints a1)) ∧ ((Cont.ints a2) = (Cont.ints a2)) ∧ ((Cont.ints a3) = (Cont.ints a3)) ∧ True) ∧ True)) ∧ ((([GK.int, GK.bool] : List GK) = ([GK.int, GK.bool] : List GK)) ∧ I1 [GV.int (iadd i1_0 (1 : Int)), GV.bool b1_1] ∧ μ1 [GV.int (iadd i1_0 (1 : Int)), GV.bool b1_1] < μ1 [GV.int i1_0, GV.bool b1_1]))))) ∧ ((ilt i1_0 (ilen j)) = false → ((true = true) ∧ ((True) ∧ True) ∧ ((true : Bool) = (jvB a1 a2 a3 j)) ∧ True))))))) = ev sig_spec_JointsValid xs_spec_JointsValid Tryd.f21.ntmps (fun b => if b == 0 then [.v 5, .v 4] else []) (codeOf Tryd.f21) 0 (initS [.agg [.view (.ints a1), .view (.ints a2), .view (.ints a3)], .s (.view (.ints j))]) (retK Tryd.f21.results.toList [.s (.bool (jvB a1 a2 a3 j))]) := by kernel_rfl
set_option maxHeartbeats 400000 in
theorem F_spec_JointsValid : FunOK 21 g_spec_JointsValid := by
  refine fun_F (by kernel_rfl) Tryd.func21 rfl (by kernel_rfl) sig_spec_JointsValid_ok xs_spec_JointsValid_ok ?_
  intro avs sg h hn hl
  unfold g_spec_JointsValid at h
  split at h
  · rename_i a1 a2 a3 j
    injection h with h; subst h
    refine ⟨by kernel_rfl, fun b => if b == 0 then [.v 5, .v 4] else [], Eq.mp (V_spec_JointsValid a1 a2 a3 j) ?_⟩
    simp only [true_and, and_true, implies_true, and_self, forall_const, true_implies, lenA, lenL, SV.lenOK, Cont.lenOK] at hn hl ⊢
    have h0 := ilen_0 j
    simp only [ilt_t, ilt_f, ile_t, ile_f, ieq_t, ieq_f, bnot_e, band_e, bite_and, bite_or, NLt_e, NLe_e, NNe_e, NIs_e, imax_e, imin_e, irem_e, Bool.not_eq_true', Bool.not_eq_false', Bool.and_eq_true, Bool.or_eq_true, Bool.or_eq_false_iff, Bool.and_eq_false_iff, Cont.pts.injEq, Cont.ints.injEq, Cont.bools.injEq, Cont.ptss.injEq, Cont.intss.injEq, Cont.boolss.injEq, true_and, and_true, implies_true]
    refine ⟨fun h => ?_, fun h => ?_⟩
    · unfold jvB; rcases h with h | h <;> simp [h]
    obtain ⟨ha, hl1⟩ := h
    obtain ⟨l2, l3⟩ := armB_len ha
    refine ⟨fun | .int k :: _ => 0 ≤ k ∧ k ≤ ilen j ∧ (∀ i, 0 ≤ i → i < k → inB (geti j i) (geti a2 i) (geti a3 i) = true) | _ => False, fun | .int k :: _ => (ilen j - k).toNat | _ => 0, ⟨by omega, by omega, fun i h0 h1 => by omega⟩, ?_⟩
    rintro k XX ⟨hk0, hk1, hk⟩
    refine ⟨fun hc => ⟨⟨⟨hk0, hc⟩, ⟨hk0, by omega⟩, hk0, by omega⟩, fun hv => ?_, fun hv => ?_⟩, fun hc => ?_⟩
    · unfold jvB; rw [allN_no k hk0 hc hv]; simp
    · rw [iadd_1 hk0 hc hl.2]
      exact ⟨⟨by omega, by omega, upTo hk hv⟩, by show (ilen j - (k + 1)).toNat < (ilen j - k).toNat; omega⟩
    · unfold jvB; rw [ha, allN_mk fun i j0 j1 => hk i j0 (by omega)]; simp [hl1]
  · cases h
def g_spec_Degrees : List AV → Option Sg
  | [.s (.int d)] => some ⟨True, [.s (.int (d % 360))]⟩
  | _ => none
def sig_spec_Degrees : FuncId → List AV → Option Sg := sigL []
def xs_spec_Degrees : XS := ⟨xsigL [], ysigL []⟩
theorem sig_spec_Degrees_ok : SigOK sig_spec_Degrees := sigL_nil
theorem xs_spec_Degrees_ok : XSigOK xs_spec_Degrees := ⟨xsigL_nil, ysigL_nil⟩
theorem V_spec_Degrees (d : Int) : ((true = true) ∧ ((True) ∧ True) ∧ (true = true) ∧ ((True) ∧ (NNe (360 : Int) 0) ∧ (True) ∧ True) ∧ (true = true) ∧ ((True) ∧ (True) ∧ True) ∧ ((ilt (irem d (360 : Int)) (0 : Int)) = true → ((true = true) ∧ ((True) ∧ (True) ∧ (True) ∧ True) ∧ (true = true) ∧ ((True) ∧ (True) ∧ True) ∧ (((iadd (irem d (360 : Int)) (360 : Int)) : Int) = (d % 360)) ∧ True)) ∧ ((ilt (irem d (360 : Int)) (0 : Int)) = false → ((true = true) ∧ ((True) ∧ (True) ∧ True) ∧ (((irem d (360 : Int)) : Int) = (d % 360)) ∧ True))) = ev sig_spec_Degrees xs_spec_Degrees Tryd.f89.ntmps (fun b => []) (codeOf Tryd.f89) 0 (initS [.s (.int d)]) (retK Tryd.f89.results.toList [.s (.int (d % 360))]) := by kernel_rfl
set_option maxHeartbeats 400000 in
theorem F_spec_Degrees : FunOK 89 g_spec_Degrees := by
  refine fun_F (by kernel_rfl) Tryd.func89 rfl (by kernel_rfl) sig_spec_Degrees_ok xs_spec_Degrees_ok ?_
  intro avs sg h hn hl
  unfold g_spec_Degrees at h
  split at h
  · rename_i d
    injection h with h; subst h
    refine ⟨by kernel_rfl, fun b => [], Eq.mp (V_spec_Degrees d) ?_⟩
    simp only [true_and, and_true, implies_true, and_self, forall_const, true_implies, lenA, lenL, SV.lenOK, Cont.lenOK] at hn hl ⊢
    simp only [ilt_t, ilt_f, ile_t, ile_f, ieq_t, ieq_f, bnot_e, band_e, bite_and, bite_or, NLt_e, NLe_e, NNe_e, NIs_e, imax_e, imin_e, irem_e, Bool.not_eq_true', Bool.not_eq_false', Bool.and_eq_true, Bool.or_eq_true, Bool.or_eq_false_iff, Bool.and_eq_false_iff, Cont.pts.injEq, Cont.ints.injEq, Cont.bools.injEq, Cont.ptss.injEq, Cont.intss.injEq, Cont.boolss.injEq, true_and, and_true, implies_true]
    obtain ⟨h1, h2, h3⟩ := tmod_emod d
    refine ⟨by omega, fun h => ?_, fun h => ?_⟩
    · rw [iadd_e (by omega) (by omega)]; exact h2 h
    · exact h3 h
  · cases h
def g_spec_Cosine : List AV → Option Sg
  | [.s (.int d)] => some ⟨True, [.s (.int (cosF d))]⟩
  | _ => none
def sig_spec_Cosine : FuncId → List AV → Option Sg := sigL [(89, g_spec_Degrees), (82, g_spec_Sine)]
def xs_spec_Cosine : XS := ⟨xsigL [], ysigL []⟩
theorem sig_spec_Cosine_ok : SigOK sig_spec_Cosine := sigL_cons F_spec_Degrees (sigL_cons F_spec_Sine sigL_nil)
theorem xs_spec_Cosine_ok : XSigOK xs_spec_Cosine := ⟨xsigL_nil, ysigL_nil⟩
theorem V_spec_Cosine (d : Int) : ((true = true) ∧ ((True) ∧ True) ∧ (true = true) ∧ ((True) ∧ ((True)) ∧ (True) ∧ ((True)) ∧ (True) ∧ True) ∧ (((sinF (iadd (d % 360) (90 : Int))) : Int) = (cosF d)) ∧ True) = ev sig_spec_Cosine xs_spec_Cosine Tryd.f83.ntmps (fun b => []) (codeOf Tryd.f83) 0 (initS [.s (.int d)]) (retK Tryd.f83.results.toList [.s (.int (cosF d))]) := by kernel_rfl
set_option maxHeartbeats 400000 in
theorem F_spec_Cosine : FunOK 83 g_spec_Cosine := by
  refine fun_F (by kernel_rfl) Tryd.func83 rfl (by kernel_rfl) sig_spec_Cosine_ok xs_spec_Cosine_ok ?_
  intro avs sg h hn hl
  unfold g_spec_Cosine at h
  split at h
  · rename_i d
    injection h with h; subst h
    refine ⟨by kernel_rfl, fun b => [], Eq.mp (V_spec_Cosine d) ?_⟩
    simp only [true_and, and_true, implies_true, and_self, forall_const, true_implies, lenA, lenL, SV.lenOK, Cont.lenOK] at hn hl ⊢
    try simp only [ilt_t, ilt_f, ile_t, ile_f, ieq_t, ieq_f, bnot_e, band_e, bite_and, bite_or, NLt_e, NLe_e, NNe_e, NIs_e, imax_e, imin_e, irem_e, Bool.not_eq_true', Bool.not_eq_false', Bool.and_eq_true, Bool.or_eq_true, Bool.or_eq_false_iff, Bool.and_eq_false_iff, Cont.pts.injEq, Cont.ints.injEq, Cont.bools.injEq, Cont.ptss.injEq, Cont.intss.injEq, Cont.boolss.injEq, true_and, and_true, implies_true]
    unfold cosF
    rw [iadd_e (by omega) (by omega)]
  · cases h
def g_spec_l1Floor : List AV → Option Sg
  | [.s (.int a), .s (.int b)] => some ⟨1 ≤ b ∧ -9223372036854775807 ≤ a ∧ a ≤ 9223372036854775807, [.s (.int (a / b))]⟩
  | _ => none
def sig_spec_l1Floor : FuncId → List AV → Option Sg := sigL []
def xs_spec_l1Floor : XS := ⟨xsigL [], ysigL []⟩
theorem sig_spec_l1Floor_ok : SigOK sig_spec_l1Floor := sigL_nil
theorem xs_spec_l1Floor_ok : XSigOK xs_spec_l1Floor := ⟨xsigL_nil, ysigL_nil⟩
theorem V_spec_l1Floor (a : Int) (b : Int) : ((true = true) ∧ ((True) ∧ True) ∧ (true = true) ∧ ((True) ∧ (True) ∧ (NNe b 0) ∧ (True) ∧ True) ∧ (true = true) ∧ ((True) ∧ (True) ∧ (NNe b 0) ∧ (True) ∧ True) ∧ ((ilt (irem a b) (0 : Int)) = true → ((true = true) ∧ ((True) ∧ (True) ∧ (True) ∧ True) ∧ (true = true) ∧ ((True) ∧ (True) ∧ True) ∧ (((isub (iquo a b) (1 : Int)) : Int) = (a / b)) ∧ True)) ∧ ((ilt (irem a b) (0 : Int)) = false → ((true = true) ∧ ((True) ∧ (True) ∧ True) ∧ (((iquo a b) : Int) = (a / b)) ∧ True))) = ev sig_spec_l1Floor xs_spec_l1Floor Tryd.f91.ntmps (fun b => []) (codeOf Tryd.f91) 0 (initS [.s (.int a), .s (.int b)]) (retK Tryd.f91.results.toList [.s (.int (a / b))]) := by kernel_rfl
set_option maxHeartbeats 400000 in
theorem F_spec_l1Floor : FunOK 91 g_spec_l1Floor := by
  refine fun_F (by kernel_rfl) Tryd.func91 rfl (by kernel_rfl) sig_spec_l1Floor_ok xs_spec_l1Floor_ok ?_
  intro avs sg h hn hl
  unfold g_spec_l1Floor at h
  split at h
  · rename_i a b
    injection h with h; subst h
    refine ⟨by kernel_rfl, fun b => [], Eq.mp (V_spec_l1Floor a b) ?_⟩
    simp only [true_and, and_true, implies_true, and_self, forall_const, true_implies, lenA, lenL, SV.lenOK, Cont.lenOK] at hn hl ⊢
    obtain ⟨n1, n2, n3⟩ := hn
    obtain ⟨q1, q2⟩ := tdiv_bd n1 n2 n3
    obtain ⟨f1, f2⟩ := floor_e (a := a) n1
    simp only [ilt_t, ilt_f, ile_t, ile_f, ieq_t, ieq_f, bnot_e, band_e, bite_and, bite_or, NLt_e, NLe_e, NNe_e, NIs_e, imax_e, imin_e, irem_e, Bool.not_eq_true', Bool.not_eq_false', Bool.and_eq_true, Bool.or_eq_true, Bool.or_eq_false_iff, Bool.and_eq_false_iff, Cont.pts.injEq, Cont.ints.injEq, Cont.bools.injEq, Cont.ptss.injEq, Cont.intss.injEq, Cont.boolss.injEq, true_and, and_true, implies_true]
    refine ⟨by omega, by omega, fun h => ?_, fun h => ?_⟩
    · rw [q1, q2 h, f1 h]
    · rw [q1, f2 h]
  · cases h
def g_spec_l1Round : List AV → Option Sg
  | [.s (.int a), .s (.int b)] => some ⟨1 ≤ b ∧ b ≤ 1000000 ∧ -1000000000000 ≤ a ∧ a ≤ 1000000000000, [.s (.int ((a + b / 2) / b))]⟩
  | _ => none
def sig_spec_l1Round : FuncId → List AV → Option Sg := sigL [(91, g_spec_l1Floor)]
def xs_spec_l1Round : XS := ⟨xsigL [], ysigL []⟩
theorem sig_spec_l1Round_ok : SigOK sig_spec_l1Round := sigL_cons F_spec_l1Floor sigL_nil
theorem xs_spec_l1Round_ok : XSigOK xs_spec_l1Round := ⟨xsigL_nil, ysigL_nil⟩
theorem V_spec_l1Round (a : Int) (b : Int) : ((true = true) ∧ ((True) ∧ True) ∧ (true = true) ∧ ((True) ∧ (True) ∧ (NNe (2 : Int) 0) ∧ (True) ∧ (True) ∧ ((1 ≤ b ∧ -9223372036854775807 ≤ (iadd a (iquo b (2 : Int))) ∧ (iadd a (iquo b (2 : Int))) ≤ 9223372036854775807)) ∧ (True) ∧ True) ∧ ((((iadd a (iquo b (2 : Int))) / b) : Int) = ((a + b / 2) / b)) ∧ True) = ev sig_spec_l1Round xs_spec_l1Round Tryd.f84.ntmps (fun b => []) (codeOf Tryd.f84) 0 (initS [.s (.int a), .s (.int b)]) (retK Tryd.f84.results.toList [.s (.int ((a + b / 2) / b))]) := by kernel_rfl
set_option maxHeartbeats 400000 in
theorem F_spec_l1Round : FunOK 84 g_spec_l1Round := by
  refine fun_F (by kernel_rfl) Tryd.func84 rfl (by kernel_rfl) sig_spec_l1Round_ok xs_spec_l1Round_ok ?_
  intro avs sg h hn hl
  unfold g_spec_l1Round at h
  split at h
  · rename_i a b
    injection h with h; subst h
    refine ⟨by kernel_rfl, fun b => [], Eq.mp (V_spec_l1Round a b) ?_⟩
    simp only [true_and, and_true, implies_true, and_self, forall_const, true_implies, lenA, lenL, SV.lenOK, Cont.lenOK] at hn hl ⊢
    simp only [ilt_t, ilt_f, ile_t, ile_f, ieq_t, ieq_f, bnot_e, band_e, bite_and, bite_or, NLt_e, NLe_e, NNe_e, NIs_e, imax_e, imin_e, irem_e, Bool.not_eq_true', Bool.not_eq_false', Bool.and_eq_true, Bool.or_eq_true, Bool.or_eq_false_iff, Bool.and_eq_false_iff, Cont.pts.injEq, Cont.ints.injEq, Cont.bools.injEq, Cont.ptss.injEq, Cont.intss.injEq, Cont.boolss.injEq, true_and, and_true, implies_true]
    have e : iquo b 2 = b / 2 := by rw [iquo_e (by omega) (by omega) (by omega), Int.tdiv_eq_ediv_of_nonneg (by omega)]
    rw [e, iadd_e (by omega) (by omega)]
    exact ⟨by omega, rfl⟩
  · cases h
def g_spec_l2Turn : List AV → Option Sg
  | [.agg [.int p1, .int p2], .s (.int d)] => some ⟨vB p1 p2 = true, [.agg [.int (rotX p1 p2 d), .int (rotY p1 p2 d)]]⟩
  | _ => none
def sig_spec_l2Turn : FuncId → List AV → Option Sg := sigL [(82, g_spec_Sine), (83, g_spec_Cosine), (84, g_spec_l1Round)]
def xs_spec_l2Turn : XS := ⟨xsigL [], ysigL []⟩
theorem sig_spec_l2Turn_ok : SigOK sig_spec_l2Turn := sigL_cons F_spec_Sine (sigL_cons F_spec_Cosine (sigL_cons F_spec_l1Round sigL_nil))
theorem xs_spec_l2Turn_ok : XSigOK xs_spec_l2Turn := ⟨xsigL_nil, ysigL_nil⟩
theorem V_spec_l2Turn (p1 : Int) (p2 : Int) (d : Int) : ((true = true) ∧ ((True) ∧ (True) ∧ True) ∧ (true = true) ∧ ((True) ∧ ((True)) ∧ (True) ∧ True) ∧ (true = true) ∧ ((True) ∧ ((True)) ∧ (True) ∧ True) ∧ (true = true) ∧ ((True) ∧ (True) ∧ (True) ∧ (True) ∧ (True) ∧ (True) ∧ (True) ∧ (True) ∧ (True) ∧ ((1 ≤ (4096 : Int) ∧ (4096 : Int) ≤ 1000000 ∧ -1000000000000 ≤ (isub (imul p1 (cosF d)) (imul p2 (sinF d))) ∧ (isub (imul p1 (cosF d)) (imul p2 (sinF d))) ≤ 1000000000000)) ∧ (True) ∧ (True) ∧ (True) ∧ (True) ∧ (True) ∧ (True) ∧ (True) ∧ (True) ∧ (True) ∧ ((1 ≤ (4096 : Int) ∧ (4096 : Int) ≤ 1000000 ∧ -1000000000000 ≤ (iadd (imul p1 (sinF d)) (imul p2 (cosF d))) ∧ (iadd (imul p1 (sinF d)) (imul p2 (cosF d))) ≤ 1000000000000)) ∧ (True) ∧ True) ∧ (True) ∧ ((((((isub (imul p1 (cosF d)) (imul p2 (sinF d))) + (4096 : Int) / 2) / (4096 : Int)) : Int) = (rotX p1 p2 d)) ∧ (((((iadd (imul p1 (sinF d)) (imul p2 (cosF d))) + (4096 : Int) / 2) / (4096 : Int)) : Int) = (rotY p1 p2 d)) ∧ True) ∧ True) = ev sig_spec_l2Turn xs_spec_l2Turn Tryd.f68.ntmps (fun b => []) (codeOf Tryd.f68) 0 (initS [.agg [.int p1, .int p2], .s (.int d)]) (retK Tryd.f68.results.toList [.agg [.int (rotX p1 p2 d), .int (rotY p1 p2 d)]]) := by kernel_rfl
set_option maxHeartbeats 400000 in
theorem F_spec_l2Turn : FunOK 68 g_spec_l2Turn := by
  refine fun_F (by kernel_rfl) Tryd.func68 rfl (by kernel_rfl) sig_spec_l2Turn_ok xs_spec_l2Turn_ok ?_
  intro avs sg h hn hl
  unfold g_spec_l2Turn at h
  split at h
  · rename_i p1 p2 d
    injection h with h; subst h
    refine ⟨by kernel_rfl, fun b => [], Eq.mp (V_spec_l2Turn p1 p2 d) ?_⟩
    simp only [true_and, and_true, implies_true, and_self, forall_const, true_implies, lenA, lenL, SV.lenOK, Cont.lenOK] at hn hl ⊢
    have c := cosF_bd d; have s := sinF_bd d
    have hv := vB_bd hn
    have q1 := mul40 (x := p1) (y := cosF d) (a := 10000) (by omega) (by omega) c
    have q2 := mul40 (x := p2) (y := sinF d) (a := 10000) (by omega) (by omega) s
    have q3 := mul40 (x := p1) (y := sinF d) (a := 10000) (by omega) (by omega) s
    have q4 := mul40 (x := p2) (y := cosF d) (a := 10000) (by omega) (by omega) c
    try simp only [ilt_t, ilt_f, ile_t, ile_f, ieq_t, ieq_f, bnot_e, band_e, bite_and, bite_or, NLt_e, NLe_e, NNe_e, NIs_e, imax_e, imin_e, irem_e, Bool.not_eq_true', Bool.not_eq_false', Bool.and_eq_true, Bool.or_eq_true, Bool.or_eq_false_iff, Bool.and_eq_false_iff, Cont.pts.injEq, Cont.ints.injEq, Cont.bools.injEq, Cont.ptss.injEq, Cont.intss.injEq, Cont.boolss.injEq, true_and, and_true, implies_true]
    rw [imul_e (a := p1) (b := cosF d) (by omega) (by omega), imul_e (a := p2) (b := sinF d) (by omega) (by omega), imul_e (a := p1) (b := sinF d) (by omega) (by omega), imul_e (a := p2) (b := cosF d) (by omega) (by omega), isub_e (by omega) (by omega), iadd_e (by omega) (by omega)]
    exact ⟨⟨⟨by omega, by omega, by omega, by omega⟩, by omega, by omega, by omega, by omega⟩, rfl, rfl⟩
  · cases h
def g_spec_l3Points : List AV → Option Sg
  | [.agg [.view (.ints a1), .view (.ints a2), .view (.ints a3)], .s (.view (.ints j))] => some ⟨jvB a1 a2 a3 j = true, [.nrow 75 (.pts (apL a1 j (ilen a1 + 1)))]⟩
  | _ => none
def sig_spec_l3Points : FuncId → List AV → Option Sg := sigL [(68, g_spec_l2Turn)]
def xs_spec_l3Points : XS := ⟨xsigL [], ysigL []⟩
theorem sig_spec_l3Points_ok : SigOK sig_spec_l3Points := sigL_cons F_spec_l2Turn sigL_nil
theorem xs_spec_l3Points_ok : XSigOK xs_spec_l3Points := ⟨xsigL_nil, ysigL_nil⟩
theorem V_spec_l3Points (a1 : List Int) (a2 : List Int) (a3 : List Int) (j : List Int) : ((true = true) ∧ ((True) ∧ (True) ∧ True) ∧ (true = true) ∧ ((True) ∧ (True) ∧ True) ∧ (True) ∧ (true = true) ∧ ((True) ∧ True) ∧ (true = true) ∧ ((True) ∧ (True) ∧ (True) ∧ True) ∧ (true = true) ∧ ((True) ∧ True) ∧ ∃ (I1 : List GV → Prop) (μ1 : List GV → Nat), (((true = true) ∧ ((((0 : Int) : Int) = (0 : Int)) ∧ (((0 : Int) : Int) = (0 : Int)) ∧ ((((0 : Int) : Int) = (0 : Int)) ∧ (((0 : Int) : Int) = (0 : Int)) ∧ True) ∧ (true = true) ∧ ((((0 : Int) : Int) = (0 : Int)) ∧ (((0 : Int) : Int) = (0 : Int)) ∧ True) ∧ (true = true) ∧ (true = true) ∧ (true = true) ∧ (((Cont.ints a1) = (Cont.ints a1)) ∧ ((Cont.ints a2) = (Cont.ints a2)) ∧ ((Cont.ints a3) = (Cont.ints a3)) ∧ True) ∧ ((Cont.ints j) = (Cont.ints j)) ∧ True) ∧ (((((0 : Int) : Int) = (0 : Int)) ∧ (((0 : Int) : Int) = (0 : Int)) ∧ True) ∧ ((true = true) ∧ ((Cont.pts [((0 : Int), (0 : Int))]) = (Cont.pts [((0 : Int), (0 : Int))]))) ∧ (((Cont.ints a1) = (Cont.ints a1)) ∧ ((Cont.ints a2) = (Cont.ints a2)) ∧ ((Cont.ints a3) = (Cont.ints a3)) ∧ True) ∧ ((true = true) ∧ ((Cont.pts []) = (Cont.pts []))) ∧ True)) ∧ (([GK.int, GK.pts, GK.int, GK.int, GK.int] : List GK) = ([GK.int, GK.pts, GK.int, GK.int, GK.int] : List GK)) ∧ I1 [GV.int (0 : Int), GV.pts [((0 : Int), (0 : Int))], GV.int (0 : Int), GV.int (0 : Int), GV.int (0 : Int)]) ∧ (∀ i1_0 : Int, ∀ l1_1 : List Pt, ∀ i1_2 : Int, ∀ i1_3 : Int, ∀ i1_4 : Int, I1 [GV.int i1_0, GV.pts l1_1, GV.int i1_2, GV.int i1_3, GV.int i1_4] → ((true = true) ∧ ((True) ∧ (True) ∧ (True) ∧ (True) ∧ True) ∧ ((ilt i1_0 (ilen j)) = true → ((true = true) ∧ ((True) ∧ (True) ∧ (True) ∧ (NLe 0 i1_0 ∧ NLt i1_0 (ilen j)) ∧ (True) ∧ (True) ∧ (True) ∧ True) ∧ (true = true) ∧ ((True) ∧ (True) ∧ (True) ∧ (NLe 0 i1_0 ∧ NLt i1_0 (ilen a1)) ∧ (True) ∧ (True) ∧ (True) ∧ ((vB (geti a1 i1_0) (0 : Int) = true)) ∧ (True) ∧ True) ∧ (True) ∧ (true = true) ∧ ((True) ∧ (True) ∧ (True) ∧ (True) ∧ (True) ∧ (True) ∧ (True) ∧ (True) ∧ (True) ∧ (True) ∧ (True) ∧ True) ∧ (True) ∧ (true = true) ∧ ((True) ∧ (True) ∧ (True) ∧ True) ∧ (NLe (ilen l1_1) 1000000000 ∧ NLe (ilen [((iadd i1_3 (rotX (geti a1 i1_0) (0 : Int) (iadd i1_2 (geti j i1_0)))), (iadd i1_4 (rotY (geti a1 i1_0) (0 : Int) (iadd i1_2 (geti j i1_0)))))]) 1000000000) ∧ (True) ∧ (true = true) ∧ ((True) ∧ (True) ∧ (True) ∧ True) ∧ ((true = true) ∧ ((((iadd i1_2 (geti j i1_0)) : Int) = (iadd i1_2 (geti j i1_0))) ∧ (((iadd i1_0 (1 : Int)) : Int) = (iadd i1_0 (1 : Int))) ∧ ((((0 : Int) : Int) = (0 : Int)) ∧ (((0 : Int) : Int) = (0 : Int)) ∧ True) ∧ (true = true) ∧ ((((0 : Int) : Int) = (0 : Int)) ∧ (((0 : Int) : Int) = (0 : Int)) ∧ True) ∧ (true = true) ∧ (true = true) ∧ (true = true) ∧ (((Cont.ints a1) = (Cont.ints a1)) ∧ ((Cont.ints a2) = (Cont.ints a2)) ∧ ((Cont.ints a3) = (Cont.ints a3)) ∧ True) ∧ ((Cont.ints j) = (Cont.ints j)) ∧ True) ∧ (((((iadd i1_3 (rotX (geti a1 i1_0) (0 : Int) (iadd i1_2 (geti j i1_0)))) : Int) = (iadd i1_3 (rotX (geti a1 i1_0) (0 : Int) (iadd i1_2 (geti j i1_0))))) ∧ (((iadd i1_4 (rotY (geti a1 i1_0) (0 : Int) (iadd i1_2 (geti j i1_0)))) : Int) = (iadd i1_4 (rotY (geti a1 i1_0) (0 : Int) (iadd i1_2 (geti j i1_0))))) ∧ True) ∧ ((true = true) ∧ ((Cont.pts (iapp l1_1 [((iadd i1_3 (rotX (geti a1 i1_0) (0 : Int) (iadd i1_2 (geti j i1_0)))), (iadd i1_4 (rotY (geti a1 i1_0) (0 : Int) (iadd i1_2 (geti j i1_0)))))])) = (Cont.pts (iapp l1_1 [((iadd i1_3 (rotX (geti a1 i1_0) (0 : Int) (iadd i1_2 (geti j i1_0)))), (iadd i1_4 (rotY (geti a1 i1_0) (0 : Int) (iadd i1_2 (geti j i1_0)))))])))) ∧ (((Cont.ints a1) = (Cont.ints a1)) ∧ ((Cont.ints a2) = (Cont.ints a2)) ∧ ((Cont.ints a3) = (Cont.ints a3)) ∧ True) ∧ ((true = true) ∧ ((Cont.pts []) = (Cont.pts []))) ∧ True)) ∧ ((([GK.int, GK.pts, GK.int, GK.int, GK.int] : List GK) = ([GK.int, GK.pts, GK.int, GK.int, GK.int] : List GK)) ∧ I1 [GV.int (iadd i1_0 (1 : Int)), GV.pts (iapp l1_1 [((iadd i1_3 (rotX (geti a1 i1_0) (0 : Int) (iadd i1_2 (geti j i1_0)))), (iadd i1_4 (rotY (geti a1 i1_0) (0 : Int) (iadd i1_2 (geti j i1_0)))))]), GV.int (iadd i1_2 (geti j i1_0)), GV.int (iadd i1_3 (rotX (geti a1 i1_0) (0 : Int) (iadd i1_2 (geti j i1_0)))), GV.int (iadd i1_4 (rotY (geti a1 i1_0) (0 : Int) (iadd i1_2 (geti j i1_0))))] ∧ μ1 [GV.int (iadd i1_0 (1 : Int)), GV.pts (iapp l1_1 [((iadd i1_3 (rotX (geti a1 i1_0) (0 : Int) (iadd i1_2 (geti j i1_0)))), (iadd i1_4 (rotY (geti a1 i1_0) (0 : Int) (iadd i1_2 (geti j i1_0)))))]), GV.int (iadd i1_2 (geti j i1_0)), GV.int (iadd i1_3 (rotX (geti a1 i1_0) (0 : Int) (iadd i1_2 (geti j i1_0)))), GV.int (iadd i1_4 (rotY (geti a1 i1_0) (0 : Int) (iadd i1_2 (geti j i1_0))))] < μ1 [GV.int i1_0, GV.pts l1_1, GV.int i1_2, GV.int i1_3, GV.int i1_4]))) ∧ ((ilt i1_0 (ilen j)) = false → ((true = true) ∧ ((True) ∧ (True) ∧ True) ∧ ((true = true) ∧ ((Cont.pts l1_1) = (Cont.pts (apL a1 j (ilen a1 + 1))))) ∧ True))))) = ev sig_spec_l3Points xs_spec_l3Points Tryd.f49.ntmps (fun b => if b == 0 then [.v 8, .b 7, .v 6, .b 5] else []) (codeOf Tryd.f49) 0 (initS [.agg [.view (.ints a1), .view (.ints a2), .view (.ints a3)], .s (.view (.ints j))]) (retK Tryd.f49.results.toList [.nrow 75 (.pts (apL a1 j (ilen a1 + 1)))]) := by kernel_rfl
set_option maxHeartbeats 400000 in
theorem F_spec_l3Points : FunOK 49 g_spec_l3Points := by
  refine fun_F (by kernel_rfl) Tryd.func49 rfl (by kernel_rfl) sig_spec_l3Points_ok xs_spec_l3Points_ok ?_
  intro avs sg h hn hl
  unfold g_spec_l3Points at h
  split at h
  · rename_i a1 a2 a3 j
    injection h with h; subst h
    refine ⟨by kernel_rfl, fun b => if b == 0 then [.v 8, .b 7, .v 6, .b 5] else [], Eq.mp (V_spec_l3Points a1 a2 a3 j) ?_⟩
    simp only [true_and, and_true, implies_true, and_self, forall_const, true_implies, lenA, lenL, SV.lenOK, Cont.lenOK] at hn hl ⊢
    obtain ⟨ha, hjl, hl4, hlk, hjk⟩ := jv_p hn
    simp only [ilt_t, ilt_f, ile_t, ile_f, ieq_t, ieq_f, bnot_e, band_e, bite_and, bite_or, NLt_e, NLe_e, NNe_e, NIs_e, imax_e, imin_e, irem_e, Bool.not_eq_true', Bool.not_eq_false', Bool.and_eq_true, Bool.or_eq_true, Bool.or_eq_false_iff, Bool.and_eq_false_iff, Cont.pts.injEq, Cont.ints.injEq, Cont.bools.injEq, Cont.ptss.injEq, Cont.intss.injEq, Cont.boolss.injEq, true_and, and_true, implies_true]
    refine ⟨fun | [.int k, .pts o, .int d, .int x, .int y] => 0 ≤ k ∧ k ≤ ilen a1 ∧ o = apL a1 j (k + 1) ∧ d = dirK j k ∧ x = apX a1 j k ∧ y = apY a1 j k | _ => False, fun | .int k :: _ => (ilen a1 - k).toNat | _ => 0, ⟨by omega, by omega, rfl, rfl, rfl, rfl⟩, ?_⟩
    rintro k o d x y ⟨k0, k1, rfl, rfl, rfl, rfl⟩
    refine ⟨fun hc => ?_, fun hc => ?_⟩
    · have hk : k < ilen a1 := by omega
      have b1 := jv_bd hn k0 k1
      have b2 := jv_bd hn (k := k + 1) (by omega) (by omega)
      have hL := hlk k k0 hk
      have hJ := hjk k k0 hk
      have hd := dirK_1 (J := j) k0
      have hx := apX_1 (L := a1) (J := j) k0
      have hy := apY_1 (L := a1) (J := j) k0
      have e1 : iadd (dirK j k) (geti j k) = dirK j (k + 1) := by rw [iadd_e (by omega) (by omega), hd]
      rw [e1]
      have e2 : iadd (apX a1 j k) (rotX (geti a1 k) 0 (dirK j (k + 1))) = apX a1 j (k + 1) := by rw [iadd_e (by omega) (by omega), hx]
      have e3 : iadd (apY a1 j k) (rotY (geti a1 k) 0 (dirK j (k + 1))) = apY a1 j (k + 1) := by rw [iadd_e (by omega) (by omega), hy]
      rw [e2, e3, apL_len (by omega), iadd_e (by omega) (by omega)]
      exact ⟨⟨k0, by omega⟩, ⟨⟨k0, by omega⟩, vB_mk (by omega)⟩, ⟨by omega, by rw [ilen_one]; omega⟩, ⟨by omega, by omega, apL_s (by omega), rfl, rfl, rfl⟩, by show (ilen a1 - (k + 1)).toNat < (ilen a1 - k).toNat; omega⟩
    · rw [show k = ilen a1 by omega]
  · cases h
def g_spec_l2Cross : List AV → Option Sg
  | [.agg [.int a1, .int a2], .agg [.int b1, .int b2], .agg [.int c1, .int c2]] => some ⟨True, [.s (.int (crW a1 a2 b1 b2 c1 c2))]⟩
  | _ => none
def sig_spec_l2Cross : FuncId → List AV → Option Sg := sigL []
def xs_spec_l2Cross : XS := ⟨xsigL [], ysigL []⟩
theorem sig_spec_l2Cross_ok : SigOK sig_spec_l2Cross := sigL_nil
theorem xs_spec_l2Cross_ok : XSigOK xs_spec_l2Cross := ⟨xsigL_nil, ysigL_nil⟩
theorem V_spec_l2Cross (a1 : Int) (a2 : Int) (b1 : Int) (b2 : Int) (c1 : Int) (c2 : Int) : ((true = true) ∧ ((True) ∧ (True) ∧ (True) ∧ (True) ∧ True) ∧ (true = true) ∧ ((True) ∧ (True) ∧ (True) ∧ (True) ∧ (True) ∧ (True) ∧ (True) ∧ (True) ∧ (True) ∧ (True) ∧ (True) ∧ (True) ∧ (True) ∧ (True) ∧ (True) ∧ (True) ∧ (True) ∧ (True) ∧ (True) ∧ (True) ∧ (True) ∧ (True) ∧ (True) ∧ (True) ∧ True) ∧ (((isub (imul (isub b1 a1) (isub c2 a2)) (imul (isub b2 a2) (isub c1 a1))) : Int) = (crW a1 a2 b1 b2 c1 c2)) ∧ True) = ev sig_spec_l2Cross xs_spec_l2Cross Tryd.f70.ntmps (fun b => []) (codeOf Tryd.f70) 0 (initS [.agg [.int a1, .int a2], .agg [.int b1, .int b2], .agg [.int c1, .int c2]]) (retK Tryd.f70.results.toList [.s (.int (crW a1 a2 b1 b2 c1 c2))]) := by kernel_rfl
set_option maxHeartbeats 400000 in
theorem F_spec_l2Cross : FunOK 70 g_spec_l2Cross := by
  refine fun_F (by kernel_rfl) Tryd.func70 rfl (by kernel_rfl) sig_spec_l2Cross_ok xs_spec_l2Cross_ok ?_
  intro avs sg h hn hl
  unfold g_spec_l2Cross at h
  split at h
  · rename_i a1 a2 b1 b2 c1 c2
    injection h with h; subst h
    refine ⟨by kernel_rfl, fun b => [], Eq.mp (V_spec_l2Cross a1 a2 b1 b2 c1 c2) ?_⟩
    simp only [true_and, and_true, implies_true, and_self, forall_const, true_implies, lenA, lenL, SV.lenOK, Cont.lenOK] at hn hl ⊢
    simp only [crW]
  · cases h
def g_spec_l2Sign : List AV → Option Sg
  | [.s (.int n)] => some ⟨True, [.s (.int (sgn n))]⟩
  | _ => none
def sig_spec_l2Sign : FuncId → List AV → Option Sg := sigL []
def xs_spec_l2Sign : XS := ⟨xsigL [], ysigL []⟩
theorem sig_spec_l2Sign_ok : SigOK sig_spec_l2Sign := sigL_nil
theorem xs_spec_l2Sign_ok : XSigOK xs_spec_l2Sign := ⟨xsigL_nil, ysigL_nil⟩
theorem V_spec_l2Sign (n : Int) : ((true = true) ∧ ((True) ∧ True) ∧ (true = true) ∧ ((True) ∧ (True) ∧ (True) ∧ True) ∧ ((ilt (0 : Int) n) = true → ((true = true) ∧ ((True) ∧ True) ∧ (((1 : Int) : Int) = (sgn n)) ∧ True)) ∧ ((ilt (0 : Int) n) = false → ((true = true) ∧ ((True) ∧ (True) ∧ (True) ∧ True) ∧ ((ilt n (0 : Int)) = true → ((true = true) ∧ ((True) ∧ True) ∧ (((-1 : Int) : Int) = (sgn n)) ∧ True)) ∧ ((ilt n (0 : Int)) = false → ((true = true) ∧ ((True) ∧ True) ∧ (((0 : Int) : Int) = (sgn n)) ∧ True))))) = ev sig_spec_l2Sign xs_spec_l2Sign Tryd.f69.ntmps (fun b => []) (codeOf Tryd.f69) 0 (initS [.s (.int n)]) (retK Tryd.f69.results.toList [.s (.int (sgn n))]) := by kernel_rfl
set_option maxHeartbeats 400000 in
theorem F_spec_l2Sign : FunOK 69 g_spec_l2Sign := by
  refine fun_F (by kernel_rfl) Tryd.func69 rfl (by kernel_rfl) sig_spec_l2Sign_ok xs_spec_l2Sign_ok ?_
  intro avs sg h hn hl
  unfold g_spec_l2Sign at h
  split at h
  · rename_i n
    injection h with h; subst h
    refine ⟨by kernel_rfl, fun b => [], Eq.mp (V_spec_l2Sign n) ?_⟩
    simp only [true_and, and_true, implies_true, and_self, forall_const, true_implies, lenA, lenL, SV.lenOK, Cont.lenOK] at hn hl ⊢
    simp only [ilt_t, ilt_f, ile_t, ile_f, ieq_t, ieq_f, bnot_e, band_e, bite_and, bite_or, NLt_e, NLe_e, NNe_e, NIs_e, imax_e, imin_e, irem_e, Bool.not_eq_true', Bool.not_eq_false', Bool.and_eq_true, Bool.or_eq_true, Bool.or_eq_false_iff, Bool.and_eq_false_iff, Cont.pts.injEq, Cont.ints.injEq, Cont.bools.injEq, Cont.ptss.injEq, Cont.intss.injEq, Cont.boolss.injEq, true_and, and_true, implies_true]
    unfold sgn
    refine ⟨fun h => by rw [if_pos h], fun h => ⟨fun h2 => by rw [if_neg (by omega), if_pos h2], fun h2 => by rw [if_neg (by omega), if_neg (by omega)]⟩⟩
  · cases h
def g_spec_l8On : List AV → Option Sg
  | [.agg [.int a1, .int a2], .agg [.int b1, .int b2], .agg [.int p1, .int p2]] => some ⟨True, [.s (.bool (btW a1 a2 b1 b2 p1 p2))]⟩
  | _ => none
def sig_spec_l8On : FuncId → List AV → Option Sg := sigL [(51, g_spec_l1In)]
def xs_spec_l8On : XS := ⟨xsigL [], ysigL []⟩
theorem sig_spec_l8On_ok : SigOK sig_spec_l8On := sigL_cons F_spec_l1In sigL_nil
theorem xs_spec_l8On_ok : XSigOK xs_spec_l8On := ⟨xsigL_nil, ysigL_nil⟩
theorem V_spec_l8On (a1 : Int) (a2 : Int) (b1 : Int) (b2 : Int) (p1 : Int) (p2 : Int) : ((true = true) ∧ ((True) ∧ (True) ∧ (True) ∧ (True) ∧ True) ∧ (true = true) ∧ ((True) ∧ (True) ∧ (True) ∧ (True) ∧ (True) ∧ (True) ∧ (True) ∧ (True) ∧ (True) ∧ (True) ∧ (True) ∧ (True) ∧ ((True)) ∧ (True) ∧ (NIs (inB p1 (imin a1 b1) (imax a1 b1)) true → True) ∧ (NIs (inB p1 (imin a1 b1) (imax a1 b1)) true → True) ∧ (NIs (inB p1 (imin a1 b1) (imax a1 b1)) true → True) ∧ (NIs (inB p1 (imin a1 b1) (imax a1 b1)) true → True) ∧ (NIs (inB p1 (imin a1 b1) (imax a1 b1)) true → True) ∧ (NIs (inB p1 (imin a1 b1) (imax a1 b1)) true → True) ∧ (NIs (inB p1 (imin a1 b1) (imax a1 b1)) true → True) ∧ (NIs (inB p1 (imin a1 b1) (imax a1 b1)) true → True) ∧ (NIs (inB p1 (imin a1 b1) (imax a1 b1)) true → True) ∧ (NIs (inB p1 (imin a1 b1) (imax a1 b1)) true → True) ∧ (NIs (inB p1 (imin a1 b1) (imax a1 b1)) true → True) ∧ (NIs (inB p1 (imin a1 b1) (imax a1 b1)) true → True) ∧ (NIs (inB p1 (imin a1 b1) (imax a1 b1)) true → (True)) ∧ (True) ∧ (True) ∧ True) ∧ (((bite (inB p1 (imin a1 b1) (imax a1 b1)) (inB p2 (imin a2 b2) (imax a2 b2)) false) : Bool) = (btW a1 a2 b1 b2 p1 p2)) ∧ True) = ev sig_spec_l8On xs_spec_l8On Tryd.f71.ntmps (fun b => []) (codeOf Tryd.f71) 0 (initS [.agg [.int a1, .int a2], .agg [.int b1, .int b2], .agg [.int p1, .int p2]]) (retK Tryd.f71.results.toList [.s (.bool (btW a1 a2 b1 b2 p1 p2))]) := by kernel_rfl
set_option maxHeartbeats 400000 in
theorem F_spec_l8On : FunOK 71 g_spec_l8On := by
  refine fun_F (by kernel_rfl) Tryd.func71 rfl (by kernel_rfl) sig_spec_l8On_ok xs_spec_l8On_ok ?_
  intro avs sg h hn hl
  unfold g_spec_l8On at h
  split at h
  · rename_i a1 a2 b1 b2 p1 p2
    injection h with h; subst h
    refine ⟨by kernel_rfl, fun b => [], Eq.mp (V_spec_l8On a1 a2 b1 b2 p1 p2) ?_⟩
    simp only [true_and, and_true, implies_true, and_self, forall_const, true_implies, lenA, lenL, SV.lenOK, Cont.lenOK] at hn hl ⊢
    simp only [ilt_t, ilt_f, ile_t, ile_f, ieq_t, ieq_f, bnot_e, band_e, bite_and, bite_or, NLt_e, NLe_e, NNe_e, NIs_e, imax_e, imin_e, irem_e, Bool.not_eq_true', Bool.not_eq_false', Bool.and_eq_true, Bool.or_eq_true, Bool.or_eq_false_iff, Bool.and_eq_false_iff, Cont.pts.injEq, Cont.ints.injEq, Cont.bools.injEq, Cont.ptss.injEq, Cont.intss.injEq, Cont.boolss.injEq, true_and, and_true, implies_true]
    rfl
  · cases h
def g_spec_l8Meet : List AV → Option Sg
  | [.agg [.int a1, .int a2], .agg [.int b1, .int b2], .agg [.int c1, .int c2], .agg [.int d1, .int d2]] => some ⟨vB a1 a2 = true ∧ vB b1 b2 = true ∧ vB c1 c2 = true ∧ vB d1 d2 = true, [.s (.bool (meetB (a1, a2) (b1, b2) (c1, c2) (d1, d2)))]⟩
  | _ => none
def sig_spec_l8Meet : FuncId → List AV → Option Sg := sigL [(70, g_spec_l2Cross), (69, g_spec_l2Sign), (71, g_spec_l8On)]
def xs_spec_l8Meet : XS := ⟨xsigL [], ysigL []⟩
theorem sig_spec_l8Meet_ok : SigOK sig_spec_l8Meet := sigL_cons F_spec_l2Cross (sigL_cons F_spec_l2Sign (sigL_cons F_spec_l8On sigL_nil))
theorem xs_spec_l8Meet_ok : XSigOK xs_spec_l8Meet := ⟨xsigL_nil, ysigL_nil⟩
theorem V_spec_l8Meet (a1 : Int) (a2 : Int) (b1 : Int) (b2 : Int) (c1 : Int) (c2 : Int) (d1 : Int) (d2 : Int) : ((true = true) ∧ ((True) ∧ (True) ∧ (True) ∧ (True) ∧ (True) ∧ True) ∧ (true = true) ∧ ((True) ∧ (True) ∧ (True) ∧ ((True)) ∧ ((True)) ∧ (True) ∧ True) ∧ (true = true) ∧ ((True) ∧ (True) ∧ (True) ∧ ((True)) ∧ ((True)) ∧ (True) ∧ True) ∧ (true = true) ∧ ((True) ∧ (True) ∧ (True) ∧ ((True)) ∧ ((True)) ∧ (True) ∧ True) ∧ (true = true) ∧ ((True) ∧ (True) ∧ (True) ∧ ((True)) ∧ ((True)) ∧ (True) ∧ True) ∧ (true = true) ∧ ((True) ∧ (True) ∧ (True) ∧ (True) ∧ (NIs (bnot (ieq (sgn (crW a1 a2 b1 b2 c1 c2)) (sgn (crW a1 a2 b1 b2 d1 d2)))) true → True) ∧ (NIs (bnot (ieq (sgn (crW a1 a2 b1 b2 c1 c2)) (sgn (crW a1 a2 b1 b2 d1 d2)))) true → True) ∧ (NIs (bnot (ieq (sgn (crW a1 a2 b1 b2 c1 c2)) (sgn (crW a1 a2 b1 b2 d1 d2)))) true → True) ∧ (True) ∧ True) ∧ ((bite (bnot (ieq (sgn (crW a1 a2 b1 b2 c1 c2)) (sgn (crW a1 a2 b1 b2 d1 d2)))) (bnot (ieq (sgn (crW c1 c2 d1 d2 a1 a2)) (sgn (crW c1 c2 d1 d2 b1 b2)))) false) = true → ((true = true) ∧ ((True) ∧ True) ∧ ((true : Bool) = (meetB (a1, a2) (b1, b2) (c1, c2) (d1, d2))) ∧ True)) ∧ ((bite (bnot (ieq (sgn (crW a1 a2 b1 b2 c1 c2)) (sgn (crW a1 a2 b1 b2 d1 d2)))) (bnot (ieq (sgn (crW c1 c2 d1 d2 a1 a2)) (sgn (crW c1 c2 d1 d2 b1 b2)))) false) = false → ((true = true) ∧ ((True) ∧ (True) ∧ (True) ∧ (NIs (ieq (sgn (crW a1 a2 b1 b2 c1 c2)) (0 : Int)) true → True) ∧ (NIs (ieq (sgn (crW a1 a2 b1 b2 c1 c2)) (0 : Int)) true → True) ∧ (NIs (ieq (sgn (crW a1 a2 b1 b2 c1 c2)) (0 : Int)) true → True) ∧ (NIs (ieq (sgn (crW a1 a2 b1 b2 c1 c2)) (0 : Int)) true → (True)) ∧ (True) ∧ (True) ∧ (NIs (bite (ieq (sgn (crW a1 a2 b1 b2 c1 c2)) (0 : Int)) (btW a1 a2 b1 b2 c1 c2) false) false → True) ∧ (NIs (bite (ieq (sgn (crW a1 a2 b1 b2 c1 c2)) (0 : Int)) (btW a1 a2 b1 b2 c1 c2) false) false → True) ∧ (NIs (bite (ieq (sgn (crW a1 a2 b1 b2 c1 c2)) (0 : Int)) (btW a1 a2 b1 b2 c1 c2) false) false → True) ∧ (NIs (bite (ieq (sgn (crW a1 a2 b1 b2 c1 c2)) (0 : Int)) (btW a1 a2 b1 b2 c1 c2) false) false → (NIs (ieq (sgn (crW a1 a2 b1 b2 d1 d2)) (0 : Int)) true → True)) ∧ (NIs (bite (ieq (sgn (crW a1 a2 b1 b2 c1 c2)) (0 : Int)) (btW a1 a2 b1 b2 c1 c2) false) false → (NIs (ieq (sgn (crW a1 a2 b1 b2 d1 d2)) (0 : Int)) true → True)) ∧ (NIs (bite (ieq (sgn (crW a1 a2 b1 b2 c1 c2)) (0 : Int)) (btW a1 a2 b1 b2 c1 c2) false) false → (NIs (ieq (sgn (crW a1 a2 b1 b2 d1 d2)) (0 : Int)) true → True)) ∧ (NIs (bite (ieq (sgn (crW a1 a2 b1 b2 c1 c2)) (0 : Int)) (btW a1 a2 b1 b2 c1 c2) false) false → (NIs (ieq (sgn (crW a1 a2 b1 b2 d1 d2)) (0 : Int)) true → (True))) ∧ (NIs (bite (ieq (sgn (crW a1 a2 b1 b2 c1 c2)) (0 : Int)) (btW a1 a2 b1 b2 c1 c2) false) false → True) ∧ (True) ∧ (True) ∧ (NIs (bite (bite (ieq (sgn (crW a1 a2 b1 b2 c1 c2)) (0 : Int)) (btW a1 a2 b1 b2 c1 c2) false) true (bite (ieq (sgn (crW a1 a2 b1 b2 d1 d2)) (0 : Int)) (btW a1 a2 b1 b2 d1 d2) false)) false → True) ∧ (NIs (bite (bite (ieq (sgn (crW a1 a2 b1 b2 c1 c2)) (0 : Int)) (btW a1 a2 b1 b2 c1 c2) false) true (bite (ieq (sgn (crW a1 a2 b1 b2 d1 d2)) (0 : Int)) (btW a1 a2 b1 b2 d1 d2) false)) false → True) ∧ (NIs (bite (bite (ieq (sgn (crW a1 a2 b1 b2 c1 c2)) (0 : Int)) (btW a1 a2 b1 b2 c1 c2) false) true (bite (ieq (sgn (crW a1 a2 b1 b2 d1 d2)) (0 : Int)) (btW a1 a2 b1 b2 d1 d2) false)) false → True) ∧ (NIs (bite (bite (ieq (sgn (crW a1 a2 b1 b2 c1 c2)) (0 : Int)) (btW a1 a2 b1 b2 c1 c2) false) true (bite (ieq (sgn (crW a1 a2 b1 b2 d1 d2)) (0 : Int)) (btW a1 a2 b1 b2 d1 d2) false)) false → (NIs (ieq (sgn (crW c1 c2 d1 d2 a1 a2)) (0 : Int)) true → True)) ∧ (NIs (bite (bite (ieq (sgn (crW a1 a2 b1 b2 c1 c2)) (0 : Int)) (btW a1 a2 b1 b2 c1 c2) false) true (bite (ieq (sgn (crW a1 a2 b1 b2 d1 d2)) (0 : Int)) (btW a1 a2 b1 b2 d1 d2) false)) false → (NIs (ieq (sgn (crW c1 c2 d1 d2 a1 a2)) (0 : Int)) true → True)) ∧ (NIs (bite (bite (ieq (sgn (crW a1 a2 b1 b2 c1 c2)) (0 : Int)) (btW a1 a2 b1 b2 c1 c2) false) true (bite (ieq (sgn (crW a1 a2 b1 b2 d1 d2)) (0 : Int)) (btW a1 a2 b1 b2 d1 d2) false)) false → (NIs (ieq (sgn (crW c1 c2 d1 d2 a1 a2)) (0 : Int)) true → True)) ∧ (NIs (bite (bite (ieq (sgn (crW a1 a2 b1 b2 c1 c2)) (0 : Int)) (btW a1 a2 b1 b2 c1 c2) false) true (bite (ieq (sgn (crW a1 a2 b1 b2 d1 d2)) (0 : Int)) (btW a1 a2 b1 b2 d1 d2) false)) false → (NIs (ieq (sgn (crW c1 c2 d1 d2 a1 a2)) (0 : Int)) true → (True))) ∧ (NIs (bite (bite (ieq (sgn (crW a1 a2 b1 b2 c1 c2)) (0 : Int)) (btW a1 a2 b1 b2 c1 c2) false) true (bite (ieq (sgn (crW a1 a2 b1 b2 d1 d2)) (0 : Int)) (btW a1 a2 b1 b2 d1 d2) false)) false → True) ∧ (True) ∧ (True) ∧ (NIs (bite (bite (bite (ieq (sgn (crW a1 a2 b1 b2 c1 c2)) (0 : Int)) (btW a1 a2 b1 b2 c1 c2) false) true (bite (ieq (sgn (crW a1 a2 b1 b2 d1 d2)) (0 : Int)) (btW a1 a2 b1 b2 d1 d2) false)) true (bite (ieq (sgn (crW c1 c2 d1 d2 a1 a2)) (0 : Int)) (btW c1 c2 d1 d2 a1 a2) false)) false → True) ∧ (NIs (bite (bite (bite (ieq (sgn (crW a1 a2 b1 b2 c1 c2)) (0 : Int)) (btW a1 a2 b1 b2 c1 c2) false) true (bite (ieq (sgn (crW a1 a2 b1 b2 d1 d2)) (0 : Int)) (btW a1 a2 b1 b2 d1 d2) false)) true (bite (ieq (sgn (crW c1 c2 d1 d2 a1 a2)) (0 : Int)) (btW c1 c2 d1 d2 a1 a2) false)) false → True) ∧ (NIs (bite (bite (bite (ieq (sgn (crW a1 a2 b1 b2 c1 c2)) (0 : Int)) (btW a1 a2 b1 b2 c1 c2) false) true (bite (ieq (sgn (crW a1 a2 b1 b2 d1 d2)) (0 : Int)) (btW a1 a2 b1 b2 d1 d2) false)) true (bite (ieq (sgn (crW c1 c2 d1 d2 a1 a2)) (0 : Int)) (btW c1 c2 d1 d2 a1 a2) false)) false → True) ∧ (NIs (bite (bite (bite (ieq (sgn (crW a1 a2 b1 b2 c1 c2)) (0 : Int)) (btW a1 a2 b1 b2 c1 c2) false) true (bite (ieq (sgn (crW a1 a2 b1 b2 d1 d2)) (0 : Int)) (btW a1 a2 b1 b2 d1 d2) false)) true (bite (ieq (sgn (crW c1 c2 d1 d2 a1 a2)) (0 : Int)) (btW c1 c2 d1 d2 a1 a2) false)) false → (NIs (ieq (sgn (crW c1 c2 d1 d2 b1 b2)) (0 : Int)) true → True)) ∧ (NIs (bite (bite (bite (ieq (sgn (crW a1 a2 b1 b2 c1 c2)) (0 : Int)) (btW a1 a2 b1 b2 c1 c2) false) true (bite (ieq (sgn (crW a1 a2 b1 b2 d1 d2)) (0 : Int)) (btW a1 a2 b1 b2 d1 d2) false)) true (bite (ieq (sgn (crW c1 c2 d1 d2 a1 a2)) (0 : Int)) (btW c1 c2 d1 d2 a1 a2) false)) false → (NIs (ieq (sgn (crW c1 c2 d1 d2 b1 b2)) (0 : Int)) true → True)) ∧ (NIs (bite (bite (bite (ieq (sgn (crW a1 a2 b1 b2 c1 c2)) (0 : Int)) (btW a1 a2 b1 b2 c1 c2) false) true (bite (ieq (sgn (crW a1 a2 b1 b2 d1 d2)) (0 : Int)) (btW a1 a2 b1 b2 d1 d2) false)) true (bite (ieq (sgn (crW c1 c2 d1 d2 a1 a2)) (0 : Int)) (btW c1 c2 d1 d2 a1 a2) false)) false → (NIs (ieq (sgn (crW c1 c2 d1 d2 b1 b2)) (0 : Int)) true → True)) ∧ (NIs (bite (bite (bite (ieq (sgn (crW a1 a2 b1 b2 c1 c2)) (0 : Int)) (btW a1 a2 b1 b2 c1 c2) false) true (bite (ieq (sgn (crW a1 a2 b1 b2 d1 d2)) (0 : Int)) (btW a1 a2 b1 b2 d1 d2) false)) true (bite (ieq (sgn (crW c1 c2 d1 d2 a1 a2)) (0 : Int)) (btW c1 c2 d1 d2 a1 a2) false)) false → (NIs (ieq (sgn (crW c1 c2 d1 d2 b1 b2)) (0 : Int)) true → (True))) ∧ (NIs (bite (bite (bite (ieq (sgn (crW a1 a2 b1 b2 c1 c2)) (0 : Int)) (btW a1 a2 b1 b2 c1 c2) false) true (bite (ieq (sgn (crW a1 a2 b1 b2 d1 d2)) (0 : Int)) (btW a1 a2 b1 b2 d1 d2) false)) true (bite (ieq (sgn (crW c1 c2 d1 d2 a1 a2)) (0 : Int)) (btW c1 c2 d1 d2 a1 a2) false)) false → True) ∧ (True) ∧ (True) ∧ True) ∧ (((bite (bite (bite (bite (ieq (sgn (crW a1 a2 b1 b2 c1 c2)) (0 : Int)) (btW a1 a2 b1 b2 c1 c2) false) true (bite (ieq (sgn (crW a1 a2 b1 b2 d1 d2)) (0 : Int)) (btW a1 a2 b1 b2 d1 d2) false)) true (bite (ieq (sgn (crW c1 c2 d1 d2 a1 a2)) (0 : Int)) (btW c1 c2 d1 d2 a1 a2) false)) true (bite (ieq (sgn (crW c1 c2 d1 d2 b1 b2)) (0 : Int)) (btW c1 c2 d1 d2 b1 b2) false)) : Bool) = (meetB (a1, a2) (b1, b2) (c1, c2) (d1, d2))) ∧ True))) = ev sig_spec_l8Meet xs_spec_l8Meet Tryd.f50.ntmps (fun b => []) (codeOf Tryd.f50) 0 (initS [.agg [.int a1, .int a2], .agg [.int b1, .int b2], .agg [.int c1, .int c2], .agg [.int d1, .int d2]]) (retK Tryd.f50.results.toList [.s (.bool (meetB (a1, a2) (b1, b2) (c1, c2) (d1, d2)))]) := by kernel_rfl
set_option maxHeartbeats 400000 in
theorem F_spec_l8Meet : FunOK 50 g_spec_l8Meet := by
  refine fun_F (by kernel_rfl) Tryd.func50 rfl (by kernel_rfl) sig_spec_l8Meet_ok xs_spec_l8Meet_ok ?_
  intro avs sg h hn hl
  unfold g_spec_l8Meet at h
  split at h
  · rename_i a1 a2 b1 b2 c1 c2 d1 d2
    injection h with h; subst h
    refine ⟨by kernel_rfl, fun b => [], Eq.mp (V_spec_l8Meet a1 a2 b1 b2 c1 c2 d1 d2) ?_⟩
    simp only [true_and, and_true, implies_true, and_self, forall_const, true_implies, lenA, lenL, SV.lenOK, Cont.lenOK] at hn hl ⊢
    obtain ⟨va, vb, vc, vd⟩ := hn
    simp only [ilt_t, ilt_f, ile_t, ile_f, ieq_t, ieq_f, bnot_e, band_e, bite_and, bite_or, NLt_e, NLe_e, NNe_e, NIs_e, imax_e, imin_e, irem_e, Bool.not_eq_true', Bool.not_eq_false', Bool.and_eq_true, Bool.or_eq_true, Bool.or_eq_false_iff, Bool.and_eq_false_iff, Cont.pts.injEq, Cont.ints.injEq, Cont.bools.injEq, Cont.ptss.injEq, Cont.intss.injEq, Cont.boolss.injEq, true_and, and_true, implies_true, crW_e va vb vc, crW_e va vb vd, crW_e vc vd va, crW_e vc vd vb, btW_e, Int.sub_zero, imul_sgn, ieq_sgn]
    rw [← meetS_eq]; unfold meetS
    generalize crs (a1, a2) (b1, b2) (c1, c2) = x1 at *
    generalize crs (a1, a2) (b1, b2) (d1, d2) = x2 at *
    generalize crs (c1, c2) (d1, d2) (a1, a2) = x3 at *
    generalize crs (c1, c2) (d1, d2) (b1, b2) = x4 at *
    refine ⟨fun h => by simp [h.1, h.2], fun h => ?_⟩
    have e : (decide (sgn x1 ≠ sgn x2) && decide (sgn x3 ≠ sgn x4)) = false := by
      rcases h with h | h <;> simp [h] <;> omega
    rw [e, Bool.false_or]
  · cases h
def g_spec_SelfClear : List AV → Option Sg
  | [.agg [.view (.ints a1), .view (.ints a2), .view (.ints a3)], .s (.view (.ints j))] => some ⟨True, [.s (.bool (scB a1 a2 a3 j))]⟩
  | _ => none
def sig_spec_SelfClear : FuncId → List AV → Option Sg := sigL [(21, g_spec_JointsValid), (49, g_spec_l3Points), (50, g_spec_l8Meet)]
def xs_spec_SelfClear : XS := ⟨xsigL [], ysigL []⟩
theorem sig_spec_SelfClear_ok : SigOK sig_spec_SelfClear := sigL_cons F_spec_JointsValid (sigL_cons F_spec_l3Points (sigL_cons F_spec_l8Meet sigL_nil))
theorem xs_spec_SelfClear_ok : XSigOK xs_spec_SelfClear := ⟨xsigL_nil, ysigL_nil⟩
theorem V_spec_SelfClear (a1 : List Int) (a2 : List Int) (a3 : List Int) (j : List Int) : ((true = true) ∧ ((True) ∧ (True) ∧ True) ∧ (true = true) ∧ ((True) ∧ (True) ∧ ((True)) ∧ (True) ∧ True) ∧ ((bnot (jvB a1 a2 a3 j)) = true → ((true = true) ∧ ((True) ∧ True) ∧ ((false : Bool) = (scB a1 a2 a3 j)) ∧ True)) ∧ ((bnot (jvB a1 a2 a3 j)) = false → ((true = true) ∧ ((True) ∧ (True) ∧ ((jvB a1 a2 a3 j = true)) ∧ (True) ∧ True) ∧ (true = true) ∧ ((True) ∧ True) ∧ ∃ (I1 : List GV → Prop) (μ1 : List GV → Nat), (((true = true) ∧ (((false : Bool) = false) ∧ (((0 : Int) : Int) = (0 : Int)) ∧ (((Cont.ints a1) = (Cont.ints a1)) ∧ ((Cont.ints a2) = (Cont.ints a2)) ∧ ((Cont.ints a3) = (Cont.ints a3)) ∧ True) ∧ ((Cont.ints j) = (Cont.ints j)) ∧ (true = true) ∧ (true = true) ∧ (((Cont.ints a1) = (Cont.ints a1)) ∧ ((Cont.ints a2) = (Cont.ints a2)) ∧ ((Cont.ints a3) = (Cont.ints a3)) ∧ True) ∧ ((Cont.ints j) = (Cont.ints j)) ∧ (((jvB a1 a2 a3 j) : Bool) = (jvB a1 a2 a3 j)) ∧ (((bnot (jvB a1 a2 a3 j)) : Bool) = (bnot (jvB a1 a2 a3 j))) ∧ (true = true) ∧ (((Cont.ints a1) = (Cont.ints a1)) ∧ ((Cont.ints a2) = (Cont.ints a2)) ∧ ((Cont.ints a3) = (Cont.ints a3)) ∧ True) ∧ ((Cont.ints j) = (Cont.ints j)) ∧ True) ∧ (((true = true) ∧ ((Cont.pts (apL a1 j (ilen a1 + 1))) = (Cont.pts (apL a1 j (ilen a1 + 1))))) ∧ (((Cont.ints a1) = (Cont.ints a1)) ∧ ((Cont.ints a2) = (Cont.ints a2)) ∧ ((Cont.ints a3) = (Cont.ints a3)) ∧ True) ∧ True)) ∧ (([GK.int, GK.bool] : List GK) = ([GK.int, GK.bool] : List GK)) ∧ I1 [GV.int (0 : Int), GV.bool false]) ∧ (∀ i1_0 : Int, ∀ b1_1 : Bool, I1 [GV.int i1_0, GV.bool b1_1] → ((true = true) ∧ ((True) ∧ (True) ∧ (True) ∧ (True) ∧ (True) ∧ True) ∧ ((ilt (iadd i1_0 (1 : Int)) (ilen (apL a1 j (ilen a1 + 1)))) = true → ((true = true) ∧ ((True) ∧ (True) ∧ (True) ∧ True) ∧ ∃ (I2 : List GV → Prop) (μ2 : List GV → Nat), (((true = true) ∧ (((b1_1 : Bool) = b1_1) ∧ (((iadd i1_0 (2 : Int)) : Int) = (iadd i1_0 (2 : Int))) ∧ ((i1_0 : Int) = i1_0) ∧ (((iadd i1_0 (2 : Int)) : Int) = (iadd i1_0 (2 : Int))) ∧ ((i1_0 : Int) = i1_0) ∧ (((iadd i1_0 (1 : Int)) : Int) = (iadd i1_0 (1 : Int))) ∧ (true = true) ∧ (((ilen (apL a1 j (ilen a1 + 1))) : Int) = (ilen (apL a1 j (ilen a1 + 1)))) ∧ (((ilt (iadd i1_0 (1 : Int)) (ilen (apL a1 j (ilen a1 + 1)))) : Bool) = (ilt (iadd i1_0 (1 : Int)) (ilen (apL a1 j (ilen a1 + 1))))) ∧ ((i1_0 : Int) = i1_0) ∧ (((Cont.ints a1) = (Cont.ints a1)) ∧ ((Cont.ints a2) = (Cont.ints a2)) ∧ ((Cont.ints a3) = (Cont.ints a3)) ∧ True) ∧ ((Cont.ints j) = (Cont.ints j)) ∧ (true = true) ∧ (true = true) ∧ (((Cont.ints a1) = (Cont.ints a1)) ∧ ((Cont.ints a2) = (Cont.ints a2)) ∧ ((Cont.ints a3) = (Cont.ints a3)) ∧ True) ∧ ((Cont.ints j) = (Cont.ints j)) ∧ (((jvB a1 a2 a3 j) : Bool) = (jvB a1 a2 a3 j)) ∧ (((bnot (jvB a1 a2 a3 j)) : Bool) = (bnot (jvB a1 a2 a3 j))) ∧ (true = true) ∧ (((Cont.ints a1) = (Cont.ints a1)) ∧ ((Cont.ints a2) = (Cont.ints a2)) ∧ ((Cont.ints a3) = (Cont.ints a3)) ∧ True) ∧ ((Cont.ints j) = (Cont.ints j)) ∧ True) ∧ (((true = true) ∧ ((Cont.pts (apL a1 j (ilen a1 + 1))) = (Cont.pts (apL a1 j (ilen a1 + 1))))) ∧ (((Cont.ints a1) = (Cont.ints a1)) ∧ ((Cont.ints a2) = (Cont.ints a2)) ∧ ((Cont.ints a3) = (Cont.ints a3)) ∧ True) ∧ True)) ∧ (([GK.int, GK.bool] : List GK) = ([GK.int, GK.bool] : List GK)) ∧ I2 [GV.int (iadd i1_0 (2 : Int)), GV.bool b1_1]) ∧ (∀ i2_0 : Int, ∀ b2_1 : Bool, I2 [GV.int i2_0, GV.bool b2_1] → ((true = true) ∧ ((True) ∧ (True) ∧ (True) ∧ (True) ∧ (True) ∧ True) ∧ ((ilt (iadd i2_0 (1 : Int)) (ilen (apL a1 j (ilen a1 + 1)))) = true → ((true = true) ∧ ((True) ∧ (True) ∧ (NLe 0 i1_0 ∧ NLt i1_0 (ilen (apL a1 j (ilen a1 + 1)))) ∧ (NLt i1_0 (ilen (apL a1 j (ilen a1 + 1)))) ∧ (True) ∧ (True) ∧ (True) ∧ (NLe 0 (iadd i1_0 (1 : Int)) ∧ NLt (iadd i1_0 (1 : Int)) (ilen (apL a1 j (ilen a1 + 1)))) ∧ (NLt (iadd i1_0 (1 : Int)) (ilen (apL a1 j (ilen a1 + 1)))) ∧ (True) ∧ (True) ∧ (NLe 0 i2_0 ∧ NLt i2_0 (ilen (apL a1 j (ilen a1 + 1)))) ∧ (NLt i2_0 (ilen (apL a1 j (ilen a1 + 1)))) ∧ (True) ∧ (True) ∧ (True) ∧ (NLe 0 (iadd i2_0 (1 : Int)) ∧ NLt (iadd i2_0 (1 : Int)) (ilen (apL a1 j (ilen a1 + 1)))) ∧ (NLt (iadd i2_0 (1 : Int)) (ilen (apL a1 j (ilen a1 + 1)))) ∧ ((vB (getx (apL a1 j (ilen a1 + 1)) i1_0) (gety (apL a1 j (ilen a1 + 1)) i1_0) = true ∧ vB (getx (apL a1 j (ilen a1 + 1)) (iadd i1_0 (1 : Int))) (gety (apL a1 j (ilen a1 + 1)) (iadd i1_0 (1 : Int))) = true ∧ vB (getx (apL a1 j (ilen a1 + 1)) i2_0) (gety (apL a1 j (ilen a1 + 1)) i2_0) = true ∧ vB (getx (apL a1 j (ilen a1 + 1)) (iadd i2_0 (1 : Int))) (gety (apL a1 j (ilen a1 + 1)) (iadd i2_0 (1 : Int))) = true)) ∧ True) ∧ ((meetB ((getx (apL a1 j (ilen a1 + 1)) i1_0), (gety (apL a1 j (ilen a1 + 1)) i1_0)) ((getx (apL a1 j (ilen a1 + 1)) (iadd i1_0 (1 : Int))), (gety (apL a1 j (ilen a1 + 1)) (iadd i1_0 (1 : Int)))) ((getx (apL a1 j (ilen a1 + 1)) i2_0), (gety (apL a1 j (ilen a1 + 1)) i2_0)) ((getx (apL a1 j (ilen a1 + 1)) (iadd i2_0 (1 : Int))), (gety (apL a1 j (ilen a1 + 1)) (iadd i2_0 (1 : Int))))) = true → ((true = true) ∧ ((True) ∧ True) ∧ ((false : Bool) = (scB a1 a2 a3 j)) ∧ True)) ∧ ((meetB ((getx (apL a1 j (ilen a1 + 1)) i1_0), (gety (apL a1 j (ilen a1 + 1)) i1_0)) ((getx (apL a1 j (ilen a1 + 1)) (iadd i1_0 (1 : Int))), (gety (apL a1 j (ilen a1 + 1)) (iadd i1_0 (1 : Int)))) ((getx (apL a1 j (ilen a1 + 1)) i2_0), (gety (apL a1 j (ilen a1 + 1)) i2_0)) ((getx (apL a1 j (ilen a1 + 1)) (iadd i2_0 (1 : Int))), (gety (apL a1 j (ilen a1 + 1)) (iadd i2_0 (1 : Int))))) = false → ((true = true) ∧ ((True) ∧ (True) ∧ (True) ∧ True) ∧ ((true = true) ∧ (((b2_1 : Bool) = b2_1) ∧ (((iadd i2_0 (1 : Int)) : Int) = (iadd i2_0 (1 : Int))) ∧ ((i1_0 : Int) = i1_0) ∧ (((iadd i1_0 (2 : Int)) : Int) = (iadd i1_0 (2 : Int))) ∧ ((i1_0 : Int) = i1_0) ∧ (((iadd i1_0 (1 : Int)) : Int) = (iadd i1_0 (1 : Int))) ∧ (true = true) ∧ (((ilen (apL a1 j (ilen a1 + 1))) : Int) = (ilen (apL a1 j (ilen a1 + 1)))) ∧ (((ilt (iadd i1_0 (1 : Int)) (ilen (apL a1 j (ilen a1 + 1)))) : Bool) = (ilt (iadd i1_0 (1 : Int)) (ilen (apL a1 j (ilen a1 + 1))))) ∧ ((i1_0 : Int) = i1_0) ∧ (((Cont.ints a1) = (Cont.ints a1)) ∧ ((Cont.ints a2) = (Cont.ints a2)) ∧ ((Cont.ints a3) = (Cont.ints a3)) ∧ True) ∧ ((Cont.ints j) = (Cont.ints j)) ∧ (true = true) ∧ (true = true) ∧ (((Cont.ints a1) = (Cont.ints a1)) ∧ ((Cont.ints a2) = (Cont.ints a2)) ∧ ((Cont.ints a3) = (Cont.ints a3)) ∧ True) ∧ ((Cont.ints j) = (Cont.ints j)) ∧ (((jvB a1 a2 a3 j) : Bool) = (jvB a1 a2 a3 j)) ∧ (((bnot (jvB a1 a2 a3 j)) : Bool) = (bnot (jvB a1 a2 a3 j))) ∧ (true = true) ∧ (((Cont.ints a1) = (Cont.ints a1)) ∧ ((Cont.ints a2) = (Cont.ints a2)) ∧ ((Cont.ints a3) = (Cont.ints a3)) ∧ True) ∧ ((Cont.ints j) = (Cont.ints j)) ∧ True) ∧ (((true = true) ∧ ((Cont.pts (apL a1 j (ilen a1 + 1))) = (Cont.pts (apL a1 j (ilen a1 + 1))))) ∧ (((Cont.ints a1) = (Cont.ints a1)) ∧ ((Cont.ints a2) = (Cont.ints a2)) ∧ ((Cont.ints a3) = (Cont.ints a3)) ∧ True) ∧ True)) ∧ ((([GK.int, GK.bool] : List GK) = ([GK.int, GK.bool] : List GK)) ∧ I2 [GV.int (iadd i2_0 (1 : Int)), GV.bool b2_1] ∧ μ2 [GV.int (iadd i2_0 (1 : Int)), GV.bool b2_1] < μ2 [GV.int i2_0, GV.bool b2_1]))))) ∧ ((ilt (iadd i2_0 (1 : Int)) (ilen (apL a1 j (ilen a1 + 1)))) = false → ((true = true) ∧ ((True) ∧ (True) ∧ (True) ∧ True) ∧ ((true = true) ∧ (((b2_1 : Bool) = b2_1) ∧ (((iadd i1_0 (1 : Int)) : Int) = (iadd i1_0 (1 : Int))) ∧ (((Cont.ints a1) = (Cont.ints a1)) ∧ ((Cont.ints a2) = (Cont.ints a2)) ∧ ((Cont.ints a3) = (Cont.ints a3)) ∧ True) ∧ ((Cont.ints j) = (Cont.ints j)) ∧ (true = true) ∧ (true = true) ∧ (((Cont.ints a1) = (Cont.ints a1)) ∧ ((Cont.ints a2) = (Cont.ints a2)) ∧ ((Cont.ints a3) = (Cont.ints a3)) ∧ True) ∧ ((Cont.ints j) = (Cont.ints j)) ∧ (((jvB a1 a2 a3 j) : Bool) = (jvB a1 a2 a3 j)) ∧ (((bnot (jvB a1 a2 a3 j)) : Bool) = (bnot (jvB a1 a2 a3 j))) ∧ (true = true) ∧ (((Cont.ints a1) = (Cont.ints a1)) ∧ ((Cont.ints a2) = (Cont.ints a2)) ∧ ((Cont.ints a3) = (Cont.ints a3)) ∧ True) ∧ ((Cont.ints j) = (Cont.ints j)) ∧ True) ∧ (((true = true) ∧ ((Cont.pts (apL a1 j (ilen a1 + 1))) = (Cont.pts (apL a1 j (ilen a1 + 1))))) ∧ (((Cont.ints a1) = (Cont.ints a1)) ∧ ((Cont.ints a2) = (Cont.ints a2)) ∧ ((Cont.ints a3) = (Cont.ints a3)) ∧ True) ∧ True)) ∧ ((([GK.int, GK.bool] : List GK) = ([GK.int, GK.bool] : List GK)) ∧ I1 [GV.int (iadd i1_0 (1 : Int)), GV.bool b2_1] ∧ μ1 [GV.int (iadd i1_0 (1 : Int)), GV.bool b2_1] < μ1 [GV.int i1_0, GV.bool b1_1]))))))) ∧ ((ilt (iadd i1_0 (1 : Int)) (ilen (apL a1 j (ilen a1 + 1)))) = false → ((true = true) ∧ ((True) ∧ True) ∧ ((true : Bool) = (scB a1 a2 a3 j)) ∧ True))))))) = ev sig_spec_SelfClear xs_spec_SelfClear Tryd.f20.ntmps (fun b => if b == 0 then [.v 6, .v 4] else if b == 2 then [.v 7, .v 4] else []) (codeOf Tryd.f20) 0 (initS [.agg [.view (.ints a1), .view (.ints a2), .view (.ints a3)], .s (.view (.ints j))]) (retK Tryd.f20.results.toList [.s (.bool (scB a1 a2 a3 j))]) := by kernel_rfl
set_option maxHeartbeats 400000 in
theorem F_spec_SelfClear : FunOK 20 g_spec_SelfClear := by
  refine fun_F (by kernel_rfl) Tryd.func20 rfl (by kernel_rfl) sig_spec_SelfClear_ok xs_spec_SelfClear_ok ?_
  intro avs sg h hn hl
  unfold g_spec_SelfClear at h
  split at h
  · rename_i a1 a2 a3 j
    injection h with h; subst h
    refine ⟨by kernel_rfl, fun b => if b == 0 then [.v 6, .v 4] else if b == 2 then [.v 7, .v 4] else [], Eq.mp (V_spec_SelfClear a1 a2 a3 j) ?_⟩
    simp only [true_and, and_true, implies_true, and_self, forall_const, true_implies, lenA, lenL, SV.lenOK, Cont.lenOK] at hn hl ⊢
    simp only [ilt_t, ilt_f, ile_t, ile_f, ieq_t, ieq_f, bnot_e, band_e, bite_and, bite_or, NLt_e, NLe_e, NNe_e, NIs_e, imax_e, imin_e, irem_e, Bool.not_eq_true', Bool.not_eq_false', Bool.and_eq_true, Bool.or_eq_true, Bool.or_eq_false_iff, Bool.and_eq_false_iff, Cont.pts.injEq, Cont.ints.injEq, Cont.bools.injEq, Cont.ptss.injEq, Cont.intss.injEq, Cont.boolss.injEq, true_and, and_true, implies_true]
    refine ⟨fun h => by unfold scB; simp [h], fun hj => ⟨hj, ?_⟩⟩
    obtain ⟨ha, hjl, hl4, hlk, hjk⟩ := jv_p hj
    have hv := fun (k : Int) (h0 : 0 ≤ k) (h1 : k ≤ ilen a1) => jv_vB hj h0 h1
    have hlen : ilen (apL a1 j (ilen a1 + 1)) = ilen a1 + 1 := apL_len (by omega)
    have hg : ∀ i, 0 ≤ i → i ≤ ilen a1 → getx (apL a1 j (ilen a1 + 1)) i = apX a1 j i ∧ gety (apL a1 j (ilen a1 + 1)) i = apY a1 j i := fun i h0 h1 => apL_get h0 (by omega)
    rw [hlen]
    generalize apL a1 j (ilen a1 + 1) = P at *
    refine ⟨fun | [.int i, .bool _] => 0 ≤ i ∧ i ≤ ilen a1 ∧ (∀ a, 0 ≤ a → a < i → allN (ilen a1) (scE a1 j a) = true) | _ => False, fun | .int i :: _ => (ilen a1 - i).toNat | _ => 0, ⟨by omega, by omega, fun a h0 h1 => by omega⟩, ?_⟩
    rintro i b ⟨i0, i1, hi⟩
    have e1 : iadd i 1 = i + 1 := iadd_e (by omega) (by omega)
    have e2 : iadd i 2 = i + 2 := iadd_e (by omega) (by omega)
    rw [e1, e2]
    refine ⟨fun hc => ?_, fun hc => ?_⟩
    · refine ⟨fun | [.int k, .bool _] => i + 2 ≤ k ∧ k ≤ ilen a1 + 1 ∧ (∀ m, 0 ≤ m → m < k → scE a1 j i m = true) | _ => False, fun | .int k :: _ => (ilen a1 + 1 - k).toNat | _ => 0, ⟨by omega, by omega, fun m h0 h1 => by unfold scE; simp; omega⟩, ?_⟩
      rintro k b2 ⟨k0, k1, hk⟩
      have e3 : iadd k 1 = k + 1 := iadd_e (by omega) (by omega)
      rw [e3]
      refine ⟨fun hc2 => ?_, fun hc2 => ?_⟩
      · obtain ⟨x1, y1⟩ := hg i (by omega) (by omega)
        obtain ⟨x2, y2⟩ := hg (i + 1) (by omega) (by omega)
        obtain ⟨x3, y3⟩ := hg k (by omega) (by omega)
        obtain ⟨x4, y4⟩ := hg (k + 1) (by omega) (by omega)
        rw [x1, y1, x2, y2, x3, y3, x4, y4]
        refine ⟨⟨⟨by omega, by omega⟩, by omega, ⟨by omega, by omega⟩, by omega, ⟨by omega, by omega⟩, by omega, ⟨by omega, by omega⟩, by omega, hv _ (by omega) (by omega), hv _ (by omega) (by omega), hv _ (by omega) (by omega), hv _ (by omega) (by omega)⟩, fun hm => ?_, fun hm => ?_⟩
        · have hE : scE a1 j i k = false := by unfold scE segM; rw [hm]; simp; omega
          unfold scB
          rw [allN_no i i0 (by omega) (allN_no k (by omega) (by omega) hE)]; simp
        · have hE : scE a1 j i k = true := by unfold scE segM; rw [hm]; simp
          exact ⟨⟨by omega, by omega, fun m m0 m1 => by
            by_cases h : m = k
            · rw [h]; exact hE
            · exact hk m m0 (by omega)⟩, by show (ilen a1 + 1 - (k + 1)).toNat < (ilen a1 + 1 - k).toNat; omega⟩
      · exact ⟨⟨by omega, by omega, fun a h0 h1 => by
          by_cases h : a = i
          · rw [h]; exact allN_mk fun m m0 m1 => hk m m0 (by omega)
          · exact hi a h0 (by omega)⟩, by show (ilen a1 - (i + 1)).toNat < (ilen a1 - i).toNat; omega⟩
    · unfold scB
      rw [hj, allN_mk fun a h0 h1 => hi a h0 (by omega)]; rfl
  · cases h
def g_laws_alive : List AV → Option Sg
  | [] => some ⟨True, [.s (.bool (true))]⟩
  | _ => none
def sig_laws_alive : FuncId → List AV → Option Sg := sigL [(52, g_impl_Degrees)]
def xs_laws_alive : XS := ⟨xsigL [], ysigL []⟩
theorem sig_laws_alive_ok : SigOK sig_laws_alive := sigL_cons F_impl_Degrees sigL_nil
theorem xs_laws_alive_ok : XSigOK xs_laws_alive := ⟨xsigL_nil, ysigL_nil⟩
theorem V_laws_alive  : ((true = true) ∧ ((True) ∧ True) ∧ (true = true) ∧ (((True)) ∧ (True) ∧ (True) ∧ True) ∧ (((ieq (degW (-1 : Int)) (359 : Int)) : Bool) = (true)) ∧ True) = ev sig_laws_alive xs_laws_alive Tryd.f22.ntmps (fun b => []) (codeOf Tryd.f22) 0 (initS []) (retK Tryd.f22.results.toList [.s (.bool (true))]) := by kernel_rfl
set_option maxHeartbeats 400000 in
theorem F_laws_alive : FunOK 22 g_laws_alive := by
  refine fun_F (by kernel_rfl) Tryd.func22 rfl (by kernel_rfl) sig_laws_alive_ok xs_laws_alive_ok ?_
  intro avs sg h hn hl
  unfold g_laws_alive at h
  split at h
  ·
    injection h with h; subst h
    refine ⟨by kernel_rfl, fun b => [], Eq.mp (V_laws_alive ) ?_⟩
    simp only [true_and, and_true, implies_true, and_self, forall_const, true_implies, lenA, lenL, SV.lenOK, Cont.lenOK] at hn hl ⊢
    unfold ieq degW
    rw [irem_e, irem_e, iadd_e (by decide) (by decide)]
    decide
  · cases h
theorem bxor_self (a : Bool) : bxor a a = false := by cases a <;> simp [bxor]
theorem meet_far {x1 x2 x3 x4 : Int} (h1 : x1 < x2) (h2 : x2 < x3) (h3 : x3 < x4) : meetB (x1, 0) (x2, 0) (x3, 0) (x4, 0) = false := by
  have c : ∀ a b c : Int, crs (a, 0) (b, 0) (c, 0) = 0 := fun a b c => by unfold crs; simp
  unfold meetB btw
  simp only [c]
  simp [sgn]
  omega
theorem dir_z {J : List Int} (h : ∀ k, geti J k = 0) : ∀ k : Nat, dirK J k = 0
  | 0 => rfl
  | k + 1 => by
    rw [show ((k + 1 : Nat) : Int) = (k : Int) + 1 by omega, dirK_1 (by omega), dir_z h k, h]; rfl
theorem rot_z (n : Int) : rotX n 0 0 = n ∧ rotY n 0 0 = 0 := by
  have hc : cosF 0 = 4096 := by decide +kernel
  have hs : sinF 0 = 0 := by decide +kernel
  obtain ⟨e1, e2⟩ := rot_0 n 0
  rw [e1, e2, hc, hs]
  unfold rnd4
  constructor <;> omega
theorem ap_z {L J : List Int} (h : ∀ k, geti J k = 0) {k : Int} (h0 : 0 ≤ k) : apX L J (k + 1) = apX L J k + geti L k ∧ apY L J (k + 1) = apY L J k := by
  have hd := dir_z h (k + 1).toNat
  rw [Int.toNat_of_nonneg (by omega)] at hd
  rw [apX_1 h0, apY_1 h0, hd, (rot_z _).1, (rot_z _).2]
  exact ⟨rfl, Int.add_zero _⟩
theorem apY_z {L J : List Int} (h : ∀ k, geti J k = 0) : ∀ k : Nat, apY L J k = 0
  | 0 => rfl
  | k + 1 => by rw [show ((k + 1 : Nat) : Int) = (k : Int) + 1 by omega, (ap_z h (by omega)).2, apY_z h k]
theorem apX_lt {L J : List Int} {n : Int} (h : ∀ k, geti J k = 0) (hl : ∀ k, 0 ≤ k → k < n → 1 ≤ geti L k) {i : Int} (i0 : 0 ≤ i) : ∀ d : Nat, i + d + 1 ≤ n → apX L J i < apX L J (i + d + 1)
  | 0, hd => by
    have := hl i i0 (by omega)
    rw [show i + ((0 : Nat) : Int) + 1 = i + 1 by omega, (ap_z h i0).1]; omega
  | d + 1, hd => by
    have ih := apX_lt h hl i0 d (by omega)
    have := hl (i + d + 1) (by omega) (by omega)
    rw [show i + ((d + 1 : Nat) : Int) + 1 = (i + (d : Int) + 1) + 1 by omega, (ap_z h (by omega)).1]; omega
theorem apX_lt2 {L J : List Int} {n : Int} (h : ∀ k, geti J k = 0) (hl : ∀ k, 0 ≤ k → k < n → 1 ≤ geti L k) {i k : Int} (i0 : 0 ≤ i) (hik : i < k) (hk : k ≤ n) : apX L J i < apX L J k := by
  have := apX_lt h hl i0 (k - i - 1).toNat (by omega)
  rw [show i + ((k - i - 1).toNat : Int) + 1 = k by omega] at this
  exact this
theorem geti_rep (n k : Int) : geti (irep n 0) k = 0 := by
  unfold geti irep
  simp only [List.getD_eq_getElem?_getD, List.getElem?_replicate]
  split <;> rfl
theorem sc_str {a1 a2 a3 j : List Int} (hz : ∀ k, geti j k = 0) (hj : jvB a1 a2 a3 j = true) : scB a1 a2 a3 j = true := by
  obtain ⟨_, _, _, hl, _⟩ := jv_p hj
  have hY := fun (k : Int) (h0 : 0 ≤ k) => (show apY a1 j k = 0 by have := apY_z (L := a1) hz k.toNat; rwa [Int.toNat_of_nonneg h0] at this)
  unfold scB
  rw [hj, Bool.true_and]
  refine allN_mk fun i i0 i1 => allN_mk fun k k0 k1 => ?_
  unfold scE segM
  by_cases h : i + 2 ≤ k
  · rw [hY i i0, hY (i + 1) (by omega), hY k k0, hY (k + 1) (by omega), meet_far (apX_lt2 hz (fun k a b => (hl k a b).1) i0 (by omega) (by omega)) (apX_lt2 hz (fun k a b => (hl k a b).1) (by omega) (by omega) (by omega)) (apX_lt2 hz (fun k a b => (hl k a b).1) k0 (by omega) (by omega))]
    simp
  · simp [h]
theorem itakeI_len {l : List Int} {n : Int} (h0 : 0 ≤ n) (h1 : n ≤ ilen l) : ilen (itake l n) = n := by
  unfold ilen itake at *
  simp; omega
theorem itakeI_get {l : List Int} {n j : Int} (h0 : 0 ≤ j) (h1 : j < n) : geti (itake l n) j = geti l j := by
  unfold geti itake
  simp only [List.getD_eq_getElem?_getD, List.getElem?_take]
  rw [if_pos (by omega)]
theorem jv_one {a1 a2 a3 j : List Int} (hj : jvB a1 a2 a3 j = true) : jvB (itake a1 1) (itake a2 1) (itake a3 1) (itake j 1) = true := by
  obtain ⟨ha, hjl, hl4, hlk, hjk⟩ := jv_p hj
  have hj' := hj
  unfold jvB at hj'
  unfold armB at ha
  simp only [Bool.and_eq_true, decide_eq_true_eq] at hj' ha
  obtain ⟨⟨⟨h1, h2⟩, h3⟩, h4⟩ := ha
  have q := allN_iff.1 h4 0 (by omega) (by omega)
  have q2 := allN_iff.1 hj'.2 0 (by omega) (by omega)
  unfold armE at q
  unfold jvB armB
  rw [itakeI_len (l := a1) (by omega) (by omega), itakeI_len (l := a2) (by omega) (by omega), itakeI_len (l := a3) (by omega) (by omega), itakeI_len (l := j) (by omega) (by omega)]
  have e : allN 1 (armE (itake a1 1) (itake a2 1) (itake a3 1)) = true := allN_mk fun k k0 k1 => by
    rw [show k = 0 by omega]
    unfold armE
    rw [itakeI_get (by omega) (by omega), itakeI_get (by omega) (by omega), itakeI_get (by omega) (by omega)]
    exact q
  have e2 : allN 1 (fun k => inB (geti (itake j 1) k) (geti (itake a2 1) k) (geti (itake a3 1) k)) = true := allN_mk fun k k0 k1 => by
    rw [show k = 0 by omega]
    show inB (geti (itake j 1) 0) (geti (itake a2 1) 0) (geti (itake a3 1) 0) = true
    rw [itakeI_get (by omega) (by omega), itakeI_get (by omega) (by omega), itakeI_get (by omega) (by omega)]
    exact q2
  rw [e, e2]
  decide
theorem sc_one {a1 a2 a3 j : List Int} (hj : jvB a1 a2 a3 j = true) : scB (itake a1 1) (itake a2 1) (itake a3 1) (itake j 1) = true := by
  obtain ⟨ha, hjl, hl4, hlk, hjk⟩ := jv_p hj
  unfold scB
  rw [jv_one hj, itakeI_len (l := a1) (by omega) (by omega), Bool.true_and]
  refine allN_mk fun i i0 i1 => allN_mk fun k k0 k1 => ?_
  unfold scE
  have h : ¬ i + 2 ≤ k := by omega
  simp [h]
def g_laws_FnSelfClear : List AV → Option Sg
  | [.s (.rdr n)] => some ⟨True, [.s (.bool (true))]⟩
  | _ => none
def sig_laws_FnSelfClear : FuncId → List AV → Option Sg := sigL [(19, g_impl_SelfClear), (20, g_spec_SelfClear), (21, g_spec_JointsValid), (22, g_laws_alive), (23, g_impl_JointsValid)]
def xs_laws_FnSelfClear : XS := ⟨xsigL [], ysigL [(18, g_spec_DrawSelfClear)]⟩
theorem sig_laws_FnSelfClear_ok : SigOK sig_laws_FnSelfClear := sigL_cons F_impl_SelfClear (sigL_cons F_spec_SelfClear (sigL_cons F_spec_JointsValid (sigL_cons F_laws_alive (sigL_cons F_impl_JointsValid sigL_nil))))
theorem xs_laws_FnSelfClear_ok : XSigOK xs_laws_FnSelfClear := ⟨xsigL_nil, ysigL_cons F_spec_DrawSelfClear ysigL_nil⟩
theorem V_laws_FnSelfClear (n : Int) : ((true = true) ∧ ((True) ∧ True) ∧ (true = true) ∧ ((True) ∧ (True) ∧ (True) ∧ True) ∧ ((ilt (1048576 : Int) n) = true → ((true = true) ∧ ((True) ∧ True) ∧ ((true : Bool) = (true)) ∧ True)) ∧ ((ilt (1048576 : Int) n) = false → ((true = true) ∧ ((True) ∧ True) ∧ (true = true) ∧ ((n ≤ 1048576)) ∧ (∀ x_81 : List Int, ∀ y_82 : List Int, ∀ z_83 : List Int, ∀ j_84 : List Int, ((ilen x_81 ≤ 10 ∧ ilen y_82 ≤ 10 ∧ ilen z_83 ≤ 10 ∧ ilen j_84 ≤ 10) → ((true = true) ∧ ((true = true) ∧ ((true = true) ∧ ((True) ∧ (True) ∧ (True) ∧ (true = true) ∧ ((True) ∧ (True) ∧ ((True)) ∧ (True) ∧ True) ∧ (true = true) ∧ ((True) ∧ (True) ∧ (True) ∧ ((True)) ∧ (True) ∧ True) ∧ ((bxor (scB (x_81) (y_82) (z_83) (j_84)) (scB (x_81) (y_82) (z_83) (j_84))) = true → ((true = true) ∧ ((True) ∧ True) ∧ ((false : Bool) = (true)) ∧ True)) ∧ ((bxor (scB (x_81) (y_82) (z_83) (j_84)) (scB (x_81) (y_82) (z_83) (j_84))) = false → ((true = true) ∧ ((True) ∧ (True) ∧ ((True)) ∧ (True) ∧ True) ∧ ((bnot (jvB (x_81) (y_82) (z_83) (j_84))) = true → ((true = true) ∧ ((True) ∧ (True) ∧ (True) ∧ (NIs (bnot (scB (x_81) (y_82) (z_83) (j_84))) true → (True)) ∧ (True) ∧ (True) ∧ True) ∧ (((bite (bnot (scB (x_81) (y_82) (z_83) (j_84))) (true) false) : Bool) = (true)) ∧ True)) ∧ ((bnot (jvB (x_81) (y_82) (z_83) (j_84))) = false → ((true = true) ∧ ((True) ∧ (True) ∧ (NLe 0 (1 : Int) ∧ NLe (1 : Int) (ilen (x_81))) ∧ (True) ∧ (True) ∧ (NLe 0 (1 : Int) ∧ NLe (1 : Int) (ilen (y_82))) ∧ (True) ∧ (True) ∧ (NLe 0 (1 : Int) ∧ NLe (1 : Int) (ilen (z_83))) ∧ (True) ∧ (True) ∧ True) ∧ (True) ∧ (true = true) ∧ ((True) ∧ (True) ∧ (NLe 0 (ilen (j_84)) ∧ NLe (ilen (j_84)) 100000000 ∧ NIs (ieq (ilen (j_84)) (ilen (j_84))) true) ∧ (True) ∧ True) ∧ (true = true) ∧ ((True) ∧ (True) ∧ (NLe 0 (1 : Int) ∧ NLe (1 : Int) (ilen (j_84))) ∧ ((True)) ∧ (True) ∧ (NIs (scB (itake (x_81) (1 : Int)) (itake (y_82) (1 : Int)) (itake (z_83) (1 : Int)) (itake (j_84) (1 : Int))) true → True) ∧ (NIs (scB (itake (x_81) (1 : Int)) (itake (y_82) (1 : Int)) (itake (z_83) (1 : Int)) (itake (j_84) (1 : Int))) true → True) ∧ (NIs (scB (itake (x_81) (1 : Int)) (itake (y_82) (1 : Int)) (itake (z_83) (1 : Int)) (itake (j_84) (1 : Int))) true → (True)) ∧ (NIs (scB (itake (x_81) (1 : Int)) (itake (y_82) (1 : Int)) (itake (z_83) (1 : Int)) (itake (j_84) (1 : Int))) true → True) ∧ (NIs (scB (itake (x_81) (1 : Int)) (itake (y_82) (1 : Int)) (itake (z_83) (1 : Int)) (itake (j_84) (1 : Int))) true → True) ∧ (NIs (scB (itake (x_81) (1 : Int)) (itake (y_82) (1 : Int)) (itake (z_83) (1 : Int)) (itake (j_84) (1 : Int))) true → (NIs (bnot (jvB (x_81) (y_82) (z_83) (irep (ilen (j_84)) 0))) false → True)) ∧ (NIs (scB (itake (x_81) (1 : Int)) (itake (y_82) (1 : Int)) (itake (z_83) (1 : Int)) (itake (j_84) (1 : Int))) true → (NIs (bnot (jvB (x_81) (y_82) (z_83) (irep (ilen (j_84)) 0))) false → True)) ∧ (NIs (scB (itake (x_81) (1 : Int)) (itake (y_82) (1 : Int)) (itake (z_83) (1 : Int)) (itake (j_84) (1 : Int))) true → (NIs (bnot (jvB (x_81) (y_82) (z_83) (irep (ilen (j_84)) 0))) false → (True))) ∧ (NIs (scB (itake (x_81) (1 : Int)) (itake (y_82) (1 : Int)) (itake (z_83) (1 : Int)) (itake (j_84) (1 : Int))) true → True) ∧ (True) ∧ (True) ∧ True) ∧ (((bite (scB (itake (x_81) (1 : Int)) (itake (y_82) (1 : Int)) (itake (z_83) (1 : Int)) (itake (j_84) (1 : Int))) (bite (bnot (jvB (x_81) (y_82) (z_83) (irep (ilen (j_84)) 0))) true (scB (x_81) (y_82) (z_83) (irep (ilen (j_84)) 0))) false) : Bool) = (true)) ∧ True))))))))))))) = ev sig_laws_FnSelfClear xs_laws_FnSelfClear Tryd.f4.ntmps (fun b => []) (codeOf Tryd.f4) 0 (initS [.s (.rdr n)]) (retK Tryd.f4.results.toList [.s (.bool (true))]) := by kernel_rfl
set_option maxHeartbeats 400000 in
theorem F_laws_FnSelfClear : FunOK 4 g_laws_FnSelfClear := by
  refine fun_F (by kernel_rfl) Tryd.func4 rfl (by kernel_rfl) sig_laws_FnSelfClear_ok xs_laws_FnSelfClear_ok ?_
  intro avs sg h hn hl
  unfold g_laws_FnSelfClear at h
  split at h
  · rename_i n
    injection h with h; subst h
    refine ⟨by kernel_rfl, fun b => [], Eq.mp (V_laws_FnSelfClear n) ?_⟩
    simp only [true_and, and_true, implies_true, and_self, forall_const, true_implies, lenA, lenL, SV.lenOK, Cont.lenOK] at hn hl ⊢
    simp only [ilt_t, ilt_f, ile_t, ile_f, ieq_t, ieq_f, bnot_e, band_e, bite_and, bite_or, NLt_e, NLe_e, NNe_e, NIs_e, imax_e, imin_e, irem_e, Bool.not_eq_true', Bool.not_eq_false', Bool.and_eq_true, Bool.or_eq_true, Bool.or_eq_false_iff, Bool.and_eq_false_iff, Cont.pts.injEq, Cont.ints.injEq, Cont.bools.injEq, Cont.ptss.injEq, Cont.intss.injEq, Cont.boolss.injEq, true_and, and_true, implies_true, bxor_self]
    intro h
    refine ⟨h, fun x y z j hp => ⟨fun h => by simp at h, fun _ => ⟨fun hj => by unfold scB; rw [hj]; rfl, fun hj => ?_⟩⟩⟩
    obtain ⟨ha, hjl, hl4, hlk, hjk⟩ := jv_p hj
    have ha' := ha
    unfold armB at ha'
    simp only [Bool.and_eq_true, decide_eq_true_eq] at ha'
    obtain ⟨⟨⟨-, h2⟩, h3⟩, -⟩ := ha'
    refine ⟨⟨⟨by omega, by omega⟩, ⟨by omega, by omega⟩, by omega, by omega⟩, ⟨by omega, by omega⟩, ⟨by omega, by omega⟩, sc_one hj, ?_⟩
    cases hz : jvB x y z (irep (ilen j) 0) with
    | false => exact .inl rfl
    | true => exact .inr (sc_str (fun k => geti_rep _ k) hz)
  · cases h
theorem fnSelfClear_walk (w : World) (v0 : Value) (x0 : Nat) (w0 : BytesArg w v0 x0) (hI : GInv w) : Calls Tryd.prog 4 #[v0] w fun e w' => e = .returned (.bool true) ∧ Bel w w' :=
  walk_of F_laws_FnSelfClear (avs := [.s (.rdr x0)]) rfl trivial ⟨bytes_reads w0, trivial⟩
set_option maxRecDepth 100000 in
theorem fnSelfClear_lifted (os : Os) (started : os.Started) (H : Type) (enc : TypeId × Value → H) :
    ReturnsInHanded {} Tryd.checked os 4 .any (fun w args => (Rows.fnSelfClearSpec.pre enc Tryd.prog Tryd.f4 [] false w args ∧ laidMetH Tryd.prog laid3 w) ∧ sizedMet enc Tryd.prog Tryd.f4 (OpenSpec.ofChange Rows.fnSelfClearSpec) false w args) (Rows.fnSelfClearSpec.post enc Tryd.prog Tryd.f4 false true false false) := by
  have own : ownKnob Tryd.prog.godebug = none := by kernel_rfl
  have laidOut : laidOutB Tryd.prog = true := by kernel_rfl
  refine returnsInHanded_of_change_and (C := Tryd.checked) (X := fun w _ => laidMetH Tryd.prog laid3 w) (fun _ _ _ hh h => h.of_heap hh) own started (by kernel_rfl) Tryd.func4
    (ChangeSpec.witness_shaped (enc := enc) (C := Tryd.checked) (os := os) (X := fun w _ => laidMetH Tryd.prog laid3 w) false (World.doorLaid Tryd.prog 400 os) #[.slice none 0 0] 8 rfl (World.shaped_of_RefB (by kernel_rfl) (by kernel_rfl)) (by kernel_rfl) (by kernel_rfl) (by kernel_rfl) (door_met os _)) ?_
  intro W base args ds gs before hval0 hW _ _ hL _
  have hI := of_laid hL
  have hval : ∀ (j : Nat) t v, Tryd.f4.params[j]? = some t → args[j]? = some v → Value.okWide Tryd.prog W .any base t v := hval0
  have hW' := hW
  obtain ⟨p, q, hA0, hV, rfl, hfz, hnd⟩ := hW
  have hA : DataW.TrodAll enc Tryd.prog W 0 (fun _ => true) true Tryd.f4.params.toList args.toList ds p := hA0
  rw [Tryd.params4] at hA hval
  obtain ⟨v0, vs0, d0, ds0, p0, q0, hargs, rfl, rfl, h0, r0⟩ := trodAll_cons hA
  obtain ⟨rfl, rfl, rfl⟩ := trodAll_nil r0
  obtain rfl : args = #[v0] := by cases args; simp_all
  obtain ⟨rfl, rfl⟩ := trodVars_none hV
  have k0 := h0
  have lt0 : ∀ x ∈ p0, x.block < W.heap.size := by obtain ⟨m, hm⟩ := k0; exact DataW.trod_lt m _ _ _ hm
  obtain ⟨x0, w0⟩ := opn_bytes (hval 0 41 v0 rfl rfl) h0
  clear hA0 hval0
  refine (fnSelfClear_walk W v0 x0 w0 hI).mono fun e W' ⟨he, bel⟩ => ?_
  subst he
  exact ⟨_, rfl, _, _, _, [], _, [], hW', trodAll_mk1 (shut_bool Tryd.underlying4 _), (trodAll_cons_mk (Below.trod laidOut (by kernel_rfl) (of_decide_eq_true (by kernel_rfl)) k0 bel lt0) trodAll_mk0), rfl, Below.frame bel _, fun h => by cases h⟩
theorem fnSelfClear_over : Rows.fnSelfClearRow.holds Tryd.pinned (OpenSpec.ofChange Rows.fnSelfClearSpec) :=
  OpenClaim.holds_of_wide 4 Tryd.f4 rfl rfl rfl rfl rfl rfl rfl ⟨rfl, rfl, rfl, rfl, rfl⟩ rfl rfl rfl rfl rfl (by kernel_rfl) Tryd.func4 (by kernel_rfl)
    (of_decide_eq_true (by kernel_rfl)) (by unfold Func.isWrapper; first | (rw [if_pos (by decide +kernel)]; kernel_rfl) | (rw [if_neg (by decide +kernel)]; exact ⟨rfl, rfl⟩))
    (fun os started H enc _ => fnSelfClear_lifted os started H enc)
theorem fnSelfClear_proved : Rows.FnSelfClearCardSaid :=
  Claim7.holds_tied_plain_at .later [] [.data, .data, .data] true (true, "4a182926ec762b0eb94bef2fbdcd0ced45a6d22b8d887d494e258833d06e4fa5") false
    fnSelfClear_over (fun _ h => by cases h) (by kernel_rfl) (fun _ h => by cases h) fnSelfClear_row_tie rfl ⟨rfl, rfl⟩ (by kernel_rfl) rfl
    (fun f fn hf hfn => by
      obtain rfl : f = 4 := Option.some.inj ((show Tryd.prog.funcNamed "loop.example/robotcell/laws.FnSelfClear" = some 4 by kernel_rfl).symm.trans hf) |>.symm
      obtain rfl : fn = Tryd.f4 := (Option.some.inj (Tryd.func4.symm.trans hfn)).symm
      exact ⟨by kernel_rfl, fun j t ht => by
        rw [Tryd.params4] at ht
        have hm : t ∈ [41] := by simpa using Array.mem_of_getElem? ht
        have hall : ([41].all fun u => !Tryd.prog.wantsStandIn u) = true := by kernel_rfl
        exact (show Tryd.prog.wantsStandIn t = false by simpa using List.all_eq_true.1 hall t hm)⟩)
    (by kernel_rfl)
#print axioms fnSelfClear_proved
end Go.Proofs.YtejiomhoflnboaaDoor

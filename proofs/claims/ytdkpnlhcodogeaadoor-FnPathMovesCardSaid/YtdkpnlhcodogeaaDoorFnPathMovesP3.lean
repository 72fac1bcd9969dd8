/- Contracts by evaluation, part 3. -/
import Derived.Test.YtdkpnlhcodogeaaDoorFnPathMovesP2
namespace Go.Proofs.YtdkpnlhcodogeaaDoor
open Go.ChangeShapes Go.WideShapes Go.ChangeAt Go.RowKit
set_option maxRecDepth 100000
set_option linter.unusedSimpArgs false
set_option linter.unusedVariables false
def g_spec_SceneValid : List AV → Option Sg
  | [.s (.view (.ptss l))] => some ⟨True, [.s (.bool (sceneB l))]⟩
  | _ => none
def sig_spec_SceneValid : FuncId → List AV → Option Sg := sigL [(93, g_spec_ConvexValid)]
def xs_spec_SceneValid : XS := ⟨xsigL [], ysigL []⟩
theorem sig_spec_SceneValid_ok : SigOK sig_spec_SceneValid := sigL_cons F_spec_ConvexValid sigL_nil
theorem xs_spec_SceneValid_ok : XSigOK xs_spec_SceneValid := ⟨xsigL_nil, ysigL_nil⟩
theorem V_spec_SceneValid (l : List (List Pt)) : ((true = true) ∧ ((True) ∧ True) ∧ (true = true) ∧ ((True) ∧ True) ∧ ∃ (I1 : List GV → Prop) (μ1 : List GV → Nat), (((true = true) ∧ (((false : Bool) = false) ∧ (((0 : Int) : Int) = (0 : Int)) ∧ ((Cont.ptss l) = (Cont.ptss l)) ∧ True) ∧ (True)) ∧ (([GK.int, GK.bool] : List GK) = ([GK.int, GK.bool] : List GK)) ∧ I1 [GV.int (0 : Int), GV.bool false]) ∧ (∀ i1_0 : Int, ∀ b1_1 : Bool, I1 [GV.int i1_0, GV.bool b1_1] → ((true = true) ∧ ((True) ∧ (True) ∧ (True) ∧ (True) ∧ True) ∧ ((ilt i1_0 (ilen l)) = true → ((true = true) ∧ ((True) ∧ (True) ∧ (NLe 0 i1_0 ∧ NLt i1_0 (ilen l)) ∧ (True) ∧ ((True)) ∧ (True) ∧ True) ∧ ((bnot (convB (getl l i1_0))) = true → ((true = true) ∧ ((True) ∧ True) ∧ ((false : Bool) = (sceneB l)) ∧ True)) ∧ ((bnot (convB (getl l i1_0))) = false → ((true = true) ∧ ((True) ∧ (True) ∧ (True) ∧ True) ∧ ((true = true) ∧ (((b1_1 : Bool) = b1_1) ∧ (((iadd i1_0 (1 : Int)) : Int) = (iadd i1_0 (1 : Int))) ∧ ((Cont.ptss l) = (Cont.ptss l)) ∧ True) ∧ (True)) ∧ ((([GK.int, GK.bool] : List GK) = ([GK.int, GK.bool] : List GK)) ∧ I1 [GV.int (iadd i1_0 (1 : Int)), GV.bool b1_1] ∧ μ1 [GV.int (iadd i1_0 (1 : Int)), GV.bool b1_1] < μ1 [GV.int i1_0, GV.bool b1_1]))))) ∧ ((ilt i1_0 (ilen l)) = false → ((true = true) ∧ ((True) ∧ (True) ∧ (True) ∧ (True) ∧ True) ∧ (((ile (ilen l) (6 : Int)) : Bool) = (sceneB l)) ∧ True))))) = ev sig_spec_SceneValid xs_spec_SceneValid Tryd.f55.ntmps (fun b => if b == 0 then [.v 3, .v 2] else []) (codeOf Tryd.f55) 0 (initS [.s (.view (.ptss l))]) (retK Tryd.f55.results.toList [.s (.bool (sceneB l))]) := by kernel_rfl
set_option maxHeartbeats 400000 in
theorem F_spec_SceneValid : FunOK 55 g_spec_SceneValid := by
  refine fun_F (by kernel_rfl) Tryd.func55 rfl (by kernel_rfl) sig_spec_SceneValid_ok xs_spec_SceneValid_ok ?_
  intro avs sg h hn hl
  unfold g_spec_SceneValid at h
  split at h
  · rename_i l
    injection h with h; subst h
    refine ⟨by kernel_rfl, fun b => if b == 0 then [.v 3, .v 2] else [], Eq.mp (V_spec_SceneValid l) ?_⟩
    simp only [true_and, and_true, implies_true, and_self, forall_const, true_implies, lenA, lenL, SV.lenOK, Cont.lenOK] at hn hl ⊢
    have h0 := ilen_0 l
    simp only [ilt_t, ilt_f, ile_t, ile_f, ieq_t, ieq_f, bnot_e, band_e, bite_and, bite_or, NLt_e, NLe_e, NNe_e, NIs_e, imax_e, imin_e, irem_e, Bool.not_eq_true', Bool.not_eq_false', Bool.and_eq_true, Bool.or_eq_true, Bool.or_eq_false_iff, Bool.and_eq_false_iff, Cont.pts.injEq, Cont.ints.injEq, Cont.bools.injEq, Cont.ptss.injEq, Cont.intss.injEq, Cont.boolss.injEq, true_and, and_true, implies_true]
    refine ⟨fun | .int k :: _ => 0 ≤ k ∧ k ≤ ilen l ∧ (∀ i, 0 ≤ i → i < k → convB (getl l i) = true) | _ => False, fun | .int k :: _ => (ilen l - k).toNat | _ => 0, ?_, ?_⟩
    · exact ⟨Int.le_refl 0, h0, fun j h0 h1 => absurd h1 (by omega)⟩
    · rintro k _ ⟨hk0, hk1, hk⟩
      simp only [ilt_t, ilt_f, ile_t, ile_f, ieq_t, ieq_f, bnot_e, band_e, bite_and, bite_or, NLt_e, NLe_e, NNe_e, NIs_e, imax_e, imin_e, irem_e, Bool.not_eq_true', Bool.not_eq_false', Bool.and_eq_true, Bool.or_eq_true, Bool.or_eq_false_iff, Bool.and_eq_false_iff, Cont.pts.injEq, Cont.ints.injEq, Cont.bools.injEq, Cont.ptss.injEq, Cont.intss.injEq, Cont.boolss.injEq, true_and, and_true, implies_true]
      refine ⟨fun hkn => ⟨⟨hk0, hkn⟩, fun hx => ?_, fun hx => ?_⟩, fun hkn => ?_⟩
      · unfold sceneB; rw [allN_no k hk0 hkn hx]; simp
      · rw [iadd_1 hk0 hkn hl.1]
        exact ⟨⟨by omega, by omega, upTo hk hx⟩, by omega⟩
      · unfold sceneB; rw [allN_mk fun j j0 j1 => hk j j0 (by omega)]; simp
  · cases h
def g_spec_Degrees : List AV → Option Sg
  | [.s (.int d)] => some ⟨True, [.s (.int (d % 360))]⟩
  | _ => none
def sig_spec_Degrees : FuncId → List AV → Option Sg := sigL []
def xs_spec_Degrees : XS := ⟨xsigL [], ysigL []⟩
theorem sig_spec_Degrees_ok : SigOK sig_spec_Degrees := sigL_nil
theorem xs_spec_Degrees_ok : XSigOK xs_spec_Degrees := ⟨xsigL_nil, ysigL_nil⟩
theorem V_spec_Degrees (d : Int) : ((true = true) ∧ ((True) ∧ True) ∧ (true = true) ∧ ((True) ∧ (NNe (360 : Int) 0) ∧ (True) ∧ True) ∧ (true = true) ∧ ((True) ∧ (True) ∧ True) ∧ ((ilt (irem d (360 : Int)) (0 : Int)) = true → ((true = true) ∧ ((True) ∧ (True) ∧ (True) ∧ True) ∧ (true = true) ∧ ((True) ∧ (True) ∧ True) ∧ (((iadd (irem d (360 : Int)) (360 : Int)) : Int) = (d % 360)) ∧ True)) ∧ ((ilt (irem d (360 : Int)) (0 : Int)) = false → ((true = true) ∧ ((True) ∧ (True) ∧ True) ∧ (((irem d (360 : Int)) : Int) = (d % 360)) ∧ True))) = ev sig_spec_Degrees xs_spec_Degrees Tryd.f120.ntmps (fun b => []) (codeOf Tryd.f120) 0 (initS [.s (.int d)]) (retK Tryd.f120.results.toList [.s (.int (d % 360))]) := by kernel_rfl
set_option maxHeartbeats 400000 in
theorem F_spec_Degrees : FunOK 120 g_spec_Degrees := by
  refine fun_F (by kernel_rfl) Tryd.func120 rfl (by kernel_rfl) sig_spec_Degrees_ok xs_spec_Degrees_ok ?_
  intro avs sg h hn hl
  unfold g_spec_Degrees at h
  split at h
  · rename_i d
    injection h with h; subst h
    refine ⟨by kernel_rfl, fun b => [], Eq.mp (V_spec_Degrees d) ?_⟩
    simp only [true_and, and_true, implies_true, and_self, forall_const, true_implies, lenA, lenL, SV.lenOK, Cont.lenOK] at hn hl ⊢
    simp only [ilt_t, ilt_f, ile_t, ile_f, ieq_t, ieq_f, bnot_e, band_e, bite_and, bite_or, NLt_e, NLe_e, NNe_e, NIs_e, imax_e, imin_e, irem_e, Bool.not_eq_true', Bool.not_eq_false', Bool.and_eq_true, Bool.or_eq_true, Bool.or_eq_false_iff, Bool.and_eq_false_iff, Cont.pts.injEq, Cont.ints.injEq, Cont.bools.injEq, Cont.ptss.injEq, Cont.intss.injEq, Cont.boolss.injEq, true_and, and_true, implies_true]
    obtain ⟨h1, h2, h3⟩ := tmod_emod d
    refine ⟨by omega, fun h => ?_, fun h => ?_⟩
    · rw [iadd_e (by omega) (by omega)]; exact h2 h
    · exact h3 h
  · cases h
def g_spec_Cosine : List AV → Option Sg
  | [.s (.int d)] => some ⟨True, [.s (.int (cosF d))]⟩
  | _ => none
def sig_spec_Cosine : FuncId → List AV → Option Sg := sigL [(120, g_spec_Degrees), (101, g_spec_Sine)]
def xs_spec_Cosine : XS := ⟨xsigL [], ysigL []⟩
theorem sig_spec_Cosine_ok : SigOK sig_spec_Cosine := sigL_cons F_spec_Degrees (sigL_cons F_spec_Sine sigL_nil)
theorem xs_spec_Cosine_ok : XSigOK xs_spec_Cosine := ⟨xsigL_nil, ysigL_nil⟩
theorem V_spec_Cosine (d : Int) : ((true = true) ∧ ((True) ∧ True) ∧ (true = true) ∧ ((True) ∧ ((True)) ∧ (True) ∧ ((True)) ∧ (True) ∧ True) ∧ (((sinF (iadd (d % 360) (90 : Int))) : Int) = (cosF d)) ∧ True) = ev sig_spec_Cosine xs_spec_Cosine Tryd.f102.ntmps (fun b => []) (codeOf Tryd.f102) 0 (initS [.s (.int d)]) (retK Tryd.f102.results.toList [.s (.int (cosF d))]) := by kernel_rfl
set_option maxHeartbeats 400000 in
theorem F_spec_Cosine : FunOK 102 g_spec_Cosine := by
  refine fun_F (by kernel_rfl) Tryd.func102 rfl (by kernel_rfl) sig_spec_Cosine_ok xs_spec_Cosine_ok ?_
  intro avs sg h hn hl
  unfold g_spec_Cosine at h
  split at h
  · rename_i d
    injection h with h; subst h
    refine ⟨by kernel_rfl, fun b => [], Eq.mp (V_spec_Cosine d) ?_⟩
    simp only [true_and, and_true, implies_true, and_self, forall_const, true_implies, lenA, lenL, SV.lenOK, Cont.lenOK] at hn hl ⊢
    try simp only [ilt_t, ilt_f, ile_t, ile_f, ieq_t, ieq_f, bnot_e, band_e, bite_and, bite_or, NLt_e, NLe_e, NNe_e, NIs_e, imax_e, imin_e, irem_e, Bool.not_eq_true', Bool.not_eq_false', Bool.and_eq_true, Bool.or_eq_true, Bool.or_eq_false_iff, Bool.and_eq_false_iff, Cont.pts.injEq, Cont.ints.injEq, Cont.bools.injEq, Cont.ptss.injEq, Cont.intss.injEq, Cont.boolss.injEq, true_and, and_true, implies_true]
    unfold cosF
    rw [iadd_e (by omega) (by omega)]
  · cases h
def g_spec_l1Floor : List AV → Option Sg
  | [.s (.int a), .s (.int b)] => some ⟨1 ≤ b ∧ -9223372036854775807 ≤ a ∧ a ≤ 9223372036854775807, [.s (.int (a / b))]⟩
  | _ => none
def sig_spec_l1Floor : FuncId → List AV → Option Sg := sigL []
def xs_spec_l1Floor : XS := ⟨xsigL [], ysigL []⟩
theorem sig_spec_l1Floor_ok : SigOK sig_spec_l1Floor := sigL_nil
theorem xs_spec_l1Floor_ok : XSigOK xs_spec_l1Floor := ⟨xsigL_nil, ysigL_nil⟩
theorem V_spec_l1Floor (a : Int) (b : Int) : ((true = true) ∧ ((True) ∧ True) ∧ (true = true) ∧ ((True) ∧ (True) ∧ (NNe b 0) ∧ (True) ∧ True) ∧ (true = true) ∧ ((True) ∧ (True) ∧ (NNe b 0) ∧ (True) ∧ True) ∧ ((ilt (irem a b) (0 : Int)) = true → ((true = true) ∧ ((True) ∧ (True) ∧ (True) ∧ True) ∧ (true = true) ∧ ((True) ∧ (True) ∧ True) ∧ (((isub (iquo a b) (1 : Int)) : Int) = (a / b)) ∧ True)) ∧ ((ilt (irem a b) (0 : Int)) = false → ((true = true) ∧ ((True) ∧ (True) ∧ True) ∧ (((iquo a b) : Int) = (a / b)) ∧ True))) = ev sig_spec_l1Floor xs_spec_l1Floor Tryd.f122.ntmps (fun b => []) (codeOf Tryd.f122) 0 (initS [.s (.int a), .s (.int b)]) (retK Tryd.f122.results.toList [.s (.int (a / b))]) := by kernel_rfl
set_option maxHeartbeats 400000 in
theorem F_spec_l1Floor : FunOK 122 g_spec_l1Floor := by
  refine fun_F (by kernel_rfl) Tryd.func122 rfl (by kernel_rfl) sig_spec_l1Floor_ok xs_spec_l1Floor_ok ?_
  intro avs sg h hn hl
  unfold g_spec_l1Floor at h
  split at h
  · rename_i a b
    injection h with h; subst h
    refine ⟨by kernel_rfl, fun b => [], Eq.mp (V_spec_l1Floor a b) ?_⟩
    simp only [true_and, and_true, implies_true, and_self, forall_const, true_implies, lenA, lenL, SV.lenOK, Cont.lenOK] at hn hl ⊢
    obtain ⟨n1, n2, n3⟩ := hn
    obtain ⟨q1, q2⟩ := tdiv_bd n1 n2 n3
    obtain ⟨f1, f2⟩ := floor_e (a := a) n1
    simp only [ilt_t, ilt_f, ile_t, ile_f, ieq_t, ieq_f, bnot_e, band_e, bite_and, bite_or, NLt_e, NLe_e, NNe_e, NIs_e, imax_e, imin_e, irem_e, Bool.not_eq_true', Bool.not_eq_false', Bool.and_eq_true, Bool.or_eq_true, Bool.or_eq_false_iff, Bool.and_eq_false_iff, Cont.pts.injEq, Cont.ints.injEq, Cont.bools.injEq, Cont.ptss.injEq, Cont.intss.injEq, Cont.boolss.injEq, true_and, and_true, implies_true]
    refine ⟨by omega, by omega, fun h => ?_, fun h => ?_⟩
    · rw [q1, q2 h, f1 h]
    · rw [q1, f2 h]
  · cases h
def g_spec_l1Round : List AV → Option Sg
  | [.s (.int a), .s (.int b)] => some ⟨1 ≤ b ∧ b ≤ 1000000 ∧ -1000000000000 ≤ a ∧ a ≤ 1000000000000, [.s (.int ((a + b / 2) / b))]⟩
  | _ => none
def sig_spec_l1Round : FuncId → List AV → Option Sg := sigL [(122, g_spec_l1Floor)]
def xs_spec_l1Round : XS := ⟨xsigL [], ysigL []⟩
theorem sig_spec_l1Round_ok : SigOK sig_spec_l1Round := sigL_cons F_spec_l1Floor sigL_nil
theorem xs_spec_l1Round_ok : XSigOK xs_spec_l1Round := ⟨xsigL_nil, ysigL_nil⟩
theorem V_spec_l1Round (a : Int) (b : Int) : ((true = true) ∧ ((True) ∧ True) ∧ (true = true) ∧ ((True) ∧ (True) ∧ (NNe (2 : Int) 0) ∧ (True) ∧ (True) ∧ ((1 ≤ b ∧ -9223372036854775807 ≤ (iadd a (iquo b (2 : Int))) ∧ (iadd a (iquo b (2 : Int))) ≤ 9223372036854775807)) ∧ (True) ∧ True) ∧ ((((iadd a (iquo b (2 : Int))) / b) : Int) = ((a + b / 2) / b)) ∧ True) = ev sig_spec_l1Round xs_spec_l1Round Tryd.f103.ntmps (fun b => []) (codeOf Tryd.f103) 0 (initS [.s (.int a), .s (.int b)]) (retK Tryd.f103.results.toList [.s (.int ((a + b / 2) / b))]) := by kernel_rfl
set_option maxHeartbeats 400000 in
theorem F_spec_l1Round : FunOK 103 g_spec_l1Round := by
  refine fun_F (by kernel_rfl) Tryd.func103 rfl (by kernel_rfl) sig_spec_l1Round_ok xs_spec_l1Round_ok ?_
  intro avs sg h hn hl
  unfold g_spec_l1Round at h
  split at h
  · rename_i a b
    injection h with h; subst h
    refine ⟨by kernel_rfl, fun b => [], Eq.mp (V_spec_l1Round a b) ?_⟩
    simp only [true_and, and_true, implies_true, and_self, forall_const, true_implies, lenA, lenL, SV.lenOK, Cont.lenOK] at hn hl ⊢
    simp only [ilt_t, ilt_f, ile_t, ile_f, ieq_t, ieq_f, bnot_e, band_e, bite_and, bite_or, NLt_e, NLe_e, NNe_e, NIs_e, imax_e, imin_e, irem_e, Bool.not_eq_true', Bool.not_eq_false', Bool.and_eq_true, Bool.or_eq_true, Bool.or_eq_false_iff, Bool.and_eq_false_iff, Cont.pts.injEq, Cont.ints.injEq, Cont.bools.injEq, Cont.ptss.injEq, Cont.intss.injEq, Cont.boolss.injEq, true_and, and_true, implies_true]
    have e : iquo b 2 = b / 2 := by rw [iquo_e (by omega) (by omega) (by omega), Int.tdiv_eq_ediv_of_nonneg (by omega)]
    rw [e, iadd_e (by omega) (by omega)]
    exact ⟨by omega, rfl⟩
  · cases h
def g_spec_l2Turn : List AV → Option Sg
  | [.agg [.int p1, .int p2], .s (.int d)] => some ⟨vB p1 p2 = true, [.agg [.int (rotX p1 p2 d), .int (rotY p1 p2 d)]]⟩
  | _ => none
def sig_spec_l2Turn : FuncId → List AV → Option Sg := sigL [(101, g_spec_Sine), (102, g_spec_Cosine), (103, g_spec_l1Round)]
def xs_spec_l2Turn : XS := ⟨xsigL [], ysigL []⟩
theorem sig_spec_l2Turn_ok : SigOK sig_spec_l2Turn := sigL_cons F_spec_Sine (sigL_cons F_spec_Cosine (sigL_cons F_spec_l1Round sigL_nil))
theorem xs_spec_l2Turn_ok : XSigOK xs_spec_l2Turn := ⟨xsigL_nil, ysigL_nil⟩
theorem V_spec_l2Turn (p1 : Int) (p2 : Int) (d : Int) : ((true = true) ∧ ((True) ∧ (True) ∧ True) ∧ (true = true) ∧ ((True) ∧ ((True)) ∧ (True) ∧ True) ∧ (true = true) ∧ ((True) ∧ ((True)) ∧ (True) ∧ True) ∧ (true = true) ∧ ((True) ∧ (True) ∧ (True) ∧ (True) ∧ (True) ∧ (True) ∧ (True) ∧ (True) ∧ (True) ∧ ((1 ≤ (4096 : Int) ∧ (4096 : Int) ≤ 1000000 ∧ -1000000000000 ≤ (isub (imul p1 (cosF d)) (imul p2 (sinF d))) ∧ (isub (imul p1 (cosF d)) (imul p2 (sinF d))) ≤ 1000000000000)) ∧ (True) ∧ (True) ∧ (True) ∧ (True) ∧ (True) ∧ (True) ∧ (True) ∧ (True) ∧ (True) ∧ ((1 ≤ (4096 : Int) ∧ (4096 : Int) ≤ 1000000 ∧ -1000000000000 ≤ (iadd (imul p1 (sinF d)) (imul p2 (cosF d))) ∧ (iadd (imul p1 (sinF d)) (imul p2 (cosF d))) ≤ 1000000000000)) ∧ (True) ∧ True) ∧ (True) ∧ ((((((isub (imul p1 (cosF d)) (imul p2 (sinF d))) + (4096 : Int) / 2) / (4096 : Int)) : Int) = (rotX p1 p2 d)) ∧ (((((iadd (imul p1 (sinF d)) (imul p2 (cosF d))) + (4096 : Int) / 2) / (4096 : Int)) : Int) = (rotY p1 p2 d)) ∧ True) ∧ True) = ev sig_spec_l2Turn xs_spec_l2Turn Tryd.f83.ntmps (fun b => []) (codeOf Tryd.f83) 0 (initS [.agg [.int p1, .int p2], .s (.int d)]) (retK Tryd.f83.results.toList [.agg [.int (rotX p1 p2 d), .int (rotY p1 p2 d)]]) := by kernel_rfl
set_option maxHeartbeats 400000 in
theorem F_spec_l2Turn : FunOK 83 g_spec_l2Turn := by
  refine fun_F (by kernel_rfl) Tryd.func83 rfl (by kernel_rfl) sig_spec_l2Turn_ok xs_spec_l2Turn_ok ?_
  intro avs sg h hn hl
  unfold g_spec_l2Turn at h
  split at h
  · rename_i p1 p2 d
    injection h with h; subst h
    refine ⟨by kernel_rfl, fun b => [], Eq.mp (V_spec_l2Turn p1 p2 d) ?_⟩
    simp only [true_and, and_true, implies_true, and_self, forall_const, true_implies, lenA, lenL, SV.lenOK, Cont.lenOK] at hn hl ⊢
    have c := cosF_bd d; have s := sinF_bd d
    have hv := vB_bd hn
    have q1 := mul40 (x := p1) (y := cosF d) (a := 10000) (by omega) (by omega) c
    have q2 := mul40 (x := p2) (y := sinF d) (a := 10000) (by omega) (by omega) s
    have q3 := mul40 (x := p1) (y := sinF d) (a := 10000) (by omega) (by omega) s
    have q4 := mul40 (x := p2) (y := cosF d) (a := 10000) (by omega) (by omega) c
    try simp only [ilt_t, ilt_f, ile_t, ile_f, ieq_t, ieq_f, bnot_e, band_e, bite_and, bite_or, NLt_e, NLe_e, NNe_e, NIs_e, imax_e, imin_e, irem_e, Bool.not_eq_true', Bool.not_eq_false', Bool.and_eq_true, Bool.or_eq_true, Bool.or_eq_false_iff, Bool.and_eq_false_iff, Cont.pts.injEq, Cont.ints.injEq, Cont.bools.injEq, Cont.ptss.injEq, Cont.intss.injEq, Cont.boolss.injEq, true_and, and_true, implies_true]
    rw [imul_e (a := p1) (b := cosF d) (by omega) (by omega), imul_e (a := p2) (b := sinF d) (by omega) (by omega), imul_e (a := p1) (b := sinF d) (by omega) (by omega), imul_e (a := p2) (b := cosF d) (by omega) (by omega), isub_e (by omega) (by omega), iadd_e (by omega) (by omega)]
    exact ⟨⟨⟨by omega, by omega, by omega, by omega⟩, by omega, by omega, by omega, by omega⟩, rfl, rfl⟩
  · cases h
def g_spec_l3Points : List AV → Option Sg
  | [.agg [.view (.ints a1), .view (.ints a2), .view (.ints a3)], .s (.view (.ints j))] => some ⟨jvB a1 a2 a3 j = true, [.nrow 62 (.pts (apL a1 j (ilen a1 + 1)))]⟩
  | _ => none
def sig_spec_l3Points : FuncId → List AV → Option Sg := sigL [(83, g_spec_l2Turn)]
def xs_spec_l3Points : XS := ⟨xsigL [], ysigL []⟩
theorem sig_spec_l3Points_ok : SigOK sig_spec_l3Points := sigL_cons F_spec_l2Turn sigL_nil
theorem xs_spec_l3Points_ok : XSigOK xs_spec_l3Points := ⟨xsigL_nil, ysigL_nil⟩
theorem V_spec_l3Points (a1 : List Int) (a2 : List Int) (a3 : List Int) (j : List Int) : ((true = true) ∧ ((True) ∧ (True) ∧ True) ∧ (true = true) ∧ ((True) ∧ (True) ∧ True) ∧ (True) ∧ (true = true) ∧ ((True) ∧ True) ∧ (true = true) ∧ ((True) ∧ (True) ∧ (True) ∧ True) ∧ (true = true) ∧ ((True) ∧ True) ∧ ∃ (I1 : List GV → Prop) (μ1 : List GV → Nat), (((true = true) ∧ ((((0 : Int) : Int) = (0 : Int)) ∧ (((0 : Int) : Int) = (0 : Int)) ∧ ((((0 : Int) : Int) = (0 : Int)) ∧ (((0 : Int) : Int) = (0 : Int)) ∧ True) ∧ (true = true) ∧ ((((0 : Int) : Int) = (0 : Int)) ∧ (((0 : Int) : Int) = (0 : Int)) ∧ True) ∧ (true = true) ∧ (true = true) ∧ (true = true) ∧ (((Cont.ints a1) = (Cont.ints a1)) ∧ ((Cont.ints a2) = (Cont.ints a2)) ∧ ((Cont.ints a3) = (Cont.ints a3)) ∧ True) ∧ ((Cont.ints j) = (Cont.ints j)) ∧ True) ∧ (((((0 : Int) : Int) = (0 : Int)) ∧ (((0 : Int) : Int) = (0 : Int)) ∧ True) ∧ ((true = true) ∧ ((Cont.pts [((0 : Int), (0 : Int))]) = (Cont.pts [((0 : Int), (0 : Int))]))) ∧ (((Cont.ints a1) = (Cont.ints a1)) ∧ ((Cont.ints a2) = (Cont.ints a2)) ∧ ((Cont.ints a3) = (Cont.ints a3)) ∧ True) ∧ ((true = true) ∧ ((Cont.pts []) = (Cont.pts []))) ∧ True)) ∧ (([GK.int, GK.pts, GK.int, GK.int, GK.int] : List GK) = ([GK.int, GK.pts, GK.int, GK.int, GK.int] : List GK)) ∧ I1 [GV.int (0 : Int), GV.pts [((0 : Int), (0 : Int))], GV.int (0 : Int), GV.int (0 : Int), GV.int (0 : Int)]) ∧ (∀ i1_0 : Int, ∀ l1_1 : List Pt, ∀ i1_2 : Int, ∀ i1_3 : Int, ∀ i1_4 : Int, I1 [GV.int i1_0, GV.pts l1_1, GV.int i1_2, GV.int i1_3, GV.int i1_4] → ((true = true) ∧ ((True) ∧ (True) ∧ (True) ∧ (True) ∧ True) ∧ ((ilt i1_0 (ilen j)) = true → ((true = true) ∧ ((True) ∧ (True) ∧ (True) ∧ (NLe 0 i1_0 ∧ NLt i1_0 (ilen j)) ∧ (True) ∧ (True) ∧ (True) ∧ True) ∧ (true = true) ∧ ((True) ∧ (True) ∧ (True) ∧ (NLe 0 i1_0 ∧ NLt i1_0 (ilen a1)) ∧ (True) ∧ (True) ∧ (True) ∧ ((vB (geti a1 i1_0) (0 : Int) = true)) ∧ (True) ∧ True) ∧ (True) ∧ (true = true) ∧ ((True) ∧ (True) ∧ (True) ∧ (True) ∧ (True) ∧ (True) ∧ (True) ∧ (True) ∧ (True) ∧ (True) ∧ (True) ∧ True) ∧ (True) ∧ (true = true) ∧ ((True) ∧ (True) ∧ (True) ∧ True) ∧ (NLe (ilen l1_1) 1000000000 ∧ NLe (ilen [((iadd i1_3 (rotX (geti a1 i1_0) (0 : Int) (iadd i1_2 (geti j i1_0)))), (iadd i1_4 (rotY (geti a1 i1_0) (0 : Int) (iadd i1_2 (geti j i1_0)))))]) 1000000000) ∧ (True) ∧ (true = true) ∧ ((True) ∧ (True) ∧ (True) ∧ True) ∧ ((true = true) ∧ ((((iadd i1_2 (geti j i1_0)) : Int) = (iadd i1_2 (geti j i1_0))) ∧ (((iadd i1_0 (1 : Int)) : Int) = (iadd i1_0 (1 : Int))) ∧ ((((0 : Int) : Int) = (0 : Int)) ∧ (((0 : Int) : Int) = (0 : Int)) ∧ True) ∧ (true = true) ∧ ((((0 : Int) : Int) = (0 : Int)) ∧ (((0 : Int) : Int) = (0 : Int)) ∧ True) ∧ (true = true) ∧ (true = true) ∧ (true = true) ∧ (((Cont.ints a1) = (Cont.ints a1)) ∧ ((Cont.ints a2) = (Cont.ints a2)) ∧ ((Cont.ints a3) = (Cont.ints a3)) ∧ True) ∧ ((Cont.ints j) = (Cont.ints j)) ∧ True) ∧ (((((iadd i1_3 (rotX (geti a1 i1_0) (0 : Int) (iadd i1_2 (geti j i1_0)))) : Int) = (iadd i1_3 (rotX (geti a1 i1_0) (0 : Int) (iadd i1_2 (geti j i1_0))))) ∧ (((iadd i1_4 (rotY (geti a1 i1_0) (0 : Int) (iadd i1_2 (geti j i1_0)))) : Int) = (iadd i1_4 (rotY (geti a1 i1_0) (0 : Int) (iadd i1_2 (geti j i1_0))))) ∧ True) ∧ ((true = true) ∧ ((Cont.pts (iapp l1_1 [((iadd i1_3 (rotX (geti a1 i1_0) (0 : Int) (iadd i1_2 (geti j i1_0)))), (iadd i1_4 (rotY (geti a1 i1_0) (0 : Int) (iadd i1_2 (geti j i1_0)))))])) = (Cont.pts (iapp l1_1 [((iadd i1_3 (rotX (geti a1 i1_0) (0 : Int) (iadd i1_2 (geti j i1_0)))), (iadd i1_4 (rotY (geti a1 i1_0) (0 : Int) (iadd i1_2 (geti j i1_0)))))])))) ∧ (((Cont.ints a1) = (Cont.ints a1)) ∧ ((Cont.ints a2) = (Cont.ints a2)) ∧ ((Cont.ints a3) = (Cont.ints a3)) ∧ True) ∧ ((true = true) ∧ ((Cont.pts []) = (Cont.pts []))) ∧ True)) ∧ ((([GK.int, GK.pts, GK.int, GK.int, GK.int] : List GK) = ([GK.int, GK.pts, GK.int, GK.int, GK.int] : List GK)) ∧ I1 [GV.int (iadd i1_0 (1 : Int)), GV.pts (iapp l1_1 [((iadd i1_3 (rotX (geti a1 i1_0) (0 : Int) (iadd i1_2 (geti j i1_0)))), (iadd i1_4 (rotY (geti a1 i1_0) (0 : Int) (iadd i1_2 (geti j i1_0)))))]), GV.int (iadd i1_2 (geti j i1_0)), GV.int (iadd i1_3 (rotX (geti a1 i1_0) (0 : Int) (iadd i1_2 (geti j i1_0)))), GV.int (iadd i1_4 (rotY (geti a1 i1_0) (0 : Int) (iadd i1_2 (geti j i1_0))))] ∧ μ1 [GV.int (iadd i1_0 (1 : Int)), GV.pts (iapp l1_1 [((iadd i1_3 (rotX (geti a1 i1_0) (0 : Int) (iadd i1_2 (geti j i1_0)))), (iadd i1_4 (rotY (geti a1 i1_0) (0 : Int) (iadd i1_2 (geti j i1_0)))))]), GV.int (iadd i1_2 (geti j i1_0)), GV.int (iadd i1_3 (rotX (geti a1 i1_0) (0 : Int) (iadd i1_2 (geti j i1_0)))), GV.int (iadd i1_4 (rotY (geti a1 i1_0) (0 : Int) (iadd i1_2 (geti j i1_0))))] < μ1 [GV.int i1_0, GV.pts l1_1, GV.int i1_2, GV.int i1_3, GV.int i1_4]))) ∧ ((ilt i1_0 (ilen j)) = false → ((true = true) ∧ ((True) ∧ (True) ∧ True) ∧ ((true = true) ∧ ((Cont.pts l1_1) = (Cont.pts (apL a1 j (ilen a1 + 1))))) ∧ True))))) = ev sig_spec_l3Points xs_spec_l3Points Tryd.f88.ntmps (fun b => if b == 0 then [.v 8, .b 7, .v 6, .b 5] else []) (codeOf Tryd.f88) 0 (initS [.agg [.view (.ints a1), .view (.ints a2), .view (.ints a3)], .s (.view (.ints j))]) (retK Tryd.f88.results.toList [.nrow 62 (.pts (apL a1 j (ilen a1 + 1)))]) := by kernel_rfl
set_option maxHeartbeats 400000 in
theorem F_spec_l3Points : FunOK 88 g_spec_l3Points := by
  refine fun_F (by kernel_rfl) Tryd.func88 rfl (by kernel_rfl) sig_spec_l3Points_ok xs_spec_l3Points_ok ?_
  intro avs sg h hn hl
  unfold g_spec_l3Points at h
  split at h
  · rename_i a1 a2 a3 j
    injection h with h; subst h
    refine ⟨by kernel_rfl, fun b => if b == 0 then [.v 8, .b 7, .v 6, .b 5] else [], Eq.mp (V_spec_l3Points a1 a2 a3 j) ?_⟩
    simp only [true_and, and_true, implies_true, and_self, forall_const, true_implies, lenA, lenL, SV.lenOK, Cont.lenOK] at hn hl ⊢
    obtain ⟨ha, hjl, hl4, hlk, hjk⟩ := jv_p hn
    simp only [ilt_t, ilt_f, ile_t, ile_f, ieq_t, ieq_f, bnot_e, band_e, bite_and, bite_or, NLt_e, NLe_e, NNe_e, NIs_e, imax_e, imin_e, irem_e, Bool.not_eq_true', Bool.not_eq_false', Bool.and_eq_true, Bool.or_eq_true, Bool.or_eq_false_iff, Bool.and_eq_false_iff, Cont.pts.injEq, Cont.ints.injEq, Cont.bools.injEq, Cont.ptss.injEq, Cont.intss.injEq, Cont.boolss.injEq, true_and, and_true, implies_true]
    refine ⟨fun | [.int k, .pts o, .int d, .int x, .int y] => 0 ≤ k ∧ k ≤ ilen a1 ∧ o = apL a1 j (k + 1) ∧ d = dirK j k ∧ x = apX a1 j k ∧ y = apY a1 j k | _ => False, fun | .int k :: _ => (ilen a1 - k).toNat | _ => 0, ⟨by omega, by omega, rfl, rfl, rfl, rfl⟩, ?_⟩
    rintro k o d x y ⟨k0, k1, rfl, rfl, rfl, rfl⟩
    refine ⟨fun hc => ?_, fun hc => ?_⟩
    · have hk : k < ilen a1 := by omega
      have b1 := jv_bd hn k0 k1
      have b2 := jv_bd hn (k := k + 1) (by omega) (by omega)
      have hL := hlk k k0 hk
      have hJ := hjk k k0 hk
      have hd := dirK_1 (J := j) k0
      have hx := apX_1 (L := a1) (J := j) k0
      have hy := apY_1 (L := a1) (J := j) k0
      have e1 : iadd (dirK j k) (geti j k) = dirK j (k + 1) := by rw [iadd_e (by omega) (by omega), hd]
      rw [e1]
      have e2 : iadd (apX a1 j k) (rotX (geti a1 k) 0 (dirK j (k + 1))) = apX a1 j (k + 1) := by rw [iadd_e (by omega) (by omega), hx]
      have e3 : iadd (apY a1 j k) (rotY (geti a1 k) 0 (dirK j (k + 1))) = apY a1 j (k + 1) := by rw [iadd_e (by omega) (by omega), hy]
      rw [e2, e3, apL_len (by omega), iadd_e (by omega) (by omega)]
      exact ⟨⟨k0, by omega⟩, ⟨⟨k0, by omega⟩, vB_mk (by omega)⟩, ⟨by omega, by rw [ilen_one]; omega⟩, ⟨by omega, by omega, apL_s (by omega), rfl, rfl, rfl⟩, by show (ilen a1 - (k + 1)).toNat < (ilen a1 - k).toNat; omega⟩
    · rw [show k = ilen a1 by omega]
  · cases h
def g_spec_l8Inside : List AV → Option Sg
  | [.s (.view (.pts l)), .agg [.int p1, .int p2]] => some ⟨True, [.s (.bool (insB l p1 p2))]⟩
  | _ => none
def sig_spec_l8Inside : FuncId → List AV → Option Sg := sigL [(108, g_spec_l2Cross)]
def xs_spec_l8Inside : XS := ⟨xsigL [], ysigL []⟩
theorem sig_spec_l8Inside_ok : SigOK sig_spec_l8Inside := sigL_cons F_spec_l2Cross sigL_nil
theorem xs_spec_l8Inside_ok : XSigOK xs_spec_l8Inside := ⟨xsigL_nil, ysigL_nil⟩
theorem V_spec_l8Inside (l : List Pt) (p1 : Int) (p2 : Int) : ((true = true) ∧ ((True) ∧ (True) ∧ True) ∧ (true = true) ∧ ((True) ∧ True) ∧ ∃ (I1 : List GV → Prop) (μ1 : List GV → Nat), (((true = true) ∧ (((false : Bool) = false) ∧ (((0 : Int) : Int) = (0 : Int)) ∧ (true = true) ∧ ((Cont.pts l) = (Cont.pts l)) ∧ (((p1 : Int) = p1) ∧ ((p2 : Int) = p2) ∧ True) ∧ True) ∧ ((((p1 : Int) = p1) ∧ ((p2 : Int) = p2) ∧ True) ∧ True)) ∧ (([GK.int, GK.bool] : List GK) = ([GK.int, GK.bool] : List GK)) ∧ I1 [GV.int (0 : Int), GV.bool false]) ∧ (∀ i1_0 : Int, ∀ b1_1 : Bool, I1 [GV.int i1_0, GV.bool b1_1] → ((true = true) ∧ ((True) ∧ (True) ∧ (True) ∧ (True) ∧ True) ∧ ((ilt i1_0 (ilen l)) = true → ((true = true) ∧ ((True) ∧ (True) ∧ (NLe 0 i1_0 ∧ NLt i1_0 (ilen l)) ∧ (True) ∧ (True) ∧ (True) ∧ (True) ∧ (True) ∧ (True) ∧ (NNe (ilen l) 0) ∧ (NLe 0 (irem (iadd i1_0 (1 : Int)) (ilen l)) ∧ NLt (irem (iadd i1_0 (1 : Int)) (ilen l)) (ilen l)) ∧ (True) ∧ (True) ∧ ((True)) ∧ (True) ∧ True) ∧ ((ilt (crW (getx l i1_0) (gety l i1_0) (getx l (irem (iadd i1_0 (1 : Int)) (ilen l))) (gety l (irem (iadd i1_0 (1 : Int)) (ilen l))) p1 p2) (0 : Int)) = true → ((true = true) ∧ ((True) ∧ True) ∧ ((false : Bool) = (insB l p1 p2)) ∧ True)) ∧ ((ilt (crW (getx l i1_0) (gety l i1_0) (getx l (irem (iadd i1_0 (1 : Int)) (ilen l))) (gety l (irem (iadd i1_0 (1 : Int)) (ilen l))) p1 p2) (0 : Int)) = false → ((true = true) ∧ ((True) ∧ (True) ∧ (True) ∧ True) ∧ ((true = true) ∧ (((b1_1 : Bool) = b1_1) ∧ (((iadd i1_0 (1 : Int)) : Int) = (iadd i1_0 (1 : Int))) ∧ (true = true) ∧ ((Cont.pts l) = (Cont.pts l)) ∧ (((p1 : Int) = p1) ∧ ((p2 : Int) = p2) ∧ True) ∧ True) ∧ ((((p1 : Int) = p1) ∧ ((p2 : Int) = p2) ∧ True) ∧ True)) ∧ ((([GK.int, GK.bool] : List GK) = ([GK.int, GK.bool] : List GK)) ∧ I1 [GV.int (iadd i1_0 (1 : Int)), GV.bool b1_1] ∧ μ1 [GV.int (iadd i1_0 (1 : Int)), GV.bool b1_1] < μ1 [GV.int i1_0, GV.bool b1_1]))))) ∧ ((ilt i1_0 (ilen l)) = false → ((true = true) ∧ ((True) ∧ True) ∧ ((true : Bool) = (insB l p1 p2)) ∧ True))))) = ev sig_spec_l8Inside xs_spec_l8Inside Tryd.f119.ntmps (fun b => if b == 0 then [.v 5, .v 4] else []) (codeOf Tryd.f119) 0 (initS [.s (.view (.pts l)), .agg [.int p1, .int p2]]) (retK Tryd.f119.results.toList [.s (.bool (insB l p1 p2))]) := by kernel_rfl
set_option maxHeartbeats 400000 in
theorem F_spec_l8Inside : FunOK 119 g_spec_l8Inside := by
  refine fun_F (by kernel_rfl) Tryd.func119 rfl (by kernel_rfl) sig_spec_l8Inside_ok xs_spec_l8Inside_ok ?_
  intro avs sg h hn hl
  unfold g_spec_l8Inside at h
  split at h
  · rename_i l p1 p2
    injection h with h; subst h
    refine ⟨by kernel_rfl, fun b => if b == 0 then [.v 5, .v 4] else [], Eq.mp (V_spec_l8Inside l p1 p2) ?_⟩
    simp only [true_and, and_true, implies_true, and_self, forall_const, true_implies, lenA, lenL, SV.lenOK, Cont.lenOK] at hn hl ⊢
    have h0 := ilen_0 l
    simp only [ilt_t, ilt_f, ile_t, ile_f, ieq_t, ieq_f, bnot_e, band_e, bite_and, bite_or, NLt_e, NLe_e, NNe_e, NIs_e, imax_e, imin_e, irem_e, Bool.not_eq_true', Bool.not_eq_false', Bool.and_eq_true, Bool.or_eq_true, Bool.or_eq_false_iff, Bool.and_eq_false_iff, Cont.pts.injEq, Cont.ints.injEq, Cont.bools.injEq, Cont.ptss.injEq, Cont.intss.injEq, Cont.boolss.injEq, true_and, and_true, implies_true]
    refine ⟨fun | .int k :: _ => 0 ≤ k ∧ k ≤ ilen l ∧ (∀ i, 0 ≤ i → i < k → insE l p1 p2 i = true) | _ => False, fun | .int k :: _ => (ilen l - k).toNat | _ => 0, ?_, ?_⟩
    · exact ⟨Int.le_refl 0, h0, fun j h0 h1 => absurd h1 (by omega)⟩
    · rintro k _ ⟨hk0, hk1, hk⟩
      simp only [ilt_t, ilt_f, ile_t, ile_f, ieq_t, ieq_f, bnot_e, band_e, bite_and, bite_or, NLt_e, NLe_e, NNe_e, NIs_e, imax_e, imin_e, irem_e, Bool.not_eq_true', Bool.not_eq_false', Bool.and_eq_true, Bool.or_eq_true, Bool.or_eq_false_iff, Bool.and_eq_false_iff, Cont.pts.injEq, Cont.ints.injEq, Cont.bools.injEq, Cont.ptss.injEq, Cont.intss.injEq, Cont.boolss.injEq, true_and, and_true, implies_true]
      refine ⟨fun hkn => ?_, fun hkn => ?_⟩
      · have e1 := iadd_1 hk0 hkn hl
        obtain ⟨n0, n1, _⟩ := nx_in hk0 hkn
        have e2 : (k + 1).tmod (ilen l) = nx l k := rfl
        simp only [e1, e2]
        have hne : ilen l ≠ 0 := by omega
        refine ⟨⟨⟨hk0, hkn⟩, hne, ⟨n0, n1⟩⟩, fun hx => ?_, fun hx => ?_⟩
        · have hE : insE l p1 p2 k = false := by
            unfold insE
            simp only [decide_eq_false_iff_not]
            omega
          unfold insB
          rw [allN_no k hk0 hkn hE]
        · have hE : insE l p1 p2 k = true := by
            unfold insE
            simp only [decide_eq_true_eq]
            omega
          exact ⟨⟨by omega, by omega, allN_up hk hE⟩, by omega⟩
      · unfold insB
        rw [allN_mk fun i h0 h1 => hk i h0 (by omega)]
  · cases h
def g_spec_l8On : List AV → Option Sg
  | [.agg [.int a1, .int a2], .agg [.int b1, .int b2], .agg [.int p1, .int p2]] => some ⟨True, [.s (.bool (btW a1 a2 b1 b2 p1 p2))]⟩
  | _ => none
def sig_spec_l8On : FuncId → List AV → Option Sg := sigL [(82, g_spec_l1In)]
def xs_spec_l8On : XS := ⟨xsigL [], ysigL []⟩
theorem sig_spec_l8On_ok : SigOK sig_spec_l8On := sigL_cons F_spec_l1In sigL_nil
theorem xs_spec_l8On_ok : XSigOK xs_spec_l8On := ⟨xsigL_nil, ysigL_nil⟩
theorem V_spec_l8On (a1 : Int) (a2 : Int) (b1 : Int) (b2 : Int) (p1 : Int) (p2 : Int) : ((true = true) ∧ ((True) ∧ (True) ∧ (True) ∧ (True) ∧ True) ∧ (true = true) ∧ ((True) ∧ (True) ∧ (True) ∧ (True) ∧ (True) ∧ (True) ∧ (True) ∧ (True) ∧ (True) ∧ (True) ∧ (True) ∧ (True) ∧ ((True)) ∧ (True) ∧ (NIs (inB p1 (imin a1 b1) (imax a1 b1)) true → True) ∧ (NIs (inB p1 (imin a1 b1) (imax a1 b1)) true → True) ∧ (NIs (inB p1 (imin a1 b1) (imax a1 b1)) true → True) ∧ (NIs (inB p1 (imin a1 b1) (imax a1 b1)) true → True) ∧ (NIs (inB p1 (imin a1 b1) (imax a1 b1)) true → True) ∧ (NIs (inB p1 (imin a1 b1) (imax a1 b1)) true → True) ∧ (NIs (inB p1 (imin a1 b1) (imax a1 b1)) true → True) ∧ (NIs (inB p1 (imin a1 b1) (imax a1 b1)) true → True) ∧ (NIs (inB p1 (imin a1 b1) (imax a1 b1)) true → True) ∧ (NIs (inB p1 (imin a1 b1) (imax a1 b1)) true → True) ∧ (NIs (inB p1 (imin a1 b1) (imax a1 b1)) true → True) ∧ (NIs (inB p1 (imin a1 b1) (imax a1 b1)) true → True) ∧ (NIs (inB p1 (imin a1 b1) (imax a1 b1)) true → (True)) ∧ (True) ∧ (True) ∧ True) ∧ (((bite (inB p1 (imin a1 b1) (imax a1 b1)) (inB p2 (imin a2 b2) (imax a2 b2)) false) : Bool) = (btW a1 a2 b1 b2 p1 p2)) ∧ True) = ev sig_spec_l8On xs_spec_l8On Tryd.f109.ntmps (fun b => []) (codeOf Tryd.f109) 0 (initS [.agg [.int a1, .int a2], .agg [.int b1, .int b2], .agg [.int p1, .int p2]]) (retK Tryd.f109.results.toList [.s (.bool (btW a1 a2 b1 b2 p1 p2))]) := by kernel_rfl
set_option maxHeartbeats 400000 in
theorem F_spec_l8On : FunOK 109 g_spec_l8On := by
  refine fun_F (by kernel_rfl) Tryd.func109 rfl (by kernel_rfl) sig_spec_l8On_ok xs_spec_l8On_ok ?_
  intro avs sg h hn hl
  unfold g_spec_l8On at h
  split at h
  · rename_i a1 a2 b1 b2 p1 p2
    injection h with h; subst h
    refine ⟨by kernel_rfl, fun b => [], Eq.mp (V_spec_l8On a1 a2 b1 b2 p1 p2) ?_⟩
    simp only [true_and, and_true, implies_true, and_self, forall_const, true_implies, lenA, lenL, SV.lenOK, Cont.lenOK] at hn hl ⊢
    simp only [ilt_t, ilt_f, ile_t, ile_f, ieq_t, ieq_f, bnot_e, band_e, bite_and, bite_or, NLt_e, NLe_e, NNe_e, NIs_e, imax_e, imin_e, irem_e, Bool.not_eq_true', Bool.not_eq_false', Bool.and_eq_true, Bool.or_eq_true, Bool.or_eq_false_iff, Bool.and_eq_false_iff, Cont.pts.injEq, Cont.ints.injEq, Cont.bools.injEq, Cont.ptss.injEq, Cont.intss.injEq, Cont.boolss.injEq, true_and, and_true, implies_true]
    rfl
  · cases h
def g_spec_l8Meet : List AV → Option Sg
  | [.agg [.int a1, .int a2], .agg [.int b1, .int b2], .agg [.int c1, .int c2], .agg [.int d1, .int d2]] => some ⟨vB a1 a2 = true ∧ vB b1 b2 = true ∧ vB c1 c2 = true ∧ vB d1 d2 = true, [.s (.bool (meetB (a1, a2) (b1, b2) (c1, c2) (d1, d2)))]⟩
  | _ => none
def sig_spec_l8Meet : FuncId → List AV → Option Sg := sigL [(108, g_spec_l2Cross), (107, g_spec_l2Sign), (109, g_spec_l8On)]
def xs_spec_l8Meet : XS := ⟨xsigL [], ysigL []⟩
theorem sig_spec_l8Meet_ok : SigOK sig_spec_l8Meet := sigL_cons F_spec_l2Cross (sigL_cons F_spec_l2Sign (sigL_cons F_spec_l8On sigL_nil))
theorem xs_spec_l8Meet_ok : XSigOK xs_spec_l8Meet := ⟨xsigL_nil, ysigL_nil⟩
theorem V_spec_l8Meet (a1 : Int) (a2 : Int) (b1 : Int) (b2 : Int) (c1 : Int) (c2 : Int) (d1 : Int) (d2 : Int) : ((true = true) ∧ ((True) ∧ (True) ∧ (True) ∧ (True) ∧ (True) ∧ True) ∧ (true = true) ∧ ((True) ∧ (True) ∧ (True) ∧ ((True)) ∧ ((True)) ∧ (True) ∧ True) ∧ (true = true) ∧ ((True) ∧ (True) ∧ (True) ∧ ((True)) ∧ ((True)) ∧ (True) ∧ True) ∧ (true = true) ∧ ((True) ∧ (True) ∧ (True) ∧ ((True)) ∧ ((True)) ∧ (True) ∧ True) ∧ (true = true) ∧ ((True) ∧ (True) ∧ (True) ∧ ((True)) ∧ ((True)) ∧ (True) ∧ True) ∧ (true = true) ∧ ((True) ∧ (True) ∧ (True) ∧ (True) ∧ (NIs (bnot (ieq (sgn (crW a1 a2 b1 b2 c1 c2)) (sgn (crW a1 a2 b1 b2 d1 d2)))) true → True) ∧ (NIs (bnot (ieq (sgn (crW a1 a2 b1 b2 c1 c2)) (sgn (crW a1 a2 b1 b2 d1 d2)))) true → True) ∧ (NIs (bnot (ieq (sgn (crW a1 a2 b1 b2 c1 c2)) (sgn (crW a1 a2 b1 b2 d1 d2)))) true → True) ∧ (True) ∧ True) ∧ ((bite (bnot (ieq (sgn (crW a1 a2 b1 b2 c1 c2)) (sgn (crW a1 a2 b1 b2 d1 d2)))) (bnot (ieq (sgn (crW c1 c2 d1 d2 a1 a2)) (sgn (crW c1 c2 d1 d2 b1 b2)))) false) = true → ((true = true) ∧ ((True) ∧ True) ∧ ((true : Bool) = (meetB (a1, a2) (b1, b2) (c1, c2) (d1, d2))) ∧ True)) ∧ ((bite (bnot (ieq (sgn (crW a1 a2 b1 b2 c1 c2)) (sgn (crW a1 a2 b1 b2 d1 d2)))) (bnot (ieq (sgn (crW c1 c2 d1 d2 a1 a2)) (sgn (crW c1 c2 d1 d2 b1 b2)))) false) = false → ((true = true) ∧ ((True) ∧ (True) ∧ (True) ∧ (NIs (ieq (sgn (crW a1 a2 b1 b2 c1 c2)) (0 : Int)) true → True) ∧ (NIs (ieq (sgn (crW a1 a2 b1 b2 c1 c2)) (0 : Int)) true → True) ∧ (NIs (ieq (sgn (crW a1 a2 b1 b2 c1 c2)) (0 : Int)) true → True) ∧ (NIs (ieq (sgn (crW a1 a2 b1 b2 c1 c2)) (0 : Int)) true → (True)) ∧ (True) ∧ (True) ∧ (NIs (bite (ieq (sgn (crW a1 a2 b1 b2 c1 c2)) (0 : Int)) (btW a1 a2 b1 b2 c1 c2) false) false → True) ∧ (NIs (bite (ieq (sgn (crW a1 a2 b1 b2 c1 c2)) (0 : Int)) (btW a1 a2 b1 b2 c1 c2) false) false → True) ∧ (NIs (bite (ieq (sgn (crW a1 a2 b1 b2 c1 c2)) (0 : Int)) (btW a1 a2 b1 b2 c1 c2) false) false → True) ∧ (NIs (bite (ieq (sgn (crW a1 a2 b1 b2 c1 c2)) (0 : Int)) (btW a1 a2 b1 b2 c1 c2) false) false → (NIs (ieq (sgn (crW a1 a2 b1 b2 d1 d2)) (0 : Int)) true → True)) ∧ (NIs (bite (ieq (sgn (crW a1 a2 b1 b2 c1 c2)) (0 : Int)) (btW a1 a2 b1 b2 c1 c2) false) false → (NIs (ieq (sgn (crW a1 a2 b1 b2 d1 d2)) (0 : Int)) true → True)) ∧ (NIs (bite (ieq (sgn (crW a1 a2 b1 b2 c1 c2)) (0 : Int)) (btW a1 a2 b1 b2 c1 c2) false) false → (NIs (ieq (sgn (crW a1 a2 b1 b2 d1 d2)) (0 : Int)) true → True)) ∧ (NIs (bite (ieq (sgn (crW a1 a2 b1 b2 c1 c2)) (0 : Int)) (btW a1 a2 b1 b2 c1 c2) false) false → (NIs (ieq (sgn (crW a1 a2 b1 b2 d1 d2)) (0 : Int)) true → (True))) ∧ (NIs (bite (ieq (sgn (crW a1 a2 b1 b2 c1 c2)) (0 : Int)) (btW a1 a2 b1 b2 c1 c2) false) false → True) ∧ (True) ∧ (True) ∧ (NIs (bite (bite (ieq (sgn (crW a1 a2 b1 b2 c1 c2)) (0 : Int)) (btW a1 a2 b1 b2 c1 c2) false) true (bite (ieq (sgn (crW a1 a2 b1 b2 d1 d2)) (0 : Int)) (btW a1 a2 b1 b2 d1 d2) false)) false → True) ∧ (NIs (bite (bite (ieq (sgn (crW a1 a2 b1 b2 c1 c2)) (0 : Int)) (btW a1 a2 b1 b2 c1 c2) false) true (bite (ieq (sgn (crW a1 a2 b1 b2 d1 d2)) (0 : Int)) (btW a1 a2 b1 b2 d1 d2) false)) false → True) ∧ (NIs (bite (bite (ieq (sgn (crW a1 a2 b1 b2 c1 c2)) (0 : Int)) (btW a1 a2 b1 b2 c1 c2) false) true (bite (ieq (sgn (crW a1 a2 b1 b2 d1 d2)) (0 : Int)) (btW a1 a2 b1 b2 d1 d2) false)) false → True) ∧ (NIs (bite (bite (ieq (sgn (crW a1 a2 b1 b2 c1 c2)) (0 : Int)) (btW a1 a2 b1 b2 c1 c2) false) true (bite (ieq (sgn (crW a1 a2 b1 b2 d1 d2)) (0 : Int)) (btW a1 a2 b1 b2 d1 d2) false)) false → (NIs (ieq (sgn (crW c1 c2 d1 d2 a1 a2)) (0 : Int)) true → True)) ∧ (NIs (bite (bite (ieq (sgn (crW a1 a2 b1 b2 c1 c2)) (0 : Int)) (btW a1 a2 b1 b2 c1 c2) false) true (bite (ieq (sgn (crW a1 a2 b1 b2 d1 d2)) (0 : Int)) (btW a1 a2 b1 b2 d1 d2) false)) false → (NIs (ieq (sgn (crW c1 c2 d1 d2 a1 a2)) (0 : Int)) true → True)) ∧ (NIs (bite (bite (ieq (sgn (crW a1 a2 b1 b2 c1 c2)) (0 : Int)) (btW a1 a2 b1 b2 c1 c2) false) true (bite (ieq (sgn (crW a1 a2 b1 b2 d1 d2)) (0 : Int)) (btW a1 a2 b1 b2 d1 d2) false)) false → (NIs (ieq (sgn (crW c1 c2 d1 d2 a1 a2)) (0 : Int)) true → True)) ∧ (NIs (bite (bite (ieq (sgn (crW a1 a2 b1 b2 c1 c2)) (0 : Int)) (btW a1 a2 b1 b2 c1 c2) false) true (bite (ieq (sgn (crW a1 a2 b1 b2 d1 d2)) (0 : Int)) (btW a1 a2 b1 b2 d1 d2) false)) false → (NIs (ieq (sgn (crW c1 c2 d1 d2 a1 a2)) (0 : Int)) true → (True))) ∧ (NIs (bite (bite (ieq (sgn (crW a1 a2 b1 b2 c1 c2)) (0 : Int)) (btW a1 a2 b1 b2 c1 c2) false) true (bite (ieq (sgn (crW a1 a2 b1 b2 d1 d2)) (0 : Int)) (btW a1 a2 b1 b2 d1 d2) false)) false → True) ∧ (True) ∧ (True) ∧ (NIs (bite (bite (bite (ieq (sgn (crW a1 a2 b1 b2 c1 c2)) (0 : Int)) (btW a1 a2 b1 b2 c1 c2) false) true (bite (ieq (sgn (crW a1 a2 b1 b2 d1 d2)) (0 : Int)) (btW a1 a2 b1 b2 d1 d2) false)) true (bite (ieq (sgn (crW c1 c2 d1 d2 a1 a2)) (0 : Int)) (btW c1 c2 d1 d2 a1 a2) false)) false → True) ∧ (NIs (bite (bite (bite (ieq (sgn (crW a1 a2 b1 b2 c1 c2)) (0 : Int)) (btW a1 a2 b1 b2 c1 c2) false) true (bite (ieq (sgn (crW a1 a2 b1 b2 d1 d2)) (0 : Int)) (btW a1 a2 b1 b2 d1 d2) false)) true (bite (ieq (sgn (crW c1 c2 d1 d2 a1 a2)) (0 : Int)) (btW c1 c2 d1 d2 a1 a2) false)) false → True) ∧ (NIs (bite (bite (bite (ieq (sgn (crW a1 a2 b1 b2 c1 c2)) (0 : Int)) (btW a1 a2 b1 b2 c1 c2) false) true (bite (ieq (sgn (crW a1 a2 b1 b2 d1 d2)) (0 : Int)) (btW a1 a2 b1 b2 d1 d2) false)) true (bite (ieq (sgn (crW c1 c2 d1 d2 a1 a2)) (0 : Int)) (btW c1 c2 d1 d2 a1 a2) false)) false → True) ∧ (NIs (bite (bite (bite (ieq (sgn (crW a1 a2 b1 b2 c1 c2)) (0 : Int)) (btW a1 a2 b1 b2 c1 c2) false) true (bite (ieq (sgn (crW a1 a2 b1 b2 d1 d2)) (0 : Int)) (btW a1 a2 b1 b2 d1 d2) false)) true (bite (ieq (sgn (crW c1 c2 d1 d2 a1 a2)) (0 : Int)) (btW c1 c2 d1 d2 a1 a2) false)) false → (NIs (ieq (sgn (crW c1 c2 d1 d2 b1 b2)) (0 : Int)) true → True)) ∧ (NIs (bite (bite (bite (ieq (sgn (crW a1 a2 b1 b2 c1 c2)) (0 : Int)) (btW a1 a2 b1 b2 c1 c2) false) true (bite (ieq (sgn (crW a1 a2 b1 b2 d1 d2)) (0 : Int)) (btW a1 a2 b1 b2 d1 d2) false)) true (bite (ieq (sgn (crW c1 c2 d1 d2 a1 a2)) (0 : Int)) (btW c1 c2 d1 d2 a1 a2) false)) false → (NIs (ieq (sgn (crW c1 c2 d1 d2 b1 b2)) (0 : Int)) true → True)) ∧ (NIs (bite (bite (bite (ieq (sgn (crW a1 a2 b1 b2 c1 c2)) (0 : Int)) (btW a1 a2 b1 b2 c1 c2) false) true (bite (ieq (sgn (crW a1 a2 b1 b2 d1 d2)) (0 : Int)) (btW a1 a2 b1 b2 d1 d2) false)) true (bite (ieq (sgn (crW c1 c2 d1 d2 a1 a2)) (0 : Int)) (btW c1 c2 d1 d2 a1 a2) false)) false → (NIs (ieq (sgn (crW c1 c2 d1 d2 b1 b2)) (0 : Int)) true → True)) ∧ (NIs (bite (bite (bite (ieq (sgn (crW a1 a2 b1 b2 c1 c2)) (0 : Int)) (btW a1 a2 b1 b2 c1 c2) false) true (bite (ieq (sgn (crW a1 a2 b1 b2 d1 d2)) (0 : Int)) (btW a1 a2 b1 b2 d1 d2) false)) true (bite (ieq (sgn (crW c1 c2 d1 d2 a1 a2)) (0 : Int)) (btW c1 c2 d1 d2 a1 a2) false)) false → (NIs (ieq (sgn (crW c1 c2 d1 d2 b1 b2)) (0 : Int)) true → (True))) ∧ (NIs (bite (bite (bite (ieq (sgn (crW a1 a2 b1 b2 c1 c2)) (0 : Int)) (btW a1 a2 b1 b2 c1 c2) false) true (bite (ieq (sgn (crW a1 a2 b1 b2 d1 d2)) (0 : Int)) (btW a1 a2 b1 b2 d1 d2) false)) true (bite (ieq (sgn (crW c1 c2 d1 d2 a1 a2)) (0 : Int)) (btW c1 c2 d1 d2 a1 a2) false)) false → True) ∧ (True) ∧ (True) ∧ True) ∧ (((bite (bite (bite (bite (ieq (sgn (crW a1 a2 b1 b2 c1 c2)) (0 : Int)) (btW a1 a2 b1 b2 c1 c2) false) true (bite (ieq (sgn (crW a1 a2 b1 b2 d1 d2)) (0 : Int)) (btW a1 a2 b1 b2 d1 d2) false)) true (bite (ieq (sgn (crW c1 c2 d1 d2 a1 a2)) (0 : Int)) (btW c1 c2 d1 d2 a1 a2) false)) true (bite (ieq (sgn (crW c1 c2 d1 d2 b1 b2)) (0 : Int)) (btW c1 c2 d1 d2 b1 b2) false)) : Bool) = (meetB (a1, a2) (b1, b2) (c1, c2) (d1, d2))) ∧ True))) = ev sig_spec_l8Meet xs_spec_l8Meet Tryd.f89.ntmps (fun b => []) (codeOf Tryd.f89) 0 (initS [.agg [.int a1, .int a2], .agg [.int b1, .int b2], .agg [.int c1, .int c2], .agg [.int d1, .int d2]]) (retK Tryd.f89.results.toList [.s (.bool (meetB (a1, a2) (b1, b2) (c1, c2) (d1, d2)))]) := by kernel_rfl
set_option maxHeartbeats 400000 in
theorem F_spec_l8Meet : FunOK 89 g_spec_l8Meet := by
  refine fun_F (by kernel_rfl) Tryd.func89 rfl (by kernel_rfl) sig_spec_l8Meet_ok xs_spec_l8Meet_ok ?_
  intro avs sg h hn hl
  unfold g_spec_l8Meet at h
  split at h
  · rename_i a1 a2 b1 b2 c1 c2 d1 d2
    injection h with h; subst h
    refine ⟨by kernel_rfl, fun b => [], Eq.mp (V_spec_l8Meet a1 a2 b1 b2 c1 c2 d1 d2) ?_⟩
    simp only [true_and, and_true, implies_true, and_self, forall_const, true_implies, lenA, lenL, SV.lenOK, Cont.lenOK] at hn hl ⊢
    obtain ⟨va, vb, vc, vd⟩ := hn
    simp only [ilt_t, ilt_f, ile_t, ile_f, ieq_t, ieq_f, bnot_e, band_e, bite_and, bite_or, NLt_e, NLe_e, NNe_e, NIs_e, imax_e, imin_e, irem_e, Bool.not_eq_true', Bool.not_eq_false', Bool.and_eq_true, Bool.or_eq_true, Bool.or_eq_false_iff, Bool.and_eq_false_iff, Cont.pts.injEq, Cont.ints.injEq, Cont.bools.injEq, Cont.ptss.injEq, Cont.intss.injEq, Cont.boolss.injEq, true_and, and_true, implies_true, crW_e va vb vc, crW_e va vb vd, crW_e vc vd va, crW_e vc vd vb, btW_e, Int.sub_zero, imul_sgn, ieq_sgn]
    rw [← meetS_eq]; unfold meetS
    generalize crs (a1, a2) (b1, b2) (c1, c2) = x1 at *
    generalize crs (a1, a2) (b1, b2) (d1, d2) = x2 at *
    generalize crs (c1, c2) (d1, d2) (a1, a2) = x3 at *
    generalize crs (c1, c2) (d1, d2) (b1, b2) = x4 at *
    refine ⟨fun h => by simp [h.1, h.2], fun h => ?_⟩
    have e : (decide (sgn x1 ≠ sgn x2) && decide (sgn x3 ≠ sgn x4)) = false := by
      rcases h with h | h <;> simp [h] <;> omega
    rw [e, Bool.false_or]
  · cases h
def g_spec_l8Hit : List AV → Option Sg
  | [.s (.view (.pts l)), .agg [.int a1, .int a2], .agg [.int b1, .int b2]] => some ⟨allB l = true ∧ vB a1 a2 = true ∧ vB b1 b2 = true, [.s (.bool (hitB l a1 a2 b1 b2))]⟩
  | _ => none
def sig_spec_l8Hit : FuncId → List AV → Option Sg := sigL [(119, g_spec_l8Inside), (89, g_spec_l8Meet)]
def xs_spec_l8Hit : XS := ⟨xsigL [], ysigL []⟩
theorem sig_spec_l8Hit_ok : SigOK sig_spec_l8Hit := sigL_cons F_spec_l8Inside (sigL_cons F_spec_l8Meet sigL_nil)
theorem xs_spec_l8Hit_ok : XSigOK xs_spec_l8Hit := ⟨xsigL_nil, ysigL_nil⟩
theorem V_spec_l8Hit (l : List Pt) (a1 : Int) (a2 : Int) (b1 : Int) (b2 : Int) : ((true = true) ∧ ((True) ∧ (True) ∧ (True) ∧ True) ∧ (true = true) ∧ ((True) ∧ (True) ∧ ((True)) ∧ (True) ∧ (NIs (insB l a1 a2) false → True) ∧ (NIs (insB l a1 a2) false → True) ∧ (NIs (insB l a1 a2) false → (True)) ∧ (True) ∧ True) ∧ ((bite (insB l a1 a2) true (insB l b1 b2)) = true → ((true = true) ∧ ((True) ∧ True) ∧ ((true : Bool) = (hitB l a1 a2 b1 b2)) ∧ True)) ∧ ((bite (insB l a1 a2) true (insB l b1 b2)) = false → ((true = true) ∧ ((True) ∧ True) ∧ ∃ (I1 : List GV → Prop) (μ1 : List GV → Nat), (((true = true) ∧ (((false : Bool) = false) ∧ (((0 : Int) : Int) = (0 : Int)) ∧ ((Cont.pts l) = (Cont.pts l)) ∧ (((a1 : Int) = a1) ∧ ((a2 : Int) = a2) ∧ True) ∧ (((insB l a1 a2) : Bool) = (insB l a1 a2)) ∧ (((insB l a1 a2) : Bool) = (insB l a1 a2)) ∧ (((bite (insB l a1 a2) true (insB l b1 b2)) : Bool) = (bite (insB l a1 a2) true (insB l b1 b2))) ∧ (true = true) ∧ (true = true) ∧ ((Cont.pts l) = (Cont.pts l)) ∧ (((a1 : Int) = a1) ∧ ((a2 : Int) = a2) ∧ True) ∧ (((b1 : Int) = b1) ∧ ((b2 : Int) = b2) ∧ True) ∧ True) ∧ ((((a1 : Int) = a1) ∧ ((a2 : Int) = a2) ∧ True) ∧ (((b1 : Int) = b1) ∧ ((b2 : Int) = b2) ∧ True) ∧ True)) ∧ (([GK.int, GK.bool] : List GK) = ([GK.int, GK.bool] : List GK)) ∧ I1 [GV.int (0 : Int), GV.bool false]) ∧ (∀ i1_0 : Int, ∀ b1_1 : Bool, I1 [GV.int i1_0, GV.bool b1_1] → ((true = true) ∧ ((True) ∧ (True) ∧ (True) ∧ (True) ∧ True) ∧ ((ilt i1_0 (ilen l)) = true → ((true = true) ∧ ((True) ∧ (True) ∧ (True) ∧ (True) ∧ (NLe 0 i1_0 ∧ NLt i1_0 (ilen l)) ∧ (True) ∧ (True) ∧ (True) ∧ (True) ∧ (True) ∧ (True) ∧ (NNe (ilen l) 0) ∧ (NLe 0 (irem (iadd i1_0 (1 : Int)) (ilen l)) ∧ NLt (irem (iadd i1_0 (1 : Int)) (ilen l)) (ilen l)) ∧ (True) ∧ ((vB a1 a2 = true ∧ vB b1 b2 = true ∧ vB (getx l i1_0) (gety l i1_0) = true ∧ vB (getx l (irem (iadd i1_0 (1 : Int)) (ilen l))) (gety l (irem (iadd i1_0 (1 : Int)) (ilen l))) = true)) ∧ True) ∧ ((meetB (a1, a2) (b1, b2) ((getx l i1_0), (gety l i1_0)) ((getx l (irem (iadd i1_0 (1 : Int)) (ilen l))), (gety l (irem (iadd i1_0 (1 : Int)) (ilen l))))) = true → ((true = true) ∧ ((True) ∧ True) ∧ ((true : Bool) = (hitB l a1 a2 b1 b2)) ∧ True)) ∧ ((meetB (a1, a2) (b1, b2) ((getx l i1_0), (gety l i1_0)) ((getx l (irem (iadd i1_0 (1 : Int)) (ilen l))), (gety l (irem (iadd i1_0 (1 : Int)) (ilen l))))) = false → ((true = true) ∧ ((True) ∧ (True) ∧ (True) ∧ True) ∧ ((true = true) ∧ (((b1_1 : Bool) = b1_1) ∧ (((iadd i1_0 (1 : Int)) : Int) = (iadd i1_0 (1 : Int))) ∧ ((Cont.pts l) = (Cont.pts l)) ∧ (((a1 : Int) = a1) ∧ ((a2 : Int) = a2) ∧ True) ∧ (((insB l a1 a2) : Bool) = (insB l a1 a2)) ∧ (((insB l a1 a2) : Bool) = (insB l a1 a2)) ∧ (((bite (insB l a1 a2) true (insB l b1 b2)) : Bool) = (bite (insB l a1 a2) true (insB l b1 b2))) ∧ (true = true) ∧ (true = true) ∧ ((Cont.pts l) = (Cont.pts l)) ∧ (((a1 : Int) = a1) ∧ ((a2 : Int) = a2) ∧ True) ∧ (((b1 : Int) = b1) ∧ ((b2 : Int) = b2) ∧ True) ∧ True) ∧ ((((a1 : Int) = a1) ∧ ((a2 : Int) = a2) ∧ True) ∧ (((b1 : Int) = b1) ∧ ((b2 : Int) = b2) ∧ True) ∧ True)) ∧ ((([GK.int, GK.bool] : List GK) = ([GK.int, GK.bool] : List GK)) ∧ I1 [GV.int (iadd i1_0 (1 : Int)), GV.bool b1_1] ∧ μ1 [GV.int (iadd i1_0 (1 : Int)), GV.bool b1_1] < μ1 [GV.int i1_0, GV.bool b1_1]))))) ∧ ((ilt i1_0 (ilen l)) = false → ((true = true) ∧ ((True) ∧ True) ∧ ((false : Bool) = (hitB l a1 a2 b1 b2)) ∧ True))))))) = ev sig_spec_l8Hit xs_spec_l8Hit Tryd.f100.ntmps (fun b => if b == 0 then [.v 7, .v 6] else []) (codeOf Tryd.f100) 0 (initS [.s (.view (.pts l)), .agg [.int a1, .int a2], .agg [.int b1, .int b2]]) (retK Tryd.f100.results.toList [.s (.bool (hitB l a1 a2 b1 b2))]) := by kernel_rfl
set_option maxHeartbeats 400000 in
theorem F_spec_l8Hit : FunOK 100 g_spec_l8Hit := by
  refine fun_F (by kernel_rfl) Tryd.func100 rfl (by kernel_rfl) sig_spec_l8Hit_ok xs_spec_l8Hit_ok ?_
  intro avs sg h hn hl
  unfold g_spec_l8Hit at h
  split at h
  · rename_i l a1 a2 b1 b2
    injection h with h; subst h
    refine ⟨by kernel_rfl, fun b => if b == 0 then [.v 7, .v 6] else [], Eq.mp (V_spec_l8Hit l a1 a2 b1 b2) ?_⟩
    simp only [true_and, and_true, implies_true, and_self, forall_const, true_implies, lenA, lenL, SV.lenOK, Cont.lenOK] at hn hl ⊢
    have h0 := ilen_0 l
    obtain ⟨ha, va, vb⟩ := hn
    simp only [ilt_t, ilt_f, ile_t, ile_f, ieq_t, ieq_f, bnot_e, band_e, bite_and, bite_or, NLt_e, NLe_e, NNe_e, NIs_e, imax_e, imin_e, irem_e, Bool.not_eq_true', Bool.not_eq_false', Bool.and_eq_true, Bool.or_eq_true, Bool.or_eq_false_iff, Bool.and_eq_false_iff, Cont.pts.injEq, Cont.ints.injEq, Cont.bools.injEq, Cont.ptss.injEq, Cont.intss.injEq, Cont.boolss.injEq, true_and, and_true, implies_true]
    refine ⟨?_, fun hi => ?_⟩
    · rintro (h | h) <;> simp [hitB, h]
    · refine ⟨fun | .int k :: _ => 0 ≤ k ∧ k ≤ ilen l ∧ (∀ i, 0 ≤ i → i < k → hitE l a1 a2 b1 b2 i = false) | _ => False, fun | .int k :: _ => (ilen l - k).toNat | _ => 0, ?_, ?_⟩
      · exact ⟨Int.le_refl 0, h0, fun j h0 h1 => absurd h1 (by omega)⟩
      · rintro k _ ⟨hk0, hk1, hk⟩
        simp only [ilt_t, ilt_f, ile_t, ile_f, ieq_t, ieq_f, bnot_e, band_e, bite_and, bite_or, NLt_e, NLe_e, NNe_e, NIs_e, imax_e, imin_e, irem_e, Bool.not_eq_true', Bool.not_eq_false', Bool.and_eq_true, Bool.or_eq_true, Bool.or_eq_false_iff, Bool.and_eq_false_iff, Cont.pts.injEq, Cont.ints.injEq, Cont.bools.injEq, Cont.ptss.injEq, Cont.intss.injEq, Cont.boolss.injEq, true_and, and_true, implies_true]
        refine ⟨fun hkn => ?_, fun hkn => ?_⟩
        · have e1 := iadd_1 hk0 hkn hl
          obtain ⟨n0, n1, _⟩ := nx_in hk0 hkn
          have e2 : (k + 1).tmod (ilen l) = nx l k := rfl
          simp only [e1, e2]
          have hne : ilen l ≠ 0 := by omega
          have v1 := allB_at ha hk0 hkn
          have v2 := allB_at ha n0 n1
          refine ⟨⟨⟨hk0, hkn⟩, hne, ⟨n0, n1⟩, va, vb, v1, v2⟩, fun hx => ?_, fun hx => ?_⟩
          · have hE : hitE l a1 a2 b1 b2 k = true := hx
            simp [hitB, anyN_mk k hk0 hkn hE]
          · have hE : hitE l a1 a2 b1 b2 k = false := hx
            exact ⟨⟨by omega, by omega, upTo hk hE⟩, by omega⟩
        · have : anyN (ilen l) (hitE l a1 a2 b1 b2) = false := anyN_no fun j j0 j1 => hk j j0 (by omega)
          simp [hitB, hi.1, hi.2, this]
  · cases h
def g_spec_l10Clear : List AV → Option Sg
  | [.agg [.view (.ints a1), .view (.ints a2), .view (.ints a3)], .s (.view (.ints j)), .s (.view (.ptss l))] => some ⟨jvB a1 a2 a3 j = true ∧ sceneB l = true, [.s (.bool (acB a1 j l))]⟩
  | _ => none
def sig_spec_l10Clear : FuncId → List AV → Option Sg := sigL [(88, g_spec_l3Points), (100, g_spec_l8Hit)]
def xs_spec_l10Clear : XS := ⟨xsigL [], ysigL []⟩
theorem sig_spec_l10Clear_ok : SigOK sig_spec_l10Clear := sigL_cons F_spec_l3Points (sigL_cons F_spec_l8Hit sigL_nil)
theorem xs_spec_l10Clear_ok : XSigOK xs_spec_l10Clear := ⟨xsigL_nil, ysigL_nil⟩
theorem V_spec_l10Clear (a1 : List Int) (a2 : List Int) (a3 : List Int) (j : List Int) (l : List (List Pt)) : ((true = true) ∧ ((True) ∧ (True) ∧ True) ∧ (true = true) ∧ ((True) ∧ (True) ∧ ((jvB a1 a2 a3 j = true)) ∧ (True) ∧ True) ∧ (true = true) ∧ ((True) ∧ True) ∧ ∃ (I1 : List GV → Prop) (μ1 : List GV → Nat), (((true = true) ∧ (((false : Bool) = false) ∧ (((0 : Int) : Int) = (0 : Int)) ∧ (((Cont.ints a1) = (Cont.ints a1)) ∧ ((Cont.ints a2) = (Cont.ints a2)) ∧ ((Cont.ints a3) = (Cont.ints a3)) ∧ True) ∧ ((Cont.ints j) = (Cont.ints j)) ∧ (true = true) ∧ (true = true) ∧ (true = true) ∧ (((Cont.ints a1) = (Cont.ints a1)) ∧ ((Cont.ints a2) = (Cont.ints a2)) ∧ ((Cont.ints a3) = (Cont.ints a3)) ∧ True) ∧ ((Cont.ints j) = (Cont.ints j)) ∧ ((Cont.ptss l) = (Cont.ptss l)) ∧ True) ∧ (((true = true) ∧ ((Cont.pts (apL a1 j (ilen a1 + 1))) = (Cont.pts (apL a1 j (ilen a1 + 1))))) ∧ (((Cont.ints a1) = (Cont.ints a1)) ∧ ((Cont.ints a2) = (Cont.ints a2)) ∧ ((Cont.ints a3) = (Cont.ints a3)) ∧ True) ∧ True)) ∧ (([GK.int, GK.bool] : List GK) = ([GK.int, GK.bool] : List GK)) ∧ I1 [GV.int (0 : Int), GV.bool false]) ∧ (∀ i1_0 : Int, ∀ b1_1 : Bool, I1 [GV.int i1_0, GV.bool b1_1] → ((true = true) ∧ ((True) ∧ (True) ∧ (True) ∧ (True) ∧ (True) ∧ True) ∧ ((ilt (iadd i1_0 (1 : Int)) (ilen (apL a1 j (ilen a1 + 1)))) = true → ((true = true) ∧ ((True) ∧ True) ∧ ∃ (I2 : List GV → Prop) (μ2 : List GV → Nat), (((true = true) ∧ (((b1_1 : Bool) = b1_1) ∧ (((0 : Int) : Int) = (0 : Int)) ∧ ((i1_0 : Int) = i1_0) ∧ (((iadd i1_0 (1 : Int)) : Int) = (iadd i1_0 (1 : Int))) ∧ (true = true) ∧ (((ilen (apL a1 j (ilen a1 + 1))) : Int) = (ilen (apL a1 j (ilen a1 + 1)))) ∧ (((ilt (iadd i1_0 (1 : Int)) (ilen (apL a1 j (ilen a1 + 1)))) : Bool) = (ilt (iadd i1_0 (1 : Int)) (ilen (apL a1 j (ilen a1 + 1))))) ∧ ((i1_0 : Int) = i1_0) ∧ (((Cont.ints a1) = (Cont.ints a1)) ∧ ((Cont.ints a2) = (Cont.ints a2)) ∧ ((Cont.ints a3) = (Cont.ints a3)) ∧ True) ∧ ((Cont.ints j) = (Cont.ints j)) ∧ (true = true) ∧ (true = true) ∧ (true = true) ∧ (((Cont.ints a1) = (Cont.ints a1)) ∧ ((Cont.ints a2) = (Cont.ints a2)) ∧ ((Cont.ints a3) = (Cont.ints a3)) ∧ True) ∧ ((Cont.ints j) = (Cont.ints j)) ∧ ((Cont.ptss l) = (Cont.ptss l)) ∧ True) ∧ (((true = true) ∧ ((Cont.pts (apL a1 j (ilen a1 + 1))) = (Cont.pts (apL a1 j (ilen a1 + 1))))) ∧ (((Cont.ints a1) = (Cont.ints a1)) ∧ ((Cont.ints a2) = (Cont.ints a2)) ∧ ((Cont.ints a3) = (Cont.ints a3)) ∧ True) ∧ True)) ∧ (([GK.int, GK.bool] : List GK) = ([GK.int, GK.bool] : List GK)) ∧ I2 [GV.int (0 : Int), GV.bool b1_1]) ∧ (∀ i2_0 : Int, ∀ b2_1 : Bool, I2 [GV.int i2_0, GV.bool b2_1] → ((true = true) ∧ ((True) ∧ (True) ∧ (True) ∧ (True) ∧ True) ∧ ((ilt i2_0 (ilen l)) = true → ((true = true) ∧ ((True) ∧ (True) ∧ (NLe 0 i2_0 ∧ NLt i2_0 (ilen l)) ∧ (True) ∧ (True) ∧ (True) ∧ (NLe 0 i1_0 ∧ NLt i1_0 (ilen (apL a1 j (ilen a1 + 1)))) ∧ (NLt i1_0 (ilen (apL a1 j (ilen a1 + 1)))) ∧ (True) ∧ (True) ∧ (True) ∧ (NLe 0 (iadd i1_0 (1 : Int)) ∧ NLt (iadd i1_0 (1 : Int)) (ilen (apL a1 j (ilen a1 + 1)))) ∧ (NLt (iadd i1_0 (1 : Int)) (ilen (apL a1 j (ilen a1 + 1)))) ∧ ((allB (getl l i2_0) = true ∧ vB (getx (apL a1 j (ilen a1 + 1)) i1_0) (gety (apL a1 j (ilen a1 + 1)) i1_0) = true ∧ vB (getx (apL a1 j (ilen a1 + 1)) (iadd i1_0 (1 : Int))) (gety (apL a1 j (ilen a1 + 1)) (iadd i1_0 (1 : Int))) = true)) ∧ True) ∧ ((hitB (getl l i2_0) (getx (apL a1 j (ilen a1 + 1)) i1_0) (gety (apL a1 j (ilen a1 + 1)) i1_0) (getx (apL a1 j (ilen a1 + 1)) (iadd i1_0 (1 : Int))) (gety (apL a1 j (ilen a1 + 1)) (iadd i1_0 (1 : Int)))) = true → ((true = true) ∧ ((True) ∧ True) ∧ ((false : Bool) = (acB a1 j l)) ∧ True)) ∧ ((hitB (getl l i2_0) (getx (apL a1 j (ilen a1 + 1)) i1_0) (gety (apL a1 j (ilen a1 + 1)) i1_0) (getx (apL a1 j (ilen a1 + 1)) (iadd i1_0 (1 : Int))) (gety (apL a1 j (ilen a1 + 1)) (iadd i1_0 (1 : Int)))) = false → ((true = true) ∧ ((True) ∧ (True) ∧ (True) ∧ True) ∧ ((true = true) ∧ (((b2_1 : Bool) = b2_1) ∧ (((iadd i2_0 (1 : Int)) : Int) = (iadd i2_0 (1 : Int))) ∧ ((i1_0 : Int) = i1_0) ∧ (((iadd i1_0 (1 : Int)) : Int) = (iadd i1_0 (1 : Int))) ∧ (true = true) ∧ (((ilen (apL a1 j (ilen a1 + 1))) : Int) = (ilen (apL a1 j (ilen a1 + 1)))) ∧ (((ilt (iadd i1_0 (1 : Int)) (ilen (apL a1 j (ilen a1 + 1)))) : Bool) = (ilt (iadd i1_0 (1 : Int)) (ilen (apL a1 j (ilen a1 + 1))))) ∧ ((i1_0 : Int) = i1_0) ∧ (((Cont.ints a1) = (Cont.ints a1)) ∧ ((Cont.ints a2) = (Cont.ints a2)) ∧ ((Cont.ints a3) = (Cont.ints a3)) ∧ True) ∧ ((Cont.ints j) = (Cont.ints j)) ∧ (true = true) ∧ (true = true) ∧ (true = true) ∧ (((Cont.ints a1) = (Cont.ints a1)) ∧ ((Cont.ints a2) = (Cont.ints a2)) ∧ ((Cont.ints a3) = (Cont.ints a3)) ∧ True) ∧ ((Cont.ints j) = (Cont.ints j)) ∧ ((Cont.ptss l) = (Cont.ptss l)) ∧ True) ∧ (((true = true) ∧ ((Cont.pts (apL a1 j (ilen a1 + 1))) = (Cont.pts (apL a1 j (ilen a1 + 1))))) ∧ (((Cont.ints a1) = (Cont.ints a1)) ∧ ((Cont.ints a2) = (Cont.ints a2)) ∧ ((Cont.ints a3) = (Cont.ints a3)) ∧ True) ∧ True)) ∧ ((([GK.int, GK.bool] : List GK) = ([GK.int, GK.bool] : List GK)) ∧ I2 [GV.int (iadd i2_0 (1 : Int)), GV.bool b2_1] ∧ μ2 [GV.int (iadd i2_0 (1 : Int)), GV.bool b2_1] < μ2 [GV.int i2_0, GV.bool b2_1]))))) ∧ ((ilt i2_0 (ilen l)) = false → ((true = true) ∧ ((True) ∧ (True) ∧ (True) ∧ True) ∧ ((true = true) ∧ (((b2_1 : Bool) = b2_1) ∧ (((iadd i1_0 (1 : Int)) : Int) = (iadd i1_0 (1 : Int))) ∧ (((Cont.ints a1) = (Cont.ints a1)) ∧ ((Cont.ints a2) = (Cont.ints a2)) ∧ ((Cont.ints a3) = (Cont.ints a3)) ∧ True) ∧ ((Cont.ints j) = (Cont.ints j)) ∧ (true = true) ∧ (true = true) ∧ (true = true) ∧ (((Cont.ints a1) = (Cont.ints a1)) ∧ ((Cont.ints a2) = (Cont.ints a2)) ∧ ((Cont.ints a3) = (Cont.ints a3)) ∧ True) ∧ ((Cont.ints j) = (Cont.ints j)) ∧ ((Cont.ptss l) = (Cont.ptss l)) ∧ True) ∧ (((true = true) ∧ ((Cont.pts (apL a1 j (ilen a1 + 1))) = (Cont.pts (apL a1 j (ilen a1 + 1))))) ∧ (((Cont.ints a1) = (Cont.ints a1)) ∧ ((Cont.ints a2) = (Cont.ints a2)) ∧ ((Cont.ints a3) = (Cont.ints a3)) ∧ True) ∧ True)) ∧ ((([GK.int, GK.bool] : List GK) = ([GK.int, GK.bool] : List GK)) ∧ I1 [GV.int (iadd i1_0 (1 : Int)), GV.bool b2_1] ∧ μ1 [GV.int (iadd i1_0 (1 : Int)), GV.bool b2_1] < μ1 [GV.int i1_0, GV.bool b1_1]))))))) ∧ ((ilt (iadd i1_0 (1 : Int)) (ilen (apL a1 j (ilen a1 + 1)))) = false → ((true = true) ∧ ((True) ∧ True) ∧ ((true : Bool) = (acB a1 j l)) ∧ True))))) = ev sig_spec_l10Clear xs_spec_l10Clear Tryd.f65.ntmps (fun b => if b == 0 then [.v 8, .v 6] else if b == 2 then [.v 9, .v 6] else []) (codeOf Tryd.f65) 0 (initS [.agg [.view (.ints a1), .view (.ints a2), .view (.ints a3)], .s (.view (.ints j)), .s (.view (.ptss l))]) (retK Tryd.f65.results.toList [.s (.bool (acB a1 j l))]) := by kernel_rfl
set_option maxHeartbeats 400000 in
theorem F_spec_l10Clear : FunOK 65 g_spec_l10Clear := by
  refine fun_F (by kernel_rfl) Tryd.func65 rfl (by kernel_rfl) sig_spec_l10Clear_ok xs_spec_l10Clear_ok ?_
  intro avs sg h hn hl
  unfold g_spec_l10Clear at h
  split at h
  · rename_i a1 a2 a3 j l
    injection h with h; subst h
    refine ⟨by kernel_rfl, fun b => if b == 0 then [.v 8, .v 6] else if b == 2 then [.v 9, .v 6] else [], Eq.mp (V_spec_l10Clear a1 a2 a3 j l) ?_⟩
    simp only [true_and, and_true, implies_true, and_self, forall_const, true_implies, lenA, lenL, SV.lenOK, Cont.lenOK] at hn hl ⊢
    obtain ⟨hj, hs⟩ := hn
    simp only [ilt_t, ilt_f, ile_t, ile_f, ieq_t, ieq_f, bnot_e, band_e, bite_and, bite_or, NLt_e, NLe_e, NNe_e, NIs_e, imax_e, imin_e, irem_e, Bool.not_eq_true', Bool.not_eq_false', Bool.and_eq_true, Bool.or_eq_true, Bool.or_eq_false_iff, Bool.and_eq_false_iff, Cont.pts.injEq, Cont.ints.injEq, Cont.bools.injEq, Cont.ptss.injEq, Cont.intss.injEq, Cont.boolss.injEq, true_and, and_true, implies_true]
    refine ⟨hj, ?_⟩
    obtain ⟨ha, hjl, hl4, hlk, hjk⟩ := jv_p hj
    obtain ⟨s6, sat⟩ := scene_at hs
    have hl0 := ilen_0 l
    have hv := fun (k : Int) (h0 : 0 ≤ k) (h1 : k ≤ ilen a1) => jv_vB hj h0 h1
    have hlen : ilen (apL a1 j (ilen a1 + 1)) = ilen a1 + 1 := apL_len (by omega)
    have hg : ∀ i, 0 ≤ i → i ≤ ilen a1 → getx (apL a1 j (ilen a1 + 1)) i = apX a1 j i ∧ gety (apL a1 j (ilen a1 + 1)) i = apY a1 j i := fun i h0 h1 => apL_get h0 (by omega)
    rw [hlen]
    generalize apL a1 j (ilen a1 + 1) = P at *
    refine ⟨fun | [.int i, .bool _] => 0 ≤ i ∧ i ≤ ilen a1 ∧ (∀ a, 0 ≤ a → a < i → acN a1 j l a = true) | _ => False, fun | .int i :: _ => (ilen a1 - i).toNat | _ => 0, ⟨by omega, by omega, fun a h0 h1 => by omega⟩, ?_⟩
    rintro i b ⟨i0, i1, hi⟩
    have e1 : iadd i 1 = i + 1 := iadd_e (by omega) (by omega)
    rw [e1]
    refine ⟨fun hc => ?_, fun hc => ?_⟩
    · refine ⟨fun | [.int k, .bool _] => 0 ≤ k ∧ k ≤ ilen l ∧ (∀ m, 0 ≤ m → m < k → acE a1 j (getl l m) i = true) | _ => False, fun | .int k :: _ => (ilen l - k).toNat | _ => 0, ⟨by omega, by omega, fun m h0 h1 => by omega⟩, ?_⟩
      rintro k b2 ⟨k0, k1, hk⟩
      refine ⟨fun hc2 => ?_, fun hc2 => ?_⟩
      · obtain ⟨x1, y1⟩ := hg i (by omega) (by omega)
        obtain ⟨x2, y2⟩ := hg (i + 1) (by omega) (by omega)
        have e3 : iadd k 1 = k + 1 := iadd_e (by omega) (by omega)
        have hcv := (sat k k0 hc2).2
        rw [x1, y1, x2, y2, e3]
        refine ⟨⟨⟨k0, hc2⟩, ⟨by omega, by omega⟩, by omega, ⟨by omega, by omega⟩, by omega, hcv, hv _ (by omega) (by omega), hv _ (by omega) (by omega)⟩, fun hm => ?_, fun hm => ?_⟩
        · have hE : acE a1 j (getl l k) i = false := by unfold acE; rw [hm]; rfl
          have hN : acN a1 j l i = false := by unfold acN; exact allN_no (f := fun o => acE a1 j (getl l o) i) k k0 hc2 hE
          unfold acB
          rw [allN_no (f := acN a1 j l) i i0 (by omega) hN]
        · have hE : acE a1 j (getl l k) i = true := by unfold acE; rw [hm]; rfl
          exact ⟨⟨by omega, by omega, fun m m0 m1 => by
            by_cases h : m = k
            · rw [h]; exact hE
            · exact hk m m0 (by omega)⟩, by show (ilen l - (k + 1)).toNat < (ilen l - k).toNat; omega⟩
      · exact ⟨⟨by omega, by omega, fun a h0 h1 => by
          by_cases h : a = i
          · rw [h]; unfold acN; exact allN_mk fun m m0 m1 => hk m m0 (by omega)
          · exact hi a h0 (by omega)⟩, by show (ilen a1 - (i + 1)).toNat < (ilen a1 - i).toNat; omega⟩
    · unfold acB
      rw [allN_mk fun a h0 h1 => hi a h0 (by omega)]
  · cases h
def g_spec_FreeCells : List AV → Option Sg
  | [.agg [.view (.ints a1), .view (.ints a2), .view (.ints a3)], .s (.int s), .s (.view (.ptss l))] => some ⟨True, [.nrow 34 (.boolss (fcL a1 a2 a3 s l))]⟩
  | _ => none
def sig_spec_FreeCells : FuncId → List AV → Option Sg := sigL [(64, g_spec_l11Size), (55, g_spec_SceneValid), (65, g_spec_l10Clear)]
def xs_spec_FreeCells : XS := ⟨xsigL [], ysigL []⟩
theorem sig_spec_FreeCells_ok : SigOK sig_spec_FreeCells := sigL_cons F_spec_l11Size (sigL_cons F_spec_SceneValid (sigL_cons F_spec_l10Clear sigL_nil))
theorem xs_spec_FreeCells_ok : XSigOK xs_spec_FreeCells := ⟨xsigL_nil, ysigL_nil⟩
theorem V_spec_FreeCells (a1 : List Int) (a2 : List Int) (a3 : List Int) (s : Int) (l : List (List Pt)) : ((true = true) ∧ ((True) ∧ (True) ∧ True) ∧ (true = true) ∧ ((True) ∧ (True) ∧ True) ∧ (true = true) ∧ ((True) ∧ (True) ∧ ((True)) ∧ (True) ∧ (True) ∧ (True) ∧ (True) ∧ (True) ∧ True) ∧ (true = true) ∧ ((True) ∧ ((True)) ∧ (True) ∧ True) ∧ ((bnot (sceneB l)) = true → ((true = true) ∧ ((True) ∧ (True) ∧ True) ∧ ((true = true) ∧ ((Cont.boolss []) = (Cont.boolss (fcL a1 a2 a3 s l)))) ∧ True)) ∧ ((bnot (sceneB l)) = false → ((true = true) ∧ ((True) ∧ True) ∧ ∃ (I1 : List GV → Prop) (μ1 : List GV → Nat), (((true = true) ∧ ((((0 : Int) : Int) = (0 : Int)) ∧ ((Cont.ptss l) = (Cont.ptss l)) ∧ (((sceneB l) : Bool) = (sceneB l)) ∧ (((bnot (sceneB l)) : Bool) = (bnot (sceneB l))) ∧ (((Cont.ints a1) = (Cont.ints a1)) ∧ ((Cont.ints a2) = (Cont.ints a2)) ∧ ((Cont.ints a3) = (Cont.ints a3)) ∧ True) ∧ ((s : Int) = s) ∧ (((gsK a1 a2 a3 s 0) : Int) = (gsK a1 a2 a3 s 0)) ∧ (((gsK a1 a2 a3 s 1) : Int) = (gsK a1 a2 a3 s 1)) ∧ (((gsK a1 a2 a3 s 0) : Int) = (gsK a1 a2 a3 s 0)) ∧ (((gsK a1 a2 a3 s 1) : Int) = (gsK a1 a2 a3 s 1)) ∧ (true = true) ∧ (true = true) ∧ (true = true) ∧ (((Cont.ints a1) = (Cont.ints a1)) ∧ ((Cont.ints a2) = (Cont.ints a2)) ∧ ((Cont.ints a3) = (Cont.ints a3)) ∧ True) ∧ ((s : Int) = s) ∧ ((Cont.ptss l) = (Cont.ptss l)) ∧ True) ∧ (((true = true) ∧ ((Cont.boolss []) = (Cont.boolss []))) ∧ (((Cont.ints a1) = (Cont.ints a1)) ∧ ((Cont.ints a2) = (Cont.ints a2)) ∧ ((Cont.ints a3) = (Cont.ints a3)) ∧ True) ∧ ((true = true) ∧ ((Cont.boolss []) = (Cont.boolss []))) ∧ True)) ∧ (([GK.int, GK.boolss] : List GK) = ([GK.int, GK.boolss] : List GK)) ∧ I1 [GV.int (0 : Int), GV.boolss []]) ∧ (∀ i1_0 : Int, ∀ l1_1 : List (List Bool), I1 [GV.int i1_0, GV.boolss l1_1] → ((true = true) ∧ ((True) ∧ (True) ∧ (True) ∧ True) ∧ ((ilt i1_0 (gsK a1 a2 a3 s 0)) = true → ((true = true) ∧ ((True) ∧ (True) ∧ True) ∧ (true = true) ∧ ((True) ∧ True) ∧ ∃ (I2 : List GV → Prop) (μ2 : List GV → Nat), (((true = true) ∧ ((((0 : Int) : Int) = (0 : Int)) ∧ (true = true) ∧ ((i1_0 : Int) = i1_0) ∧ (((gsK a1 a2 a3 s 0) : Int) = (gsK a1 a2 a3 s 0)) ∧ (((ilt i1_0 (gsK a1 a2 a3 s 0)) : Bool) = (ilt i1_0 (gsK a1 a2 a3 s 0))) ∧ ((i1_0 : Int) = i1_0) ∧ ((Cont.ptss l) = (Cont.ptss l)) ∧ (((sceneB l) : Bool) = (sceneB l)) ∧ (((bnot (sceneB l)) : Bool) = (bnot (sceneB l))) ∧ (((Cont.ints a1) = (Cont.ints a1)) ∧ ((Cont.ints a2) = (Cont.ints a2)) ∧ ((Cont.ints a3) = (Cont.ints a3)) ∧ True) ∧ ((s : Int) = s) ∧ (((gsK a1 a2 a3 s 0) : Int) = (gsK a1 a2 a3 s 0)) ∧ (((gsK a1 a2 a3 s 1) : Int) = (gsK a1 a2 a3 s 1)) ∧ (((gsK a1 a2 a3 s 0) : Int) = (gsK a1 a2 a3 s 0)) ∧ (((gsK a1 a2 a3 s 1) : Int) = (gsK a1 a2 a3 s 1)) ∧ (true = true) ∧ (true = true) ∧ (true = true) ∧ (((Cont.ints a1) = (Cont.ints a1)) ∧ ((Cont.ints a2) = (Cont.ints a2)) ∧ ((Cont.ints a3) = (Cont.ints a3)) ∧ True) ∧ ((s : Int) = s) ∧ ((Cont.ptss l) = (Cont.ptss l)) ∧ True) ∧ (((true = true) ∧ ((Cont.bools []) = (Cont.bools []))) ∧ ((true = true) ∧ ((Cont.boolss l1_1) = (Cont.boolss l1_1))) ∧ (((Cont.ints a1) = (Cont.ints a1)) ∧ ((Cont.ints a2) = (Cont.ints a2)) ∧ ((Cont.ints a3) = (Cont.ints a3)) ∧ True) ∧ ((true = true) ∧ ((Cont.boolss []) = (Cont.boolss []))) ∧ True)) ∧ (([GK.int, GK.bools] : List GK) = ([GK.int, GK.bools] : List GK)) ∧ I2 [GV.int (0 : Int), GV.bools []]) ∧ (∀ i2_0 : Int, ∀ l2_1 : List Bool, I2 [GV.int i2_0, GV.bools l2_1] → ((true = true) ∧ ((True) ∧ (True) ∧ (True) ∧ True) ∧ ((ilt i2_0 (gsK a1 a2 a3 s 1)) = true → ((true = true) ∧ ((True) ∧ (True) ∧ (True) ∧ (True) ∧ (NLe 0 (0 : Int) ∧ NLt (0 : Int) (ilen a2)) ∧ (True) ∧ (True) ∧ (True) ∧ (True) ∧ (True) ∧ (True) ∧ (True) ∧ (NLe 0 (1 : Int) ∧ NLt (1 : Int) (ilen a2)) ∧ (True) ∧ (True) ∧ (True) ∧ (True) ∧ (True) ∧ (True) ∧ (True) ∧ ((jvB a1 a2 a3 [(iadd (geti a2 (0 : Int)) (imul i1_0 s)), (iadd (geti a2 (1 : Int)) (imul i2_0 s))] = true ∧ sceneB l = true)) ∧ (True) ∧ True) ∧ (NLe (ilen l2_1) 1000000000 ∧ NLe (ilen [(acB a1 [(iadd (geti a2 (0 : Int)) (imul i1_0 s)), (iadd (geti a2 (1 : Int)) (imul i2_0 s))] l)]) 1000000000) ∧ (True) ∧ (true = true) ∧ ((True) ∧ (True) ∧ (True) ∧ True) ∧ ((true = true) ∧ ((((iadd i2_0 (1 : Int)) : Int) = (iadd i2_0 (1 : Int))) ∧ (true = true) ∧ ((i1_0 : Int) = i1_0) ∧ (((gsK a1 a2 a3 s 0) : Int) = (gsK a1 a2 a3 s 0)) ∧ (((ilt i1_0 (gsK a1 a2 a3 s 0)) : Bool) = (ilt i1_0 (gsK a1 a2 a3 s 0))) ∧ ((i1_0 : Int) = i1_0) ∧ ((Cont.ptss l) = (Cont.ptss l)) ∧ (((sceneB l) : Bool) = (sceneB l)) ∧ (((bnot (sceneB l)) : Bool) = (bnot (sceneB l))) ∧ (((Cont.ints a1) = (Cont.ints a1)) ∧ ((Cont.ints a2) = (Cont.ints a2)) ∧ ((Cont.ints a3) = (Cont.ints a3)) ∧ True) ∧ ((s : Int) = s) ∧ (((gsK a1 a2 a3 s 0) : Int) = (gsK a1 a2 a3 s 0)) ∧ (((gsK a1 a2 a3 s 1) : Int) = (gsK a1 a2 a3 s 1)) ∧ (((gsK a1 a2 a3 s 0) : Int) = (gsK a1 a2 a3 s 0)) ∧ (((gsK a1 a2 a3 s 1) : Int) = (gsK a1 a2 a3 s 1)) ∧ (true = true) ∧ (true = true) ∧ (true = true) ∧ (((Cont.ints a1) = (Cont.ints a1)) ∧ ((Cont.ints a2) = (Cont.ints a2)) ∧ ((Cont.ints a3) = (Cont.ints a3)) ∧ True) ∧ ((s : Int) = s) ∧ ((Cont.ptss l) = (Cont.ptss l)) ∧ True) ∧ (((true = true) ∧ ((Cont.bools (iapp l2_1 [(acB a1 [(iadd (geti a2 (0 : Int)) (imul i1_0 s)), (iadd (geti a2 (1 : Int)) (imul i2_0 s))] l)])) = (Cont.bools (iapp l2_1 [(acB a1 [(iadd (geti a2 (0 : Int)) (imul i1_0 s)), (iadd (geti a2 (1 : Int)) (imul i2_0 s))] l)])))) ∧ ((true = true) ∧ ((Cont.boolss l1_1) = (Cont.boolss l1_1))) ∧ (((Cont.ints a1) = (Cont.ints a1)) ∧ ((Cont.ints a2) = (Cont.ints a2)) ∧ ((Cont.ints a3) = (Cont.ints a3)) ∧ True) ∧ ((true = true) ∧ ((Cont.boolss []) = (Cont.boolss []))) ∧ True)) ∧ ((([GK.int, GK.bools] : List GK) = ([GK.int, GK.bools] : List GK)) ∧ I2 [GV.int (iadd i2_0 (1 : Int)), GV.bools (iapp l2_1 [(acB a1 [(iadd (geti a2 (0 : Int)) (imul i1_0 s)), (iadd (geti a2 (1 : Int)) (imul i2_0 s))] l)])] ∧ μ2 [GV.int (iadd i2_0 (1 : Int)), GV.bools (iapp l2_1 [(acB a1 [(iadd (geti a2 (0 : Int)) (imul i1_0 s)), (iadd (geti a2 (1 : Int)) (imul i2_0 s))] l)])] < μ2 [GV.int i2_0, GV.bools l2_1]))) ∧ ((ilt i2_0 (gsK a1 a2 a3 s 1)) = false → ((true = true) ∧ ((True) ∧ (True) ∧ True) ∧ (True) ∧ (NLe (ilen l1_1) 1000000000 ∧ NLe (ilen [l2_1]) 1000000000) ∧ (True) ∧ (true = true) ∧ ((True) ∧ (True) ∧ (True) ∧ True) ∧ ((true = true) ∧ ((((iadd i1_0 (1 : Int)) : Int) = (iadd i1_0 (1 : Int))) ∧ ((Cont.ptss l) = (Cont.ptss l)) ∧ (((sceneB l) : Bool) = (sceneB l)) ∧ (((bnot (sceneB l)) : Bool) = (bnot (sceneB l))) ∧ (((Cont.ints a1) = (Cont.ints a1)) ∧ ((Cont.ints a2) = (Cont.ints a2)) ∧ ((Cont.ints a3) = (Cont.ints a3)) ∧ True) ∧ ((s : Int) = s) ∧ (((gsK a1 a2 a3 s 0) : Int) = (gsK a1 a2 a3 s 0)) ∧ (((gsK a1 a2 a3 s 1) : Int) = (gsK a1 a2 a3 s 1)) ∧ (((gsK a1 a2 a3 s 0) : Int) = (gsK a1 a2 a3 s 0)) ∧ (((gsK a1 a2 a3 s 1) : Int) = (gsK a1 a2 a3 s 1)) ∧ (true = true) ∧ (true = true) ∧ (true = true) ∧ (((Cont.ints a1) = (Cont.ints a1)) ∧ ((Cont.ints a2) = (Cont.ints a2)) ∧ ((Cont.ints a3) = (Cont.ints a3)) ∧ True) ∧ ((s : Int) = s) ∧ ((Cont.ptss l) = (Cont.ptss l)) ∧ True) ∧ (((true = true) ∧ ((Cont.boolss (iapp l1_1 [l2_1])) = (Cont.boolss (iapp l1_1 [l2_1])))) ∧ (((Cont.ints a1) = (Cont.ints a1)) ∧ ((Cont.ints a2) = (Cont.ints a2)) ∧ ((Cont.ints a3) = (Cont.ints a3)) ∧ True) ∧ ((true = true) ∧ ((Cont.boolss []) = (Cont.boolss []))) ∧ True)) ∧ ((([GK.int, GK.boolss] : List GK) = ([GK.int, GK.boolss] : List GK)) ∧ I1 [GV.int (iadd i1_0 (1 : Int)), GV.boolss (iapp l1_1 [l2_1])] ∧ μ1 [GV.int (iadd i1_0 (1 : Int)), GV.boolss (iapp l1_1 [l2_1])] < μ1 [GV.int i1_0, GV.boolss l1_1]))))))) ∧ ((ilt i1_0 (gsK a1 a2 a3 s 0)) = false → ((true = true) ∧ ((True) ∧ (True) ∧ True) ∧ ((true = true) ∧ ((Cont.boolss l1_1) = (Cont.boolss (fcL a1 a2 a3 s l)))) ∧ True))))))) = ev sig_spec_FreeCells xs_spec_FreeCells Tryd.f16.ntmps (fun b => if b == 0 then [.v 10, .b 7] else if b == 2 then [.v 12, .b 11] else []) (codeOf Tryd.f16) 0 (initS [.agg [.view (.ints a1), .view (.ints a2), .view (.ints a3)], .s (.int s), .s (.view (.ptss l))]) (retK Tryd.f16.results.toList [.nrow 34 (.boolss (fcL a1 a2 a3 s l))]) := by kernel_rfl
set_option maxHeartbeats 400000 in
theorem F_spec_FreeCells : FunOK 16 g_spec_FreeCells := by
  refine fun_F (by kernel_rfl) Tryd.func16 rfl (by kernel_rfl) sig_spec_FreeCells_ok xs_spec_FreeCells_ok ?_
  intro avs sg h hn hl
  unfold g_spec_FreeCells at h
  split at h
  · rename_i a1 a2 a3 s l
    injection h with h; subst h
    refine ⟨by kernel_rfl, fun b => if b == 0 then [.v 10, .b 7] else if b == 2 then [.v 12, .b 11] else [], Eq.mp (V_spec_FreeCells a1 a2 a3 s l) ?_⟩
    simp only [true_and, and_true, implies_true, and_self, forall_const, true_implies, lenA, lenL, SV.lenOK, Cont.lenOK] at hn hl ⊢
    simp only [ilt_t, ilt_f, ile_t, ile_f, ieq_t, ieq_f, bnot_e, band_e, bite_and, bite_or, NLt_e, NLe_e, NNe_e, NIs_e, imax_e, imin_e, irem_e, Bool.not_eq_true', Bool.not_eq_false', Bool.and_eq_true, Bool.or_eq_true, Bool.or_eq_false_iff, Bool.and_eq_false_iff, Cont.pts.injEq, Cont.ints.injEq, Cont.bools.injEq, Cont.ptss.injEq, Cont.intss.injEq, Cont.boolss.injEq, true_and, and_true, implies_true]
    refine ⟨fun h => by unfold fcL; rw [h]; rfl, fun hs => ?_⟩
    have hL : fcL a1 a2 a3 s l = fcT a1 a2 l s (gsK a1 a2 a3 s 1) (gsK a1 a2 a3 s 0) := by unfold fcL; rw [if_pos hs]
    have hc20 : (0 ≤ gsK a1 a2 a3 s 0 ∧ gsK a1 a2 a3 s 0 ≤ 20) ∧ (0 ≤ gsK a1 a2 a3 s 1 ∧ gsK a1 a2 a3 s 1 ≤ 20) := by
      rcases gsK_cases a1 a2 a3 s with ⟨h0, h1⟩ | ⟨hB, g0, g1, e0, e1, m0, m1⟩ <;> omega
    rw [hL]
    refine ⟨fun | [.int i, .boolss o] => 0 ≤ i ∧ i ≤ gsK a1 a2 a3 s 0 ∧ o = fcT a1 a2 l s (gsK a1 a2 a3 s 1) i | _ => False, fun | .int i :: _ => (gsK a1 a2 a3 s 0 - i).toNat | _ => 0, ⟨by omega, by omega, rfl⟩, ?_⟩
    rintro i o ⟨i0, i1, rfl⟩
    refine ⟨fun hi => ?_, fun hi => ?_⟩
    · refine ⟨fun | [.int k, .bools r] => 0 ≤ k ∧ k ≤ gsK a1 a2 a3 s 1 ∧ r = fcR a1 a2 l s i k | _ => False, fun | .int k :: _ => (gsK a1 a2 a3 s 1 - k).toNat | _ => 0, ⟨by omega, by omega, rfl⟩, ?_⟩
      rintro k r ⟨k0, k1, rfl⟩
      refine ⟨fun hk => ?_, fun hk => ?_⟩
      · obtain ⟨hb, he, _⟩ := cj_in (a1 := a1) (a2 := a2) (a3 := a3) (s := s) i0 hi k0 hk
        have hj := cj_jv hb
        obtain ⟨_, l2, _⟩ := cj_parts hb
        have ee : [iadd (geti a2 0) (imul i s), iadd (geti a2 1) (imul k s)] = fcJ a2 s i k := by
          rw [← he]; unfold cjL; rw [if_pos hb]
        rw [he] at hj
        rw [ee]
        rw [fcR_len k0, iadd_e (by omega) (by omega)]
        exact ⟨⟨⟨by omega, by omega⟩, ⟨by omega, by omega⟩, hj, hs⟩, ⟨by omega, by rw [ilen_one]; omega⟩, ⟨by omega, by omega, fcR_s k0⟩, by show (gsK a1 a2 a3 s 1 - (k + 1)).toNat < (gsK a1 a2 a3 s 1 - k).toNat; omega⟩
      · have ek : k = gsK a1 a2 a3 s 1 := by omega
        subst ek
        rw [fcT_len i0, iadd_e (by omega) (by omega)]
        exact ⟨⟨by omega, by rw [ilen_one]; omega⟩, ⟨by omega, by omega, fcT_s i0⟩, by show (gsK a1 a2 a3 s 0 - (i + 1)).toNat < (gsK a1 a2 a3 s 0 - i).toNat; omega⟩
    · rw [show i = gsK a1 a2 a3 s 0 by omega]
  · cases h
def g_laws_alive : List AV → Option Sg
  | [] => some ⟨True, [.s (.bool (true))]⟩
  | _ => none
def sig_laws_alive : FuncId → List AV → Option Sg := sigL [(68, g_impl_Degrees)]
def xs_laws_alive : XS := ⟨xsigL [], ysigL []⟩
theorem sig_laws_alive_ok : SigOK sig_laws_alive := sigL_cons F_impl_Degrees sigL_nil
theorem xs_laws_alive_ok : XSigOK xs_laws_alive := ⟨xsigL_nil, ysigL_nil⟩
theorem V_laws_alive  : ((true = true) ∧ ((True) ∧ True) ∧ (true = true) ∧ (((True)) ∧ (True) ∧ (True) ∧ True) ∧ (((ieq (degW (-1 : Int)) (359 : Int)) : Bool) = (true)) ∧ True) = ev sig_laws_alive xs_laws_alive Tryd.f18.ntmps (fun b => []) (codeOf Tryd.f18) 0 (initS []) (retK Tryd.f18.results.toList [.s (.bool (true))]) := by kernel_rfl
set_option maxHeartbeats 400000 in
theorem F_laws_alive : FunOK 18 g_laws_alive := by
  refine fun_F (by kernel_rfl) Tryd.func18 rfl (by kernel_rfl) sig_laws_alive_ok xs_laws_alive_ok ?_
  intro avs sg h hn hl
  unfold g_laws_alive at h
  split at h
  ·
    injection h with h; subst h
    refine ⟨by kernel_rfl, fun b => [], Eq.mp (V_laws_alive ) ?_⟩
    simp only [true_and, and_true, implies_true, and_self, forall_const, true_implies, lenA, lenL, SV.lenOK, Cont.lenOK] at hn hl ⊢
    unfold ieq degW
    rw [irem_e, irem_e, iadd_e (by decide) (by decide)]
    decide
  · cases h
def tblE (l : List (List Bool)) (i : Int) : Bool := decide (ilen (getl l i) ≤ 20 ∧ ilen (getl l i) = ilen (getl l 0))
def tblB (l : List (List Bool)) : Bool := decide (ilen l ≤ 20) && allN (ilen l) (tblE l)
def freeB (l : List (List Bool)) (c1 c2 : Int) : Bool := decide (0 ≤ c1 ∧ c1 < ilen l) && decide (0 ≤ c2 ∧ c2 < ilen (getl l c1)) && getb (getl l c1) c2
def stepB (p : List Pt) (i : Int) : Bool := decide (max (getx p i - getx p (i - 1)) (getx p (i - 1) - getx p i) + max (gety p i - gety p (i - 1)) (gety p (i - 1) - gety p i) = 1)
def pvE (l : List (List Bool)) (p : List Pt) (i : Int) : Bool := freeB l (getx p i) (gety p i) && (decide (i ≤ 0) || stepB p i)
def pvB (l : List (List Bool)) (p : List Pt) : Bool := tblB l && inB (ilen p) 1 400 && allN (ilen p) (pvE l p)
theorem free_in {l : List (List Bool)} {c1 c2 : Int} (ht : tblB l = true) (h : freeB l c1 c2 = true) : 0 ≤ c1 ∧ c1 < 20 ∧ 0 ≤ c2 ∧ c2 < 20 := by
  unfold freeB at h
  unfold tblB at ht
  simp only [Bool.and_eq_true, decide_eq_true_eq] at h ht
  have := allN_iff.1 ht.2 c1 h.1.1.1 h.1.1.2
  unfold tblE at this
  simp only [decide_eq_true_eq] at this
  omega
theorem sq_1 {d : Int} (h : d * d ≤ 1) : -1 ≤ d ∧ d ≤ 1 := by
  constructor
  · apply Classical.byContradiction; intro hn
    have := Int.mul_le_mul (show 2 ≤ -d by omega) (show 2 ≤ -d by omega) (by decide) (by omega)
    rw [Int.neg_mul_neg] at this; omega
  · apply Classical.byContradiction; intro hn
    have := Int.mul_le_mul (show 2 ≤ d by omega) (show 2 ≤ d by omega) (by decide) (by omega)
    omega
theorem sq_0 (d : Int) : 0 ≤ d * d := by
  rcases Int.le_total 0 d with h | h
  · exact Int.mul_nonneg h h
  · exact Int.mul_nonneg_of_nonpos_of_nonpos h h
theorem step_e {d e : Int} : d * d + e * e = 1 ↔ max d (-d) + max e (-e) = 1 := by
  constructor
  · intro h
    have := sq_0 d; have := sq_0 e
    have h1 := sq_1 (d := d) (by omega)
    have h2 := sq_1 (d := e) (by omega)
    rcases (show d = -1 ∨ d = 0 ∨ d = 1 by omega) with rfl | rfl | rfl <;> rcases (show e = -1 ∨ e = 0 ∨ e = 1 by omega) with rfl | rfl | rfl <;> first | rfl | (exfalso; revert h; decide)
  · intro h
    have : (d = 1 ∧ e = 0) ∨ (d = -1 ∧ e = 0) ∨ (d = 0 ∧ e = 1) ∨ (d = 0 ∧ e = -1) := by omega
    rcases this with ⟨rfl, rfl⟩ | ⟨rfl, rfl⟩ | ⟨rfl, rfl⟩ | ⟨rfl, rfl⟩ <;> decide
def g_impl_tableValid : List AV → Option Sg
  | [.s (.view (.boolss l))] => some ⟨True, [.s (.bool (tblB l))]⟩
  | _ => none
def sig_impl_tableValid : FuncId → List AV → Option Sg := sigL []
def xs_impl_tableValid : XS := ⟨xsigL [], ysigL []⟩
theorem sig_impl_tableValid_ok : SigOK sig_impl_tableValid := sigL_nil
theorem xs_impl_tableValid_ok : XSigOK xs_impl_tableValid := ⟨xsigL_nil, ysigL_nil⟩
theorem V_impl_tableValid (l : List (List Bool)) : ((true = true) ∧ ((True) ∧ True) ∧ (true = true) ∧ ((True) ∧ (True) ∧ (True) ∧ True) ∧ ((ilt (20 : Int) (ilen l)) = true → ((true = true) ∧ ((True) ∧ True) ∧ ((false : Bool) = (tblB l)) ∧ True)) ∧ ((ilt (20 : Int) (ilen l)) = false → ((true = true) ∧ ((True) ∧ (True) ∧ (True) ∧ True) ∧ ∃ (I1 : List GV → Prop) (μ1 : List GV → Nat), (((true = true) ∧ (((false : Bool) = false) ∧ (((0 : Int) : Int) = (0 : Int)) ∧ ((Cont.boolss l) = (Cont.boolss l)) ∧ (((ilen l) : Int) = (ilen l)) ∧ ((Cont.boolss l) = (Cont.boolss l)) ∧ (((ilen l) : Int) = (ilen l)) ∧ (((ilt (20 : Int) (ilen l)) : Bool) = (ilt (20 : Int) (ilen l))) ∧ ((Cont.boolss l) = (Cont.boolss l)) ∧ True) ∧ (True)) ∧ (([GK.int, GK.bool] : List GK) = ([GK.int, GK.bool] : List GK)) ∧ I1 [GV.int (0 : Int), GV.bool false]) ∧ (∀ i1_0 : Int, ∀ b1_1 : Bool, I1 [GV.int i1_0, GV.bool b1_1] → ((true = true) ∧ ((True) ∧ True) ∧ ((ilt i1_0 (ilen l)) = true → ((true = true) ∧ ((NLe 0 i1_0 ∧ NLt i1_0 (ilen l)) ∧ (True) ∧ (True) ∧ True) ∧ (true = true) ∧ ((True) ∧ (True) ∧ (True) ∧ (True) ∧ (NIs (ilt (20 : Int) (ilen (getl l i1_0))) false → True) ∧ (NIs (ilt (20 : Int) (ilen (getl l i1_0))) false → True) ∧ (NIs (ilt (20 : Int) (ilen (getl l i1_0))) false → True) ∧ (NIs (ilt (20 : Int) (ilen (getl l i1_0))) false → (NLe 0 (0 : Int) ∧ NLt (0 : Int) (ilen l))) ∧ (NIs (ilt (20 : Int) (ilen (getl l i1_0))) false → True) ∧ (NIs (ilt (20 : Int) (ilen (getl l i1_0))) false → True) ∧ (NIs (ilt (20 : Int) (ilen (getl l i1_0))) false → True) ∧ (True) ∧ True) ∧ ((bite (ilt (20 : Int) (ilen (getl l i1_0))) true (bnot (ieq (ilen (getl l i1_0)) (ilen (getl l (0 : Int)))))) = true → ((true = true) ∧ ((True) ∧ True) ∧ ((false : Bool) = (tblB l)) ∧ True)) ∧ ((bite (ilt (20 : Int) (ilen (getl l i1_0))) true (bnot (ieq (ilen (getl l i1_0)) (ilen (getl l (0 : Int)))))) = false → ((true = true) ∧ ((True) ∧ (True) ∧ True) ∧ ((true = true) ∧ (((b1_1 : Bool) = b1_1) ∧ (((iadd i1_0 (1 : Int)) : Int) = (iadd i1_0 (1 : Int))) ∧ ((Cont.boolss l) = (Cont.boolss l)) ∧ (((ilen l) : Int) = (ilen l)) ∧ ((Cont.boolss l) = (Cont.boolss l)) ∧ (((ilen l) : Int) = (ilen l)) ∧ (((ilt (20 : Int) (ilen l)) : Bool) = (ilt (20 : Int) (ilen l))) ∧ ((Cont.boolss l) = (Cont.boolss l)) ∧ True) ∧ (True)) ∧ ((([GK.int, GK.bool] : List GK) = ([GK.int, GK.bool] : List GK)) ∧ I1 [GV.int (iadd i1_0 (1 : Int)), GV.bool b1_1] ∧ μ1 [GV.int (iadd i1_0 (1 : Int)), GV.bool b1_1] < μ1 [GV.int i1_0, GV.bool b1_1]))))) ∧ ((ilt i1_0 (ilen l)) = false → ((true = true) ∧ ((True) ∧ True) ∧ ((true : Bool) = (tblB l)) ∧ True))))))) = ev sig_impl_tableValid xs_impl_tableValid Tryd.f76.ntmps (fun b => if b == 0 then [.v 10, .v 2] else []) (codeOf Tryd.f76) 0 (initS [.s (.view (.boolss l))]) (retK Tryd.f76.results.toList [.s (.bool (tblB l))]) := by kernel_rfl
set_option maxHeartbeats 400000 in
theorem F_impl_tableValid : FunOK 76 g_impl_tableValid := by
  refine fun_F (by kernel_rfl) Tryd.func76 rfl (by kernel_rfl) sig_impl_tableValid_ok xs_impl_tableValid_ok ?_
  intro avs sg h hn hl
  unfold g_impl_tableValid at h
  split at h
  · rename_i l
    injection h with h; subst h
    refine ⟨by kernel_rfl, fun b => if b == 0 then [.v 10, .v 2] else [], Eq.mp (V_impl_tableValid l) ?_⟩
    simp only [true_and, and_true, implies_true, and_self, forall_const, true_implies, lenA, lenL, SV.lenOK, Cont.lenOK] at hn hl ⊢
    have h0 := ilen_0 l
    simp only [ilt_t, ilt_f, ile_t, ile_f, ieq_t, ieq_f, bnot_e, band_e, bite_and, bite_or, NLt_e, NLe_e, NNe_e, NIs_e, imax_e, imin_e, irem_e, Bool.not_eq_true', Bool.not_eq_false', Bool.and_eq_true, Bool.or_eq_true, Bool.or_eq_false_iff, Bool.and_eq_false_iff, Cont.pts.injEq, Cont.ints.injEq, Cont.bools.injEq, Cont.ptss.injEq, Cont.intss.injEq, Cont.boolss.injEq, true_and, and_true, implies_true]
    refine ⟨fun h => by unfold tblB; simp; omega, fun hle => ?_⟩
    refine ⟨fun | .int k :: _ => 0 ≤ k ∧ k ≤ ilen l ∧ (∀ i, 0 ≤ i → i < k → tblE l i = true) | _ => False, fun | .int k :: _ => (ilen l - k).toNat | _ => 0, ?_, ?_⟩
    · exact ⟨Int.le_refl 0, h0, fun j h0 h1 => absurd h1 (by omega)⟩
    · rintro k _ ⟨hk0, hk1, hk⟩
      simp only [ilt_t, ilt_f, ile_t, ile_f, ieq_t, ieq_f, bnot_e, band_e, bite_and, bite_or, NLt_e, NLe_e, NNe_e, NIs_e, imax_e, imin_e, irem_e, Bool.not_eq_true', Bool.not_eq_false', Bool.and_eq_true, Bool.or_eq_true, Bool.or_eq_false_iff, Bool.and_eq_false_iff, Cont.pts.injEq, Cont.ints.injEq, Cont.bools.injEq, Cont.ptss.injEq, Cont.intss.injEq, Cont.boolss.injEq, true_and, and_true, implies_true]
      refine ⟨fun hkn => ⟨⟨hk0, hkn⟩, fun _ => ⟨by omega, by omega⟩, fun hx => ?_, fun hx => ?_⟩, fun hkn => ?_⟩
      · have hE : tblE l k = false := by unfold tblE; simp only [decide_eq_false_iff_not]; omega
        unfold tblB; rw [allN_no k hk0 hkn hE]; simp
      · have hE : tblE l k = true := by unfold tblE; simp only [decide_eq_true_eq]; omega
        rw [iadd_1 hk0 hkn hl.1]
        exact ⟨⟨by omega, by omega, upTo hk hE⟩, by omega⟩
      · unfold tblB; rw [allN_mk fun j j0 j1 => hk j j0 (by omega)]; simp [ile, hle]
  · cases h
def g_impl_isFree : List AV → Option Sg
  | [.s (.view (.boolss l)), .agg [.int c1, .int c2]] => some ⟨True, [.s (.bool (freeB l c1 c2))]⟩
  | _ => none
def sig_impl_isFree : FuncId → List AV → Option Sg := sigL []
def xs_impl_isFree : XS := ⟨xsigL [], ysigL []⟩
theorem sig_impl_isFree_ok : SigOK sig_impl_isFree := sigL_nil
theorem xs_impl_isFree_ok : XSigOK xs_impl_isFree := ⟨xsigL_nil, ysigL_nil⟩
theorem V_impl_isFree (l : List (List Bool)) (c1 : Int) (c2 : Int) : ((true = true) ∧ ((True) ∧ (True) ∧ True) ∧ (true = true) ∧ ((True) ∧ (True) ∧ (True) ∧ (True) ∧ (NIs (ile (0 : Int) c1) true → True) ∧ (NIs (ile (0 : Int) c1) true → True) ∧ (NIs (ile (0 : Int) c1) true → True) ∧ (NIs (ile (0 : Int) c1) true → True) ∧ (NIs (ile (0 : Int) c1) true → True) ∧ (True) ∧ (True) ∧ (NIs (bite (ile (0 : Int) c1) (ilt c1 (ilen l)) false) true → True) ∧ (NIs (bite (ile (0 : Int) c1) (ilt c1 (ilen l)) false) true → True) ∧ (NIs (bite (ile (0 : Int) c1) (ilt c1 (ilen l)) false) true → True) ∧ (True) ∧ (True) ∧ (NIs (bite (bite (ile (0 : Int) c1) (ilt c1 (ilen l)) false) (ile (0 : Int) c2) false) true → True) ∧ (NIs (bite (bite (ile (0 : Int) c1) (ilt c1 (ilen l)) false) (ile (0 : Int) c2) false) true → True) ∧ (NIs (bite (bite (ile (0 : Int) c1) (ilt c1 (ilen l)) false) (ile (0 : Int) c2) false) true → True) ∧ (NIs (bite (bite (ile (0 : Int) c1) (ilt c1 (ilen l)) false) (ile (0 : Int) c2) false) true → True) ∧ (NIs (bite (bite (ile (0 : Int) c1) (ilt c1 (ilen l)) false) (ile (0 : Int) c2) false) true → True) ∧ (NIs (bite (bite (ile (0 : Int) c1) (ilt c1 (ilen l)) false) (ile (0 : Int) c2) false) true → (NLe 0 c1 ∧ NLt c1 (ilen l))) ∧ (NIs (bite (bite (ile (0 : Int) c1) (ilt c1 (ilen l)) false) (ile (0 : Int) c2) false) true → True) ∧ (NIs (bite (bite (ile (0 : Int) c1) (ilt c1 (ilen l)) false) (ile (0 : Int) c2) false) true → True) ∧ (NIs (bite (bite (ile (0 : Int) c1) (ilt c1 (ilen l)) false) (ile (0 : Int) c2) false) true → True) ∧ (True) ∧ (True) ∧ (NIs (bite (bite (bite (ile (0 : Int) c1) (ilt c1 (ilen l)) false) (ile (0 : Int) c2) false) (ilt c2 (ilen (getl l c1))) false) true → True) ∧ (NIs (bite (bite (bite (ile (0 : Int) c1) (ilt c1 (ilen l)) false) (ile (0 : Int) c2) false) (ilt c2 (ilen (getl l c1))) false) true → True) ∧ (NIs (bite (bite (bite (ile (0 : Int) c1) (ilt c1 (ilen l)) false) (ile (0 : Int) c2) false) (ilt c2 (ilen (getl l c1))) false) true → True) ∧ (NIs (bite (bite (bite (ile (0 : Int) c1) (ilt c1 (ilen l)) false) (ile (0 : Int) c2) false) (ilt c2 (ilen (getl l c1))) false) true → (NLe 0 c1 ∧ NLt c1 (ilen l))) ∧ (NIs (bite (bite (bite (ile (0 : Int) c1) (ilt c1 (ilen l)) false) (ile (0 : Int) c2) false) (ilt c2 (ilen (getl l c1))) false) true → True) ∧ (NIs (bite (bite (bite (ile (0 : Int) c1) (ilt c1 (ilen l)) false) (ile (0 : Int) c2) false) (ilt c2 (ilen (getl l c1))) false) true → True) ∧ (NIs (bite (bite (bite (ile (0 : Int) c1) (ilt c1 (ilen l)) false) (ile (0 : Int) c2) false) (ilt c2 (ilen (getl l c1))) false) true → True) ∧ (NIs (bite (bite (bite (ile (0 : Int) c1) (ilt c1 (ilen l)) false) (ile (0 : Int) c2) false) (ilt c2 (ilen (getl l c1))) false) true → (NLe 0 c2 ∧ NLt c2 (ilen (getl l c1)))) ∧ (NIs (bite (bite (bite (ile (0 : Int) c1) (ilt c1 (ilen l)) false) (ile (0 : Int) c2) false) (ilt c2 (ilen (getl l c1))) false) true → True) ∧ (True) ∧ (True) ∧ True) ∧ (((bite (bite (bite (bite (ile (0 : Int) c1) (ilt c1 (ilen l)) false) (ile (0 : Int) c2) false) (ilt c2 (ilen (getl l c1))) false) (getb (getl l c1) c2) false) : Bool) = (freeB l c1 c2)) ∧ True) = ev sig_impl_isFree xs_impl_isFree Tryd.f77.ntmps (fun b => []) (codeOf Tryd.f77) 0 (initS [.s (.view (.boolss l)), .agg [.int c1, .int c2]]) (retK Tryd.f77.results.toList [.s (.bool (freeB l c1 c2))]) := by kernel_rfl
set_option maxHeartbeats 400000 in
theorem F_impl_isFree : FunOK 77 g_impl_isFree := by
  refine fun_F (by kernel_rfl) Tryd.func77 rfl (by kernel_rfl) sig_impl_isFree_ok xs_impl_isFree_ok ?_
  intro avs sg h hn hl
  unfold g_impl_isFree at h
  split at h
  · rename_i l c1 c2
    injection h with h; subst h
    refine ⟨by kernel_rfl, fun b => [], Eq.mp (V_impl_isFree l c1 c2) ?_⟩
    simp only [true_and, and_true, implies_true, and_self, forall_const, true_implies, lenA, lenL, SV.lenOK, Cont.lenOK] at hn hl ⊢
    simp only [ilt_t, ilt_f, ile_t, ile_f, ieq_t, ieq_f, bnot_e, band_e, bite_and, bite_or, NLt_e, NLe_e, NNe_e, NIs_e, imax_e, imin_e, irem_e, Bool.not_eq_true', Bool.not_eq_false', Bool.and_eq_true, Bool.or_eq_true, Bool.or_eq_false_iff, Bool.and_eq_false_iff, Cont.pts.injEq, Cont.ints.injEq, Cont.bools.injEq, Cont.ptss.injEq, Cont.intss.injEq, Cont.boolss.injEq, true_and, and_true, implies_true]
    refine ⟨⟨fun h => h.1, fun h => h.1.1, fun h => ⟨h.1.2, h.2⟩⟩, ?_⟩
    simp only [freeB, ile, ilt, Bool.decide_and, Bool.and_assoc]
  · cases h
theorem getl_any {α : Type} {l : List (List α)} (h : ∀ m ∈ l, ilen m ≤ 9223372036854775807) (j : Int) : ilen (getl l j) ≤ 9223372036854775807 := by
  unfold getl
  rw [List.getD_eq_getElem?_getD]
  by_cases hj : j.toNat < l.length
  · rw [List.getElem?_eq_getElem hj]; exact h _ (List.getElem_mem _)
  · rw [List.getElem?_eq_none (by omega)]; simp [ilen]
def pcE (l : List Pt) (i : Int) : Bool := decide (i = 0 ∨ i = ilen l - 1 ∨ isub (getx l i) (getx l (i - 1)) ≠ isub (getx l (i + 1)) (getx l i) ∨ isub (gety l i) (gety l (i - 1)) ≠ isub (gety l (i + 1)) (gety l i))
def pcL (l : List Pt) (k : Int) : List Pt := foldN k (fun o i => if pcE l i then iapp o [(getx l i, gety l i)] else o) []
def pcF (l : List Pt) : List Pt := if ilen l ≤ 400 then pcL l (ilen l) else []
theorem pcL_1 {l : List Pt} {k : Int} (h : 0 ≤ k) : pcL l (k + 1) = if pcE l k then iapp (pcL l k) [(getx l k, gety l k)] else pcL l k := by unfold pcL; rw [foldN_1 h]
theorem pcL_len {l : List Pt} (k : Nat) : ilen (pcL l k) ≤ k := by
  induction k with
  | zero => show ilen ([] : List Pt) ≤ 0; rw [ilen_nil]; omega
  | succ k ih =>
    rw [show ((k + 1 : Nat) : Int) = (k : Int) + 1 by omega, pcL_1 (by omega)]
    split
    · rw [ilen_app, ilen_one]; omega
    · omega
/-- Every step changes one coordinate at most. -/
def stp1 (l : List Pt) : Prop := (∀ i, 0 ≤ i → i < ilen l → (-1000 ≤ getx l i ∧ getx l i ≤ 1000) ∧ (-1000 ≤ gety l i ∧ gety l i ≤ 1000)) ∧ ∀ i, 1 ≤ i → i < ilen l → getx l i = getx l (i - 1) ∨ gety l i = gety l (i - 1)
def one1 (o : List Pt) : Prop := ∀ i, 1 ≤ i → i < ilen o → getx o i = getx o (i - 1) ∨ gety o i = gety o (i - 1)
structure PcI (l : List Pt) (k : Int) (o : List Pt) (j : Int) : Prop where
  j0 : 0 ≤ j
  jk : j < k
  len : 1 ≤ ilen o ∧ ilen o ≤ k
  hd : getx o 0 = getx l 0 ∧ gety o 0 = gety l 0
  last : getx o (ilen o - 1) = getx l j ∧ gety o (ilen o - 1) = gety l j
  one : one1 o
  gap : ∀ t, j < t → t < k → pcE l t = false
theorem pc_run {l : List Pt} (h : stp1 l) {j k : Int} (j0 : 0 ≤ j) (hjk : j < k) (hk : k < ilen l) (gap : ∀ t, j < t → t < k → pcE l t = false) : getx l k = getx l j ∨ gety l k = gety l j := by
  obtain ⟨hb, hs⟩ := h
  have eqs : ∀ t, j < t → t < k → getx l (t + 1) - getx l t = getx l t - getx l (t - 1) ∧ gety l (t + 1) - gety l t = gety l t - gety l (t - 1) := fun t t0 t1 => by
    have g := gap t t0 t1
    unfold pcE at g
    simp only [decide_eq_false_iff_not, not_or, Decidable.not_not, ne_eq] at g
    have b1 := hb (t - 1) (by omega) (by omega)
    have b2 := hb t (by omega) (by omega)
    have b3 := hb (t + 1) (by omega) (by omega)
    rw [isub_e (by omega) (by omega), isub_e (by omega) (by omega), isub_e (by omega) (by omega), isub_e (by omega) (by omega)] at g
    omega
  have go : ∀ (n : Nat), (n : Int) + 1 ≤ k - j → (getx l (j + n + 1) - getx l (j + n) = getx l (j + 1) - getx l j ∧ gety l (j + n + 1) - gety l (j + n) = gety l (j + 1) - gety l j) := by
    intro n
    induction n with
    | zero => intro _; simp
    | succ n ih =>
      intro hn
      have h1 := ih (by omega)
      have h2 := eqs (j + n + 1) (by omega) (by omega)
      rw [show j + (n : Int) + 1 - 1 = j + n by omega] at h2
      rw [show j + ((n + 1 : Nat) : Int) + 1 = j + n + 1 + 1 by omega, show j + ((n + 1 : Nat) : Int) = j + n + 1 by omega]
      omega
  have h0 := hs (j + 1) (by omega) (by omega)
  rw [show j + 1 - 1 = j by omega] at h0
  have sum : ∀ (n : Nat), (n : Int) ≤ k - j → (getx l (j + 1) = getx l j → getx l (j + n) = getx l j) ∧ (gety l (j + 1) = gety l j → gety l (j + n) = gety l j) := by
    intro n
    induction n with
    | zero => intro _; simp
    | succ n ih =>
      intro hn
      have h1 := ih (by omega)
      have h2 := go n (by omega)
      rw [show j + ((n + 1 : Nat) : Int) = j + n + 1 by omega]
      exact ⟨fun e => by have := h1.1 e; omega, fun e => by have := h1.2 e; omega⟩
  have := sum (k - j).toNat (by omega)
  rw [show j + ((k - j).toNat : Int) = k by omega] at this
  rcases h0 with e | e
  · exact .inl (this.1 e)
  · exact .inr (this.2 e)
theorem pc_inv {l : List Pt} (h : stp1 l) (hl : 1 ≤ ilen l) : ∀ (n : Nat), (n : Int) + 1 ≤ ilen l → ∃ j, PcI l (n + 1) (pcL l (n + 1)) j ∧ (pcE l n = true → j = n)
  | 0, _ => by
    have e0 : pcE l 0 = true := by unfold pcE; simp
    have e : pcL l ((0 : Nat) + 1) = [(getx l 0, gety l 0)] := by
      rw [pcL_1 (k := ((0 : Nat) : Int)) (by omega)]
      simp only [Int.natCast_zero, Int.ofNat_zero]
      rw [if_pos e0]
      show iapp ([] : List Pt) _ = _
      unfold iapp; simp
    refine ⟨0, ⟨by omega, by omega, ?_, ?_, ?_, ?_, fun t t0 t1 => by omega⟩, fun _ => rfl⟩
    · rw [e, ilen_one]; omega
    · rw [e, getx_one, gety_one]; exact ⟨rfl, rfl⟩
    · rw [e, ilen_one, show (1 : Int) - 1 = 0 by omega, getx_one, gety_one]; exact ⟨rfl, rfl⟩
    · rw [e]; intro i i0 i1; rw [ilen_one] at i1; omega
  | n + 1, hn => by
    obtain ⟨j, ih, _⟩ := pc_inv h hl n (by omega)
    have ec : ((n + 1 : Nat) : Int) = (n : Int) + 1 := by omega
    rw [ec]
    have e := pcL_1 (l := l) (k := (n : Int) + 1) (by omega)
    by_cases hE : pcE l ((n : Int) + 1) = true
    · rw [if_pos hE] at e
      refine ⟨n + 1, ⟨by omega, by omega, ?_, ?_, ?_, ?_, fun t t0 t1 => by omega⟩, fun _ => rfl⟩
      · rw [e, ilen_app, ilen_one]; have := ih.len; omega
      · have := ih.len
        rw [e, getx_app (by omega), gety_app (by omega), if_pos (by omega), if_pos (by omega)]; exact ih.hd
      · have := ih.len
        rw [e, ilen_app, ilen_one, getx_app (by omega), gety_app (by omega), if_neg (by omega), if_neg (by omega), show ilen (pcL l ((n : Int) + 1)) + 1 - 1 - ilen (pcL l ((n : Int) + 1)) = 0 by omega, getx_one, gety_one]; exact ⟨rfl, rfl⟩
      · have hlen := ih.len
        intro i i0 i1
        rw [e] at i1 ⊢
        rw [ilen_app, ilen_one] at i1
        rw [getx_app (by omega), gety_app (by omega), getx_app (by omega), gety_app (by omega), if_pos (show i - 1 < ilen (pcL l ((n : Int) + 1)) by omega), if_pos (show i - 1 < ilen (pcL l ((n : Int) + 1)) by omega)]
        by_cases hi : i < ilen (pcL l ((n : Int) + 1))
        · rw [if_pos hi, if_pos hi]; exact ih.one i i0 hi
        · have ei : i = ilen (pcL l ((n : Int) + 1)) := by omega
          rw [if_neg hi, if_neg hi, ei, Int.sub_self, getx_one, gety_one, ih.last.1, ih.last.2]
          exact pc_run h ih.j0 ih.jk (by omega) ih.gap
    · rw [if_neg hE] at e
      refine ⟨j, ⟨ih.j0, by have := ih.jk; omega, ?_, ?_, ?_, ?_, fun t t0 t1 => ?_⟩, fun hh => absurd hh hE⟩
      · rw [e]; have := ih.len; omega
      · rw [e]; exact ih.hd
      · rw [e]; exact ih.last
      · rw [e]; exact ih.one
      · rcases Int.lt_or_le t ((n : Int) + 1) with g | g
        · exact ih.gap t t0 g
        · rw [show t = (n : Int) + 1 by omega]; simpa using hE
theorem pc_fin {l : List Pt} (h : stp1 l) (h1 : 1 ≤ ilen l) (h2 : ilen l ≤ 400) : (1 ≤ ilen (pcF l) ∧ ilen (pcF l) ≤ ilen l) ∧ (getx (pcF l) 0 = getx l 0 ∧ gety (pcF l) 0 = gety l 0) ∧ (getx (pcF l) (ilen (pcF l) - 1) = getx l (ilen l - 1) ∧ gety (pcF l) (ilen (pcF l) - 1) = gety l (ilen l - 1)) ∧ one1 (pcF l) := by
  unfold pcF
  rw [if_pos h2]
  obtain ⟨j, ih, hj⟩ := pc_inv h h1 (ilen l - 1).toNat (by omega)
  rw [show (((ilen l - 1).toNat : Nat) : Int) = ilen l - 1 by omega] at ih hj
  have : pcE l (ilen l - 1) = true := by unfold pcE; simp
  have ej := hj this
  rw [show ilen l - 1 + 1 = ilen l by omega] at ih
  refine ⟨by have := ih.len; omega, ih.hd, ?_, ih.one⟩
  rw [ih.last.1, ih.last.2, ej]; exact ⟨rfl, rfl⟩
def nbs (c : Pt) : List Pt := [(c.1 - 1, c.2), (c.1, c.2 - 1), (c.1, c.2 + 1), (c.1 + 1, c.2)]
def bfN (fr : Pt → Bool) (k : Int) : List Pt → List Pt × List Int → List Pt × List Int
  | [], s => s
  | n :: l, s => bfN fr k l (if !(s.1.contains n) && fr n then (s.1 ++ [n], s.2 ++ [k]) else s)
def bfS (fr : Pt → Bool) (k : Nat) (s : List Pt × List Int) : List Pt × List Int := match s.1[k]? with
  | some c => bfN fr k (nbs c) s
  | none => s
def bfK (fr : Pt → Bool) (a : Pt) : Nat → List Pt × List Int
  | 0 => ([a], [-1])
  | k + 1 => bfS fr k (bfK fr a k)
def adj (c d : Pt) : Prop := d ∈ nbs c
theorem adj_symm {c d : Pt} (h : adj c d) : adj d c := by
  obtain ⟨c1, c2⟩ := c; obtain ⟨d1, d2⟩ := d
  simp only [adj, nbs, List.mem_cons, Prod.mk.injEq, List.not_mem_nil, or_false] at h ⊢
  omega
/-- What holds of the search when the first k cells have been looked at. -/
structure BI (fr : Pt → Bool) (a : Pt) (k : Nat) (s : List Pt × List Int) : Prop where
  len : s.2.length = s.1.length
  pos : 0 < s.1.length
  hd : s.1[0]? = some a
  hb : s.2[0]? = some (-1)
  nd : s.1.Nodup
  free : ∀ c ∈ s.1, fr c = true
  back : ∀ (i : Nat) (b : Int), 0 < i → s.2[i]? = some b → ∃ j : Nat, b = j ∧ j < i ∧ j ≤ k ∧ ∃ c d, s.1[j]? = some c ∧ s.1[i]? = some d ∧ adj c d
  mono : ∀ (i j : Nat) (b c : Int), i ≤ j → s.2[i]? = some b → s.2[j]? = some c → b ≤ c
/-- Cells found from the first k ones. -/
def BC (fr : Pt → Bool) (k : Nat) (s : List Pt × List Int) : Prop := ∀ (j : Nat) (c n : Pt), j < k → s.1[j]? = some c → n ∈ nbs c → fr n = true → ∃ (i : Nat) (b : Int), s.1[i]? = some n ∧ s.2[i]? = some b ∧ b ≤ (j : Int)
def Ext (s t : List Pt × List Int) : Prop := (∃ m, t.1 = s.1 ++ m) ∧ ∃ m, t.2 = s.2 ++ m
theorem Ext.refl (s : List Pt × List Int) : Ext s s := ⟨⟨[], by simp⟩, ⟨[], by simp⟩⟩
theorem Ext.trans {s t u : List Pt × List Int} (h : Ext s t) (g : Ext t u) : Ext s u := by
  obtain ⟨⟨m1, e1⟩, ⟨m2, e2⟩⟩ := h; obtain ⟨⟨m3, e3⟩, ⟨m4, e4⟩⟩ := g
  exact ⟨⟨m1 ++ m3, by rw [e3, e1, List.append_assoc]⟩, ⟨m2 ++ m4, by rw [e4, e2, List.append_assoc]⟩⟩
theorem get_ext {α : Type} {l m : List α} {i : Nat} {x : α} (h : l[i]? = some x) : (l ++ m)[i]? = some x := by
  have := (List.getElem?_eq_some_iff.1 h).1
  rw [List.getElem?_append_left this]; exact h
theorem Ext.q {s t : List Pt × List Int} (h : Ext s t) {i : Nat} {x : Pt} (hx : s.1[i]? = some x) : t.1[i]? = some x := by
  obtain ⟨⟨m1, e1⟩, _⟩ := h; rw [e1]; exact get_ext hx
theorem Ext.b {s t : List Pt × List Int} (h : Ext s t) {i : Nat} {x : Int} (hx : s.2[i]? = some x) : t.2[i]? = some x := by
  obtain ⟨_, ⟨m1, e1⟩⟩ := h; rw [e1]; exact get_ext hx
theorem get_snoc {α : Type} {l : List α} {y : α} {i : Nat} {x : α} (h : (l ++ [y])[i]? = some x) : (i < l.length ∧ l[i]? = some x) ∨ (i = l.length ∧ x = y) := by
  rcases Nat.lt_or_ge i l.length with h1 | h1
  · rw [List.getElem?_append_left h1] at h; exact .inl ⟨h1, h⟩
  · rw [List.getElem?_append_right h1] at h
    rcases Nat.eq_zero_or_pos (i - l.length) with h2 | h2
    · rw [h2] at h; exact .inr ⟨by omega, by simpa using h.symm⟩
    · rw [List.getElem?_eq_none (by simp; omega)] at h; cases h
theorem bi_add {fr : Pt → Bool} {a : Pt} {k : Nat} {s : List Pt × List Int} (h : BI fr a k s) {c n : Pt} (hc : s.1[k]? = some c) (hn : adj c n) (hf : fr n = true) (hq : ¬ n ∈ s.1) : BI fr a k (s.1 ++ [n], s.2 ++ [(k : Int)]) := by
  have hk := (List.getElem?_eq_some_iff.1 hc).1
  have hl := h.len
  refine ⟨by simp [hl], by simp, get_ext h.hd, get_ext h.hb, ?_, ?_, ?_, ?_⟩
  · rw [List.nodup_append]
    exact ⟨h.nd, by simp, fun x hx y hy e => by simp at hy; subst hy; subst e; exact hq hx⟩
  · intro x hx
    rcases List.mem_append.1 hx with hx | hx
    · exact h.free x hx
    · simp at hx; subst hx; exact hf
  · intro i b hi hb
    rcases get_snoc hb with ⟨h1, h2⟩ | ⟨h1, h2⟩
    · obtain ⟨j, e, hj, hjk, x, y, h3, h4, h5⟩ := h.back i b hi h2
      exact ⟨j, e, hj, hjk, x, y, get_ext h3, get_ext h4, h5⟩
    · exact ⟨k, h2, by omega, Nat.le_refl k, c, n, get_ext hc, by rw [h1, hl]; simp, hn⟩
  · intro i j b d hij hb hd
    rcases get_snoc hb with ⟨h1, h2⟩ | ⟨h1, h2⟩ <;> rcases get_snoc hd with ⟨h3, h4⟩ | ⟨h3, h4⟩
    · exact h.mono i j b d hij h2 h4
    · subst h4
      rcases Nat.eq_zero_or_pos i with h0 | h0
      · subst h0; rw [h.hb] at h2; injection h2 with h2; omega
      · obtain ⟨j', e, _, hjk, _⟩ := h.back i b h0 h2; omega
    · omega
    · omega
theorem bfN_ok {fr : Pt → Bool} {a : Pt} {k : Nat} {c : Pt} : ∀ (l : List Pt) (s : List Pt × List Int), BI fr a k s → s.1[k]? = some c → (∀ n ∈ l, adj c n) → BI fr a k (bfN fr k l s) ∧ Ext s (bfN fr k l s) ∧
    ∀ n ∈ l, fr n = true → ∃ (i : Nat) (b : Int), (bfN fr k l s).1[i]? = some n ∧ (bfN fr k l s).2[i]? = some b ∧ b ≤ (k : Int)
  | [], s, h, _, _ => ⟨h, Ext.refl s, fun n hn => by simp at hn⟩
  | n :: l, s, h, hc, ha => by
    have hal : ∀ x ∈ l, adj c x := fun x hx => ha x (List.mem_cons_of_mem _ hx)
    unfold bfN
    by_cases hcond : (!(s.1.contains n) && fr n) = true
    · rw [if_pos hcond]
      simp only [Bool.and_eq_true, Bool.not_eq_true', List.contains_eq_mem, decide_eq_false_iff_not] at hcond
      have h2 := bi_add h hc (ha n (List.mem_cons_self ..)) hcond.2 hcond.1
      obtain ⟨g1, g2, g3⟩ := bfN_ok l (s.1 ++ [n], s.2 ++ [(k : Int)]) h2 (get_ext hc) hal
      refine ⟨g1, Ext.trans ⟨⟨_, rfl⟩, ⟨_, rfl⟩⟩ g2, fun x hx hf => ?_⟩
      rcases List.mem_cons.1 hx with rfl | hx
      · exact ⟨s.1.length, k, g2.q (by simp), g2.b (by rw [← h.len]; simp), by omega⟩
      · exact g3 x hx hf
    · rw [if_neg hcond]
      obtain ⟨g1, g2, g3⟩ := bfN_ok l s h hc hal
      refine ⟨g1, g2, fun x hx hf => ?_⟩
      rcases List.mem_cons.1 hx with rfl | hx
      · simp only [Bool.and_eq_true, Bool.not_eq_true', List.contains_eq_mem, decide_eq_false_iff_not, hf, and_true, Classical.not_not] at hcond
        obtain ⟨i, hi, e⟩ := List.mem_iff_getElem.1 hcond
        have e1 : s.1[i]? = some x := by rw [List.getElem?_eq_getElem hi, e]
        have hi2 : i < s.2.length := by rw [h.len]; exact hi
        refine ⟨i, s.2[i], g2.q e1, g2.b (List.getElem?_eq_getElem hi2), ?_⟩
        rcases Nat.eq_zero_or_pos i with h0 | h0
        · subst h0
          have := h.hb; rw [List.getElem?_eq_getElem hi2] at this; injection this with this; omega
        · obtain ⟨j', e', _, hjk, _⟩ := h.back i _ h0 (List.getElem?_eq_getElem hi2); omega
      · exact g3 x hx hf
theorem BI.up {fr : Pt → Bool} {a : Pt} {k : Nat} {s : List Pt × List Int} (h : BI fr a k s) : BI fr a (k + 1) s :=
  ⟨h.len, h.pos, h.hd, h.hb, h.nd, h.free, fun i b hi hb => by
    obtain ⟨j, e, h1, h2, h3⟩ := h.back i b hi hb
    exact ⟨j, e, h1, by omega, h3⟩, h.mono⟩
theorem bfS_ok {fr : Pt → Bool} {a : Pt} {k : Nat} {s : List Pt × List Int} (h : BI fr a k s) (hC : BC fr k s) : BI fr a (k + 1) (bfS fr k s) ∧ BC fr (k + 1) (bfS fr k s) ∧ Ext s (bfS fr k s) := by
  unfold bfS
  split
  · rename_i c hc
    obtain ⟨g1, g2, g3⟩ := bfN_ok (nbs c) s h hc (fun n hn => hn)
    refine ⟨g1.up, fun j d n hj hd hn hf => ?_, g2⟩
    rcases Nat.lt_or_ge j k with h1 | h1
    · have hd' : s.1[j]? = some d := by
        have hk := (List.getElem?_eq_some_iff.1 hc).1
        have : s.1[j]? = some s.1[j] := List.getElem?_eq_getElem (by omega)
        have e := g2.q this
        rw [hd] at e; injection e with e; rw [e]; exact this
      obtain ⟨i, b, e1, e2, e3⟩ := hC j d n h1 hd' hn hf
      exact ⟨i, b, g2.q e1, g2.b e2, e3⟩
    · have e : j = k := by omega
      subst e
      have e := g2.q hc
      rw [hd] at e; injection e with e; subst e
      exact g3 n hn hf
  · rename_i hc
    refine ⟨h.up, fun j d n hj hd hn hf => ?_, Ext.refl s⟩
    have hj2 := (List.getElem?_eq_some_iff.1 hd).1
    have hk2 : s.1.length ≤ k := by simpa using hc
    exact hC j d n (by omega) hd hn hf
theorem bfK_ok {fr : Pt → Bool} {a : Pt} (ha : fr a = true) : ∀ k, BI fr a k (bfK fr a k) ∧ BC fr k (bfK fr a k)
  | 0 => by
    refine ⟨⟨rfl, by simp [bfK], rfl, rfl, by simp [bfK], fun c hc => ?_, fun i b hi hb => ?_, fun i j b c hij hb hc => ?_⟩, fun j c n hj => by omega⟩
    · simp [bfK] at hc; rw [hc]; exact ha
    · exfalso
      have := (List.getElem?_eq_some_iff.1 hb).1
      simp [bfK] at this; omega
    · have h1 := (List.getElem?_eq_some_iff.1 hb).1
      have h2 := (List.getElem?_eq_some_iff.1 hc).1
      simp [bfK] at h1 h2
      subst h1; subst h2
      rw [hb] at hc; injection hc with hc; omega
  | k + 1 => by
    obtain ⟨h1, h2⟩ := bfK_ok ha k
    obtain ⟨g1, g2, _⟩ := bfS_ok h1 h2
    exact ⟨g1, g2⟩
theorem bfK_ext {fr : Pt → Bool} {a : Pt} (ha : fr a = true) {k m : Nat} (h : k ≤ m) : Ext (bfK fr a k) (bfK fr a m) := by
  induction m with
  | zero => have e : k = 0 := by omega
            subst e; exact Ext.refl _
  | succ m ih =>
    rcases Nat.lt_or_ge k (m + 1) with h1 | h1
    · obtain ⟨h2, h3⟩ := bfK_ok ha m
      exact (ih (by omega)).trans (bfS_ok h2 h3).2.2
    · have e : k = m + 1 := by omega
      subst e; exact Ext.refl _
inductive Dp (b : List Int) : Nat → Nat → Prop
  | z : Dp b 0 0
  | s {i j m : Nat} : 0 < i → b[i]? = some (j : Int) → Dp b j m → Dp b i (m + 1)
inductive Cp (q : List Pt) (b : List Int) : Nat → List Pt → Prop
  | z {a : Pt} : q[0]? = some a → Cp q b 0 [a]
  | s {i j : Nat} {c : Pt} {p : List Pt} : 0 < i → b[i]? = some (j : Int) → q[i]? = some c → Cp q b j p → Cp q b i (p ++ [c])
def Wk (fr : Pt → Bool) (a : Pt) : Nat → Pt → Prop
  | 0, x => x = a
  | m + 1, x => ∃ y, Wk fr a m y ∧ adj y x ∧ fr x = true
section
variable {fr : Pt → Bool} {a : Pt} {k : Nat} {s : List Pt × List Int}
theorem cp_ex (h : BI fr a k s) : ∀ (i : Nat), i < s.1.length → ∃ p m, Cp s.1 s.2 i p ∧ Dp s.2 i m ∧ p.length = m + 1 ∧ p[0]? = some a ∧ p[m]? = s.1[i]? ∧ (∀ c ∈ p, ∃ t, t ≤ i ∧ s.1[t]? = some c) ∧ p.Nodup ∧ (∀ (t : Nat) (c d : Pt), p[t]? = some c → p[t + 1]? = some d → adj c d) ∧ ∀ c, s.1[i]? = some c → Wk fr a m c := by
  intro i
  induction i using Nat.strongRecOn with
  | ind i ih =>
    intro hi
    rcases Nat.eq_zero_or_pos i with h0 | h0
    · subst h0
      refine ⟨[a], 0, .z h.hd, .z, rfl, rfl, by rw [h.hd]; rfl, fun c hc => ?_, by simp, fun t c d hc hd => ?_, fun c hc => ?_⟩
      · simp at hc; subst hc; exact ⟨0, Nat.le_refl 0, h.hd⟩
      · have := (List.getElem?_eq_some_iff.1 hd).1; simp at this
      · rw [h.hd] at hc; injection hc with hc; exact hc.symm
    · have hi2 : i < s.2.length := by rw [h.len]; exact hi
      obtain ⟨j, e, hj, hjk, c, d, hc, hd, hcd⟩ := h.back i _ h0 (List.getElem?_eq_getElem hi2)
      have hb : s.2[i]? = some (j : Int) := by rw [List.getElem?_eq_getElem hi2, e]
      obtain ⟨p, m, p1, p2, p3, p4, p5, p6, p7, p8, p9⟩ := ih j hj (by omega)
      have hm1 : (p ++ [d])[m + 1]? = some d := by rw [List.getElem?_append_right (by omega), p3]; simp
      refine ⟨p ++ [d], m + 1, .s h0 hb hd p1, .s h0 hb p2, by simp [p3], get_ext p4, by rw [hm1, hd], fun x hx => ?_, ?_, fun t x y hx hy => ?_, fun x hx => ?_⟩
      · rcases List.mem_append.1 hx with hx | hx
        · obtain ⟨t, t1, t2⟩ := p6 x hx; exact ⟨t, by omega, t2⟩
        · simp at hx; subst hx; exact ⟨i, Nat.le_refl i, hd⟩
      · rw [List.nodup_append]
        refine ⟨p7, by simp, fun x hx y hy e => ?_⟩
        simp at hy; subst hy; subst e
        obtain ⟨t, t1, t2⟩ := p6 x hx
        have := (List.getElem?_inj (i := t) (j := i) (by omega) h.nd).1 (by rw [t2, hd])
        omega
      · rcases get_snoc hy with ⟨h1, h2⟩ | ⟨h1, h2⟩
        · rcases get_snoc hx with ⟨h3, h4⟩ | ⟨h3, h4⟩
          · exact p8 t x y h4 h2
          · omega
        · subst h2
          have e : t = m := by omega
          subst e
          rcases get_snoc hx with ⟨h3, h4⟩ | ⟨h3, h4⟩
          · rw [p5, hc] at h4; injection h4 with h4; subst h4; exact hcd
          · omega
      · rw [hd] at hx; injection hx with hx; subst hx
        exact ⟨c, p9 c hc, hcd, h.free d (List.mem_of_getElem? hd)⟩
theorem dp_mono (h : BI fr a k s) {i m : Nat} (hd : Dp s.2 i m) : ∀ {i' m' : Nat}, i ≤ i' → Dp s.2 i' m' → m ≤ m' := by
  induction hd with
  | z => intro i' m' _ _; omega
  | s h0 hb _ ih =>
    intro i' m' hi hd'
    cases hd' with
    | z => omega
    | s h0' hb' hd2 =>
      have := h.mono _ _ _ _ hi hb hb'
      have := ih (by omega) hd2
      omega
theorem dp_one {b : List Int} {i m : Nat} (hd : Dp b i m) : ∀ {m' : Nat}, Dp b i m' → m = m' := by
  induction hd with
  | z => intro m' h; cases h with
    | z => rfl
    | s h0 _ _ => omega
  | s h0 hb _ ih =>
    intro m' h
    cases h with
    | z => omega
    | s h0' hb' hd2 =>
      rw [hb] at hb'; injection hb' with hb'
      have := Int.ofNat.inj hb'
      subst this
      rw [ih hd2]
theorem wk_found (h : BI fr a k s) (hC : BC fr k s) (hk : s.1.length ≤ k) : ∀ (m : Nat) (x : Pt), Wk fr a m x → ∃ i n, s.1[i]? = some x ∧ Dp s.2 i n ∧ n ≤ m
  | 0, x, hx => by
    have : x = a := hx
    subst this
    exact ⟨0, 0, h.hd, .z, by omega⟩
  | m + 1, x, hx => by
    obtain ⟨y, hy, hyx, hf⟩ := hx
    obtain ⟨j, n, h1, h2, h3⟩ := wk_found h hC hk m y hy
    have hj := (List.getElem?_eq_some_iff.1 h1).1
    obtain ⟨i, b, e1, e2, e3⟩ := hC j y x (by omega) h1 hyx hf
    rcases Nat.eq_zero_or_pos i with h0 | h0
    · subst h0; exact ⟨0, 0, e1, .z, by omega⟩
    · obtain ⟨j', e, hj', _, c, d, hc, _⟩ := h.back i b h0 e2
      subst e
      obtain ⟨p, n', _, hd, _⟩ := cp_ex h j' (List.getElem?_eq_some_iff.1 hc).1
      have := dp_mono h hd (by omega) h2
      exact ⟨i, n' + 1, e1, .s h0 e2 hd, by omega⟩
theorem wk_pre {x y : Pt} (hxy : adj x y) (hy : fr y = true) : ∀ {n : Nat} {z : Pt}, Wk fr y n z → Wk fr x (n + 1) z
  | 0, z, h => by
    have : z = y := h
    subst this
    exact ⟨x, rfl, hxy, hy⟩
  | n + 1, z, h => by
    obtain ⟨u, h1, h2, h3⟩ := h
    exact ⟨u, wk_pre (z := u) hxy hy h1, h2, h3⟩
theorem wk_rev (ha : fr a = true) : ∀ {n : Nat} {x : Pt}, Wk fr a n x → Wk fr x n a
  | 0, x, h => by
    have : x = a := h
    subst this; exact rfl
  | n + 1, x, h => by
    obtain ⟨y, h1, h2, h3⟩ := h
    have hy : fr y = true := by
      cases n with
      | zero => have : y = a := h1
                rw [this]; exact ha
      | succ n => exact h1.choose_spec.2.2
    exact wk_pre (z := a) (adj_symm h2) hy (wk_rev ha h1)
theorem wk_man : ∀ {n : Nat} {x : Pt}, Wk fr a n x → (x.1 - a.1).natAbs + (x.2 - a.2).natAbs ≤ n
  | 0, x, h => by
    have : x = a := h
    subst this; simp
  | n + 1, x, h => by
    obtain ⟨y, h1, h2, h3⟩ := h
    have ih := wk_man h1
    obtain ⟨y1, y2⟩ := y; obtain ⟨x1, x2⟩ := x
    simp only [adj, nbs, List.mem_cons, Prod.mk.injEq, List.not_mem_nil, or_false] at h2
    simp only at ih ⊢
    omega
theorem wk_cat {x : Pt} {n : Nat} (h : Wk fr a n x) : ∀ {m : Nat} {y : Pt}, Wk fr x m y → Wk fr a (n + m) y
  | 0, y, g => by
    have : y = x := g
    subst this; exact h
  | m + 1, y, g => by
    obtain ⟨u, h1, h2, h3⟩ := g
    exact ⟨u, wk_cat h h1, h2, h3⟩
theorem wk_go1 {X Y : Int} (hf : ∀ c : Pt, 0 ≤ c.1 → c.1 < X → 0 ≤ c.2 → c.2 < Y → fr c = true) : ∀ (n : Nat) (x1 x2 y1 : Int), 0 ≤ x1 → x1 < X → 0 ≤ x2 → x2 < Y → 0 ≤ y1 → y1 < X → (y1 - x1).natAbs = n → Wk fr (x1, x2) n (y1, x2)
  | 0, x1, x2, y1, _, _, _, _, _, _, h => by
    have : y1 = x1 := by omega
    subst this; exact rfl
  | n + 1, x1, x2, y1, a1, a2, a3, a4, a5, a6, h => by
    rcases Int.lt_or_gt_of_ne (show y1 ≠ x1 by omega) with g | g
    · exact ⟨(y1 + 1, x2), wk_go1 hf n x1 x2 (y1 + 1) a1 a2 a3 a4 (by omega) (by omega) (by omega), by simp [adj, nbs], hf _ a5 a6 a3 a4⟩
    · exact ⟨(y1 - 1, x2), wk_go1 hf n x1 x2 (y1 - 1) a1 a2 a3 a4 (by omega) (by omega) (by omega), by simp [adj, nbs], hf _ a5 a6 a3 a4⟩
theorem wk_go2 {X Y : Int} (hf : ∀ c : Pt, 0 ≤ c.1 → c.1 < X → 0 ≤ c.2 → c.2 < Y → fr c = true) : ∀ (n : Nat) (x1 x2 y2 : Int), 0 ≤ x1 → x1 < X → 0 ≤ x2 → x2 < Y → 0 ≤ y2 → y2 < Y → (y2 - x2).natAbs = n → Wk fr (x1, x2) n (x1, y2)
  | 0, x1, x2, y1, _, _, _, _, _, _, h => by
    have : y1 = x2 := by omega
    subst this; exact rfl
  | n + 1, x1, x2, y1, a1, a2, a3, a4, a5, a6, h => by
    rcases Int.lt_or_gt_of_ne (show y1 ≠ x2 by omega) with g | g
    · exact ⟨(x1, y1 + 1), wk_go2 hf n x1 x2 (y1 + 1) a1 a2 a3 a4 (by omega) (by omega) (by omega), by simp [adj, nbs], hf _ a1 a2 a5 a6⟩
    · exact ⟨(x1, y1 - 1), wk_go2 hf n x1 x2 (y1 - 1) a1 a2 a3 a4 (by omega) (by omega) (by omega), by simp [adj, nbs], hf _ a1 a2 a5 a6⟩
theorem wk_go {X Y : Int} (hf : ∀ c : Pt, 0 ≤ c.1 → c.1 < X → 0 ≤ c.2 → c.2 < Y → fr c = true) {x y : Pt} (hx : 0 ≤ x.1 ∧ x.1 < X ∧ 0 ≤ x.2 ∧ x.2 < Y) (hy : 0 ≤ y.1 ∧ y.1 < X ∧ 0 ≤ y.2 ∧ y.2 < Y) : Wk fr x ((y.1 - x.1).natAbs + (y.2 - x.2).natAbs) y :=
  wk_cat (wk_go1 hf _ x.1 x.2 y.1 hx.1 hx.2.1 hx.2.2.1 hx.2.2.2 hy.1 hy.2.1 rfl) (wk_go2 hf _ y.1 x.2 y.2 hy.1 hy.2.1 hx.2.2.1 hx.2.2.2 hy.2.2.1 hy.2.2.2 rfl)
/-- the chain behind a place of the queue -/
def bkL (q : List Pt) (b : List Int) : Nat → Int → List Pt → List Pt
  | 0, _, o => o
  | f + 1, k, o => if k < 0 then o else bkL q b f (b.getD k.toNat 0) (q.getD k.toNat (0, 0) :: o)
theorem bkL_cp (h : BI fr a k s) {i : Nat} {p : List Pt} (hc : Cp s.1 s.2 i p) : ∀ (f : Nat) (o : List Pt), i < f → bkL s.1 s.2 f i o = p ++ o := by
  induction hc with
  | z ha =>
    intro f o hf
    rename_i a'
    cases f with
    | zero => omega
    | succ f =>
      unfold bkL
      have e1 : s.2.getD 0 0 = -1 := by simp [List.getD_eq_getElem?_getD, h.hb]
      have e2 : s.1.getD 0 (0, 0) = a' := by rw [List.getD_eq_getElem?_getD, ha]; rfl
      rw [if_neg (by omega)]
      simp only [Int.ofNat_zero, Int.toNat_zero, Int.natCast_zero, e1, e2, Option.getD_some]
      cases f with
      | zero => rfl
      | succ f => unfold bkL; rw [if_pos (by omega)]; rfl
  | s h0 hb hq _ ih =>
    intro f o hf
    cases f with
    | zero => omega
    | succ f =>
      unfold bkL
      rename_i i j c p _
      rw [if_neg (by omega)]
      have e1 : s.2.getD i 0 = (j : Int) := by simp [List.getD_eq_getElem?_getD, hb]
      have e2 : s.1.getD i (0, 0) = c := by simp [List.getD_eq_getElem?_getD, hq]
      have hj : j < i := by
        obtain ⟨j', e, h1, _⟩ := h.back i _ h0 hb
        omega
      rw [Int.toNat_natCast, e1, e2, ih f (c :: o) (by omega), List.append_assoc]; rfl
theorem Cp.ext {s t : List Pt × List Int} (e : Ext s t) {i : Nat} {p : List Pt} (h : Cp s.1 s.2 i p) : Cp t.1 t.2 i p := by
  induction h with
  | z h0 => exact .z (e.q h0)
  | s h0 h1 h2 _ ih => exact .s h0 (e.b h1) (e.q h2) ih
theorem Dp.ext {s t : List Pt × List Int} (e : Ext s t) {i m : Nat} (h : Dp s.2 i m) : Dp t.2 i m := by
  induction h with
  | z => exact .z
  | s h0 h1 _ ih => exact .s h0 (e.b h1) ih
/-- A list without repetition that lies in another one is not longer. -/
theorem nodup_le {α : Type} [DecidableEq α] : ∀ {l m : List α}, l.Nodup → (∀ x ∈ l, x ∈ m) → l.length ≤ m.length
  | [], m, _, _ => by simp
  | x :: l, m, hl, hs => by
    obtain ⟨h1, h2⟩ := List.nodup_cons.1 hl
    have hx := hs x (List.mem_cons_self ..)
    have := nodup_le (l := l) (m := m.erase x) h2 fun y hy => (List.mem_erase_of_ne (fun e => h1 (by rw [← e]; exact hy))).2 (hs y (List.mem_cons_of_mem _ hy))
    have e := List.length_erase_of_mem hx
    have : 0 < m.length := List.length_pos_of_mem hx
    simp only [List.length_cons]; omega
def grid (n : Nat) : List Pt := (List.range (n * n)).map fun j => (((j / n : Nat) : Int), ((j % n : Nat) : Int))
theorem grid_mem {n : Nat} {c : Pt} (h0 : 0 ≤ c.1) (h1 : c.1 < n) (h2 : 0 ≤ c.2) (h3 : c.2 < n) : c ∈ grid n := by
  unfold grid
  obtain ⟨x, y⟩ := c
  simp only at h0 h1 h2 h3
  obtain ⟨u, rfl⟩ := Int.eq_ofNat_of_zero_le h0
  obtain ⟨v, rfl⟩ := Int.eq_ofNat_of_zero_le h2
  have hu : u < n := by omega
  have hv : v < n := by omega
  refine List.mem_map.2 ⟨n * u + v, ?_, ?_⟩
  · have : n * u + v < n * (u + 1) := by rw [Nat.mul_succ]; omega
    have : n * (u + 1) ≤ n * n := Nat.mul_le_mul_left n hu
    exact List.mem_range.2 (by omega)
  · rw [Nat.mul_add_div (by omega), Nat.mul_add_mod, Nat.div_eq_of_lt hv, Nat.mod_eq_of_lt hv, Nat.add_zero]
theorem bi_len (h : BI fr a k s) (hb : ∀ c, fr c = true → 0 ≤ c.1 ∧ c.1 < 20 ∧ 0 ≤ c.2 ∧ c.2 < 20) : s.1.length ≤ 400 := by
  have := nodup_le (m := grid 20) h.nd fun c hc => by
    have := hb c (h.free c hc)
    exact grid_mem this.1 this.2.1 this.2.2.1 this.2.2.2
  simpa [grid] using this
theorem bfK_stop {fr : Pt → Bool} {a : Pt} {k : Nat} (h : (bfK fr a k).1.length ≤ k) : ∀ m, k ≤ m → bfK fr a m = bfK fr a k
  | 0, hm => by have e : k = 0 := by omega
                subst e; rfl
  | m + 1, hm => by
    rcases Nat.lt_or_ge k (m + 1) with h1 | h1
    · have ih := bfK_stop h m (by omega)
      show bfS fr m (bfK fr a m) = _
      rw [ih]
      unfold bfS
      rw [List.getElem?_eq_none (by omega)]
    · have e : k = m + 1 := by omega
      subst e; rfl
/-- The plan. -/
@[irreducible] def planB (fr : Pt → Bool) (a z : Pt) : List Pt := if z ∈ (bfK fr a 400).1 then bkL (bfK fr a 400).1 (bfK fr a 400).2 ((bfK fr a 400).1.idxOf z + 1) ((bfK fr a 400).1.idxOf z : Nat) [] else []
structure PBq (fr : Pt → Bool) (a z : Pt) (p : List Pt) (m : Nat) : Prop where
  len : p.length = m + 1
  hd : p[0]? = some a
  last : p[m]? = some z
  nd : p.Nodup
  free : ∀ c ∈ p, fr c = true
  adj : ∀ (t : Nat) (c d : Pt), p[t]? = some c → p[t + 1]? = some d → adj c d
  wk : Wk fr a m z
  short : ∀ n, Wk fr a n z → m ≤ n
theorem idx_of {q : List Pt} (h : q.Nodup) {i : Nat} {z : Pt} (hz : q[i]? = some z) : q.idxOf z = i := by
  have hm := List.mem_of_getElem? hz
  have h1 := List.idxOf_lt_length_of_mem hm
  have h2 : q[q.idxOf z]? = some z := by rw [List.getElem?_eq_getElem h1]; simp
  exact (List.getElem?_inj h1 h).1 (by rw [h2, hz])
variable (hb : ∀ c, fr c = true → 0 ≤ c.1 ∧ c.1 < 20 ∧ 0 ≤ c.2 ∧ c.2 < 20)
include hb
theorem plan_at (ha : fr a = true) {z : Pt} {i k : Nat} (hz : (bfK fr a k).1[i]? = some z) (f : Nat) (hf : i < f) : planB fr a z = bkL (bfK fr a k).1 (bfK fr a k).2 f i [] ∧ ∃ m, PBq fr a z (planB fr a z) m ∧ Cp (bfK fr a k).1 (bfK fr a k).2 i (planB fr a z) := by
  obtain ⟨hB, hC⟩ := bfK_ok ha 400
  obtain ⟨hBk, hCk⟩ := bfK_ok ha k
  have hl := bi_len hB hb
  have hlk := bi_len hBk hb
  have hz4 : (bfK fr a 400).1[i]? = some z := by
    rcases Nat.lt_or_ge 400 k with h | h
    · rw [bfK_stop hl k (by omega)] at hz; exact hz
    · exact (bfK_ext ha h).q hz
  have hm := List.mem_of_getElem? hz4
  have hi := (List.getElem?_eq_some_iff.1 hz).1
  obtain ⟨p, m, p1, p2, p3, p4, p5, p6, p7, p8, p9⟩ := cp_ex hBk i hi
  obtain ⟨p', m', p1', p2', _⟩ := cp_ex hB i (List.getElem?_eq_some_iff.1 hz4).1
  have hpp : Cp (bfK fr a 400).1 (bfK fr a 400).2 i p := by
    rcases Nat.lt_or_ge 400 k with h | h
    · rw [bfK_stop hl k (by omega)] at p1; exact p1
    · exact p1.ext (bfK_ext ha h)
  have hdd : Dp (bfK fr a 400).2 i m := by
    rcases Nat.lt_or_ge 400 k with h | h
    · rw [bfK_stop hl k (by omega)] at p2; exact p2
    · exact p2.ext (bfK_ext ha h)
  have ep : planB fr a z = p := by
    unfold planB
    rw [if_pos hm, idx_of hB.nd hz4, bkL_cp hB hpp _ _ (by omega), List.append_nil]
  rw [ep]
  refine ⟨by rw [bkL_cp hBk p1 f [] hf, List.append_nil], m, ⟨p3, p4, by rw [p5, hz], p7, fun c hc => ?_, p8, p9 z hz, fun n hn => ?_⟩, p1⟩
  · obtain ⟨t, _, ht⟩ := p6 c hc
    exact hBk.free c (List.mem_of_getElem? ht)
  · obtain ⟨i', n', e1, e2, e3⟩ := wk_found hB hC hl n z hn
    have : i' = i := (List.getElem?_inj (List.getElem?_eq_some_iff.1 e1).1 hB.nd).1 (by rw [e1, hz4])
    subst this
    rw [dp_one hdd e2]; exact e3
theorem plan_none (ha : fr a = true) {z : Pt} {k : Nat} (hk : (bfK fr a k).1.length ≤ k) (hz : ¬ z ∈ (bfK fr a k).1) : planB fr a z = [] := by
  obtain ⟨hB, hC⟩ := bfK_ok ha 400
  have hl := bi_len hB hb
  unfold planB
  rw [if_neg]
  rcases Nat.lt_or_ge 400 k with h | h
  · rw [bfK_stop hl k (by omega)] at hz; exact hz
  · rw [bfK_stop hk 400 h]; exact hz
theorem plan_pb (ha : fr a = true) (z : Pt) : (planB fr a z = [] ∧ ∀ n, ¬ Wk fr a n z) ∨ ∃ m, PBq fr a z (planB fr a z) m := by
  obtain ⟨hB, hC⟩ := bfK_ok ha 400
  have hl := bi_len hB hb
  by_cases hm : z ∈ (bfK fr a 400).1
  · obtain ⟨i, hi, e⟩ := List.mem_iff_getElem.1 hm
    exact .inr ⟨_, (plan_at hb ha (by rw [List.getElem?_eq_getElem hi, e]) (i + 1) (by omega)).2.choose_spec.1⟩
  · refine .inl ⟨plan_none hb ha hl hm, fun n hn => ?_⟩
    obtain ⟨i, _, e, _⟩ := wk_found hB hC hl n z hn
    exact hm (List.mem_of_getElem? e)
theorem plan_back (ha : fr a = true) {z : Pt} (hz : fr z = true) : (planB fr z a).length = (planB fr a z).length := by
  rcases plan_pb hb ha z with ⟨e1, h1⟩ | ⟨m, h1⟩ <;> rcases plan_pb hb hz a with ⟨e2, h2⟩ | ⟨n, h2⟩
  · rw [e1, e2]
  · exact absurd (wk_rev hz h2.wk) (h1 n)
  · exact absurd (wk_rev ha h1.wk) (h2 m)
  · have := h1.short n (wk_rev hz h2.wk)
    have := h2.short m (wk_rev ha h1.wk)
    rw [h1.len, h2.len]; omega
end
theorem pt_at {p : List Pt} {i : Int} (h0 : 0 ≤ i) (h1 : i < ilen p) : p[i.toNat]? = some (getx p i, gety p i) := by
  obtain ⟨h, e1, e2⟩ := get_at h0 h1
  rw [List.getElem?_eq_getElem h, e1, e2]
theorem pt_of {p : List Pt} {n : Nat} {c : Pt} (h : p[n]? = some c) : (n : Int) < ilen p ∧ getx p n = c.1 ∧ gety p n = c.2 := by
  have hn := (List.getElem?_eq_some_iff.1 h).1
  have hl : (n : Int) < ilen p := by unfold ilen; omega
  have e := pt_at (p := p) (i := (n : Int)) (by omega) hl
  rw [Int.toNat_natCast, h] at e
  injection e with e
  rw [e]; exact ⟨hl, rfl, rfl⟩
theorem adj_iff {c d : Pt} : adj c d ↔ (d.1 = c.1 - 1 ∧ d.2 = c.2) ∨ (d.1 = c.1 ∧ d.2 = c.2 - 1) ∨ (d.1 = c.1 ∧ d.2 = c.2 + 1) ∨ (d.1 = c.1 + 1 ∧ d.2 = c.2) := by
  obtain ⟨c1, c2⟩ := c; obtain ⟨d1, d2⟩ := d
  simp only [adj, nbs, List.mem_cons, Prod.mk.injEq, List.not_mem_nil, or_false]
structure PBIq (fr : Pt → Bool) (a z : Pt) (p : List Pt) : Prop where
  len : 1 ≤ ilen p ∧ ilen p ≤ 400
  hd : getx p 0 = a.1 ∧ gety p 0 = a.2
  last : getx p (ilen p - 1) = z.1 ∧ gety p (ilen p - 1) = z.2
  nd : ∀ i j, 0 ≤ i → i < j → j < ilen p → ¬ (getx p i = getx p j ∧ gety p i = gety p j)
  free : ∀ i, 0 ≤ i → i < ilen p → fr (getx p i, gety p i) = true
  adj : ∀ i, 1 ≤ i → i < ilen p → adj (getx p (i - 1), gety p (i - 1)) (getx p i, gety p i)
theorem PBq.toI {fr : Pt → Bool} {a z : Pt} {p : List Pt} {m : Nat} (hb : ∀ c, fr c = true → 0 ≤ c.1 ∧ c.1 < 20 ∧ 0 ≤ c.2 ∧ c.2 < 20) (h : PBq fr a z p m) : PBIq fr a z p := by
  have hl : ilen p = m + 1 := by unfold ilen; rw [h.len]; omega
  have h4 : p.length ≤ 400 := by
    have := nodup_le (m := grid 20) h.nd fun c hc => by
      have := hb c (h.free c hc)
      exact grid_mem this.1 this.2.1 this.2.2.1 this.2.2.2
    simpa [grid] using this
  have h0 := pt_of h.hd
  have h1 := pt_of h.last
  refine ⟨by have := h.len; omega, by simpa using h0.2, by rw [hl, show (m : Int) + 1 - 1 = m by omega]; exact h1.2, fun i j i0 ij jl e => ?_, fun i i0 il => h.free _ (List.mem_of_getElem? (pt_at i0 il)), fun i i0 il => ?_⟩
  · have e1 := pt_at (p := p) (i := i) i0 (by omega)
    have e2 := pt_at (p := p) (i := j) (by omega) jl
    rw [e.1, e.2, ← e2] at e1
    have := (List.getElem?_inj (by unfold ilen at jl; omega) h.nd).1 e1
    omega
  · have e1 := pt_at (p := p) (i := i - 1) (by omega) (by omega)
    have e2 := pt_at (p := p) (i := i) (by omega) il
    rw [show i.toNat = (i - 1).toNat + 1 by omega] at e2
    exact h.adj _ _ _ e1 e2
theorem bfN_app (fr : Pt → Bool) (k : Int) : ∀ (l m : List Pt) (s : List Pt × List Int), bfN fr k (l ++ m) s = bfN fr k m (bfN fr k l s)
  | [], _, _ => rfl
  | n :: l, m, s => by
    show bfN fr k (l ++ m) _ = bfN fr k m (bfN fr k l _)
    exact bfN_app fr k l m _
def wfB (q : List Pt) (b : List Int) : Prop := ilen b = ilen q ∧ ilen q ≤ 400 ∧ ∀ i, 0 ≤ i → i < ilen q → -1 ≤ geti b i ∧ geti b i < i
theorem bkL_f {q : List Pt} {b : List Int} (hw : wfB q b) : ∀ (n : Nat) (f : Nat) (k : Int) (o : List Pt), f ≤ n → -1 ≤ k → k < ilen q → k + 1 ≤ f → bkL q b f k o = bkL q b (k + 1).toNat k o
  | 0, f, k, o, hf, h0, h1, h2 => by
    have e : f = 0 := by omega
    have e2 : (k + 1).toNat = 0 := by omega
    rw [e, e2]
  | n + 1, f, k, o, hf, h0, h1, h2 => by
    rcases Int.lt_or_le k 0 with h | h
    · have e2 : (k + 1).toNat = 0 := by omega
      rw [e2]
      cases f with
      | zero => rfl
      | succ f => unfold bkL; rw [if_pos h]
    · cases f with
      | zero => omega
      | succ f =>
        rw [show (k + 1).toNat = k.toNat + 1 by omega]
        unfold bkL
        rw [if_neg (by omega), if_neg (by omega)]
        have hb := hw.2.2 k h h1
        have e : b.getD k.toNat 0 = geti b k := by unfold geti; rfl
        rw [e, bkL_f hw n f (geti b k) _ (by omega) hb.1 (by omega) (by omega), bkL_f hw n k.toNat (geti b k) _ (by omega) hb.1 (by omega) (by omega)]
theorem bkL_step {q : List Pt} {b : List Int} (hw : wfB q b) {k : Int} (h0 : 0 ≤ k) (h1 : k < ilen q) (o : List Pt) : bkL q b (k + 1).toNat k o = bkL q b (geti b k + 1).toNat (geti b k) (iapp [(getx q k, gety q k)] o) := by
  have hb := hw.2.2 k h0 h1
  have e : b.getD k.toNat 0 = geti b k := by unfold geti; rfl
  have e2 : q.getD k.toNat (0, 0) = (getx q k, gety q k) := by unfold getx gety; rfl
  rw [show (k + 1).toNat = k.toNat + 1 by omega]
  unfold bkL
  rw [if_neg (by omega), e, e2, bkL_f hw _ k.toNat (geti b k) _ (Nat.le_refl _) hb.1 (by omega) (by omega)]
  unfold iapp
  cases (geti b k + 1).toNat <;> rfl
theorem bkL_end {q : List Pt} {b : List Int} {k : Int} (h : k < 0) (o : List Pt) : bkL q b (k + 1).toNat k o = o := by
  rw [show (k + 1).toNat = 0 by omega]; rfl
def frF (l : List (List Bool)) (c : Pt) : Bool := freeB l c.1 c.2
def plF (l : List (List Bool)) (a1 a2 z1 z2 : Int) : List Pt := if tblB l && freeB l a1 a2 && freeB l z1 z2 then planB (frF l) (a1, a2) (z1, z2) else []
theorem frF_in {l : List (List Bool)} (ht : tblB l = true) : ∀ c, frF l c = true → 0 ≤ c.1 ∧ c.1 < 20 ∧ 0 ≤ c.2 ∧ c.2 < 20 := fun c h => free_in ht h
theorem BI.wf {fr : Pt → Bool} {a : Pt} {k : Nat} {s : List Pt × List Int} (h : BI fr a k s) (hb : ∀ c, fr c = true → 0 ≤ c.1 ∧ c.1 < 20 ∧ 0 ≤ c.2 ∧ c.2 < 20) : wfB s.1 s.2 := by
  have h4 := bi_len h hb
  refine ⟨by unfold ilen; rw [h.len], by unfold ilen; omega, fun i i0 i1 => ?_⟩
  have hi : i.toNat < s.2.length := by have := h.len; unfold ilen at i1; omega
  have e : s.2[i.toNat]? = some (geti s.2 i) := by
    rw [List.getElem?_eq_getElem hi]; unfold geti
    simp [List.getD_eq_getElem?_getD, hi]
  rcases Int.lt_or_le 0 i with g | g
  · obtain ⟨j, e1, e2, _⟩ := h.back i.toNat _ (by omega) e
    omega
  · have : i.toNat = 0 := by omega
    rw [this, h.hb] at e
    injection e with e
    omega
theorem cont_b {q : List Pt} {x y : Int} : q.contains (x, y) = anyN (ilen q) fun i => decide (getx q i = x ∧ gety q i = y) := by
  cases h : anyN (ilen q) fun i => decide (getx q i = x ∧ gety q i = y) with
  | true =>
    obtain ⟨i, i0, i1, e⟩ := anyN_iff.1 h
    have := pt_at i0 i1
    simp only [decide_eq_true_eq] at e
    rw [e.1, e.2] at this
    simpa using List.mem_of_getElem? this
  | false =>
    rw [List.contains_eq_mem, decide_eq_false_iff_not]
    intro hm
    obtain ⟨n, hn, e⟩ := List.mem_iff_getElem.1 hm
    have e' : q[n]? = some (x, y) := by rw [List.getElem?_eq_getElem hn, e]
    obtain ⟨e1, e2, e3⟩ := pt_of e'
    rw [anyN_mk n (by omega) e1 (by simp [e2, e3])] at h
    cases h
/-- the four neighbours, one after the other -/
theorem bfS_at {fr : Pt → Bool} {k : Int} {s : List Pt × List Int} (h0 : 0 ≤ k) (h1 : k < ilen s.1) : bfS fr k.toNat s = bfN fr k (nbs (getx s.1 k, gety s.1 k)) s := by
  unfold bfS
  rw [pt_at h0 h1]
  simp only [Int.toNat_of_nonneg h0]
theorem anyN_1 {n : Int} {f : Int → Bool} (h : 0 ≤ n) : anyN (n + 1) f = (anyN n f || f n) := by
  unfold anyN
  rw [show (n + 1).toNat = n.toNat + 1 by omega, List.range_succ, List.any_append]
  simp [Int.toNat_of_nonneg h]
theorem take_1 {l : List Pt} {j : Int} (h0 : 0 ≤ j) (h1 : j < ilen l) : l.take (j + 1).toNat = l.take j.toNat ++ [(getx l j, gety l j)] := by
  obtain ⟨h, e1, e2⟩ := get_at h0 h1
  rw [show (j + 1).toNat = j.toNat + 1 by omega, List.take_succ_eq_append_getElem h, e1, e2]
theorem bfN_one (fr : Pt → Bool) (k : Int) (n : Pt) (s : List Pt × List Int) : bfN fr k [n] s = if !(s.1.contains n) && fr n then (s.1 ++ [n], s.2 ++ [k]) else s := rfl
theorem ext_get {s t : List Pt × List Int} (h : Ext s t) {i : Int} (h0 : 0 ≤ i) (h1 : i < ilen s.1) : getx t.1 i = getx s.1 i ∧ gety t.1 i = gety s.1 i ∧ i < ilen t.1 := by
  have := pt_of (h.q (pt_at h0 h1))
  rw [Int.toNat_of_nonneg h0] at this
  exact ⟨this.2.1, this.2.2, this.1⟩
theorem plF_cases (l : List (List Bool)) (a1 a2 z1 z2 : Int) : (plF l a1 a2 z1 z2 = [] ∧ plF l z1 z2 a1 a2 = []) ∨ (tblB l = true ∧ freeB l a1 a2 = true ∧ freeB l z1 z2 = true ∧ ∃ m, PBq (frF l) (a1, a2) (z1, z2) (plF l a1 a2 z1 z2) m ∧ PBIq (frF l) (a1, a2) (z1, z2) (plF l a1 a2 z1 z2) ∧ ilen (plF l z1 z2 a1 a2) = ilen (plF l a1 a2 z1 z2)) := by
  unfold plF
  cases ht : tblB l with
  | false => left; simp
  | true =>
    cases ha : freeB l a1 a2 with
    | false => left; simp
    | true =>
      cases hz : freeB l z1 z2 with
      | false => left; simp
      | true =>
        simp only [Bool.and_self, if_true]
        have hb := frF_in ht
        have hl := plan_back hb (a := (a1, a2)) (z := (z1, z2)) ha hz
        rcases plan_pb hb (a := (a1, a2)) ha (z1, z2) with ⟨e, _⟩ | ⟨m, hm⟩
        · left
          rw [e] at hl
          exact ⟨e, List.eq_nil_of_length_eq_zero (by simpa using hl)⟩
        · right
          exact ⟨trivial, trivial, trivial, m, hm, hm.toI hb, by unfold ilen; rw [hl]⟩
theorem PBIq.pv {l : List (List Bool)} {a z : Pt} {p : List Pt} (ht : tblB l = true) (h : PBIq (frF l) a z p) : pvB l p = true := by
  unfold pvB
  have hl := h.len
  rw [ht, inB_mk (by omega) (by omega), allN_mk fun i i0 i1 => ?_]; rfl
  unfold pvE
  have hf : freeB l (getx p i) (gety p i) = true := h.free i i0 i1
  rw [hf]
  by_cases g : i ≤ 0
  · simp [g]
  · have := adj_iff.1 (h.adj i (by omega) i1)
    simp only at this
    have hs : stepB p i = true := by unfold stepB; simp only [decide_eq_true_eq]; omega
    rw [hs]; simp
theorem PBq.man {fr : Pt → Bool} {a z : Pt} {p : List Pt} {m : Nat} (h : PBq fr a z p m) : ((z.1 - a.1).natAbs : Int) + ((z.2 - a.2).natAbs : Int) < ilen p := by
  have := wk_man h.wk
  unfold ilen
  rw [h.len]; omega
/-- the table with all cells free -/
structure OpenT (l m : List (List Bool)) : Prop where
  len : ilen m = ilen l
  row : ∀ i, 0 ≤ i → i < ilen l → ilen (getl m i) = ilen (getl l i)
  all : ∀ i j, 0 ≤ i → i < ilen l → 0 ≤ j → j < ilen (getl l i) → getb (getl m i) j = true
theorem OpenT.tbl {l m : List (List Bool)} (h : OpenT l m) (ht : tblB l = true) : tblB m = true := by
  unfold tblB at *
  rw [h.len]
  simp only [Bool.and_eq_true] at ht ⊢
  refine ⟨ht.1, allN_mk fun i i0 i1 => ?_⟩
  have := allN_iff.1 ht.2 i i0 i1
  unfold tblE at *
  rw [h.row i i0 i1, h.row 0 (by omega) (by omega)]
  exact this
theorem OpenT.free {l m : List (List Bool)} (h : OpenT l m) {c1 c2 : Int} (h0 : 0 ≤ c1) (h1 : c1 < ilen l) (h2 : 0 ≤ c2) (h3 : c2 < ilen (getl l c1)) : freeB m c1 c2 = true := by
  unfold freeB
  rw [h.len, h.row c1 h0 h1, h.all c1 c2 h0 h1 h2 h3]
  simp [h0, h1, h2, h3]
theorem open_len {l m : List (List Bool)} (h : OpenT l m) {a1 a2 z1 z2 : Int} (hp : plF l a1 a2 z1 z2 ≠ []) : ilen (plF m a1 a2 z1 z2) = ((z1 - a1).natAbs : Int) + ((z2 - a2).natAbs : Int) + 1 ∧ ilen (plF m a1 a2 z1 z2) ≤ ilen (plF l a1 a2 z1 z2) := by
  rcases plF_cases l a1 a2 z1 z2 with ⟨e, _⟩ | ⟨ht, ha, hz, n, hn, _, _⟩
  · exact absurd e hp
  · have hm := hn.man
    have hb := frF_in (h.tbl ht)
    have rng : ∀ c1 c2, freeB l c1 c2 = true → (0 ≤ c1 ∧ c1 < ilen l) ∧ (0 ≤ c2 ∧ c2 < ilen (getl l c1)) := fun c1 c2 hc => by
      unfold freeB at hc; simp only [Bool.and_eq_true, decide_eq_true_eq] at hc; exact hc.1
    have same : ∀ i, 0 ≤ i → i < ilen l → ilen (getl l i) = ilen (getl l 0) := fun i i0 i1 => by
      unfold tblB at ht
      simp only [Bool.and_eq_true] at ht
      have := allN_iff.1 ht.2 i i0 i1
      unfold tblE at this
      simp only [decide_eq_true_eq] at this
      exact this.2
    obtain ⟨ra1, ra2⟩ := rng _ _ ha
    obtain ⟨rz1, rz2⟩ := rng _ _ hz
    rw [same _ ra1.1 ra1.2] at ra2
    rw [same _ rz1.1 rz1.2] at rz2
    have hf : ∀ c : Pt, 0 ≤ c.1 → c.1 < ilen l → 0 ≤ c.2 → c.2 < ilen (getl l 0) → frF m c = true := fun c c0 c1 c2 c3 => h.free c0 c1 c2 (by rw [same _ c0 c1]; exact c3)
    have wk := wk_go hf (x := (a1, a2)) (y := (z1, z2)) ⟨ra1.1, ra1.2, ra2.1, ra2.2⟩ ⟨rz1.1, rz1.2, rz2.1, rz2.2⟩
    have ham : freeB m a1 a2 = true := hf (a1, a2) ra1.1 ra1.2 ra2.1 ra2.2
    have hzm : freeB m z1 z2 = true := hf (z1, z2) rz1.1 rz1.2 rz2.1 rz2.2
    have e : plF m a1 a2 z1 z2 = planB (frF m) (a1, a2) (z1, z2) := by unfold plF; simp only [h.tbl ht, ham, hzm, Bool.and_self, if_true]
    rcases plan_pb hb (a := (a1, a2)) ham (z1, z2) with ⟨_, e2⟩ | ⟨k, hk⟩
    · exact absurd wk (e2 _)
    · have h1 := hk.short _ wk
      have h2 := wk_man hk.wk
      have h3 : ilen (planB (frF m) (a1, a2) (z1, z2)) = k + 1 := by unfold ilen; rw [hk.len]; omega
      rw [e, h3]
      simp only at h1 h2 hm
      omega
theorem PBIq.stp {fr : Pt → Bool} {a z : Pt} {p : List Pt} (hb : ∀ c, fr c = true → 0 ≤ c.1 ∧ c.1 < 20 ∧ 0 ≤ c.2 ∧ c.2 < 20) (h : PBIq fr a z p) : stp1 p := by
  refine ⟨fun i i0 i1 => ?_, fun i i0 i1 => ?_⟩
  · have := hb _ (h.free i i0 i1)
    simp only at this; omega
  · have := adj_iff.1 (h.adj i i0 i1)
    simp only at this; omega
theorem mhas_put : ∀ (n : Nat) {m : List Pt} (_ : m.length = 2 * n) (a b c d x y : Int), mhas (mput m a b c d) x y = (mhas m x y || decide ((x, y) = (a, b)))
  | 0, m, h, a, b, c, d, x, y => by
    have : m = [] := List.eq_nil_of_length_eq_zero (by omega)
    subst this
    simp [mput, mhas]
  | n + 1, m, h, a, b, c, d, x, y => by
    match m, h with
    | k :: v :: m, h =>
      have ih := mhas_put n (m := m) (by simp at h; omega) a b c d x y
      unfold mput at ih ⊢
      simp only [List.cons_append, mhas]
      rw [ih, Bool.or_assoc]
    | [_], h => simp at h; omega
    | [], h => simp at h
theorem mget_put : ∀ (n : Nat) {m : List Pt} (_ : m.length = 2 * n) (a b c d x y : Int), mget (mput m a b c d) x y = if mhas m x y then mget m x y else if (x, y) = (a, b) then (c, d) else (0, 0)
  | 0, m, h, a, b, c, d, x, y => by
    have : m = [] := List.eq_nil_of_length_eq_zero (by omega)
    subst this
    simp [mput, mhas, mget]
  | n + 1, m, h, a, b, c, d, x, y => by
    match m, h with
    | k :: v :: m, h =>
      have ih := mget_put n (m := m) (by simp at h; omega) a b c d x y
      unfold mput at ih ⊢
      simp only [List.cons_append, mget, mhas]
      rw [ih]
      by_cases hk : (x, y) = k
      · simp [hk]
      · simp [hk]
    | [_], h => simp at h; omega
    | [], h => simp at h
/-- The map remembers for every cell of the queue from which it was found. -/
structure MR (q : List Pt) (b : List Int) (m : List Pt) : Prop where
  len : m.length = 2 * q.length
  has : ∀ x y, mhas m x y = q.contains (x, y)
  get : ∀ (i : Nat) (x y : Int) (j : Nat), 0 < i → q[i]? = some (x, y) → b[i]? = some (j : Int) → q[j]? = some (mget m x y)
theorem MR.ini (a1 a2 : Int) : MR [(a1, a2)] [-1] (mput [] a1 a2 a1 a2) := by
  refine ⟨rfl, fun x y => ?_, fun i x y j hi hq => ?_⟩
  · simp [mput, mhas]
  · have := (List.getElem?_eq_some_iff.1 hq).1
    simp at this; omega
theorem MR.add {q : List Pt} {b : List Int} {m : List Pt} (h : MR q b m) (hl : b.length = q.length) {k : Nat} {c n : Pt} (hk : q[k]? = some c) (hn : mhas m n.1 n.2 = false) (hb : ∀ (i : Nat) (j : Nat), 0 < i → b[i]? = some (j : Int) → j < q.length) : MR (q ++ [n]) (b ++ [(k : Int)]) (mput m n.1 n.2 c.1 c.2) := by
  have hh := mhas_put q.length h.len n.1 n.2 c.1 c.2
  have hg := mget_put q.length h.len n.1 n.2 c.1 c.2
  refine ⟨by simp [mput, h.len]; omega, fun x y => ?_, fun i x y j hi hq hj => ?_⟩
  · rw [hh, h.has, Bool.eq_iff_iff]
    simp only [Bool.or_eq_true, List.contains_eq_mem, decide_eq_true_eq, List.mem_append, List.mem_singleton]
  · rw [hg]
    rcases get_snoc hq with ⟨h1, h2⟩ | ⟨h1, h2⟩
    · have hj' : b[i]? = some (j : Int) := by
        rcases get_snoc hj with ⟨_, h4⟩ | ⟨h3, _⟩
        · exact h4
        · omega
      have hc : mhas m x y = true := by rw [h.has]; simpa using List.mem_of_getElem? h2
      rw [hc, if_pos rfl]
      exact get_ext (h.get i x y j hi h2 hj')
    · have hj' : (j : Int) = k := by
        rcases get_snoc hj with ⟨h3, _⟩ | ⟨_, h4⟩
        · omega
        · exact h4
      have e : j = k := by omega
      subst e
      have hxy : (x, y) = (n.1, n.2) := by rw [h2]
      injection hxy with hx hy
      subst hx hy
      rw [hn, if_neg (by simp), if_pos rfl]
      exact get_ext hk
def g_impl_PlanPath : List AV → Option Sg
  | [.s (.view (.boolss l)), .agg [.int a1, .int a2], .agg [.int z1, .int z2]] => some ⟨True, [.nrow 38 (.pts (plF l a1 a2 z1 z2))]⟩
  | _ => none
def sig_impl_PlanPath : FuncId → List AV → Option Sg := sigL [(76, g_impl_tableValid), (77, g_impl_isFree)]
def xs_impl_PlanPath : XS := ⟨xsigL [(78, g_slices_Reverse_Simpl_Cell_impl_Cell)], ysigL []⟩
theorem sig_impl_PlanPath_ok : SigOK sig_impl_PlanPath := sigL_cons F_impl_tableValid (sigL_cons F_impl_isFree sigL_nil)
theorem xs_impl_PlanPath_ok : XSigOK xs_impl_PlanPath := ⟨xsigL_cons F_slices_Reverse_Simpl_Cell_impl_Cell xsigL_nil, ysigL_nil⟩
theorem V_impl_PlanPath (l : List (List Bool)) (a1 : Int) (a2 : Int) (z1 : Int) (z2 : Int) : ((true = true) ∧ ((True) ∧ (True) ∧ (True) ∧ True) ∧ (true = true) ∧ ((True) ∧ ((True)) ∧ (True) ∧ (True) ∧ (NIs (bnot (tblB l)) false → True) ∧ (NIs (bnot (tblB l)) false → True) ∧ (NIs (bnot (tblB l)) false → (True)) ∧ (NIs (bnot (tblB l)) false → True) ∧ (True) ∧ (True) ∧ (NIs (bite (bnot (tblB l)) true (bnot (freeB l a1 a2))) false → True) ∧ (NIs (bite (bnot (tblB l)) true (bnot (freeB l a1 a2))) false → True) ∧ (NIs (bite (bnot (tblB l)) true (bnot (freeB l a1 a2))) false → (True)) ∧ (NIs (bite (bnot (tblB l)) true (bnot (freeB l a1 a2))) false → True) ∧ (True) ∧ True) ∧ ((bite (bite (bnot (tblB l)) true (bnot (freeB l a1 a2))) true (bnot (freeB l z1 z2))) = true → ((true = true) ∧ ((True) ∧ True) ∧ ((true = true) ∧ ((Cont.pts []) = (Cont.pts (plF l a1 a2 z1 z2)))) ∧ True)) ∧ ((bite (bite (bnot (tblB l)) true (bnot (freeB l a1 a2))) true (bnot (freeB l z1 z2))) = false → ((true = true) ∧ (True) ∧ (true = true) ∧ (True) ∧ ((True) ∧ (True) ∧ (true = true) ∧ (NIs (mhas [] a1 a2) false) ∧ ((True) ∧ (True) ∧ (true = true) ∧ ((True) ∧ (True) ∧ (True) ∧ True) ∧ (true = true) ∧ ((True) ∧ True) ∧ ∃ (I1 : List GV → Prop) (μ1 : List GV → Nat), (((true = true) ∧ ((((0 : Int) : Int) = (0 : Int)) ∧ (((a1 : Int) = a1) ∧ ((a2 : Int) = a2) ∧ True) ∧ (true = true) ∧ (true = true) ∧ (((a1 : Int) = a1) ∧ ((a2 : Int) = a2) ∧ True) ∧ (((a1 : Int) = a1) ∧ ((a2 : Int) = a2) ∧ True) ∧ ((Cont.boolss l) = (Cont.boolss l)) ∧ (((tblB l) : Bool) = (tblB l)) ∧ (((bnot (tblB l)) : Bool) = (bnot (tblB l))) ∧ (((bnot (tblB l)) : Bool) = (bnot (tblB l))) ∧ (((bite (bnot (tblB l)) true (bnot (freeB l a1 a2))) : Bool) = (bite (bnot (tblB l)) true (bnot (freeB l a1 a2)))) ∧ (((bite (bnot (tblB l)) true (bnot (freeB l a1 a2))) : Bool) = (bite (bnot (tblB l)) true (bnot (freeB l a1 a2)))) ∧ (((bite (bite (bnot (tblB l)) true (bnot (freeB l a1 a2))) true (bnot (freeB l z1 z2))) : Bool) = (bite (bite (bnot (tblB l)) true (bnot (freeB l a1 a2))) true (bnot (freeB l z1 z2)))) ∧ (true = true) ∧ (true = true) ∧ (true = true) ∧ ((Cont.boolss l) = (Cont.boolss l)) ∧ (((a1 : Int) = a1) ∧ ((a2 : Int) = a2) ∧ True) ∧ (((z1 : Int) = z1) ∧ ((z2 : Int) = z2) ∧ True) ∧ True) ∧ ((((mput [] a1 a2 a1 a2) : List Pt) = (mput [] a1 a2 a1 a2)) ∧ ((true = true) ∧ ((Cont.pts [(a1, a2)]) = (Cont.pts [(a1, a2)]))) ∧ (((a1 : Int) = a1) ∧ ((a2 : Int) = a2) ∧ True) ∧ (((z1 : Int) = z1) ∧ ((z2 : Int) = z2) ∧ True) ∧ ((true = true) ∧ ((Cont.pts []) = (Cont.pts []))) ∧ True)) ∧ (([GK.int, GK.pts, GK.pts] : List GK) = ([GK.int, GK.pts, GK.pts] : List GK)) ∧ I1 [GV.int (0 : Int), GV.pts [(a1, a2)], GV.pts (mput [] a1 a2 a1 a2)]) ∧ (∀ i1_0 : Int, ∀ l1_1 : List Pt, ∀ l1_2 : List Pt, I1 [GV.int i1_0, GV.pts l1_1, GV.pts l1_2] → ((true = true) ∧ ((True) ∧ (True) ∧ (True) ∧ (True) ∧ True) ∧ ((ilt i1_0 (ilen l1_1)) = true → ((true = true) ∧ ((True) ∧ (True) ∧ (NLe 0 i1_0 ∧ NLt i1_0 (ilen l1_1)) ∧ (NLt i1_0 (ilen l1_1)) ∧ (True) ∧ True) ∧ (True) ∧ (true = true) ∧ ((True) ∧ (True) ∧ (True) ∧ (True) ∧ (True) ∧ (True) ∧ (True) ∧ (True) ∧ (True) ∧ (True) ∧ (True) ∧ (True) ∧ (True) ∧ (True) ∧ (True) ∧ (True) ∧ (True) ∧ (True) ∧ (True) ∧ (True) ∧ (True) ∧ (True) ∧ (True) ∧ (True) ∧ (True) ∧ (True) ∧ (True) ∧ True) ∧ ∃ (I2 : List GV → Prop) (μ2 : List GV → Nat), (((true = true) ∧ ((((0 : Int) : Int) = (0 : Int)) ∧ (true = true) ∧ (((getx l1_1 i1_0) : Int) = (getx l1_1 i1_0)) ∧ (((isub (getx l1_1 i1_0) (1 : Int)) : Int) = (isub (getx l1_1 i1_0) (1 : Int))) ∧ (true = true) ∧ (((gety l1_1 i1_0) : Int) = (gety l1_1 i1_0)) ∧ ((((isub (getx l1_1 i1_0) (1 : Int)) : Int) = (isub (getx l1_1 i1_0) (1 : Int))) ∧ (((gety l1_1 i1_0) : Int) = (gety l1_1 i1_0)) ∧ True) ∧ (true = true) ∧ (((getx l1_1 i1_0) : Int) = (getx l1_1 i1_0)) ∧ (true = true) ∧ (((gety l1_1 i1_0) : Int) = (gety l1_1 i1_0)) ∧ (((isub (gety l1_1 i1_0) (1 : Int)) : Int) = (isub (gety l1_1 i1_0) (1 : Int))) ∧ ((((getx l1_1 i1_0) : Int) = (getx l1_1 i1_0)) ∧ (((isub (gety l1_1 i1_0) (1 : Int)) : Int) = (isub (gety l1_1 i1_0) (1 : Int))) ∧ True) ∧ (true = true) ∧ (((getx l1_1 i1_0) : Int) = (getx l1_1 i1_0)) ∧ (true = true) ∧ (((gety l1_1 i1_0) : Int) = (gety l1_1 i1_0)) ∧ (((iadd (gety l1_1 i1_0) (1 : Int)) : Int) = (iadd (gety l1_1 i1_0) (1 : Int))) ∧ ((((getx l1_1 i1_0) : Int) = (getx l1_1 i1_0)) ∧ (((iadd (gety l1_1 i1_0) (1 : Int)) : Int) = (iadd (gety l1_1 i1_0) (1 : Int))) ∧ True) ∧ (true = true) ∧ (((getx l1_1 i1_0) : Int) = (getx l1_1 i1_0)) ∧ (((iadd (getx l1_1 i1_0) (1 : Int)) : Int) = (iadd (getx l1_1 i1_0) (1 : Int))) ∧ (true = true) ∧ (((gety l1_1 i1_0) : Int) = (gety l1_1 i1_0)) ∧ ((((iadd (getx l1_1 i1_0) (1 : Int)) : Int) = (iadd (getx l1_1 i1_0) (1 : Int))) ∧ (((gety l1_1 i1_0) : Int) = (gety l1_1 i1_0)) ∧ True) ∧ (true = true) ∧ (((ilen [((isub (getx l1_1 i1_0) (1 : Int)), (gety l1_1 i1_0)), ((getx l1_1 i1_0), (isub (gety l1_1 i1_0) (1 : Int))), ((getx l1_1 i1_0), (iadd (gety l1_1 i1_0) (1 : Int))), ((iadd (getx l1_1 i1_0) (1 : Int)), (gety l1_1 i1_0))]) : Int) = (ilen [((isub (getx l1_1 i1_0) (1 : Int)), (gety l1_1 i1_0)), ((getx l1_1 i1_0), (isub (gety l1_1 i1_0) (1 : Int))), ((getx l1_1 i1_0), (iadd (gety l1_1 i1_0) (1 : Int))), ((iadd (getx l1_1 i1_0) (1 : Int)), (gety l1_1 i1_0))])) ∧ ((i1_0 : Int) = i1_0) ∧ ((((getx l1_1 i1_0) : Int) = (getx l1_1 i1_0)) ∧ (((gety l1_1 i1_0) : Int) = (gety l1_1 i1_0)) ∧ True) ∧ (true = true) ∧ ((i1_0 : Int) = i1_0) ∧ (((ilen l1_1) : Int) = (ilen l1_1)) ∧ (((ilt i1_0 (ilen l1_1)) : Bool) = (ilt i1_0 (ilen l1_1))) ∧ ((i1_0 : Int) = i1_0) ∧ (((a1 : Int) = a1) ∧ ((a2 : Int) = a2) ∧ True) ∧ (true = true) ∧ (true = true) ∧ (((a1 : Int) = a1) ∧ ((a2 : Int) = a2) ∧ True) ∧ (((a1 : Int) = a1) ∧ ((a2 : Int) = a2) ∧ True) ∧ ((Cont.boolss l) = (Cont.boolss l)) ∧ (((tblB l) : Bool) = (tblB l)) ∧ (((bnot (tblB l)) : Bool) = (bnot (tblB l))) ∧ (((bnot (tblB l)) : Bool) = (bnot (tblB l))) ∧ (((bite (bnot (tblB l)) true (bnot (freeB l a1 a2))) : Bool) = (bite (bnot (tblB l)) true (bnot (freeB l a1 a2)))) ∧ (((bite (bnot (tblB l)) true (bnot (freeB l a1 a2))) : Bool) = (bite (bnot (tblB l)) true (bnot (freeB l a1 a2)))) ∧ (((bite (bite (bnot (tblB l)) true (bnot (freeB l a1 a2))) true (bnot (freeB l z1 z2))) : Bool) = (bite (bite (bnot (tblB l)) true (bnot (freeB l a1 a2))) true (bnot (freeB l z1 z2)))) ∧ (true = true) ∧ (true = true) ∧ (true = true) ∧ ((Cont.boolss l) = (Cont.boolss l)) ∧ (((a1 : Int) = a1) ∧ ((a2 : Int) = a2) ∧ True) ∧ (((z1 : Int) = z1) ∧ ((z2 : Int) = z2) ∧ True) ∧ True) ∧ (((l1_2 : List Pt) = l1_2) ∧ ((true = true) ∧ ((Cont.pts l1_1) = (Cont.pts l1_1))) ∧ ((true = true) ∧ ((Cont.pts [((isub (getx l1_1 i1_0) (1 : Int)), (gety l1_1 i1_0)), ((getx l1_1 i1_0), (isub (gety l1_1 i1_0) (1 : Int))), ((getx l1_1 i1_0), (iadd (gety l1_1 i1_0) (1 : Int))), ((iadd (getx l1_1 i1_0) (1 : Int)), (gety l1_1 i1_0))]) = (Cont.pts [((isub (getx l1_1 i1_0) (1 : Int)), (gety l1_1 i1_0)), ((getx l1_1 i1_0), (isub (gety l1_1 i1_0) (1 : Int))), ((getx l1_1 i1_0), (iadd (gety l1_1 i1_0) (1 : Int))), ((iadd (getx l1_1 i1_0) (1 : Int)), (gety l1_1 i1_0))]))) ∧ ((((getx l1_1 i1_0) : Int) = (getx l1_1 i1_0)) ∧ (((gety l1_1 i1_0) : Int) = (gety l1_1 i1_0)) ∧ True) ∧ (((a1 : Int) = a1) ∧ ((a2 : Int) = a2) ∧ True) ∧ (((z1 : Int) = z1) ∧ ((z2 : Int) = z2) ∧ True) ∧ ((true = true) ∧ ((Cont.pts []) = (Cont.pts []))) ∧ True)) ∧ (([GK.int, GK.pts, GK.pts] : List GK) = ([GK.int, GK.pts, GK.pts] : List GK)) ∧ I2 [GV.int (0 : Int), GV.pts l1_1, GV.pts l1_2]) ∧ (∀ i2_0 : Int, ∀ l2_1 : List Pt, ∀ l2_2 : List Pt, I2 [GV.int i2_0, GV.pts l2_1, GV.pts l2_2] → ((true = true) ∧ ((True) ∧ True) ∧ ((ilt i2_0 (ilen [((isub (getx l1_1 i1_0) (1 : Int)), (gety l1_1 i1_0)), ((getx l1_1 i1_0), (isub (gety l1_1 i1_0) (1 : Int))), ((getx l1_1 i1_0), (iadd (gety l1_1 i1_0) (1 : Int))), ((iadd (getx l1_1 i1_0) (1 : Int)), (gety l1_1 i1_0))])) = true → ((true = true) ∧ ((NLe 0 i2_0 ∧ NLt i2_0 (ilen [((isub (getx l1_1 i1_0) (1 : Int)), (gety l1_1 i1_0)), ((getx l1_1 i1_0), (isub (gety l1_1 i1_0) (1 : Int))), ((getx l1_1 i1_0), (iadd (gety l1_1 i1_0) (1 : Int))), ((iadd (getx l1_1 i1_0) (1 : Int)), (gety l1_1 i1_0))])) ∧ (NLt i2_0 (ilen [((isub (getx l1_1 i1_0) (1 : Int)), (gety l1_1 i1_0)), ((getx l1_1 i1_0), (isub (gety l1_1 i1_0) (1 : Int))), ((getx l1_1 i1_0), (iadd (gety l1_1 i1_0) (1 : Int))), ((iadd (getx l1_1 i1_0) (1 : Int)), (gety l1_1 i1_0))])) ∧ (True) ∧ True) ∧ (True) ∧ (true = true) ∧ ((True) ∧ (True) ∧ True) ∧ (true = true) ∧ (True) ∧ ((true = true) ∧ ((true = true) ∧ ((true = true) ∧ ((True) ∧ (True) ∧ (True) ∧ (true = true) ∧ ((True) ∧ (True) ∧ (True) ∧ (NIs (bnot (mhas l2_2 (getx [((isub (getx l1_1 i1_0) (1 : Int)), (gety l1_1 i1_0)), ((getx l1_1 i1_0), (isub (gety l1_1 i1_0) (1 : Int))), ((getx l1_1 i1_0), (iadd (gety l1_1 i1_0) (1 : Int))), ((iadd (getx l1_1 i1_0) (1 : Int)), (gety l1_1 i1_0))] i2_0) (gety [((isub (getx l1_1 i1_0) (1 : Int)), (gety l1_1 i1_0)), ((getx l1_1 i1_0), (isub (gety l1_1 i1_0) (1 : Int))), ((getx l1_1 i1_0), (iadd (gety l1_1 i1_0) (1 : Int))), ((iadd (getx l1_1 i1_0) (1 : Int)), (gety l1_1 i1_0))] i2_0))) true → True) ∧ (NIs (bnot (mhas l2_2 (getx [((isub (getx l1_1 i1_0) (1 : Int)), (gety l1_1 i1_0)), ((getx l1_1 i1_0), (isub (gety l1_1 i1_0) (1 : Int))), ((getx l1_1 i1_0), (iadd (gety l1_1 i1_0) (1 : Int))), ((iadd (getx l1_1 i1_0) (1 : Int)), (gety l1_1 i1_0))] i2_0) (gety [((isub (getx l1_1 i1_0) (1 : Int)), (gety l1_1 i1_0)), ((getx l1_1 i1_0), (isub (gety l1_1 i1_0) (1 : Int))), ((getx l1_1 i1_0), (iadd (gety l1_1 i1_0) (1 : Int))), ((iadd (getx l1_1 i1_0) (1 : Int)), (gety l1_1 i1_0))] i2_0))) true → True) ∧ (NIs (bnot (mhas l2_2 (getx [((isub (getx l1_1 i1_0) (1 : Int)), (gety l1_1 i1_0)), ((getx l1_1 i1_0), (isub (gety l1_1 i1_0) (1 : Int))), ((getx l1_1 i1_0), (iadd (gety l1_1 i1_0) (1 : Int))), ((iadd (getx l1_1 i1_0) (1 : Int)), (gety l1_1 i1_0))] i2_0) (gety [((isub (getx l1_1 i1_0) (1 : Int)), (gety l1_1 i1_0)), ((getx l1_1 i1_0), (isub (gety l1_1 i1_0) (1 : Int))), ((getx l1_1 i1_0), (iadd (gety l1_1 i1_0) (1 : Int))), ((iadd (getx l1_1 i1_0) (1 : Int)), (gety l1_1 i1_0))] i2_0))) true → (True)) ∧ (True) ∧ True) ∧ ((bite (bnot (mhas l2_2 (getx [((isub (getx l1_1 i1_0) (1 : Int)), (gety l1_1 i1_0)), ((getx l1_1 i1_0), (isub (gety l1_1 i1_0) (1 : Int))), ((getx l1_1 i1_0), (iadd (gety l1_1 i1_0) (1 : Int))), ((iadd (getx l1_1 i1_0) (1 : Int)), (gety l1_1 i1_0))] i2_0) (gety [((isub (getx l1_1 i1_0) (1 : Int)), (gety l1_1 i1_0)), ((getx l1_1 i1_0), (isub (gety l1_1 i1_0) (1 : Int))), ((getx l1_1 i1_0), (iadd (gety l1_1 i1_0) (1 : Int))), ((iadd (getx l1_1 i1_0) (1 : Int)), (gety l1_1 i1_0))] i2_0))) (freeB l (getx [((isub (getx l1_1 i1_0) (1 : Int)), (gety l1_1 i1_0)), ((getx l1_1 i1_0), (isub (gety l1_1 i1_0) (1 : Int))), ((getx l1_1 i1_0), (iadd (gety l1_1 i1_0) (1 : Int))), ((iadd (getx l1_1 i1_0) (1 : Int)), (gety l1_1 i1_0))] i2_0) (gety [((isub (getx l1_1 i1_0) (1 : Int)), (gety l1_1 i1_0)), ((getx l1_1 i1_0), (isub (gety l1_1 i1_0) (1 : Int))), ((getx l1_1 i1_0), (iadd (gety l1_1 i1_0) (1 : Int))), ((iadd (getx l1_1 i1_0) (1 : Int)), (gety l1_1 i1_0))] i2_0)) false) = true → ((true = true) ∧ ((True) ∧ (True) ∧ (True) ∧ True) ∧ (true = true) ∧ (NIs (mhas l2_2 (getx [((isub (getx l1_1 i1_0) (1 : Int)), (gety l1_1 i1_0)), ((getx l1_1 i1_0), (isub (gety l1_1 i1_0) (1 : Int))), ((getx l1_1 i1_0), (iadd (gety l1_1 i1_0) (1 : Int))), ((iadd (getx l1_1 i1_0) (1 : Int)), (gety l1_1 i1_0))] i2_0) (gety [((isub (getx l1_1 i1_0) (1 : Int)), (gety l1_1 i1_0)), ((getx l1_1 i1_0), (isub (gety l1_1 i1_0) (1 : Int))), ((getx l1_1 i1_0), (iadd (gety l1_1 i1_0) (1 : Int))), ((iadd (getx l1_1 i1_0) (1 : Int)), (gety l1_1 i1_0))] i2_0)) false) ∧ ((true = true) ∧ ((True) ∧ (True) ∧ (True) ∧ True) ∧ (NLe (ilen l2_1) 1000000000 ∧ NLe (ilen [((getx [((isub (getx l1_1 i1_0) (1 : Int)), (gety l1_1 i1_0)), ((getx l1_1 i1_0), (isub (gety l1_1 i1_0) (1 : Int))), ((getx l1_1 i1_0), (iadd (gety l1_1 i1_0) (1 : Int))), ((iadd (getx l1_1 i1_0) (1 : Int)), (gety l1_1 i1_0))] i2_0), (gety [((isub (getx l1_1 i1_0) (1 : Int)), (gety l1_1 i1_0)), ((getx l1_1 i1_0), (isub (gety l1_1 i1_0) (1 : Int))), ((getx l1_1 i1_0), (iadd (gety l1_1 i1_0) (1 : Int))), ((iadd (getx l1_1 i1_0) (1 : Int)), (gety l1_1 i1_0))] i2_0))]) 1000000000) ∧ (True) ∧ (true = true) ∧ ((True) ∧ (True) ∧ True) ∧ ((true = true) ∧ ((((iadd i2_0 (1 : Int)) : Int) = (iadd i2_0 (1 : Int))) ∧ (true = true) ∧ (((getx l1_1 i1_0) : Int) = (getx l1_1 i1_0)) ∧ (((isub (getx l1_1 i1_0) (1 : Int)) : Int) = (isub (getx l1_1 i1_0) (1 : Int))) ∧ (true = true) ∧ (((gety l1_1 i1_0) : Int) = (gety l1_1 i1_0)) ∧ ((((isub (getx l1_1 i1_0) (1 : Int)) : Int) = (isub (getx l1_1 i1_0) (1 : Int))) ∧ (((gety l1_1 i1_0) : Int) = (gety l1_1 i1_0)) ∧ True) ∧ (true = true) ∧ (((getx l1_1 i1_0) : Int) = (getx l1_1 i1_0)) ∧ (true = true) ∧ (((gety l1_1 i1_0) : Int) = (gety l1_1 i1_0)) ∧ (((isub (gety l1_1 i1_0) (1 : Int)) : Int) = (isub (gety l1_1 i1_0) (1 : Int))) ∧ ((((getx l1_1 i1_0) : Int) = (getx l1_1 i1_0)) ∧ (((isub (gety l1_1 i1_0) (1 : Int)) : Int) = (isub (gety l1_1 i1_0) (1 : Int))) ∧ True) ∧ (true = true) ∧ (((getx l1_1 i1_0) : Int) = (getx l1_1 i1_0)) ∧ (true = true) ∧ (((gety l1_1 i1_0) : Int) = (gety l1_1 i1_0)) ∧ (((iadd (gety l1_1 i1_0) (1 : Int)) : Int) = (iadd (gety l1_1 i1_0) (1 : Int))) ∧ ((((getx l1_1 i1_0) : Int) = (getx l1_1 i1_0)) ∧ (((iadd (gety l1_1 i1_0) (1 : Int)) : Int) = (iadd (gety l1_1 i1_0) (1 : Int))) ∧ True) ∧ (true = true) ∧ (((getx l1_1 i1_0) : Int) = (getx l1_1 i1_0)) ∧ (((iadd (getx l1_1 i1_0) (1 : Int)) : Int) = (iadd (getx l1_1 i1_0) (1 : Int))) ∧ (true = true) ∧ (((gety l1_1 i1_0) : Int) = (gety l1_1 i1_0)) ∧ ((((iadd (getx l1_1 i1_0) (1 : Int)) : Int) = (iadd (getx l1_1 i1_0) (1 : Int))) ∧ (((gety l1_1 i1_0) : Int) = (gety l1_1 i1_0)) ∧ True) ∧ (true = true) ∧ (((ilen [((isub (getx l1_1 i1_0) (1 : Int)), (gety l1_1 i1_0)), ((getx l1_1 i1_0), (isub (gety l1_1 i1_0) (1 : Int))), ((getx l1_1 i1_0), (iadd (gety l1_1 i1_0) (1 : Int))), ((iadd (getx l1_1 i1_0) (1 : Int)), (gety l1_1 i1_0))]) : Int) = (ilen [((isub (getx l1_1 i1_0) (1 : Int)), (gety l1_1 i1_0)), ((getx l1_1 i1_0), (isub (gety l1_1 i1_0) (1 : Int))), ((getx l1_1 i1_0), (iadd (gety l1_1 i1_0) (1 : Int))), ((iadd (getx l1_1 i1_0) (1 : Int)), (gety l1_1 i1_0))])) ∧ ((i1_0 : Int) = i1_0) ∧ ((((getx l1_1 i1_0) : Int) = (getx l1_1 i1_0)) ∧ (((gety l1_1 i1_0) : Int) = (gety l1_1 i1_0)) ∧ True) ∧ (true = true) ∧ ((i1_0 : Int) = i1_0) ∧ (((ilen l1_1) : Int) = (ilen l1_1)) ∧ (((ilt i1_0 (ilen l1_1)) : Bool) = (ilt i1_0 (ilen l1_1))) ∧ ((i1_0 : Int) = i1_0) ∧ (((a1 : Int) = a1) ∧ ((a2 : Int) = a2) ∧ True) ∧ (true = true) ∧ (true = true) ∧ (((a1 : Int) = a1) ∧ ((a2 : Int) = a2) ∧ True) ∧ (((a1 : Int) = a1) ∧ ((a2 : Int) = a2) ∧ True) ∧ ((Cont.boolss l) = (Cont.boolss l)) ∧ (((tblB l) : Bool) = (tblB l)) ∧ (((bnot (tblB l)) : Bool) = (bnot (tblB l))) ∧ (((bnot (tblB l)) : Bool) = (bnot (tblB l))) ∧ (((bite (bnot (tblB l)) true (bnot (freeB l a1 a2))) : Bool) = (bite (bnot (tblB l)) true (bnot (freeB l a1 a2)))) ∧ (((bite (bnot (tblB l)) true (bnot (freeB l a1 a2))) : Bool) = (bite (bnot (tblB l)) true (bnot (freeB l a1 a2)))) ∧ (((bite (bite (bnot (tblB l)) true (bnot (freeB l a1 a2))) true (bnot (freeB l z1 z2))) : Bool) = (bite (bite (bnot (tblB l)) true (bnot (freeB l a1 a2))) true (bnot (freeB l z1 z2)))) ∧ (true = true) ∧ (true = true) ∧ (true = true) ∧ ((Cont.boolss l) = (Cont.boolss l)) ∧ (((a1 : Int) = a1) ∧ ((a2 : Int) = a2) ∧ True) ∧ (((z1 : Int) = z1) ∧ ((z2 : Int) = z2) ∧ True) ∧ True) ∧ ((((mput l2_2 (getx [((isub (getx l1_1 i1_0) (1 : Int)), (gety l1_1 i1_0)), ((getx l1_1 i1_0), (isub (gety l1_1 i1_0) (1 : Int))), ((getx l1_1 i1_0), (iadd (gety l1_1 i1_0) (1 : Int))), ((iadd (getx l1_1 i1_0) (1 : Int)), (gety l1_1 i1_0))] i2_0) (gety [((isub (getx l1_1 i1_0) (1 : Int)), (gety l1_1 i1_0)), ((getx l1_1 i1_0), (isub (gety l1_1 i1_0) (1 : Int))), ((getx l1_1 i1_0), (iadd (gety l1_1 i1_0) (1 : Int))), ((iadd (getx l1_1 i1_0) (1 : Int)), (gety l1_1 i1_0))] i2_0) (getx l1_1 i1_0) (gety l1_1 i1_0)) : List Pt) = (mput l2_2 (getx [((isub (getx l1_1 i1_0) (1 : Int)), (gety l1_1 i1_0)), ((getx l1_1 i1_0), (isub (gety l1_1 i1_0) (1 : Int))), ((getx l1_1 i1_0), (iadd (gety l1_1 i1_0) (1 : Int))), ((iadd (getx l1_1 i1_0) (1 : Int)), (gety l1_1 i1_0))] i2_0) (gety [((isub (getx l1_1 i1_0) (1 : Int)), (gety l1_1 i1_0)), ((getx l1_1 i1_0), (isub (gety l1_1 i1_0) (1 : Int))), ((getx l1_1 i1_0), (iadd (gety l1_1 i1_0) (1 : Int))), ((iadd (getx l1_1 i1_0) (1 : Int)), (gety l1_1 i1_0))] i2_0) (getx l1_1 i1_0) (gety l1_1 i1_0))) ∧ ((true = true) ∧ ((Cont.pts (iapp l2_1 [((getx [((isub (getx l1_1 i1_0) (1 : Int)), (gety l1_1 i1_0)), ((getx l1_1 i1_0), (isub (gety l1_1 i1_0) (1 : Int))), ((getx l1_1 i1_0), (iadd (gety l1_1 i1_0) (1 : Int))), ((iadd (getx l1_1 i1_0) (1 : Int)), (gety l1_1 i1_0))] i2_0), (gety [((isub (getx l1_1 i1_0) (1 : Int)), (gety l1_1 i1_0)), ((getx l1_1 i1_0), (isub (gety l1_1 i1_0) (1 : Int))), ((getx l1_1 i1_0), (iadd (gety l1_1 i1_0) (1 : Int))), ((iadd (getx l1_1 i1_0) (1 : Int)), (gety l1_1 i1_0))] i2_0))])) = (Cont.pts (iapp l2_1 [((getx [((isub (getx l1_1 i1_0) (1 : Int)), (gety l1_1 i1_0)), ((getx l1_1 i1_0), (isub (gety l1_1 i1_0) (1 : Int))), ((getx l1_1 i1_0), (iadd (gety l1_1 i1_0) (1 : Int))), ((iadd (getx l1_1 i1_0) (1 : Int)), (gety l1_1 i1_0))] i2_0), (gety [((isub (getx l1_1 i1_0) (1 : Int)), (gety l1_1 i1_0)), ((getx l1_1 i1_0), (isub (gety l1_1 i1_0) (1 : Int))), ((getx l1_1 i1_0), (iadd (gety l1_1 i1_0) (1 : Int))), ((iadd (getx l1_1 i1_0) (1 : Int)), (gety l1_1 i1_0))] i2_0))])))) ∧ ((true = true) ∧ ((Cont.pts [((isub (getx l1_1 i1_0) (1 : Int)), (gety l1_1 i1_0)), ((getx l1_1 i1_0), (isub (gety l1_1 i1_0) (1 : Int))), ((getx l1_1 i1_0), (iadd (gety l1_1 i1_0) (1 : Int))), ((iadd (getx l1_1 i1_0) (1 : Int)), (gety l1_1 i1_0))]) = (Cont.pts [((isub (getx l1_1 i1_0) (1 : Int)), (gety l1_1 i1_0)), ((getx l1_1 i1_0), (isub (gety l1_1 i1_0) (1 : Int))), ((getx l1_1 i1_0), (iadd (gety l1_1 i1_0) (1 : Int))), ((iadd (getx l1_1 i1_0) (1 : Int)), (gety l1_1 i1_0))]))) ∧ ((((getx l1_1 i1_0) : Int) = (getx l1_1 i1_0)) ∧ (((gety l1_1 i1_0) : Int) = (gety l1_1 i1_0)) ∧ True) ∧ (((a1 : Int) = a1) ∧ ((a2 : Int) = a2) ∧ True) ∧ (((z1 : Int) = z1) ∧ ((z2 : Int) = z2) ∧ True) ∧ ((true = true) ∧ ((Cont.pts []) = (Cont.pts []))) ∧ True)) ∧ ((([GK.int, GK.pts, GK.pts] : List GK) = ([GK.int, GK.pts, GK.pts] : List GK)) ∧ I2 [GV.int (iadd i2_0 (1 : Int)), GV.pts (iapp l2_1 [((getx [((isub (getx l1_1 i1_0) (1 : Int)), (gety l1_1 i1_0)), ((getx l1_1 i1_0), (isub (gety l1_1 i1_0) (1 : Int))), ((getx l1_1 i1_0), (iadd (gety l1_1 i1_0) (1 : Int))), ((iadd (getx l1_1 i1_0) (1 : Int)), (gety l1_1 i1_0))] i2_0), (gety [((isub (getx l1_1 i1_0) (1 : Int)), (gety l1_1 i1_0)), ((getx l1_1 i1_0), (isub (gety l1_1 i1_0) (1 : Int))), ((getx l1_1 i1_0), (iadd (gety l1_1 i1_0) (1 : Int))), ((iadd (getx l1_1 i1_0) (1 : Int)), (gety l1_1 i1_0))] i2_0))]), GV.pts (mput l2_2 (getx [((isub (getx l1_1 i1_0) (1 : Int)), (gety l1_1 i1_0)), ((getx l1_1 i1_0), (isub (gety l1_1 i1_0) (1 : Int))), ((getx l1_1 i1_0), (iadd (gety l1_1 i1_0) (1 : Int))), ((iadd (getx l1_1 i1_0) (1 : Int)), (gety l1_1 i1_0))] i2_0) (gety [((isub (getx l1_1 i1_0) (1 : Int)), (gety l1_1 i1_0)), ((getx l1_1 i1_0), (isub (gety l1_1 i1_0) (1 : Int))), ((getx l1_1 i1_0), (iadd (gety l1_1 i1_0) (1 : Int))), ((iadd (getx l1_1 i1_0) (1 : Int)), (gety l1_1 i1_0))] i2_0) (getx l1_1 i1_0) (gety l1_1 i1_0))] ∧ μ2 [GV.int (iadd i2_0 (1 : Int)), GV.pts (iapp l2_1 [((getx [((isub (getx l1_1 i1_0) (1 : Int)), (gety l1_1 i1_0)), ((getx l1_1 i1_0), (isub (gety l1_1 i1_0) (1 : Int))), ((getx l1_1 i1_0), (iadd (gety l1_1 i1_0) (1 : Int))), ((iadd (getx l1_1 i1_0) (1 : Int)), (gety l1_1 i1_0))] i2_0), (gety [((isub (getx l1_1 i1_0) (1 : Int)), (gety l1_1 i1_0)), ((getx l1_1 i1_0), (isub (gety l1_1 i1_0) (1 : Int))), ((getx l1_1 i1_0), (iadd (gety l1_1 i1_0) (1 : Int))), ((iadd (getx l1_1 i1_0) (1 : Int)), (gety l1_1 i1_0))] i2_0))]), GV.pts (mput l2_2 (getx [((isub (getx l1_1 i1_0) (1 : Int)), (gety l1_1 i1_0)), ((getx l1_1 i1_0), (isub (gety l1_1 i1_0) (1 : Int))), ((getx l1_1 i1_0), (iadd (gety l1_1 i1_0) (1 : Int))), ((iadd (getx l1_1 i1_0) (1 : Int)), (gety l1_1 i1_0))] i2_0) (gety [((isub (getx l1_1 i1_0) (1 : Int)), (gety l1_1 i1_0)), ((getx l1_1 i1_0), (isub (gety l1_1 i1_0) (1 : Int))), ((getx l1_1 i1_0), (iadd (gety l1_1 i1_0) (1 : Int))), ((iadd (getx l1_1 i1_0) (1 : Int)), (gety l1_1 i1_0))] i2_0) (getx l1_1 i1_0) (gety l1_1 i1_0))] < μ2 [GV.int i2_0, GV.pts l2_1, GV.pts l2_2])))) ∧ ((bite (bnot (mhas l2_2 (getx [((isub (getx l1_1 i1_0) (1 : Int)), (gety l1_1 i1_0)), ((getx l1_1 i1_0), (isub (gety l1_1 i1_0) (1 : Int))), ((getx l1_1 i1_0), (iadd (gety l1_1 i1_0) (1 : Int))), ((iadd (getx l1_1 i1_0) (1 : Int)), (gety l1_1 i1_0))] i2_0) (gety [((isub (getx l1_1 i1_0) (1 : Int)), (gety l1_1 i1_0)), ((getx l1_1 i1_0), (isub (gety l1_1 i1_0) (1 : Int))), ((getx l1_1 i1_0), (iadd (gety l1_1 i1_0) (1 : Int))), ((iadd (getx l1_1 i1_0) (1 : Int)), (gety l1_1 i1_0))] i2_0))) (freeB l (getx [((isub (getx l1_1 i1_0) (1 : Int)), (gety l1_1 i1_0)), ((getx l1_1 i1_0), (isub (gety l1_1 i1_0) (1 : Int))), ((getx l1_1 i1_0), (iadd (gety l1_1 i1_0) (1 : Int))), ((iadd (getx l1_1 i1_0) (1 : Int)), (gety l1_1 i1_0))] i2_0) (gety [((isub (getx l1_1 i1_0) (1 : Int)), (gety l1_1 i1_0)), ((getx l1_1 i1_0), (isub (gety l1_1 i1_0) (1 : Int))), ((getx l1_1 i1_0), (iadd (gety l1_1 i1_0) (1 : Int))), ((iadd (getx l1_1 i1_0) (1 : Int)), (gety l1_1 i1_0))] i2_0)) false) = false → ((true = true) ∧ ((True) ∧ (True) ∧ True) ∧ ((true = true) ∧ ((((iadd i2_0 (1 : Int)) : Int) = (iadd i2_0 (1 : Int))) ∧ (true = true) ∧ (((getx l1_1 i1_0) : Int) = (getx l1_1 i1_0)) ∧ (((isub (getx l1_1 i1_0) (1 : Int)) : Int) = (isub (getx l1_1 i1_0) (1 : Int))) ∧ (true = true) ∧ (((gety l1_1 i1_0) : Int) = (gety l1_1 i1_0)) ∧ ((((isub (getx l1_1 i1_0) (1 : Int)) : Int) = (isub (getx l1_1 i1_0) (1 : Int))) ∧ (((gety l1_1 i1_0) : Int) = (gety l1_1 i1_0)) ∧ True) ∧ (true = true) ∧ (((getx l1_1 i1_0) : Int) = (getx l1_1 i1_0)) ∧ (true = true) ∧ (((gety l1_1 i1_0) : Int) = (gety l1_1 i1_0)) ∧ (((isub (gety l1_1 i1_0) (1 : Int)) : Int) = (isub (gety l1_1 i1_0) (1 : Int))) ∧ ((((getx l1_1 i1_0) : Int) = (getx l1_1 i1_0)) ∧ (((isub (gety l1_1 i1_0) (1 : Int)) : Int) = (isub (gety l1_1 i1_0) (1 : Int))) ∧ True) ∧ (true = true) ∧ (((getx l1_1 i1_0) : Int) = (getx l1_1 i1_0)) ∧ (true = true) ∧ (((gety l1_1 i1_0) : Int) = (gety l1_1 i1_0)) ∧ (((iadd (gety l1_1 i1_0) (1 : Int)) : Int) = (iadd (gety l1_1 i1_0) (1 : Int))) ∧ ((((getx l1_1 i1_0) : Int) = (getx l1_1 i1_0)) ∧ (((iadd (gety l1_1 i1_0) (1 : Int)) : Int) = (iadd (gety l1_1 i1_0) (1 : Int))) ∧ True) ∧ (true = true) ∧ (((getx l1_1 i1_0) : Int) = (getx l1_1 i1_0)) ∧ (((iadd (getx l1_1 i1_0) (1 : Int)) : Int) = (iadd (getx l1_1 i1_0) (1 : Int))) ∧ (true = true) ∧ (((gety l1_1 i1_0) : Int) = (gety l1_1 i1_0)) ∧ ((((iadd (getx l1_1 i1_0) (1 : Int)) : Int) = (iadd (getx l1_1 i1_0) (1 : Int))) ∧ (((gety l1_1 i1_0) : Int) = (gety l1_1 i1_0)) ∧ True) ∧ (true = true) ∧ (((ilen [((isub (getx l1_1 i1_0) (1 : Int)), (gety l1_1 i1_0)), ((getx l1_1 i1_0), (isub (gety l1_1 i1_0) (1 : Int))), ((getx l1_1 i1_0), (iadd (gety l1_1 i1_0) (1 : Int))), ((iadd (getx l1_1 i1_0) (1 : Int)), (gety l1_1 i1_0))]) : Int) = (ilen [((isub (getx l1_1 i1_0) (1 : Int)), (gety l1_1 i1_0)), ((getx l1_1 i1_0), (isub (gety l1_1 i1_0) (1 : Int))), ((getx l1_1 i1_0), (iadd (gety l1_1 i1_0) (1 : Int))), ((iadd (getx l1_1 i1_0) (1 : Int)), (gety l1_1 i1_0))])) ∧ ((i1_0 : Int) = i1_0) ∧ ((((getx l1_1 i1_0) : Int) = (getx l1_1 i1_0)) ∧ (((gety l1_1 i1_0) : Int) = (gety l1_1 i1_0)) ∧ True) ∧ (true = true) ∧ ((i1_0 : Int) = i1_0) ∧ (((ilen l1_1) : Int) = (ilen l1_1)) ∧ (((ilt i1_0 (ilen l1_1)) : Bool) = (ilt i1_0 (ilen l1_1))) ∧ ((i1_0 : Int) = i1_0) ∧ (((a1 : Int) = a1) ∧ ((a2 : Int) = a2) ∧ True) ∧ (true = true) ∧ (true = true) ∧ (((a1 : Int) = a1) ∧ ((a2 : Int) = a2) ∧ True) ∧ (((a1 : Int) = a1) ∧ ((a2 : Int) = a2) ∧ True) ∧ ((Cont.boolss l) = (Cont.boolss l)) ∧ (((tblB l) : Bool) = (tblB l)) ∧ (((bnot (tblB l)) : Bool) = (bnot (tblB l))) ∧ (((bnot (tblB l)) : Bool) = (bnot (tblB l))) ∧ (((bite (bnot (tblB l)) true (bnot (freeB l a1 a2))) : Bool) = (bite (bnot (tblB l)) true (bnot (freeB l a1 a2)))) ∧ (((bite (bnot (tblB l)) true (bnot (freeB l a1 a2))) : Bool) = (bite (bnot (tblB l)) true (bnot (freeB l a1 a2)))) ∧ (((bite (bite (bnot (tblB l)) true (bnot (freeB l a1 a2))) true (bnot (freeB l z1 z2))) : Bool) = (bite (bite (bnot (tblB l)) true (bnot (freeB l a1 a2))) true (bnot (freeB l z1 z2)))) ∧ (true = true) ∧ (true = true) ∧ (true = true) ∧ ((Cont.boolss l) = (Cont.boolss l)) ∧ (((a1 : Int) = a1) ∧ ((a2 : Int) = a2) ∧ True) ∧ (((z1 : Int) = z1) ∧ ((z2 : Int) = z2) ∧ True) ∧ True) ∧ (((l2_2 : List Pt) = l2_2) ∧ ((true = true) ∧ ((Cont.pts l2_1) = (Cont.pts l2_1))) ∧ ((true = true) ∧ ((Cont.pts [((isub (getx l1_1 i1_0) (1 : Int)), (gety l1_1 i1_0)), ((getx l1_1 i1_0), (isub (gety l1_1 i1_0) (1 : Int))), ((getx l1_1 i1_0), (iadd (gety l1_1 i1_0) (1 : Int))), ((iadd (getx l1_1 i1_0) (1 : Int)), (gety l1_1 i1_0))]) = (Cont.pts [((isub (getx l1_1 i1_0) (1 : Int)), (gety l1_1 i1_0)), ((getx l1_1 i1_0), (isub (gety l1_1 i1_0) (1 : Int))), ((getx l1_1 i1_0), (iadd (gety l1_1 i1_0) (1 : Int))), ((iadd (getx l1_1 i1_0) (1 : Int)), (gety l1_1 i1_0))]))) ∧ ((((getx l1_1 i1_0) : Int) = (getx l1_1 i1_0)) ∧ (((gety l1_1 i1_0) : Int) = (gety l1_1 i1_0)) ∧ True) ∧ (((a1 : Int) = a1) ∧ ((a2 : Int) = a2) ∧ True) ∧ (((z1 : Int) = z1) ∧ ((z2 : Int) = z2) ∧ True) ∧ ((true = true) ∧ ((Cont.pts []) = (Cont.pts []))) ∧ True)) ∧ ((([GK.int, GK.pts, GK.pts] : List GK) = ([GK.int, GK.pts, GK.pts] : List GK)) ∧ I2 [GV.int (iadd i2_0 (1 : Int)), GV.pts l2_1, GV.pts l2_2] ∧ μ2 [GV.int (iadd i2_0 (1 : Int)), GV.pts l2_1, GV.pts l2_2] < μ2 [GV.int i2_0, GV.pts l2_1, GV.pts l2_2]))))))))) ∧ ((ilt i2_0 (ilen [((isub (getx l1_1 i1_0) (1 : Int)), (gety l1_1 i1_0)), ((getx l1_1 i1_0), (isub (gety l1_1 i1_0) (1 : Int))), ((getx l1_1 i1_0), (iadd (gety l1_1 i1_0) (1 : Int))), ((iadd (getx l1_1 i1_0) (1 : Int)), (gety l1_1 i1_0))])) = false → ((true = true) ∧ ((True) ∧ (True) ∧ (True) ∧ True) ∧ ((true = true) ∧ ((((iadd i1_0 (1 : Int)) : Int) = (iadd i1_0 (1 : Int))) ∧ (((a1 : Int) = a1) ∧ ((a2 : Int) = a2) ∧ True) ∧ (true = true) ∧ (true = true) ∧ (((a1 : Int) = a1) ∧ ((a2 : Int) = a2) ∧ True) ∧ (((a1 : Int) = a1) ∧ ((a2 : Int) = a2) ∧ True) ∧ ((Cont.boolss l) = (Cont.boolss l)) ∧ (((tblB l) : Bool) = (tblB l)) ∧ (((bnot (tblB l)) : Bool) = (bnot (tblB l))) ∧ (((bnot (tblB l)) : Bool) = (bnot (tblB l))) ∧ (((bite (bnot (tblB l)) true (bnot (freeB l a1 a2))) : Bool) = (bite (bnot (tblB l)) true (bnot (freeB l a1 a2)))) ∧ (((bite (bnot (tblB l)) true (bnot (freeB l a1 a2))) : Bool) = (bite (bnot (tblB l)) true (bnot (freeB l a1 a2)))) ∧ (((bite (bite (bnot (tblB l)) true (bnot (freeB l a1 a2))) true (bnot (freeB l z1 z2))) : Bool) = (bite (bite (bnot (tblB l)) true (bnot (freeB l a1 a2))) true (bnot (freeB l z1 z2)))) ∧ (true = true) ∧ (true = true) ∧ (true = true) ∧ ((Cont.boolss l) = (Cont.boolss l)) ∧ (((a1 : Int) = a1) ∧ ((a2 : Int) = a2) ∧ True) ∧ (((z1 : Int) = z1) ∧ ((z2 : Int) = z2) ∧ True) ∧ True) ∧ (((l2_2 : List Pt) = l2_2) ∧ ((true = true) ∧ ((Cont.pts l2_1) = (Cont.pts l2_1))) ∧ (((a1 : Int) = a1) ∧ ((a2 : Int) = a2) ∧ True) ∧ (((z1 : Int) = z1) ∧ ((z2 : Int) = z2) ∧ True) ∧ ((true = true) ∧ ((Cont.pts []) = (Cont.pts []))) ∧ True)) ∧ ((([GK.int, GK.pts, GK.pts] : List GK) = ([GK.int, GK.pts, GK.pts] : List GK)) ∧ I1 [GV.int (iadd i1_0 (1 : Int)), GV.pts l2_1, GV.pts l2_2] ∧ μ1 [GV.int (iadd i1_0 (1 : Int)), GV.pts l2_1, GV.pts l2_2] < μ1 [GV.int i1_0, GV.pts l1_1, GV.pts l1_2]))))))) ∧ ((ilt i1_0 (ilen l1_1)) = false → ((true = true) ∧ ((True) ∧ (True) ∧ True) ∧ (true = true) ∧ (True) ∧ ((true = true) ∧ ((true = true) ∧ ((true = true) ∧ ((True) ∧ (True) ∧ (True) ∧ (true = true) ∧ ((True) ∧ (True) ∧ True) ∧ ((bnot (mhas l1_2 z1 z2)) = true → ((true = true) ∧ ((True) ∧ True) ∧ ((true = true) ∧ ((Cont.pts []) = (Cont.pts (plF l a1 a2 z1 z2)))) ∧ True)) ∧ ((bnot (mhas l1_2 z1 z2)) = false → ((true = true) ∧ ((True) ∧ (True) ∧ (True) ∧ True) ∧ (true = true) ∧ ((True) ∧ (True) ∧ True) ∧ (True) ∧ ∃ (I3 : List GV → Prop) (μ3 : List GV → Nat), (((true = true) ∧ ((((z1 : Int) = z1) ∧ ((z2 : Int) = z2) ∧ True) ∧ (true = true) ∧ (((z1 : Int) = z1) ∧ ((z2 : Int) = z2) ∧ True) ∧ (true = true) ∧ (((mhas l1_2 z1 z2) : Bool) = (mhas l1_2 z1 z2)) ∧ (((bnot (mhas l1_2 z1 z2)) : Bool) = (bnot (mhas l1_2 z1 z2))) ∧ (((mhas l1_2 z1 z2) : Bool) = (mhas l1_2 z1 z2)) ∧ (true = true) ∧ (((mhas l1_2 z1 z2) : Bool) = (mhas l1_2 z1 z2)) ∧ ((((mgx l1_2 z1 z2) : Int) = (mgx l1_2 z1 z2)) ∧ (((mgy l1_2 z1 z2) : Int) = (mgy l1_2 z1 z2)) ∧ True) ∧ (true = true) ∧ (((z1 : Int) = z1) ∧ ((z2 : Int) = z2) ∧ True) ∧ ((i1_0 : Int) = i1_0) ∧ (true = true) ∧ (((ilen l1_1) : Int) = (ilen l1_1)) ∧ (((ilt i1_0 (ilen l1_1)) : Bool) = (ilt i1_0 (ilen l1_1))) ∧ ((i1_0 : Int) = i1_0) ∧ (((a1 : Int) = a1) ∧ ((a2 : Int) = a2) ∧ True) ∧ (true = true) ∧ (true = true) ∧ (((a1 : Int) = a1) ∧ ((a2 : Int) = a2) ∧ True) ∧ (((a1 : Int) = a1) ∧ ((a2 : Int) = a2) ∧ True) ∧ ((Cont.boolss l) = (Cont.boolss l)) ∧ (((tblB l) : Bool) = (tblB l)) ∧ (((bnot (tblB l)) : Bool) = (bnot (tblB l))) ∧ (((bnot (tblB l)) : Bool) = (bnot (tblB l))) ∧ (((bite (bnot (tblB l)) true (bnot (freeB l a1 a2))) : Bool) = (bite (bnot (tblB l)) true (bnot (freeB l a1 a2)))) ∧ (((bite (bnot (tblB l)) true (bnot (freeB l a1 a2))) : Bool) = (bite (bnot (tblB l)) true (bnot (freeB l a1 a2)))) ∧ (((bite (bite (bnot (tblB l)) true (bnot (freeB l a1 a2))) true (bnot (freeB l z1 z2))) : Bool) = (bite (bite (bnot (tblB l)) true (bnot (freeB l a1 a2))) true (bnot (freeB l z1 z2)))) ∧ (true = true) ∧ (true = true) ∧ (true = true) ∧ ((Cont.boolss l) = (Cont.boolss l)) ∧ (((a1 : Int) = a1) ∧ ((a2 : Int) = a2) ∧ True) ∧ (((z1 : Int) = z1) ∧ ((z2 : Int) = z2) ∧ True) ∧ True) ∧ (((true = true) ∧ ((Cont.pts [(z1, z2)]) = (Cont.pts [(z1, z2)]))) ∧ (((z1 : Int) = z1) ∧ ((z2 : Int) = z2) ∧ True) ∧ ((((mgx l1_2 z1 z2) : Int) = (mgx l1_2 z1 z2)) ∧ (((mgy l1_2 z1 z2) : Int) = (mgy l1_2 z1 z2)) ∧ True) ∧ ((l1_2 : List Pt) = l1_2) ∧ ((true = true) ∧ ((Cont.pts l1_1) = (Cont.pts l1_1))) ∧ (((a1 : Int) = a1) ∧ ((a2 : Int) = a2) ∧ True) ∧ (((z1 : Int) = z1) ∧ ((z2 : Int) = z2) ∧ True) ∧ ((true = true) ∧ ((Cont.pts []) = (Cont.pts []))) ∧ True)) ∧ (([GK.int, GK.int, GK.pts] : List GK) = ([GK.int, GK.int, GK.pts] : List GK)) ∧ I3 [GV.int z1, GV.int z2, GV.pts [(z1, z2)]]) ∧ (∀ i3_0 : Int, ∀ i3_1 : Int, ∀ l3_2 : List Pt, I3 [GV.int i3_0, GV.int i3_1, GV.pts l3_2] → ((true = true) ∧ ((True) ∧ (True) ∧ (True) ∧ True) ∧ ((bnot (band (ieq i3_0 a1) (ieq i3_1 a2))) = true → ((true = true) ∧ ((True) ∧ (True) ∧ True) ∧ (true = true) ∧ (True) ∧ ((True) ∧ (true = true) ∧ ((True) ∧ (True) ∧ (True) ∧ True) ∧ (NLe (ilen l3_2) 1000000000 ∧ NLe (ilen [((mgx l1_2 i3_0 i3_1), (mgy l1_2 i3_0 i3_1))]) 1000000000) ∧ (True) ∧ (true = true) ∧ ((True) ∧ True) ∧ (true = true) ∧ ((True) ∧ True) ∧ (True) ∧ ((true = true) ∧ ((((z1 : Int) = z1) ∧ ((z2 : Int) = z2) ∧ True) ∧ (true = true) ∧ (((z1 : Int) = z1) ∧ ((z2 : Int) = z2) ∧ True) ∧ (true = true) ∧ (((mhas l1_2 z1 z2) : Bool) = (mhas l1_2 z1 z2)) ∧ (((bnot (mhas l1_2 z1 z2)) : Bool) = (bnot (mhas l1_2 z1 z2))) ∧ (((mhas l1_2 z1 z2) : Bool) = (mhas l1_2 z1 z2)) ∧ (true = true) ∧ (((mhas l1_2 z1 z2) : Bool) = (mhas l1_2 z1 z2)) ∧ ((((mgx l1_2 z1 z2) : Int) = (mgx l1_2 z1 z2)) ∧ (((mgy l1_2 z1 z2) : Int) = (mgy l1_2 z1 z2)) ∧ True) ∧ (true = true) ∧ (((z1 : Int) = z1) ∧ ((z2 : Int) = z2) ∧ True) ∧ ((i1_0 : Int) = i1_0) ∧ (true = true) ∧ (((ilen l1_1) : Int) = (ilen l1_1)) ∧ (((ilt i1_0 (ilen l1_1)) : Bool) = (ilt i1_0 (ilen l1_1))) ∧ ((i1_0 : Int) = i1_0) ∧ (((a1 : Int) = a1) ∧ ((a2 : Int) = a2) ∧ True) ∧ (true = true) ∧ (true = true) ∧ (((a1 : Int) = a1) ∧ ((a2 : Int) = a2) ∧ True) ∧ (((a1 : Int) = a1) ∧ ((a2 : Int) = a2) ∧ True) ∧ ((Cont.boolss l) = (Cont.boolss l)) ∧ (((tblB l) : Bool) = (tblB l)) ∧ (((bnot (tblB l)) : Bool) = (bnot (tblB l))) ∧ (((bnot (tblB l)) : Bool) = (bnot (tblB l))) ∧ (((bite (bnot (tblB l)) true (bnot (freeB l a1 a2))) : Bool) = (bite (bnot (tblB l)) true (bnot (freeB l a1 a2)))) ∧ (((bite (bnot (tblB l)) true (bnot (freeB l a1 a2))) : Bool) = (bite (bnot (tblB l)) true (bnot (freeB l a1 a2)))) ∧ (((bite (bite (bnot (tblB l)) true (bnot (freeB l a1 a2))) true (bnot (freeB l z1 z2))) : Bool) = (bite (bite (bnot (tblB l)) true (bnot (freeB l a1 a2))) true (bnot (freeB l z1 z2)))) ∧ (true = true) ∧ (true = true) ∧ (true = true) ∧ ((Cont.boolss l) = (Cont.boolss l)) ∧ (((a1 : Int) = a1) ∧ ((a2 : Int) = a2) ∧ True) ∧ (((z1 : Int) = z1) ∧ ((z2 : Int) = z2) ∧ True) ∧ True) ∧ (((true = true) ∧ ((Cont.pts (iapp l3_2 [((mgx l1_2 i3_0 i3_1), (mgy l1_2 i3_0 i3_1))])) = (Cont.pts (iapp l3_2 [((mgx l1_2 i3_0 i3_1), (mgy l1_2 i3_0 i3_1))])))) ∧ ((((mgx l1_2 i3_0 i3_1) : Int) = (mgx l1_2 i3_0 i3_1)) ∧ (((mgy l1_2 i3_0 i3_1) : Int) = (mgy l1_2 i3_0 i3_1)) ∧ True) ∧ ((((mgx l1_2 z1 z2) : Int) = (mgx l1_2 z1 z2)) ∧ (((mgy l1_2 z1 z2) : Int) = (mgy l1_2 z1 z2)) ∧ True) ∧ ((l1_2 : List Pt) = l1_2) ∧ ((true = true) ∧ ((Cont.pts l1_1) = (Cont.pts l1_1))) ∧ (((a1 : Int) = a1) ∧ ((a2 : Int) = a2) ∧ True) ∧ (((z1 : Int) = z1) ∧ ((z2 : Int) = z2) ∧ True) ∧ ((true = true) ∧ ((Cont.pts []) = (Cont.pts []))) ∧ True)) ∧ ((([GK.int, GK.int, GK.pts] : List GK) = ([GK.int, GK.int, GK.pts] : List GK)) ∧ I3 [GV.int (mgx l1_2 i3_0 i3_1), GV.int (mgy l1_2 i3_0 i3_1), GV.pts (iapp l3_2 [((mgx l1_2 i3_0 i3_1), (mgy l1_2 i3_0 i3_1))])] ∧ μ3 [GV.int (mgx l1_2 i3_0 i3_1), GV.int (mgy l1_2 i3_0 i3_1), GV.pts (iapp l3_2 [((mgx l1_2 i3_0 i3_1), (mgy l1_2 i3_0 i3_1))])] < μ3 [GV.int i3_0, GV.int i3_1, GV.pts l3_2])))) ∧ ((bnot (band (ieq i3_0 a1) (ieq i3_1 a2))) = false → ((true = true) ∧ ((True) ∧ True) ∧ (true = true) ∧ ((True)) ∧ (((True) → ((true = true) ∧ ((True) ∧ (True) ∧ True) ∧ ((true = true) ∧ ((Cont.pts (l3_2.reverse)) = (Cont.pts (plF l a1 a2 z1 z2)))) ∧ True)))))))))))))))))))))) = ev sig_impl_PlanPath xs_impl_PlanPath Tryd.f32.ntmps (fun b => if b == 0 then [.v 9, .b 8, .b 7] else if b == 2 then [.v 76, .b 8, .b 7] else if b == 4 then [.b 18, .b 17] else []) (codeOf Tryd.f32) 0 (initS [.s (.view (.boolss l)), .agg [.int a1, .int a2], .agg [.int z1, .int z2]]) (retK Tryd.f32.results.toList [.nrow 38 (.pts (plF l a1 a2 z1 z2))]) := by kernel_rfl
set_option maxHeartbeats 1000000 in
theorem F_impl_PlanPath : FunOK 32 g_impl_PlanPath := by
  refine fun_F (by kernel_rfl) Tryd.func32 rfl (by kernel_rfl) sig_impl_PlanPath_ok xs_impl_PlanPath_ok ?_
  intro avs sg h hn hl
  unfold g_impl_PlanPath at h
  split at h
  · rename_i l a1 a2 z1 z2
    injection h with h; subst h
    refine ⟨by kernel_rfl, fun b => if b == 0 then [.v 9, .b 8, .b 7] else if b == 2 then [.v 76, .b 8, .b 7] else if b == 4 then [.b 18, .b 17] else [], Eq.mp (V_impl_PlanPath l a1 a2 z1 z2) ?_⟩
    simp only [true_and, and_true, implies_true, and_self, forall_const, true_implies, lenA, lenL, SV.lenOK, Cont.lenOK] at hn hl ⊢
    simp only [ilt_t, ilt_f, ile_t, ile_f, ieq_t, ieq_f, bnot_e, band_e, bite_and, bite_or, NLt_e, NLe_e, NNe_e, NIs_e, imax_e, imin_e, irem_e, Bool.not_eq_true', Bool.not_eq_false', Bool.and_eq_true, Bool.or_eq_true, Bool.or_eq_false_iff, Bool.and_eq_false_iff, Cont.pts.injEq, Cont.ints.injEq, Cont.bools.injEq, Cont.ptss.injEq, Cont.intss.injEq, Cont.boolss.injEq, true_and, and_true, implies_true]
    refine ⟨fun h => by unfold plF; rcases h with (h | h) | h <;> simp [h], fun h => ?_⟩
    obtain ⟨⟨ht, ha⟩, hz⟩ := h
    have hp : plF l a1 a2 z1 z2 = planB (frF l) (a1, a2) (z1, z2) := by unfold plF; simp only [ht, ha, hz, Bool.and_self, if_true]
    have hb := frF_in ht
    have hfa : frF l (a1, a2) = true := ha
    rw [hp]
    refine ⟨rfl, ?_⟩
    refine ⟨fun | [.int k, .pts q, .pts m] => 0 ≤ k ∧ k ≤ ilen q ∧ ∃ b, (q, b) = bfK (frF l) (a1, a2) k.toNat ∧ MR q b m | _ => False, fun | .int k :: _ => (401 - k).toNat | _ => 0, ⟨by omega, by rw [ilen_one]; omega, [-1], rfl, MR.ini a1 a2⟩, ?_⟩
    rintro k q m ⟨k0, kq, b, hs, hM⟩
    obtain ⟨n, rfl⟩ := Int.eq_ofNat_of_zero_le k0
    rw [Int.toNat_natCast] at hs
    have hI := (bfK_ok hfa n).1
    rw [← hs] at hI
    have hlen := bi_len hI hb
    have wf := hI.wf hb
    have hl0 : ilen q ≤ 400 := wf.2.1
    refine ⟨fun hc => ⟨⟨⟨k0, hc⟩, hc⟩, ?_⟩, fun hc => ⟨fun hx => ?_, fun hx => ?_⟩⟩
    · have hcn : q[n]? = some (getx q n, gety q n) := by have := pt_at k0 hc; rwa [Int.toNat_natCast] at this
      have hfr : freeB l (getx q n) (gety q n) = true := hI.free _ (List.mem_of_getElem? hcn)
      have hin := free_in ht hfr
      have e1 : isub (getx q n) 1 = getx q n - 1 := isub_e (by omega) (by omega)
      have e2 : isub (gety q n) 1 = gety q n - 1 := isub_e (by omega) (by omega)
      have e3 : iadd (getx q n) 1 = getx q n + 1 := iadd_e (by omega) (by omega)
      have e4 : iadd (gety q n) 1 = gety q n + 1 := iadd_e (by omega) (by omega)
      rw [e1, e2, e3, e4]
      have hN : [(getx q n - 1, gety q n), (getx q n, gety q n - 1), (getx q n, gety q n + 1), (getx q n + 1, gety q n)] = nbs (getx q n, gety q n) := rfl
      rw [hN]
      have hl4 : ilen (nbs (getx q n, gety q n)) = 4 := by simp [nbs, ilen]
      have hna : ∀ x ∈ nbs (getx q n, gety q n), adj (getx q n, gety q n) x := fun x hx => hx
      have hnS : bfS (frF l) n (q, b) = bfN (frF l) n (nbs (getx q n, gety q n)) (q, b) := by
        have := bfS_at (fr := frF l) (s := (q, b)) k0 hc
        rw [Int.toNat_natCast] at this; exact this
      generalize nbs (getx q n, gety q n) = nb at *
      rw [hl4]
      refine ⟨fun | [.int j, .pts q', .pts m'] => 0 ≤ j ∧ j ≤ 4 ∧ ∃ b', (q', b') = bfN (frF l) n (nb.take j.toNat) (q, b) ∧ MR q' b' m' | _ => False, fun | .int j :: _ => (4 - j).toNat | _ => 0, ⟨by omega, by omega, b, rfl, hM⟩, ?_⟩
      rintro j q' m' ⟨j0, j4, b', hs', hM'⟩
      obtain ⟨hI', hX, -⟩ := bfN_ok (nb.take j.toNat) (q, b) hI hcn (fun x hx => hna x (List.mem_of_mem_take hx))
      rw [← hs'] at hI' hX
      have hl' := (hI'.wf hb).2.1
      have hlb := hI'.len
      simp only at hl' hlb
      refine ⟨fun hj => ?_, fun hj => ?_⟩
      · have ej : iadd j 1 = j + 1 := iadd_e (by omega) (by omega)
        have ht1 := take_1 (l := nb) j0 (by omega)
        have hst : bfN (frF l) n (nb.take (j + 1).toNat) (q, b) = if !(q'.contains (getx nb j, gety nb j)) && frF l (getx nb j, gety nb j) then (q' ++ [(getx nb j, gety nb j)], b' ++ [(n : Int)]) else (q', b') := by
          rw [ht1, bfN_app, ← hs', bfN_one]
        rw [← hM'.has] at hst
        rw [ej]
        generalize getx nb j = X at *
        generalize gety nb j = Y at *
        refine ⟨⟨⟨j0, hj⟩, hj⟩, fun hx2 => ⟨hx2.1, ⟨by omega, by rw [ilen_one]; omega⟩, ⟨by omega, by omega, b' ++ [(n : Int)], ?_, ?_⟩, by show (4 - (j + 1)).toNat < (4 - j).toNat; omega⟩, fun hx2 => ⟨⟨by omega, by omega, b', ?_, hM'⟩, by show (4 - (j + 1)).toNat < (4 - j).toNat; omega⟩⟩
        · have hf2 : frF l (X, Y) = true := hx2.2
          rw [hst, hx2.1, hf2]
          unfold iapp
          rfl
        · have hk' : q'[n]? = some (getx q n, gety q n) := hX.q hcn
          have := hM'.add hlb hk' (n := (X, Y)) hx2.1 (fun i j hi hj => by
            obtain ⟨j', e, h1, h2, c, d, h3, _⟩ := hI'.back i _ hi hj
            have : j = j' := by omega
            subst this
            exact (List.getElem?_eq_some_iff.1 h3).1)
          unfold iapp
          exact this
        · rw [hst]
          rcases hx2 with h | h
          · rw [h]; rfl
          · have hf2 : frF l (X, Y) = false := h
            rw [hf2]; simp
      · have e4 : j = 4 := by omega
        subst e4
        have hnl : nb.take (4 : Int).toNat = nb := List.take_of_length_le (by unfold ilen at hl4; omega)
        rw [hnl, ← hnS] at hs'
        have hK : (q', b') = bfK (frF l) (a1, a2) (n + 1) := by rw [hs', hs]; rfl
        have hEx : Ext (q, b) (q', b') := hX
        rw [iadd_e (by omega) (by omega)]
        have hgk := (ext_get hEx k0 hc).2.2
        simp only at hgk
        exact ⟨⟨by omega, by omega, b', by rw [show ((n : Int) + 1).toNat = n + 1 by omega]; exact hK, hM'⟩, by show (401 - ((n : Int) + 1)).toNat < (401 - (n : Int)).toNat; omega⟩
    · refine (plan_none hb hfa (k := n) (by rw [← hs]; unfold ilen at hc; simp only; omega) ?_).symm
      rw [← hs]
      rw [hM.has, List.contains_eq_mem, decide_eq_false_iff_not] at hx
      exact hx
    · rw [hM.has, List.contains_eq_mem, decide_eq_true_eq] at hx
      obtain ⟨i, hi, e⟩ := List.mem_iff_getElem.1 hx
      have e' : q[i]? = some (z1, z2) := by rw [List.getElem?_eq_getElem hi, e]
      obtain ⟨-, mm, hPB, hCp⟩ := plan_at hb hfa (k := n) (i := i) (z := (z1, z2)) (by rw [← hs]; exact e') (i + 1) (by omega)
      rw [← hs] at hCp
      have hpl : (planB (frF l) (a1, a2) (z1, z2)).length ≤ 400 := by
        have := (hPB.toI hb).len
        unfold ilen at this; omega
      refine ⟨fun | [.int x, .int y, .pts p] => ∃ i P r, q[i]? = some (x, y) ∧ p.reverse = (x, y) :: r ∧ Cp q b i P ∧ P ++ r = planB (frF l) (a1, a2) (z1, z2) | _ => False, fun | [_, _, .pts p] => (401 - ilen p).toNat | _ => 0, ⟨i, _, [], e', rfl, hCp, List.append_nil _⟩, ?_⟩
      rintro x y p ⟨i, P, r, hq, hr, hC, hP⟩
      have hlp : ilen p + P.length = 1 + (planB (frF l) (a1, a2) (z1, z2)).length := by
        have h1 := congrArg List.length hr
        have h2 := congrArg List.length hP
        simp at h1 h2
        unfold ilen; omega
      have hP1 : 1 ≤ P.length := by cases hC <;> simp
      refine ⟨fun hx2 => ?_, fun hx2 => ?_⟩
      · cases hC with
        | z h0 =>
          exfalso
          rw [hI.hd] at hq
          injection hq with hq; injection hq with q1 q2
          rcases hx2 with h | h
          · exact h q1.symm
          · exact h q2.symm
        | s h0 hbi hqi hC' =>
          rename_i j c P'
          rw [hq] at hqi
          injection hqi with hqi
          subst hqi
          have hg := hM.get i x y j h0 hq hbi
          refine ⟨⟨by omega, by rw [ilen_one]; omega⟩, ⟨j, P', (x, y) :: r, hg, ?_, hC', by rw [← hP]; simp⟩, ?_⟩
          · unfold iapp
            rw [List.reverse_append, hr]; rfl
          · show (401 - ilen (iapp p [(mgx m x y, mgy m x y)])).toNat < (401 - ilen p).toNat
            rw [ilen_app, ilen_one]
            omega
      · have h0 : i = 0 := by
          refine (List.getElem?_inj (List.getElem?_eq_some_iff.1 hq).1 hI.nd).1 ?_
          show q[i]? = q[0]?
          rw [hq, hI.hd, hx2.1, hx2.2]
        subst h0
        cases hC with
        | z h0 =>
          rw [hI.hd] at h0
          injection h0 with h0
          subst h0
          rw [hr, ← hP, hx2.1, hx2.2]; rfl
        | s h0 _ _ _ => omega
  · cases h
def firstN (n : Int) (f : Int → Bool) : Int := match (List.range n.toNat).find? fun (j : Nat) => !f j with
  | some j => (j : Int)
  | none => -1
theorem firstN_at {n k : Int} {f : Int → Bool} (h0 : 0 ≤ k) (h1 : k < n) (hk : f k = false) (h : ∀ j, 0 ≤ j → j < k → f j = true) : firstN n f = k := by
  have : (List.range n.toNat).find? (fun (j : Nat) => !f j) = some k.toNat := by
    rw [List.find?_range_eq_some]
    refine ⟨by rw [Int.toNat_of_nonneg h0, hk]; rfl, List.mem_range.2 (by omega), fun j hj => ?_⟩
    rw [h j (by omega) (by omega)]; rfl
  unfold firstN
  rw [this]
  simp only [Int.toNat_of_nonneg h0]
theorem firstN_no {n : Int} {f : Int → Bool} (h : ∀ j, 0 ≤ j → j < n → f j = true) : firstN n f = -1 := by
  have : (List.range n.toNat).find? (fun (j : Nat) => !f j) = none := by
    rw [List.find?_eq_none]
    intro j hj
    have := List.mem_range.1 hj
    rw [h j (by omega) (by omega)]; simp
  unfold firstN
  rw [this]
theorem firstN_spec {n : Int} (f : Int → Bool) : (firstN n f = -1 ∧ ∀ j, 0 ≤ j → j < n → f j = true) ∨ ((0 ≤ firstN n f ∧ firstN n f < n) ∧ f (firstN n f) = false ∧ ∀ j, 0 ≤ j → j < firstN n f → f j = true) := by
  have key : ∀ k : Nat, ((k : Int) ≤ n → ∀ j, 0 ≤ j → j < (k : Int) → f j = true) ∨ ∃ i : Int, 0 ≤ i ∧ i < n ∧ f i = false ∧ ∀ j, 0 ≤ j → j < i → f j = true := by
    intro k
    induction k with
    | zero => left; intro _ j j0 j1; omega
    | succ k ih =>
      rcases ih with ih | ih
      · by_cases hk : (k : Int) < n
        · cases hf : f k with
          | true =>
            left
            intro _ j j0 j1
            by_cases h : j < (k : Int)
            · exact ih (by omega) j j0 h
            · rw [show j = (k : Int) by omega]; exact hf
          | false => exact .inr ⟨k, by omega, hk, hf, ih (by omega)⟩
        · left; intro h; omega
      · exact .inr ih
  rcases key n.toNat with h | ⟨i, i0, i1, hf, ha⟩
  · by_cases hn : 0 ≤ n
    · left
      have h' : ∀ j, 0 ≤ j → j < n → f j = true := fun j j0 j1 => h (by omega) j j0 (by omega)
      exact ⟨firstN_no h', h'⟩
    · left
      have h' : ∀ j, 0 ≤ j → j < n → f j = true := fun j j0 j1 => by omega
      exact ⟨firstN_no h', h'⟩
  · right
    rw [firstN_at i0 i1 hf ha]
    exact ⟨⟨i0, i1⟩, hf, ha⟩
def fcE (a1 a2 a3 : List Int) (l : List (List Pt)) (m : List Int) : Bool := jvB a1 a2 a3 m && sceneB l && acB a1 m l
def fcF (a1 a2 a3 : List Int) (r : List (List Int)) (l : List (List Pt)) : Int := if armB a1 a2 a3 && sceneB l && decide (ilen r ≤ 400) then firstN (ilen r) (fun i => fcE a1 a2 a3 l (getl r i)) else -2
def g_impl_FirstContact : List AV → Option Sg
  | [.agg [.view (.ints a1), .view (.ints a2), .view (.ints a3)], .s (.view (.intss r)), .s (.view (.ptss l))] => some ⟨True, [.s (.int (fcF a1 a2 a3 r l))]⟩
  | _ => none
def g_impl_JointsValid : List AV → Option Sg
  | [.agg [.view (.ints a1), .view (.ints a2), .view (.ints a3)], .s (.view (.ints j))] => some ⟨True, [.s (.bool (jvB a1 a2 a3 j))]⟩
  | _ => none
def sig_impl_JointsValid : FuncId → List AV → Option Sg := sigL [(66, g_impl_ArmValid), (67, g_impl_within)]
def xs_impl_JointsValid : XS := ⟨xsigL [], ysigL []⟩
theorem sig_impl_JointsValid_ok : SigOK sig_impl_JointsValid := sigL_cons F_impl_ArmValid (sigL_cons F_impl_within sigL_nil)
theorem xs_impl_JointsValid_ok : XSigOK xs_impl_JointsValid := ⟨xsigL_nil, ysigL_nil⟩
theorem V_impl_JointsValid (a1 : List Int) (a2 : List Int) (a3 : List Int) (j : List Int) : ((true = true) ∧ ((True) ∧ (True) ∧ True) ∧ (true = true) ∧ ((True) ∧ ((True)) ∧ (True) ∧ (True) ∧ (NIs (bnot (armB a1 a2 a3)) false → True) ∧ (NIs (bnot (armB a1 a2 a3)) false → True) ∧ (NIs (bnot (armB a1 a2 a3)) false → True) ∧ (NIs (bnot (armB a1 a2 a3)) false → True) ∧ (NIs (bnot (armB a1 a2 a3)) false → True) ∧ (NIs (bnot (armB a1 a2 a3)) false → True) ∧ (True) ∧ True) ∧ ((bite (bnot (armB a1 a2 a3)) true (bnot (ieq (ilen j) (ilen a1)))) = true → ((true = true) ∧ ((True) ∧ True) ∧ ((false : Bool) = (jvB a1 a2 a3 j)) ∧ True)) ∧ ((bite (bnot (armB a1 a2 a3)) true (bnot (ieq (ilen j) (ilen a1)))) = false → ((true = true) ∧ ((True) ∧ (True) ∧ (True) ∧ True) ∧ ∃ (I1 : List GV → Prop) (μ1 : List GV → Nat), (((true = true) ∧ (((false : Bool) = false) ∧ (((0 : Int) : Int) = (0 : Int)) ∧ ((Cont.ints j) = (Cont.ints j)) ∧ (((ilen j) : Int) = (ilen j)) ∧ (((Cont.ints a1) = (Cont.ints a1)) ∧ ((Cont.ints a2) = (Cont.ints a2)) ∧ ((Cont.ints a3) = (Cont.ints a3)) ∧ True) ∧ (((armB a1 a2 a3) : Bool) = (armB a1 a2 a3)) ∧ (((bnot (armB a1 a2 a3)) : Bool) = (bnot (armB a1 a2 a3))) ∧ (((bnot (armB a1 a2 a3)) : Bool) = (bnot (armB a1 a2 a3))) ∧ (((bite (bnot (armB a1 a2 a3)) true (bnot (ieq (ilen j) (ilen a1)))) : Bool) = (bite (bnot (armB a1 a2 a3)) true (bnot (ieq (ilen j) (ilen a1))))) ∧ (true = true) ∧ (((Cont.ints a1) = (Cont.ints a1)) ∧ ((Cont.ints a2) = (Cont.ints a2)) ∧ ((Cont.ints a3) = (Cont.ints a3)) ∧ True) ∧ ((Cont.ints j) = (Cont.ints j)) ∧ True) ∧ ((((Cont.ints a1) = (Cont.ints a1)) ∧ ((Cont.ints a2) = (Cont.ints a2)) ∧ ((Cont.ints a3) = (Cont.ints a3)) ∧ True) ∧ True)) ∧ (([GK.int, GK.bool] : List GK) = ([GK.int, GK.bool] : List GK)) ∧ I1 [GV.int (0 : Int), GV.bool false]) ∧ (∀ i1_0 : Int, ∀ b1_1 : Bool, I1 [GV.int i1_0, GV.bool b1_1] → ((true = true) ∧ ((True) ∧ True) ∧ ((ilt i1_0 (ilen j)) = true → ((true = true) ∧ ((True) ∧ (NLe 0 i1_0 ∧ NLt i1_0 (ilen j)) ∧ (True) ∧ (True) ∧ (True) ∧ True) ∧ (true = true) ∧ ((True) ∧ (True) ∧ (True) ∧ (True) ∧ (NLe 0 i1_0 ∧ NLt i1_0 (ilen a2)) ∧ (True) ∧ (True) ∧ (True) ∧ (True) ∧ (NLe 0 i1_0 ∧ NLt i1_0 (ilen a3)) ∧ (True) ∧ ((True)) ∧ (True) ∧ True) ∧ ((bnot (inB (geti j i1_0) (geti a2 i1_0) (geti a3 i1_0))) = true → ((true = true) ∧ ((True) ∧ True) ∧ ((false : Bool) = (jvB a1 a2 a3 j)) ∧ True)) ∧ ((bnot (inB (geti j i1_0) (geti a2 i1_0) (geti a3 i1_0))) = false → ((true = true) ∧ ((True) ∧ (True) ∧ True) ∧ ((true = true) ∧ (((b1_1 : Bool) = b1_1) ∧ (((iadd i1_0 (1 : Int)) : Int) = (iadd i1_0 (1 : Int))) ∧ ((Cont.ints j) = (Cont.ints j)) ∧ (((ilen j) : Int) = (ilen j)) ∧ (((Cont.ints a1) = (Cont.ints a1)) ∧ ((Cont.ints a2) = (Cont.ints a2)) ∧ ((Cont.ints a3) = (Cont.ints a3)) ∧ True) ∧ (((armB a1 a2 a3) : Bool) = (armB a1 a2 a3)) ∧ (((bnot (armB a1 a2 a3)) : Bool) = (bnot (armB a1 a2 a3))) ∧ (((bnot (armB a1 a2 a3)) : Bool) = (bnot (armB a1 a2 a3))) ∧ (((bite (bnot (armB a1 a2 a3)) true (bnot (ieq (ilen j) (ilen a1)))) : Bool) = (bite (bnot (armB a1 a2 a3)) true (bnot (ieq (ilen j) (ilen a1))))) ∧ (true = true) ∧ (((Cont.ints a1) = (Cont.ints a1)) ∧ ((Cont.ints a2) = (Cont.ints a2)) ∧ ((Cont.ints a3) = (Cont.ints a3)) ∧ True) ∧ ((Cont.ints j) = (Cont.ints j)) ∧ True) ∧ ((((Cont.ints a1) = (Cont.ints a1)) ∧ ((Cont.ints a2) = (Cont.ints a2)) ∧ ((Cont.ints a3) = (Cont.ints a3)) ∧ True) ∧ True)) ∧ ((([GK.int, GK.bool] : List GK) = ([GK.int, GK.bool] : List GK)) ∧ I1 [GV.int (iadd i1_0 (1 : Int)), GV.bool b1_1] ∧ μ1 [GV.int (iadd i1_0 (1 : Int)), GV.bool b1_1] < μ1 [GV.int i1_0, GV.bool b1_1]))))) ∧ ((ilt i1_0 (ilen j)) = false → ((true = true) ∧ ((True) ∧ True) ∧ ((true : Bool) = (jvB a1 a2 a3 j)) ∧ True))))))) = ev sig_impl_JointsValid xs_impl_JointsValid Tryd.f48.ntmps (fun b => if b == 0 then [.v 20, .v 4] else []) (codeOf Tryd.f48) 0 (initS [.agg [.view (.ints a1), .view (.ints a2), .view (.ints a3)], .s (.view (.ints j))]) (retK Tryd.f48.results.toList [.s (.bool (jvB a1 a2 a3 j))]) := by kernel_rfl
set_option maxHeartbeats 400000 in
theorem F_impl_JointsValid : FunOK 48 g_impl_JointsValid := by
  refine fun_F (by kernel_rfl) Tryd.func48 rfl (by kernel_rfl) sig_impl_JointsValid_ok xs_impl_JointsValid_ok ?_
  intro avs sg h hn hl
  unfold g_impl_JointsValid at h
  split at h
  · rename_i a1 a2 a3 j
    injection h with h; subst h
    refine ⟨by kernel_rfl, fun b => if b == 0 then [.v 20, .v 4] else [], Eq.mp (V_impl_JointsValid a1 a2 a3 j) ?_⟩
    simp only [true_and, and_true, implies_true, and_self, forall_const, true_implies, lenA, lenL, SV.lenOK, Cont.lenOK] at hn hl ⊢
    have h0 := ilen_0 j
    simp only [ilt_t, ilt_f, ile_t, ile_f, ieq_t, ieq_f, bnot_e, band_e, bite_and, bite_or, NLt_e, NLe_e, NNe_e, NIs_e, imax_e, imin_e, irem_e, Bool.not_eq_true', Bool.not_eq_false', Bool.and_eq_true, Bool.or_eq_true, Bool.or_eq_false_iff, Bool.and_eq_false_iff, Cont.pts.injEq, Cont.ints.injEq, Cont.bools.injEq, Cont.ptss.injEq, Cont.intss.injEq, Cont.boolss.injEq, true_and, and_true, implies_true]
    refine ⟨fun h => ?_, fun h => ?_⟩
    · unfold jvB; rcases h with h | h <;> simp [h]
    obtain ⟨ha, hl1⟩ := h
    obtain ⟨l2, l3⟩ := armB_len ha
    refine ⟨fun | .int k :: _ => 0 ≤ k ∧ k ≤ ilen j ∧ (∀ i, 0 ≤ i → i < k → inB (geti j i) (geti a2 i) (geti a3 i) = true) | _ => False, fun | .int k :: _ => (ilen j - k).toNat | _ => 0, ⟨by omega, by omega, fun i h0 h1 => by omega⟩, ?_⟩
    rintro k XX ⟨hk0, hk1, hk⟩
    refine ⟨fun hc => ⟨⟨hk0, hc⟩, ⟨⟨hk0, by omega⟩, hk0, by omega⟩, fun hv => ?_, fun hv => ?_⟩, fun hc => ?_⟩
    · unfold jvB; rw [allN_no k hk0 hc hv]; simp
    · rw [iadd_1 hk0 hc hl.2]
      exact ⟨⟨by omega, by omega, upTo hk hv⟩, by show (ilen j - (k + 1)).toNat < (ilen j - k).toNat; omega⟩
    · unfold jvB; rw [ha, allN_mk fun i j0 j1 => hk i j0 (by omega)]; simp [hl1]
  · cases h
end Go.Proofs.YtdkpnlhcodogeaaDoor

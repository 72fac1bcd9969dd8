/- 'FnFreeCells': for every code both sides tell the same table of free cells; it has the sizes of GridSize; and a cell is free exactly if the arm is clear at its angles. Conditions: none. -/
import Derived.Test.YtdkpnlhcodogeaaDoorFnFreeCellsP2
namespace Go.Proofs.YtdkpnlhcodogeaaDoor
open Go.ChangeShapes Go.WideShapes Go.ChangeAt Go.RowKit
set_option maxRecDepth 100000
set_option linter.unusedSimpArgs false
set_option linter.unusedVariables false
def g_spec_SceneValid : List AV → Option Sg
  | [.s (.view (.ptss l))] => some ⟨True, [.s (.bool (sceneB l))]⟩
  | _ => none
def sig_spec_SceneValid : FuncId → List AV → Option Sg := sigL [(93, g_spec_ConvexValid)]
def xs_spec_SceneValid : XS := ⟨xsigL [], ysigL []⟩
theorem sig_spec_SceneValid_ok : SigOK sig_spec_SceneValid := sigL_cons F_spec_ConvexValid sigL_nil
theorem xs_spec_SceneValid_ok : XSigOK xs_spec_SceneValid := ⟨xsigL_nil, ysigL_nil⟩
theorem V_spec_SceneValid (l : List (List Pt)) : ((true = true) ∧ ((True) ∧ True) ∧ (true = true) ∧ ((True) ∧ True) ∧ ∃ (I1 : List GV → Prop) (μ1 : List GV → Nat), (((true = true) ∧ (((false : Bool) = false) ∧ (((0 : Int) : Int) = (0 : Int)) ∧ ((Cont.ptss l) = (Cont.ptss l)) ∧ True) ∧ (True)) ∧ (([GK.int, GK.bool] : List GK) = ([GK.int, GK.bool] : List GK)) ∧ I1 [GV.int (0 : Int), GV.bool false]) ∧ (∀ i1_0 : Int, ∀ b1_1 : Bool, I1 [GV.int i1_0, GV.bool b1_1] → ((true = true) ∧ ((True) ∧ (True) ∧ (True) ∧ (True) ∧ True) ∧ ((ilt i1_0 (ilen l)) = true → ((true = true) ∧ ((True) ∧ (True) ∧ (NLe 0 i1_0 ∧ NLt i1_0 (ilen l)) ∧ (True) ∧ ((True)) ∧ (True) ∧ True) ∧ ((bnot (convB (getl l i1_0))) = true → ((true = true) ∧ ((True) ∧ True) ∧ ((false : Bool) = (sceneB l)) ∧ True)) ∧ ((bnot (convB (getl l i1_0))) = false → ((true = true) ∧ ((True) ∧ (True) ∧ (True) ∧ True) ∧ ((true = true) ∧ (((b1_1 : Bool) = b1_1) ∧ (((iadd i1_0 (1 : Int)) : Int) = (iadd i1_0 (1 : Int))) ∧ ((Cont.ptss l) = (Cont.ptss l)) ∧ True) ∧ (True)) ∧ ((([GK.int, GK.bool] : List GK) = ([GK.int, GK.bool] : List GK)) ∧ I1 [GV.int (iadd i1_0 (1 : Int)), GV.bool b1_1] ∧ μ1 [GV.int (iadd i1_0 (1 : Int)), GV.bool b1_1] < μ1 [GV.int i1_0, GV.bool b1_1]))))) ∧ ((ilt i1_0 (ilen l)) = false → ((true = true) ∧ ((True) ∧ (True) ∧ (True) ∧ (True) ∧ True) ∧ (((ile (ilen l) (6 : Int)) : Bool) = (sceneB l)) ∧ True))))) = ev sig_spec_SceneValid xs_spec_SceneValid Tryd.f55.ntmps (fun b => if b == 0 then [.v 3, .v 2] else []) (codeOf Tryd.f55) 0 (initS [.s (.view (.ptss l))]) (retK Tryd.f55.results.toList [.s (.bool (sceneB l))]) := by kernel_rfl
set_option maxHeartbeats 400000 in
theorem F_spec_SceneValid : FunOK 55 g_spec_SceneValid := by
  refine fun_F (by kernel_rfl) Tryd.func55 rfl (by kernel_rfl) sig_spec_SceneValid_ok xs_spec_SceneValid_ok ?_
  intro avs sg h hn hl
  unfold g_spec_SceneValid at h
  split at h
  · rename_i l
    injection h with h; subst h
    refine ⟨by kernel_rfl, fun b => if b == 0 then [.v 3, .v 2] else [], Eq.mp (V_spec_SceneValid l) ?_⟩
    simp only [true_and, and_true, implies_true, and_self, forall_const, true_implies, lenA, lenL, SV.lenOK, Cont.lenOK] at hn hl ⊢
    have h0 := ilen_0 l
    simp only [ilt_t, ilt_f, ile_t, ile_f, ieq_t, ieq_f, bnot_e, band_e, bite_and, bite_or, NLt_e, NLe_e, NNe_e, NIs_e, imax_e, imin_e, irem_e, Bool.not_eq_true', Bool.not_eq_false', Bool.and_eq_true, Bool.or_eq_true, Bool.or_eq_false_iff, Bool.and_eq_false_iff, Cont.pts.injEq, Cont.ints.injEq, Cont.bools.injEq, Cont.ptss.injEq, Cont.intss.injEq, Cont.boolss.injEq, true_and, and_true, implies_true]
    refine ⟨fun | .int k :: _ => 0 ≤ k ∧ k ≤ ilen l ∧ (∀ i, 0 ≤ i → i < k → convB (getl l i) = true) | _ => False, fun | .int k :: _ => (ilen l - k).toNat | _ => 0, ?_, ?_⟩
    · exact ⟨Int.le_refl 0, h0, fun j h0 h1 => absurd h1 (by omega)⟩
    · rintro k _ ⟨hk0, hk1, hk⟩
      simp only [ilt_t, ilt_f, ile_t, ile_f, ieq_t, ieq_f, bnot_e, band_e, bite_and, bite_or, NLt_e, NLe_e, NNe_e, NIs_e, imax_e, imin_e, irem_e, Bool.not_eq_true', Bool.not_eq_false', Bool.and_eq_true, Bool.or_eq_true, Bool.or_eq_false_iff, Bool.and_eq_false_iff, Cont.pts.injEq, Cont.ints.injEq, Cont.bools.injEq, Cont.ptss.injEq, Cont.intss.injEq, Cont.boolss.injEq, true_and, and_true, implies_true]
      refine ⟨fun hkn => ⟨⟨hk0, hkn⟩, fun hx => ?_, fun hx => ?_⟩, fun hkn => ?_⟩
      · unfold sceneB; rw [allN_no k hk0 hkn hx]; simp
      · rw [iadd_1 hk0 hkn hl.1]
        exact ⟨⟨by omega, by omega, upTo hk hx⟩, by omega⟩
      · unfold sceneB; rw [allN_mk fun j j0 j1 => hk j j0 (by omega)]; simp
  · cases h
def g_spec_Degrees : List AV → Option Sg
  | [.s (.int d)] => some ⟨True, [.s (.int (d % 360))]⟩
  | _ => none
def sig_spec_Degrees : FuncId → List AV → Option Sg := sigL []
def xs_spec_Degrees : XS := ⟨xsigL [], ysigL []⟩
theorem sig_spec_Degrees_ok : SigOK sig_spec_Degrees := sigL_nil
theorem xs_spec_Degrees_ok : XSigOK xs_spec_Degrees := ⟨xsigL_nil, ysigL_nil⟩
theorem V_spec_Degrees (d : Int) : ((true = true) ∧ ((True) ∧ True) ∧ (true = true) ∧ ((True) ∧ (NNe (360 : Int) 0) ∧ (True) ∧ True) ∧ (true = true) ∧ ((True) ∧ (True) ∧ True) ∧ ((ilt (irem d (360 : Int)) (0 : Int)) = true → ((true = true) ∧ ((True) ∧ (True) ∧ (True) ∧ True) ∧ (true = true) ∧ ((True) ∧ (True) ∧ True) ∧ (((iadd (irem d (360 : Int)) (360 : Int)) : Int) = (d % 360)) ∧ True)) ∧ ((ilt (irem d (360 : Int)) (0 : Int)) = false → ((true = true) ∧ ((True) ∧ (True) ∧ True) ∧ (((irem d (360 : Int)) : Int) = (d % 360)) ∧ True))) = ev sig_spec_Degrees xs_spec_Degrees Tryd.f120.ntmps (fun b => []) (codeOf Tryd.f120) 0 (initS [.s (.int d)]) (retK Tryd.f120.results.toList [.s (.int (d % 360))]) := by kernel_rfl
set_option maxHeartbeats 400000 in
theorem F_spec_Degrees : FunOK 120 g_spec_Degrees := by
  refine fun_F (by kernel_rfl) Tryd.func120 rfl (by kernel_rfl) sig_spec_Degrees_ok xs_spec_Degrees_ok ?_
  intro avs sg h hn hl
  unfold g_spec_Degrees at h
  split at h
  · rename_i d
    injection h with h; subst h
    refine ⟨by kernel_rfl, fun b => [], Eq.mp (V_spec_Degrees d) ?_⟩
    simp only [true_and, and_true, implies_true, and_self, forall_const, true_implies, lenA, lenL, SV.lenOK, Cont.lenOK] at hn hl ⊢
    simp only [ilt_t, ilt_f, ile_t, ile_f, ieq_t, ieq_f, bnot_e, band_e, bite_and, bite_or, NLt_e, NLe_e, NNe_e, NIs_e, imax_e, imin_e, irem_e, Bool.not_eq_true', Bool.not_eq_false', Bool.and_eq_true, Bool.or_eq_true, Bool.or_eq_false_iff, Bool.and_eq_false_iff, Cont.pts.injEq, Cont.ints.injEq, Cont.bools.injEq, Cont.ptss.injEq, Cont.intss.injEq, Cont.boolss.injEq, true_and, and_true, implies_true]
    obtain ⟨h1, h2, h3⟩ := tmod_emod d
    refine ⟨by omega, fun h => ?_, fun h => ?_⟩
    · rw [iadd_e (by omega) (by omega)]; exact h2 h
    · exact h3 h
  · cases h
def g_spec_Cosine : List AV → Option Sg
  | [.s (.int d)] => some ⟨True, [.s (.int (cosF d))]⟩
  | _ => none
def sig_spec_Cosine : FuncId → List AV → Option Sg := sigL [(120, g_spec_Degrees), (101, g_spec_Sine)]
def xs_spec_Cosine : XS := ⟨xsigL [], ysigL []⟩
theorem sig_spec_Cosine_ok : SigOK sig_spec_Cosine := sigL_cons F_spec_Degrees (sigL_cons F_spec_Sine sigL_nil)
theorem xs_spec_Cosine_ok : XSigOK xs_spec_Cosine := ⟨xsigL_nil, ysigL_nil⟩
theorem V_spec_Cosine (d : Int) : ((true = true) ∧ ((True) ∧ True) ∧ (true = true) ∧ ((True) ∧ ((True)) ∧ (True) ∧ ((True)) ∧ (True) ∧ True) ∧ (((sinF (iadd (d % 360) (90 : Int))) : Int) = (cosF d)) ∧ True) = ev sig_spec_Cosine xs_spec_Cosine Tryd.f102.ntmps (fun b => []) (codeOf Tryd.f102) 0 (initS [.s (.int d)]) (retK Tryd.f102.results.toList [.s (.int (cosF d))]) := by kernel_rfl
set_option maxHeartbeats 400000 in
theorem F_spec_Cosine : FunOK 102 g_spec_Cosine := by
  refine fun_F (by kernel_rfl) Tryd.func102 rfl (by kernel_rfl) sig_spec_Cosine_ok xs_spec_Cosine_ok ?_
  intro avs sg h hn hl
  unfold g_spec_Cosine at h
  split at h
  · rename_i d
    injection h with h; subst h
    refine ⟨by kernel_rfl, fun b => [], Eq.mp (V_spec_Cosine d) ?_⟩
    simp only [true_and, and_true, implies_true, and_self, forall_const, true_implies, lenA, lenL, SV.lenOK, Cont.lenOK] at hn hl ⊢
    try simp only [ilt_t, ilt_f, ile_t, ile_f, ieq_t, ieq_f, bnot_e, band_e, bite_and, bite_or, NLt_e, NLe_e, NNe_e, NIs_e, imax_e, imin_e, irem_e, Bool.not_eq_true', Bool.not_eq_false', Bool.and_eq_true, Bool.or_eq_true, Bool.or_eq_false_iff, Bool.and_eq_false_iff, Cont.pts.injEq, Cont.ints.injEq, Cont.bools.injEq, Cont.ptss.injEq, Cont.intss.injEq, Cont.boolss.injEq, true_and, and_true, implies_true]
    unfold cosF
    rw [iadd_e (by omega) (by omega)]
  · cases h
def g_spec_l1Floor : List AV → Option Sg
  | [.s (.int a), .s (.int b)] => some ⟨1 ≤ b ∧ -9223372036854775807 ≤ a ∧ a ≤ 9223372036854775807, [.s (.int (a / b))]⟩
  | _ => none
def sig_spec_l1Floor : FuncId → List AV → Option Sg := sigL []
def xs_spec_l1Floor : XS := ⟨xsigL [], ysigL []⟩
theorem sig_spec_l1Floor_ok : SigOK sig_spec_l1Floor := sigL_nil
theorem xs_spec_l1Floor_ok : XSigOK xs_spec_l1Floor := ⟨xsigL_nil, ysigL_nil⟩
theorem V_spec_l1Floor (a : Int) (b : Int) : ((true = true) ∧ ((True) ∧ True) ∧ (true = true) ∧ ((True) ∧ (True) ∧ (NNe b 0) ∧ (True) ∧ True) ∧ (true = true) ∧ ((True) ∧ (True) ∧ (NNe b 0) ∧ (True) ∧ True) ∧ ((ilt (irem a b) (0 : Int)) = true → ((true = true) ∧ ((True) ∧ (True) ∧ (True) ∧ True) ∧ (true = true) ∧ ((True) ∧ (True) ∧ True) ∧ (((isub (iquo a b) (1 : Int)) : Int) = (a / b)) ∧ True)) ∧ ((ilt (irem a b) (0 : Int)) = false → ((true = true) ∧ ((True) ∧ (True) ∧ True) ∧ (((iquo a b) : Int) = (a / b)) ∧ True))) = ev sig_spec_l1Floor xs_spec_l1Floor Tryd.f122.ntmps (fun b => []) (codeOf Tryd.f122) 0 (initS [.s (.int a), .s (.int b)]) (retK Tryd.f122.results.toList [.s (.int (a / b))]) := by kernel_rfl
set_option maxHeartbeats 400000 in
theorem F_spec_l1Floor : FunOK 122 g_spec_l1Floor := by
  refine fun_F (by kernel_rfl) Tryd.func122 rfl (by kernel_rfl) sig_spec_l1Floor_ok xs_spec_l1Floor_ok ?_
  intro avs sg h hn hl
  unfold g_spec_l1Floor at h
  split at h
  · rename_i a b
    injection h with h; subst h
    refine ⟨by kernel_rfl, fun b => [], Eq.mp (V_spec_l1Floor a b) ?_⟩
    simp only [true_and, and_true, implies_true, and_self, forall_const, true_implies, lenA, lenL, SV.lenOK, Cont.lenOK] at hn hl ⊢
    obtain ⟨n1, n2, n3⟩ := hn
    obtain ⟨q1, q2⟩ := tdiv_bd n1 n2 n3
    obtain ⟨f1, f2⟩ := floor_e (a := a) n1
    simp only [ilt_t, ilt_f, ile_t, ile_f, ieq_t, ieq_f, bnot_e, band_e, bite_and, bite_or, NLt_e, NLe_e, NNe_e, NIs_e, imax_e, imin_e, irem_e, Bool.not_eq_true', Bool.not_eq_false', Bool.and_eq_true, Bool.or_eq_true, Bool.or_eq_false_iff, Bool.and_eq_false_iff, Cont.pts.injEq, Cont.ints.injEq, Cont.bools.injEq, Cont.ptss.injEq, Cont.intss.injEq, Cont.boolss.injEq, true_and, and_true, implies_true]
    refine ⟨by omega, by omega, fun h => ?_, fun h => ?_⟩
    · rw [q1, q2 h, f1 h]
    · rw [q1, f2 h]
  · cases h
def g_spec_l1Round : List AV → Option Sg
  | [.s (.int a), .s (.int b)] => some ⟨1 ≤ b ∧ b ≤ 1000000 ∧ -1000000000000 ≤ a ∧ a ≤ 1000000000000, [.s (.int ((a + b / 2) / b))]⟩
  | _ => none
def sig_spec_l1Round : FuncId → List AV → Option Sg := sigL [(122, g_spec_l1Floor)]
def xs_spec_l1Round : XS := ⟨xsigL [], ysigL []⟩
theorem sig_spec_l1Round_ok : SigOK sig_spec_l1Round := sigL_cons F_spec_l1Floor sigL_nil
theorem xs_spec_l1Round_ok : XSigOK xs_spec_l1Round := ⟨xsigL_nil, ysigL_nil⟩
theorem V_spec_l1Round (a : Int) (b : Int) : ((true = true) ∧ ((True) ∧ True) ∧ (true = true) ∧ ((True) ∧ (True) ∧ (NNe (2 : Int) 0) ∧ (True) ∧ (True) ∧ ((1 ≤ b ∧ -9223372036854775807 ≤ (iadd a (iquo b (2 : Int))) ∧ (iadd a (iquo b (2 : Int))) ≤ 9223372036854775807)) ∧ (True) ∧ True) ∧ ((((iadd a (iquo b (2 : Int))) / b) : Int) = ((a + b / 2) / b)) ∧ True) = ev sig_spec_l1Round xs_spec_l1Round Tryd.f103.ntmps (fun b => []) (codeOf Tryd.f103) 0 (initS [.s (.int a), .s (.int b)]) (retK Tryd.f103.results.toList [.s (.int ((a + b / 2) / b))]) := by kernel_rfl
set_option maxHeartbeats 400000 in
theorem F_spec_l1Round : FunOK 103 g_spec_l1Round := by
  refine fun_F (by kernel_rfl) Tryd.func103 rfl (by kernel_rfl) sig_spec_l1Round_ok xs_spec_l1Round_ok ?_
  intro avs sg h hn hl
  unfold g_spec_l1Round at h
  split at h
  · rename_i a b
    injection h with h; subst h
    refine ⟨by kernel_rfl, fun b => [], Eq.mp (V_spec_l1Round a b) ?_⟩
    simp only [true_and, and_true, implies_true, and_self, forall_const, true_implies, lenA, lenL, SV.lenOK, Cont.lenOK] at hn hl ⊢
    simp only [ilt_t, ilt_f, ile_t, ile_f, ieq_t, ieq_f, bnot_e, band_e, bite_and, bite_or, NLt_e, NLe_e, NNe_e, NIs_e, imax_e, imin_e, irem_e, Bool.not_eq_true', Bool.not_eq_false', Bool.and_eq_true, Bool.or_eq_true, Bool.or_eq_false_iff, Bool.and_eq_false_iff, Cont.pts.injEq, Cont.ints.injEq, Cont.bools.injEq, Cont.ptss.injEq, Cont.intss.injEq, Cont.boolss.injEq, true_and, and_true, implies_true]
    have e : iquo b 2 = b / 2 := by rw [iquo_e (by omega) (by omega) (by omega), Int.tdiv_eq_ediv_of_nonneg (by omega)]
    rw [e, iadd_e (by omega) (by omega)]
    exact ⟨by omega, rfl⟩
  · cases h
def g_spec_l2Turn : List AV → Option Sg
  | [.agg [.int p1, .int p2], .s (.int d)] => some ⟨vB p1 p2 = true, [.agg [.int (rotX p1 p2 d), .int (rotY p1 p2 d)]]⟩
  | _ => none
def sig_spec_l2Turn : FuncId → List AV → Option Sg := sigL [(101, g_spec_Sine), (102, g_spec_Cosine), (103, g_spec_l1Round)]
def xs_spec_l2Turn : XS := ⟨xsigL [], ysigL []⟩
theorem sig_spec_l2Turn_ok : SigOK sig_spec_l2Turn := sigL_cons F_spec_Sine (sigL_cons F_spec_Cosine (sigL_cons F_spec_l1Round sigL_nil))
theorem xs_spec_l2Turn_ok : XSigOK xs_spec_l2Turn := ⟨xsigL_nil, ysigL_nil⟩
theorem V_spec_l2Turn (p1 : Int) (p2 : Int) (d : Int) : ((true = true) ∧ ((True) ∧ (True) ∧ True) ∧ (true = true) ∧ ((True) ∧ ((True)) ∧ (True) ∧ True) ∧ (true = true) ∧ ((True) ∧ ((True)) ∧ (True) ∧ True) ∧ (true = true) ∧ ((True) ∧ (True) ∧ (True) ∧ (True) ∧ (True) ∧ (True) ∧ (True) ∧ (True) ∧ (True) ∧ ((1 ≤ (4096 : Int) ∧ (4096 : Int) ≤ 1000000 ∧ -1000000000000 ≤ (isub (imul p1 (cosF d)) (imul p2 (sinF d))) ∧ (isub (imul p1 (cosF d)) (imul p2 (sinF d))) ≤ 1000000000000)) ∧ (True) ∧ (True) ∧ (True) ∧ (True) ∧ (True) ∧ (True) ∧ (True) ∧ (True) ∧ (True) ∧ ((1 ≤ (4096 : Int) ∧ (4096 : Int) ≤ 1000000 ∧ -1000000000000 ≤ (iadd (imul p1 (sinF d)) (imul p2 (cosF d))) ∧ (iadd (imul p1 (sinF d)) (imul p2 (cosF d))) ≤ 1000000000000)) ∧ (True) ∧ True) ∧ (True) ∧ ((((((isub (imul p1 (cosF d)) (imul p2 (sinF d))) + (4096 : Int) / 2) / (4096 : Int)) : Int) = (rotX p1 p2 d)) ∧ (((((iadd (imul p1 (sinF d)) (imul p2 (cosF d))) + (4096 : Int) / 2) / (4096 : Int)) : Int) = (rotY p1 p2 d)) ∧ True) ∧ True) = ev sig_spec_l2Turn xs_spec_l2Turn Tryd.f83.ntmps (fun b => []) (codeOf Tryd.f83) 0 (initS [.agg [.int p1, .int p2], .s (.int d)]) (retK Tryd.f83.results.toList [.agg [.int (rotX p1 p2 d), .int (rotY p1 p2 d)]]) := by kernel_rfl
set_option maxHeartbeats 400000 in
theorem F_spec_l2Turn : FunOK 83 g_spec_l2Turn := by
  refine fun_F (by kernel_rfl) Tryd.func83 rfl (by kernel_rfl) sig_spec_l2Turn_ok xs_spec_l2Turn_ok ?_
  intro avs sg h hn hl
  unfold g_spec_l2Turn at h
  split at h
  · rename_i p1 p2 d
    injection h with h; subst h
    refine ⟨by kernel_rfl, fun b => [], Eq.mp (V_spec_l2Turn p1 p2 d) ?_⟩
    simp only [true_and, and_true, implies_true, and_self, forall_const, true_implies, lenA, lenL, SV.lenOK, Cont.lenOK] at hn hl ⊢
    have c := cosF_bd d; have s := sinF_bd d
    have hv := vB_bd hn
    have q1 := mul40 (x := p1) (y := cosF d) (a := 10000) (by omega) (by omega) c
    have q2 := mul40 (x := p2) (y := sinF d) (a := 10000) (by omega) (by omega) s
    have q3 := mul40 (x := p1) (y := sinF d) (a := 10000) (by omega) (by omega) s
    have q4 := mul40 (x := p2) (y := cosF d) (a := 10000) (by omega) (by omega) c
    try simp only [ilt_t, ilt_f, ile_t, ile_f, ieq_t, ieq_f, bnot_e, band_e, bite_and, bite_or, NLt_e, NLe_e, NNe_e, NIs_e, imax_e, imin_e, irem_e, Bool.not_eq_true', Bool.not_eq_false', Bool.and_eq_true, Bool.or_eq_true, Bool.or_eq_false_iff, Bool.and_eq_false_iff, Cont.pts.injEq, Cont.ints.injEq, Cont.bools.injEq, Cont.ptss.injEq, Cont.intss.injEq, Cont.boolss.injEq, true_and, and_true, implies_true]
    rw [imul_e (a := p1) (b := cosF d) (by omega) (by omega), imul_e (a := p2) (b := sinF d) (by omega) (by omega), imul_e (a := p1) (b := sinF d) (by omega) (by omega), imul_e (a := p2) (b := cosF d) (by omega) (by omega), isub_e (by omega) (by omega), iadd_e (by omega) (by omega)]
    exact ⟨⟨⟨by omega, by omega, by omega, by omega⟩, by omega, by omega, by omega, by omega⟩, rfl, rfl⟩
  · cases h
def g_spec_l3Points : List AV → Option Sg
  | [.agg [.view (.ints a1), .view (.ints a2), .view (.ints a3)], .s (.view (.ints j))] => some ⟨jvB a1 a2 a3 j = true, [.nrow 62 (.pts (apL a1 j (ilen a1 + 1)))]⟩
  | _ => none
def sig_spec_l3Points : FuncId → List AV → Option Sg := sigL [(83, g_spec_l2Turn)]
def xs_spec_l3Points : XS := ⟨xsigL [], ysigL []⟩
theorem sig_spec_l3Points_ok : SigOK sig_spec_l3Points := sigL_cons F_spec_l2Turn sigL_nil
theorem xs_spec_l3Points_ok : XSigOK xs_spec_l3Points := ⟨xsigL_nil, ysigL_nil⟩
theorem V_spec_l3Points (a1 : List Int) (a2 : List Int) (a3 : List Int) (j : List Int) : ((true = true) ∧ ((True) ∧ (True) ∧ True) ∧ (true = true) ∧ ((True) ∧ (True) ∧ True) ∧ (True) ∧ (true = true) ∧ ((True) ∧ True) ∧ (true = true) ∧ ((True) ∧ (True) ∧ (True) ∧ True) ∧ (true = true) ∧ ((True) ∧ True) ∧ ∃ (I1 : List GV → Prop) (μ1 : List GV → Nat), (((true = true) ∧ ((((0 : Int) : Int) = (0 : Int)) ∧ (((0 : Int) : Int) = (0 : Int)) ∧ ((((0 : Int) : Int) = (0 : Int)) ∧ (((0 : Int) : Int) = (0 : Int)) ∧ True) ∧ (true = true) ∧ ((((0 : Int) : Int) = (0 : Int)) ∧ (((0 : Int) : Int) = (0 : Int)) ∧ True) ∧ (true = true) ∧ (true = true) ∧ (true = true) ∧ (((Cont.ints a1) = (Cont.ints a1)) ∧ ((Cont.ints a2) = (Cont.ints a2)) ∧ ((Cont.ints a3) = (Cont.ints a3)) ∧ True) ∧ ((Cont.ints j) = (Cont.ints j)) ∧ True) ∧ (((((0 : Int) : Int) = (0 : Int)) ∧ (((0 : Int) : Int) = (0 : Int)) ∧ True) ∧ ((true = true) ∧ ((Cont.pts [((0 : Int), (0 : Int))]) = (Cont.pts [((0 : Int), (0 : Int))]))) ∧ (((Cont.ints a1) = (Cont.ints a1)) ∧ ((Cont.ints a2) = (Cont.ints a2)) ∧ ((Cont.ints a3) = (Cont.ints a3)) ∧ True) ∧ ((true = true) ∧ ((Cont.pts []) = (Cont.pts []))) ∧ True)) ∧ (([GK.int, GK.pts, GK.int, GK.int, GK.int] : List GK) = ([GK.int, GK.pts, GK.int, GK.int, GK.int] : List GK)) ∧ I1 [GV.int (0 : Int), GV.pts [((0 : Int), (0 : Int))], GV.int (0 : Int), GV.int (0 : Int), GV.int (0 : Int)]) ∧ (∀ i1_0 : Int, ∀ l1_1 : List Pt, ∀ i1_2 : Int, ∀ i1_3 : Int, ∀ i1_4 : Int, I1 [GV.int i1_0, GV.pts l1_1, GV.int i1_2, GV.int i1_3, GV.int i1_4] → ((true = true) ∧ ((True) ∧ (True) ∧ (True) ∧ (True) ∧ True) ∧ ((ilt i1_0 (ilen j)) = true → ((true = true) ∧ ((True) ∧ (True) ∧ (True) ∧ (NLe 0 i1_0 ∧ NLt i1_0 (ilen j)) ∧ (True) ∧ (True) ∧ (True) ∧ True) ∧ (true = true) ∧ ((True) ∧ (True) ∧ (True) ∧ (NLe 0 i1_0 ∧ NLt i1_0 (ilen a1)) ∧ (True) ∧ (True) ∧ (True) ∧ ((vB (geti a1 i1_0) (0 : Int) = true)) ∧ (True) ∧ True) ∧ (True) ∧ (true = true) ∧ ((True) ∧ (True) ∧ (True) ∧ (True) ∧ (True) ∧ (True) ∧ (True) ∧ (True) ∧ (True) ∧ (True) ∧ (True) ∧ True) ∧ (True) ∧ (true = true) ∧ ((True) ∧ (True) ∧ (True) ∧ True) ∧ (NLe (ilen l1_1) 1000000000 ∧ NLe (ilen [((iadd i1_3 (rotX (geti a1 i1_0) (0 : Int) (iadd i1_2 (geti j i1_0)))), (iadd i1_4 (rotY (geti a1 i1_0) (0 : Int) (iadd i1_2 (geti j i1_0)))))]) 1000000000) ∧ (True) ∧ (true = true) ∧ ((True) ∧ (True) ∧ (True) ∧ True) ∧ ((true = true) ∧ ((((iadd i1_2 (geti j i1_0)) : Int) = (iadd i1_2 (geti j i1_0))) ∧ (((iadd i1_0 (1 : Int)) : Int) = (iadd i1_0 (1 : Int))) ∧ ((((0 : Int) : Int) = (0 : Int)) ∧ (((0 : Int) : Int) = (0 : Int)) ∧ True) ∧ (true = true) ∧ ((((0 : Int) : Int) = (0 : Int)) ∧ (((0 : Int) : Int) = (0 : Int)) ∧ True) ∧ (true = true) ∧ (true = true) ∧ (true = true) ∧ (((Cont.ints a1) = (Cont.ints a1)) ∧ ((Cont.ints a2) = (Cont.ints a2)) ∧ ((Cont.ints a3) = (Cont.ints a3)) ∧ True) ∧ ((Cont.ints j) = (Cont.ints j)) ∧ True) ∧ (((((iadd i1_3 (rotX (geti a1 i1_0) (0 : Int) (iadd i1_2 (geti j i1_0)))) : Int) = (iadd i1_3 (rotX (geti a1 i1_0) (0 : Int) (iadd i1_2 (geti j i1_0))))) ∧ (((iadd i1_4 (rotY (geti a1 i1_0) (0 : Int) (iadd i1_2 (geti j i1_0)))) : Int) = (iadd i1_4 (rotY (geti a1 i1_0) (0 : Int) (iadd i1_2 (geti j i1_0))))) ∧ True) ∧ ((true = true) ∧ ((Cont.pts (iapp l1_1 [((iadd i1_3 (rotX (geti a1 i1_0) (0 : Int) (iadd i1_2 (geti j i1_0)))), (iadd i1_4 (rotY (geti a1 i1_0) (0 : Int) (iadd i1_2 (geti j i1_0)))))])) = (Cont.pts (iapp l1_1 [((iadd i1_3 (rotX (geti a1 i1_0) (0 : Int) (iadd i1_2 (geti j i1_0)))), (iadd i1_4 (rotY (geti a1 i1_0) (0 : Int) (iadd i1_2 (geti j i1_0)))))])))) ∧ (((Cont.ints a1) = (Cont.ints a1)) ∧ ((Cont.ints a2) = (Cont.ints a2)) ∧ ((Cont.ints a3) = (Cont.ints a3)) ∧ True) ∧ ((true = true) ∧ ((Cont.pts []) = (Cont.pts []))) ∧ True)) ∧ ((([GK.int, GK.pts, GK.int, GK.int, GK.int] : List GK) = ([GK.int, GK.pts, GK.int, GK.int, GK.int] : List GK)) ∧ I1 [GV.int (iadd i1_0 (1 : Int)), GV.pts (iapp l1_1 [((iadd i1_3 (rotX (geti a1 i1_0) (0 : Int) (iadd i1_2 (geti j i1_0)))), (iadd i1_4 (rotY (geti a1 i1_0) (0 : Int) (iadd i1_2 (geti j i1_0)))))]), GV.int (iadd i1_2 (geti j i1_0)), GV.int (iadd i1_3 (rotX (geti a1 i1_0) (0 : Int) (iadd i1_2 (geti j i1_0)))), GV.int (iadd i1_4 (rotY (geti a1 i1_0) (0 : Int) (iadd i1_2 (geti j i1_0))))] ∧ μ1 [GV.int (iadd i1_0 (1 : Int)), GV.pts (iapp l1_1 [((iadd i1_3 (rotX (geti a1 i1_0) (0 : Int) (iadd i1_2 (geti j i1_0)))), (iadd i1_4 (rotY (geti a1 i1_0) (0 : Int) (iadd i1_2 (geti j i1_0)))))]), GV.int (iadd i1_2 (geti j i1_0)), GV.int (iadd i1_3 (rotX (geti a1 i1_0) (0 : Int) (iadd i1_2 (geti j i1_0)))), GV.int (iadd i1_4 (rotY (geti a1 i1_0) (0 : Int) (iadd i1_2 (geti j i1_0))))] < μ1 [GV.int i1_0, GV.pts l1_1, GV.int i1_2, GV.int i1_3, GV.int i1_4]))) ∧ ((ilt i1_0 (ilen j)) = false → ((true = true) ∧ ((True) ∧ (True) ∧ True) ∧ ((true = true) ∧ ((Cont.pts l1_1) = (Cont.pts (apL a1 j (ilen a1 + 1))))) ∧ True))))) = ev sig_spec_l3Points xs_spec_l3Points Tryd.f88.ntmps (fun b => if b == 0 then [.v 8, .b 7, .v 6, .b 5] else []) (codeOf Tryd.f88) 0 (initS [.agg [.view (.ints a1), .view (.ints a2), .view (.ints a3)], .s (.view (.ints j))]) (retK Tryd.f88.results.toList [.nrow 62 (.pts (apL a1 j (ilen a1 + 1)))]) := by kernel_rfl
set_option maxHeartbeats 400000 in
theorem F_spec_l3Points : FunOK 88 g_spec_l3Points := by
  refine fun_F (by kernel_rfl) Tryd.func88 rfl (by kernel_rfl) sig_spec_l3Points_ok xs_spec_l3Points_ok ?_
  intro avs sg h hn hl
  unfold g_spec_l3Points at h
  split at h
  · rename_i a1 a2 a3 j
    injection h with h; subst h
    refine ⟨by kernel_rfl, fun b => if b == 0 then [.v 8, .b 7, .v 6, .b 5] else [], Eq.mp (V_spec_l3Points a1 a2 a3 j) ?_⟩
    simp only [true_and, and_true, implies_true, and_self, forall_const, true_implies, lenA, lenL, SV.lenOK, Cont.lenOK] at hn hl ⊢
    obtain ⟨ha, hjl, hl4, hlk, hjk⟩ := jv_p hn
    simp only [ilt_t, ilt_f, ile_t, ile_f, ieq_t, ieq_f, bnot_e, band_e, bite_and, bite_or, NLt_e, NLe_e, NNe_e, NIs_e, imax_e, imin_e, irem_e, Bool.not_eq_true', Bool.not_eq_false', Bool.and_eq_true, Bool.or_eq_true, Bool.or_eq_false_iff, Bool.and_eq_false_iff, Cont.pts.injEq, Cont.ints.injEq, Cont.bools.injEq, Cont.ptss.injEq, Cont.intss.injEq, Cont.boolss.injEq, true_and, and_true, implies_true]
    refine ⟨fun | [.int k, .pts o, .int d, .int x, .int y] => 0 ≤ k ∧ k ≤ ilen a1 ∧ o = apL a1 j (k + 1) ∧ d = dirK j k ∧ x = apX a1 j k ∧ y = apY a1 j k | _ => False, fun | .int k :: _ => (ilen a1 - k).toNat | _ => 0, ⟨by omega, by omega, rfl, rfl, rfl, rfl⟩, ?_⟩
    rintro k o d x y ⟨k0, k1, rfl, rfl, rfl, rfl⟩
    refine ⟨fun hc => ?_, fun hc => ?_⟩
    · have hk : k < ilen a1 := by omega
      have b1 := jv_bd hn k0 k1
      have b2 := jv_bd hn (k := k + 1) (by omega) (by omega)
      have hL := hlk k k0 hk
      have hJ := hjk k k0 hk
      have hd := dirK_1 (J := j) k0
      have hx := apX_1 (L := a1) (J := j) k0
      have hy := apY_1 (L := a1) (J := j) k0
      have e1 : iadd (dirK j k) (geti j k) = dirK j (k + 1) := by rw [iadd_e (by omega) (by omega), hd]
      rw [e1]
      have e2 : iadd (apX a1 j k) (rotX (geti a1 k) 0 (dirK j (k + 1))) = apX a1 j (k + 1) := by rw [iadd_e (by omega) (by omega), hx]
      have e3 : iadd (apY a1 j k) (rotY (geti a1 k) 0 (dirK j (k + 1))) = apY a1 j (k + 1) := by rw [iadd_e (by omega) (by omega), hy]
      rw [e2, e3, apL_len (by omega), iadd_e (by omega) (by omega)]
      exact ⟨⟨k0, by omega⟩, ⟨⟨k0, by omega⟩, vB_mk (by omega)⟩, ⟨by omega, by rw [ilen_one]; omega⟩, ⟨by omega, by omega, apL_s (by omega), rfl, rfl, rfl⟩, by show (ilen a1 - (k + 1)).toNat < (ilen a1 - k).toNat; omega⟩
    · rw [show k = ilen a1 by omega]
  · cases h
def g_spec_l8Inside : List AV → Option Sg
  | [.s (.view (.pts l)), .agg [.int p1, .int p2]] => some ⟨True, [.s (.bool (insB l p1 p2))]⟩
  | _ => none
def sig_spec_l8Inside : FuncId → List AV → Option Sg := sigL [(108, g_spec_l2Cross)]
def xs_spec_l8Inside : XS := ⟨xsigL [], ysigL []⟩
theorem sig_spec_l8Inside_ok : SigOK sig_spec_l8Inside := sigL_cons F_spec_l2Cross sigL_nil
theorem xs_spec_l8Inside_ok : XSigOK xs_spec_l8Inside := ⟨xsigL_nil, ysigL_nil⟩
theorem V_spec_l8Inside (l : List Pt) (p1 : Int) (p2 : Int) : ((true = true) ∧ ((True) ∧ (True) ∧ True) ∧ (true = true) ∧ ((True) ∧ True) ∧ ∃ (I1 : List GV → Prop) (μ1 : List GV → Nat), (((true = true) ∧ (((false : Bool) = false) ∧ (((0 : Int) : Int) = (0 : Int)) ∧ (true = true) ∧ ((Cont.pts l) = (Cont.pts l)) ∧ (((p1 : Int) = p1) ∧ ((p2 : Int) = p2) ∧ True) ∧ True) ∧ ((((p1 : Int) = p1) ∧ ((p2 : Int) = p2) ∧ True) ∧ True)) ∧ (([GK.int, GK.bool] : List GK) = ([GK.int, GK.bool] : List GK)) ∧ I1 [GV.int (0 : Int), GV.bool false]) ∧ (∀ i1_0 : Int, ∀ b1_1 : Bool, I1 [GV.int i1_0, GV.bool b1_1] → ((true = true) ∧ ((True) ∧ (True) ∧ (True) ∧ (True) ∧ True) ∧ ((ilt i1_0 (ilen l)) = true → ((true = true) ∧ ((True) ∧ (True) ∧ (NLe 0 i1_0 ∧ NLt i1_0 (ilen l)) ∧ (True) ∧ (True) ∧ (True) ∧ (True) ∧ (True) ∧ (True) ∧ (NNe (ilen l) 0) ∧ (NLe 0 (irem (iadd i1_0 (1 : Int)) (ilen l)) ∧ NLt (irem (iadd i1_0 (1 : Int)) (ilen l)) (ilen l)) ∧ (True) ∧ (True) ∧ ((True)) ∧ (True) ∧ True) ∧ ((ilt (crW (getx l i1_0) (gety l i1_0) (getx l (irem (iadd i1_0 (1 : Int)) (ilen l))) (gety l (irem (iadd i1_0 (1 : Int)) (ilen l))) p1 p2) (0 : Int)) = true → ((true = true) ∧ ((True) ∧ True) ∧ ((false : Bool) = (insB l p1 p2)) ∧ True)) ∧ ((ilt (crW (getx l i1_0) (gety l i1_0) (getx l (irem (iadd i1_0 (1 : Int)) (ilen l))) (gety l (irem (iadd i1_0 (1 : Int)) (ilen l))) p1 p2) (0 : Int)) = false → ((true = true) ∧ ((True) ∧ (True) ∧ (True) ∧ True) ∧ ((true = true) ∧ (((b1_1 : Bool) = b1_1) ∧ (((iadd i1_0 (1 : Int)) : Int) = (iadd i1_0 (1 : Int))) ∧ (true = true) ∧ ((Cont.pts l) = (Cont.pts l)) ∧ (((p1 : Int) = p1) ∧ ((p2 : Int) = p2) ∧ True) ∧ True) ∧ ((((p1 : Int) = p1) ∧ ((p2 : Int) = p2) ∧ True) ∧ True)) ∧ ((([GK.int, GK.bool] : List GK) = ([GK.int, GK.bool] : List GK)) ∧ I1 [GV.int (iadd i1_0 (1 : Int)), GV.bool b1_1] ∧ μ1 [GV.int (iadd i1_0 (1 : Int)), GV.bool b1_1] < μ1 [GV.int i1_0, GV.bool b1_1]))))) ∧ ((ilt i1_0 (ilen l)) = false → ((true = true) ∧ ((True) ∧ True) ∧ ((true : Bool) = (insB l p1 p2)) ∧ True))))) = ev sig_spec_l8Inside xs_spec_l8Inside Tryd.f119.ntmps (fun b => if b == 0 then [.v 5, .v 4] else []) (codeOf Tryd.f119) 0 (initS [.s (.view (.pts l)), .agg [.int p1, .int p2]]) (retK Tryd.f119.results.toList [.s (.bool (insB l p1 p2))]) := by kernel_rfl
set_option maxHeartbeats 400000 in
theorem F_spec_l8Inside : FunOK 119 g_spec_l8Inside := by
  refine fun_F (by kernel_rfl) Tryd.func119 rfl (by kernel_rfl) sig_spec_l8Inside_ok xs_spec_l8Inside_ok ?_
  intro avs sg h hn hl
  unfold g_spec_l8Inside at h
  split at h
  · rename_i l p1 p2
    injection h with h; subst h
    refine ⟨by kernel_rfl, fun b => if b == 0 then [.v 5, .v 4] else [], Eq.mp (V_spec_l8Inside l p1 p2) ?_⟩
    simp only [true_and, and_true, implies_true, and_self, forall_const, true_implies, lenA, lenL, SV.lenOK, Cont.lenOK] at hn hl ⊢
    have h0 := ilen_0 l
    simp only [ilt_t, ilt_f, ile_t, ile_f, ieq_t, ieq_f, bnot_e, band_e, bite_and, bite_or, NLt_e, NLe_e, NNe_e, NIs_e, imax_e, imin_e, irem_e, Bool.not_eq_true', Bool.not_eq_false', Bool.and_eq_true, Bool.or_eq_true, Bool.or_eq_false_iff, Bool.and_eq_false_iff, Cont.pts.injEq, Cont.ints.injEq, Cont.bools.injEq, Cont.ptss.injEq, Cont.intss.injEq, Cont.boolss.injEq, true_and, and_true, implies_true]
    refine ⟨fun | .int k :: _ => 0 ≤ k ∧ k ≤ ilen l ∧ (∀ i, 0 ≤ i → i < k → insE l p1 p2 i = true) | _ => False, fun | .int k :: _ => (ilen l - k).toNat | _ => 0, ?_, ?_⟩
    · exact ⟨Int.le_refl 0, h0, fun j h0 h1 => absurd h1 (by omega)⟩
    · rintro k _ ⟨hk0, hk1, hk⟩
      simp only [ilt_t, ilt_f, ile_t, ile_f, ieq_t, ieq_f, bnot_e, band_e, bite_and, bite_or, NLt_e, NLe_e, NNe_e, NIs_e, imax_e, imin_e, irem_e, Bool.not_eq_true', Bool.not_eq_false', Bool.and_eq_true, Bool.or_eq_true, Bool.or_eq_false_iff, Bool.and_eq_false_iff, Cont.pts.injEq, Cont.ints.injEq, Cont.bools.injEq, Cont.ptss.injEq, Cont.intss.injEq, Cont.boolss.injEq, true_and, and_true, implies_true]
      refine ⟨fun hkn => ?_, fun hkn => ?_⟩
      · have e1 := iadd_1 hk0 hkn hl
        obtain ⟨n0, n1, _⟩ := nx_in hk0 hkn
        have e2 : (k + 1).tmod (ilen l) = nx l k := rfl
        simp only [e1, e2]
        have hne : ilen l ≠ 0 := by omega
        refine ⟨⟨⟨hk0, hkn⟩, hne, ⟨n0, n1⟩⟩, fun hx => ?_, fun hx => ?_⟩
        · have hE : insE l p1 p2 k = false := by
            unfold insE
            simp only [decide_eq_false_iff_not]
            omega
          unfold insB
          rw [allN_no k hk0 hkn hE]
        · have hE : insE l p1 p2 k = true := by
            unfold insE
            simp only [decide_eq_true_eq]
            omega
          exact ⟨⟨by omega, by omega, allN_up hk hE⟩, by omega⟩
      · unfold insB
        rw [allN_mk fun i h0 h1 => hk i h0 (by omega)]
  · cases h
def g_spec_l8On : List AV → Option Sg
  | [.agg [.int a1, .int a2], .agg [.int b1, .int b2], .agg [.int p1, .int p2]] => some ⟨True, [.s (.bool (btW a1 a2 b1 b2 p1 p2))]⟩
  | _ => none
def sig_spec_l8On : FuncId → List AV → Option Sg := sigL [(82, g_spec_l1In)]
def xs_spec_l8On : XS := ⟨xsigL [], ysigL []⟩
theorem sig_spec_l8On_ok : SigOK sig_spec_l8On := sigL_cons F_spec_l1In sigL_nil
theorem xs_spec_l8On_ok : XSigOK xs_spec_l8On := ⟨xsigL_nil, ysigL_nil⟩
theorem V_spec_l8On (a1 : Int) (a2 : Int) (b1 : Int) (b2 : Int) (p1 : Int) (p2 : Int) : ((true = true) ∧ ((True) ∧ (True) ∧ (True) ∧ (True) ∧ True) ∧ (true = true) ∧ ((True) ∧ (True) ∧ (True) ∧ (True) ∧ (True) ∧ (True) ∧ (True) ∧ (True) ∧ (True) ∧ (True) ∧ (True) ∧ (True) ∧ ((True)) ∧ (True) ∧ (NIs (inB p1 (imin a1 b1) (imax a1 b1)) true → True) ∧ (NIs (inB p1 (imin a1 b1) (imax a1 b1)) true → True) ∧ (NIs (inB p1 (imin a1 b1) (imax a1 b1)) true → True) ∧ (NIs (inB p1 (imin a1 b1) (imax a1 b1)) true → True) ∧ (NIs (inB p1 (imin a1 b1) (imax a1 b1)) true → True) ∧ (NIs (inB p1 (imin a1 b1) (imax a1 b1)) true → True) ∧ (NIs (inB p1 (imin a1 b1) (imax a1 b1)) true → True) ∧ (NIs (inB p1 (imin a1 b1) (imax a1 b1)) true → True) ∧ (NIs (inB p1 (imin a1 b1) (imax a1 b1)) true → True) ∧ (NIs (inB p1 (imin a1 b1) (imax a1 b1)) true → True) ∧ (NIs (inB p1 (imin a1 b1) (imax a1 b1)) true → True) ∧ (NIs (inB p1 (imin a1 b1) (imax a1 b1)) true → True) ∧ (NIs (inB p1 (imin a1 b1) (imax a1 b1)) true → (True)) ∧ (True) ∧ (True) ∧ True) ∧ (((bite (inB p1 (imin a1 b1) (imax a1 b1)) (inB p2 (imin a2 b2) (imax a2 b2)) false) : Bool) = (btW a1 a2 b1 b2 p1 p2)) ∧ True) = ev sig_spec_l8On xs_spec_l8On Tryd.f109.ntmps (fun b => []) (codeOf Tryd.f109) 0 (initS [.agg [.int a1, .int a2], .agg [.int b1, .int b2], .agg [.int p1, .int p2]]) (retK Tryd.f109.results.toList [.s (.bool (btW a1 a2 b1 b2 p1 p2))]) := by kernel_rfl
set_option maxHeartbeats 400000 in
theorem F_spec_l8On : FunOK 109 g_spec_l8On := by
  refine fun_F (by kernel_rfl) Tryd.func109 rfl (by kernel_rfl) sig_spec_l8On_ok xs_spec_l8On_ok ?_
  intro avs sg h hn hl
  unfold g_spec_l8On at h
  split at h
  · rename_i a1 a2 b1 b2 p1 p2
    injection h with h; subst h
    refine ⟨by kernel_rfl, fun b => [], Eq.mp (V_spec_l8On a1 a2 b1 b2 p1 p2) ?_⟩
    simp only [true_and, and_true, implies_true, and_self, forall_const, true_implies, lenA, lenL, SV.lenOK, Cont.lenOK] at hn hl ⊢
    simp only [ilt_t, ilt_f, ile_t, ile_f, ieq_t, ieq_f, bnot_e, band_e, bite_and, bite_or, NLt_e, NLe_e, NNe_e, NIs_e, imax_e, imin_e, irem_e, Bool.not_eq_true', Bool.not_eq_false', Bool.and_eq_true, Bool.or_eq_true, Bool.or_eq_false_iff, Bool.and_eq_false_iff, Cont.pts.injEq, Cont.ints.injEq, Cont.bools.injEq, Cont.ptss.injEq, Cont.intss.injEq, Cont.boolss.injEq, true_and, and_true, implies_true]
    rfl
  · cases h
def g_spec_l8Meet : List AV → Option Sg
  | [.agg [.int a1, .int a2], .agg [.int b1, .int b2], .agg [.int c1, .int c2], .agg [.int d1, .int d2]] => some ⟨vB a1 a2 = true ∧ vB b1 b2 = true ∧ vB c1 c2 = true ∧ vB d1 d2 = true, [.s (.bool (meetB (a1, a2) (b1, b2) (c1, c2) (d1, d2)))]⟩
  | _ => none
def sig_spec_l8Meet : FuncId → List AV → Option Sg := sigL [(108, g_spec_l2Cross), (107, g_spec_l2Sign), (109, g_spec_l8On)]
def xs_spec_l8Meet : XS := ⟨xsigL [], ysigL []⟩
theorem sig_spec_l8Meet_ok : SigOK sig_spec_l8Meet := sigL_cons F_spec_l2Cross (sigL_cons F_spec_l2Sign (sigL_cons F_spec_l8On sigL_nil))
theorem xs_spec_l8Meet_ok : XSigOK xs_spec_l8Meet := ⟨xsigL_nil, ysigL_nil⟩
theorem V_spec_l8Meet (a1 : Int) (a2 : Int) (b1 : Int) (b2 : Int) (c1 : Int) (c2 : Int) (d1 : Int) (d2 : Int) : ((true = true) ∧ ((True) ∧ (True) ∧ (True) ∧ (True) ∧ (True) ∧ True) ∧ (true = true) ∧ ((True) ∧ (True) ∧ (True) ∧ ((True)) ∧ ((True)) ∧ (True) ∧ True) ∧ (true = true) ∧ ((True) ∧ (True) ∧ (True) ∧ ((True)) ∧ ((True)) ∧ (True) ∧ True) ∧ (true = true) ∧ ((True) ∧ (True) ∧ (True) ∧ ((True)) ∧ ((True)) ∧ (True) ∧ True) ∧ (true = true) ∧ ((True) ∧ (True) ∧ (True) ∧ ((True)) ∧ ((True)) ∧ (True) ∧ True) ∧ (true = true) ∧ ((True) ∧ (True) ∧ (True) ∧ (True) ∧ (NIs (bnot (ieq (sgn (crW a1 a2 b1 b2 c1 c2)) (sgn (crW a1 a2 b1 b2 d1 d2)))) true → True) ∧ (NIs (bnot (ieq (sgn (crW a1 a2 b1 b2 c1 c2)) (sgn (crW a1 a2 b1 b2 d1 d2)))) true → True) ∧ (NIs (bnot (ieq (sgn (crW a1 a2 b1 b2 c1 c2)) (sgn (crW a1 a2 b1 b2 d1 d2)))) true → True) ∧ (True) ∧ True) ∧ ((bite (bnot (ieq (sgn (crW a1 a2 b1 b2 c1 c2)) (sgn (crW a1 a2 b1 b2 d1 d2)))) (bnot (ieq (sgn (crW c1 c2 d1 d2 a1 a2)) (sgn (crW c1 c2 d1 d2 b1 b2)))) false) = true → ((true = true) ∧ ((True) ∧ True) ∧ ((true : Bool) = (meetB (a1, a2) (b1, b2) (c1, c2) (d1, d2))) ∧ True)) ∧ ((bite (bnot (ieq (sgn (crW a1 a2 b1 b2 c1 c2)) (sgn (crW a1 a2 b1 b2 d1 d2)))) (bnot (ieq (sgn (crW c1 c2 d1 d2 a1 a2)) (sgn (crW c1 c2 d1 d2 b1 b2)))) false) = false → ((true = true) ∧ ((True) ∧ (True) ∧ (True) ∧ (NIs (ieq (sgn (crW a1 a2 b1 b2 c1 c2)) (0 : Int)) true → True) ∧ (NIs (ieq (sgn (crW a1 a2 b1 b2 c1 c2)) (0 : Int)) true → True) ∧ (NIs (ieq (sgn (crW a1 a2 b1 b2 c1 c2)) (0 : Int)) true → True) ∧ (NIs (ieq (sgn (crW a1 a2 b1 b2 c1 c2)) (0 : Int)) true → (True)) ∧ (True) ∧ (True) ∧ (NIs (bite (ieq (sgn (crW a1 a2 b1 b2 c1 c2)) (0 : Int)) (btW a1 a2 b1 b2 c1 c2) false) false → True) ∧ (NIs (bite (ieq (sgn (crW a1 a2 b1 b2 c1 c2)) (0 : Int)) (btW a1 a2 b1 b2 c1 c2) false) false → True) ∧ (NIs (bite (ieq (sgn (crW a1 a2 b1 b2 c1 c2)) (0 : Int)) (btW a1 a2 b1 b2 c1 c2) false) false → True) ∧ (NIs (bite (ieq (sgn (crW a1 a2 b1 b2 c1 c2)) (0 : Int)) (btW a1 a2 b1 b2 c1 c2) false) false → (NIs (ieq (sgn (crW a1 a2 b1 b2 d1 d2)) (0 : Int)) true → True)) ∧ (NIs (bite (ieq (sgn (crW a1 a2 b1 b2 c1 c2)) (0 : Int)) (btW a1 a2 b1 b2 c1 c2) false) false → (NIs (ieq (sgn (crW a1 a2 b1 b2 d1 d2)) (0 : Int)) true → True)) ∧ (NIs (bite (ieq (sgn (crW a1 a2 b1 b2 c1 c2)) (0 : Int)) (btW a1 a2 b1 b2 c1 c2) false) false → (NIs (ieq (sgn (crW a1 a2 b1 b2 d1 d2)) (0 : Int)) true → True)) ∧ (NIs (bite (ieq (sgn (crW a1 a2 b1 b2 c1 c2)) (0 : Int)) (btW a1 a2 b1 b2 c1 c2) false) false → (NIs (ieq (sgn (crW a1 a2 b1 b2 d1 d2)) (0 : Int)) true → (True))) ∧ (NIs (bite (ieq (sgn (crW a1 a2 b1 b2 c1 c2)) (0 : Int)) (btW a1 a2 b1 b2 c1 c2) false) false → True) ∧ (True) ∧ (True) ∧ (NIs (bite (bite (ieq (sgn (crW a1 a2 b1 b2 c1 c2)) (0 : Int)) (btW a1 a2 b1 b2 c1 c2) false) true (bite (ieq (sgn (crW a1 a2 b1 b2 d1 d2)) (0 : Int)) (btW a1 a2 b1 b2 d1 d2) false)) false → True) ∧ (NIs (bite (bite (ieq (sgn (crW a1 a2 b1 b2 c1 c2)) (0 : Int)) (btW a1 a2 b1 b2 c1 c2) false) true (bite (ieq (sgn (crW a1 a2 b1 b2 d1 d2)) (0 : Int)) (btW a1 a2 b1 b2 d1 d2) false)) false → True) ∧ (NIs (bite (bite (ieq (sgn (crW a1 a2 b1 b2 c1 c2)) (0 : Int)) (btW a1 a2 b1 b2 c1 c2) false) true (bite (ieq (sgn (crW a1 a2 b1 b2 d1 d2)) (0 : Int)) (btW a1 a2 b1 b2 d1 d2) false)) false → True) ∧ (NIs (bite (bite (ieq (sgn (crW a1 a2 b1 b2 c1 c2)) (0 : Int)) (btW a1 a2 b1 b2 c1 c2) false) true (bite (ieq (sgn (crW a1 a2 b1 b2 d1 d2)) (0 : Int)) (btW a1 a2 b1 b2 d1 d2) false)) false → (NIs (ieq (sgn (crW c1 c2 d1 d2 a1 a2)) (0 : Int)) true → True)) ∧ (NIs (bite (bite (ieq (sgn (crW a1 a2 b1 b2 c1 c2)) (0 : Int)) (btW a1 a2 b1 b2 c1 c2) false) true (bite (ieq (sgn (crW a1 a2 b1 b2 d1 d2)) (0 : Int)) (btW a1 a2 b1 b2 d1 d2) false)) false → (NIs (ieq (sgn (crW c1 c2 d1 d2 a1 a2)) (0 : Int)) true → True)) ∧ (NIs (bite (bite (ieq (sgn (crW a1 a2 b1 b2 c1 c2)) (0 : Int)) (btW a1 a2 b1 b2 c1 c2) false) true (bite (ieq (sgn (crW a1 a2 b1 b2 d1 d2)) (0 : Int)) (btW a1 a2 b1 b2 d1 d2) false)) false → (NIs (ieq (sgn (crW c1 c2 d1 d2 a1 a2)) (0 : Int)) true → True)) ∧ (NIs (bite (bite (ieq (sgn (crW a1 a2 b1 b2 c1 c2)) (0 : Int)) (btW a1 a2 b1 b2 c1 c2) false) true (bite (ieq (sgn (crW a1 a2 b1 b2 d1 d2)) (0 : Int)) (btW a1 a2 b1 b2 d1 d2) false)) false → (NIs (ieq (sgn (crW c1 c2 d1 d2 a1 a2)) (0 : Int)) true → (True))) ∧ (NIs (bite (bite (ieq (sgn (crW a1 a2 b1 b2 c1 c2)) (0 : Int)) (btW a1 a2 b1 b2 c1 c2) false) true (bite (ieq (sgn (crW a1 a2 b1 b2 d1 d2)) (0 : Int)) (btW a1 a2 b1 b2 d1 d2) false)) false → True) ∧ (True) ∧ (True) ∧ (NIs (bite (bite (bite (ieq (sgn (crW a1 a2 b1 b2 c1 c2)) (0 : Int)) (btW a1 a2 b1 b2 c1 c2) false) true (bite (ieq (sgn (crW a1 a2 b1 b2 d1 d2)) (0 : Int)) (btW a1 a2 b1 b2 d1 d2) false)) true (bite (ieq (sgn (crW c1 c2 d1 d2 a1 a2)) (0 : Int)) (btW c1 c2 d1 d2 a1 a2) false)) false → True) ∧ (NIs (bite (bite (bite (ieq (sgn (crW a1 a2 b1 b2 c1 c2)) (0 : Int)) (btW a1 a2 b1 b2 c1 c2) false) true (bite (ieq (sgn (crW a1 a2 b1 b2 d1 d2)) (0 : Int)) (btW a1 a2 b1 b2 d1 d2) false)) true (bite (ieq (sgn (crW c1 c2 d1 d2 a1 a2)) (0 : Int)) (btW c1 c2 d1 d2 a1 a2) false)) false → True) ∧ (NIs (bite (bite (bite (ieq (sgn (crW a1 a2 b1 b2 c1 c2)) (0 : Int)) (btW a1 a2 b1 b2 c1 c2) false) true (bite (ieq (sgn (crW a1 a2 b1 b2 d1 d2)) (0 : Int)) (btW a1 a2 b1 b2 d1 d2) false)) true (bite (ieq (sgn (crW c1 c2 d1 d2 a1 a2)) (0 : Int)) (btW c1 c2 d1 d2 a1 a2) false)) false → True) ∧ (NIs (bite (bite (bite (ieq (sgn (crW a1 a2 b1 b2 c1 c2)) (0 : Int)) (btW a1 a2 b1 b2 c1 c2) false) true (bite (ieq (sgn (crW a1 a2 b1 b2 d1 d2)) (0 : Int)) (btW a1 a2 b1 b2 d1 d2) false)) true (bite (ieq (sgn (crW c1 c2 d1 d2 a1 a2)) (0 : Int)) (btW c1 c2 d1 d2 a1 a2) false)) false → (NIs (ieq (sgn (crW c1 c2 d1 d2 b1 b2)) (0 : Int)) true → True)) ∧ (NIs (bite (bite (bite (ieq (sgn (crW a1 a2 b1 b2 c1 c2)) (0 : Int)) (btW a1 a2 b1 b2 c1 c2) false) true (bite (ieq (sgn (crW a1 a2 b1 b2 d1 d2)) (0 : Int)) (btW a1 a2 b1 b2 d1 d2) false)) true (bite (ieq (sgn (crW c1 c2 d1 d2 a1 a2)) (0 : Int)) (btW c1 c2 d1 d2 a1 a2) false)) false → (NIs (ieq (sgn (crW c1 c2 d1 d2 b1 b2)) (0 : Int)) true → True)) ∧ (NIs (bite (bite (bite (ieq (sgn (crW a1 a2 b1 b2 c1 c2)) (0 : Int)) (btW a1 a2 b1 b2 c1 c2) false) true (bite (ieq (sgn (crW a1 a2 b1 b2 d1 d2)) (0 : Int)) (btW a1 a2 b1 b2 d1 d2) false)) true (bite (ieq (sgn (crW c1 c2 d1 d2 a1 a2)) (0 : Int)) (btW c1 c2 d1 d2 a1 a2) false)) false → (NIs (ieq (sgn (crW c1 c2 d1 d2 b1 b2)) (0 : Int)) true → True)) ∧ (NIs (bite (bite (bite (ieq (sgn (crW a1 a2 b1 b2 c1 c2)) (0 : Int)) (btW a1 a2 b1 b2 c1 c2) false) true (bite (ieq (sgn (crW a1 a2 b1 b2 d1 d2)) (0 : Int)) (btW a1 a2 b1 b2 d1 d2) false)) true (bite (ieq (sgn (crW c1 c2 d1 d2 a1 a2)) (0 : Int)) (btW c1 c2 d1 d2 a1 a2) false)) false → (NIs (ieq (sgn (crW c1 c2 d1 d2 b1 b2)) (0 : Int)) true → (True))) ∧ (NIs (bite (bite (bite (ieq (sgn (crW a1 a2 b1 b2 c1 c2)) (0 : Int)) (btW a1 a2 b1 b2 c1 c2) false) true (bite (ieq (sgn (crW a1 a2 b1 b2 d1 d2)) (0 : Int)) (btW a1 a2 b1 b2 d1 d2) false)) true (bite (ieq (sgn (crW c1 c2 d1 d2 a1 a2)) (0 : Int)) (btW c1 c2 d1 d2 a1 a2) false)) false → True) ∧ (True) ∧ (True) ∧ True) ∧ (((bite (bite (bite (bite (ieq (sgn (crW a1 a2 b1 b2 c1 c2)) (0 : Int)) (btW a1 a2 b1 b2 c1 c2) false) true (bite (ieq (sgn (crW a1 a2 b1 b2 d1 d2)) (0 : Int)) (btW a1 a2 b1 b2 d1 d2) false)) true (bite (ieq (sgn (crW c1 c2 d1 d2 a1 a2)) (0 : Int)) (btW c1 c2 d1 d2 a1 a2) false)) true (bite (ieq (sgn (crW c1 c2 d1 d2 b1 b2)) (0 : Int)) (btW c1 c2 d1 d2 b1 b2) false)) : Bool) = (meetB (a1, a2) (b1, b2) (c1, c2) (d1, d2))) ∧ True))) = ev sig_spec_l8Meet xs_spec_l8Meet Tryd.f89.ntmps (fun b => []) (codeOf Tryd.f89) 0 (initS [.agg [.int a1, .int a2], .agg [.int b1, .int b2], .agg [.int c1, .int c2], .agg [.int d1, .int d2]]) (retK Tryd.f89.results.toList [.s (.bool (meetB (a1, a2) (b1, b2) (c1, c2) (d1, d2)))]) := by kernel_rfl
set_option maxHeartbeats 400000 in
theorem F_spec_l8Meet : FunOK 89 g_spec_l8Meet := by
  refine fun_F (by kernel_rfl) Tryd.func89 rfl (by kernel_rfl) sig_spec_l8Meet_ok xs_spec_l8Meet_ok ?_
  intro avs sg h hn hl
  unfold g_spec_l8Meet at h
  split at h
  · rename_i a1 a2 b1 b2 c1 c2 d1 d2
    injection h with h; subst h
    refine ⟨by kernel_rfl, fun b => [], Eq.mp (V_spec_l8Meet a1 a2 b1 b2 c1 c2 d1 d2) ?_⟩
    simp only [true_and, and_true, implies_true, and_self, forall_const, true_implies, lenA, lenL, SV.lenOK, Cont.lenOK] at hn hl ⊢
    obtain ⟨va, vb, vc, vd⟩ := hn
    simp only [ilt_t, ilt_f, ile_t, ile_f, ieq_t, ieq_f, bnot_e, band_e, bite_and, bite_or, NLt_e, NLe_e, NNe_e, NIs_e, imax_e, imin_e, irem_e, Bool.not_eq_true', Bool.not_eq_false', Bool.and_eq_true, Bool.or_eq_true, Bool.or_eq_false_iff, Bool.and_eq_false_iff, Cont.pts.injEq, Cont.ints.injEq, Cont.bools.injEq, Cont.ptss.injEq, Cont.intss.injEq, Cont.boolss.injEq, true_and, and_true, implies_true, crW_e va vb vc, crW_e va vb vd, crW_e vc vd va, crW_e vc vd vb, btW_e, Int.sub_zero, imul_sgn, ieq_sgn]
    rw [← meetS_eq]; unfold meetS
    generalize crs (a1, a2) (b1, b2) (c1, c2) = x1 at *
    generalize crs (a1, a2) (b1, b2) (d1, d2) = x2 at *
    generalize crs (c1, c2) (d1, d2) (a1, a2) = x3 at *
    generalize crs (c1, c2) (d1, d2) (b1, b2) = x4 at *
    refine ⟨fun h => by simp [h.1, h.2], fun h => ?_⟩
    have e : (decide (sgn x1 ≠ sgn x2) && decide (sgn x3 ≠ sgn x4)) = false := by
      rcases h with h | h <;> simp [h] <;> omega
    rw [e, Bool.false_or]
  · cases h
def g_spec_l8Hit : List AV → Option Sg
  | [.s (.view (.pts l)), .agg [.int a1, .int a2], .agg [.int b1, .int b2]] => some ⟨allB l = true ∧ vB a1 a2 = true ∧ vB b1 b2 = true, [.s (.bool (hitB l a1 a2 b1 b2))]⟩
  | _ => none
def sig_spec_l8Hit : FuncId → List AV → Option Sg := sigL [(119, g_spec_l8Inside), (89, g_spec_l8Meet)]
def xs_spec_l8Hit : XS := ⟨xsigL [], ysigL []⟩
theorem sig_spec_l8Hit_ok : SigOK sig_spec_l8Hit := sigL_cons F_spec_l8Inside (sigL_cons F_spec_l8Meet sigL_nil)
theorem xs_spec_l8Hit_ok : XSigOK xs_spec_l8Hit := ⟨xsigL_nil, ysigL_nil⟩
theorem V_spec_l8Hit (l : List Pt) (a1 : Int) (a2 : Int) (b1 : Int) (b2 : Int) : ((true = true) ∧ ((True) ∧ (True) ∧ (True) ∧ True) ∧ (true = true) ∧ ((True) ∧ (True) ∧ ((True)) ∧ (True) ∧ (NIs (insB l a1 a2) false → True) ∧ (NIs (insB l a1 a2) false → True) ∧ (NIs (insB l a1 a2) false → (True)) ∧ (True) ∧ True) ∧ ((bite (insB l a1 a2) true (insB l b1 b2)) = true → ((true = true) ∧ ((True) ∧ True) ∧ ((true : Bool) = (hitB l a1 a2 b1 b2)) ∧ True)) ∧ ((bite (insB l a1 a2) true (insB l b1 b2)) = false → ((true = true) ∧ ((True) ∧ True) ∧ ∃ (I1 : List GV → Prop) (μ1 : List GV → Nat), (((true = true) ∧ (((false : Bool) = false) ∧ (((0 : Int) : Int) = (0 : Int)) ∧ ((Cont.pts l) = (Cont.pts l)) ∧ (((a1 : Int) = a1) ∧ ((a2 : Int) = a2) ∧ True) ∧ (((insB l a1 a2) : Bool) = (insB l a1 a2)) ∧ (((insB l a1 a2) : Bool) = (insB l a1 a2)) ∧ (((bite (insB l a1 a2) true (insB l b1 b2)) : Bool) = (bite (insB l a1 a2) true (insB l b1 b2))) ∧ (true = true) ∧ (true = true) ∧ ((Cont.pts l) = (Cont.pts l)) ∧ (((a1 : Int) = a1) ∧ ((a2 : Int) = a2) ∧ True) ∧ (((b1 : Int) = b1) ∧ ((b2 : Int) = b2) ∧ True) ∧ True) ∧ ((((a1 : Int) = a1) ∧ ((a2 : Int) = a2) ∧ True) ∧ (((b1 : Int) = b1) ∧ ((b2 : Int) = b2) ∧ True) ∧ True)) ∧ (([GK.int, GK.bool] : List GK) = ([GK.int, GK.bool] : List GK)) ∧ I1 [GV.int (0 : Int), GV.bool false]) ∧ (∀ i1_0 : Int, ∀ b1_1 : Bool, I1 [GV.int i1_0, GV.bool b1_1] → ((true = true) ∧ ((True) ∧ (True) ∧ (True) ∧ (True) ∧ True) ∧ ((ilt i1_0 (ilen l)) = true → ((true = true) ∧ ((True) ∧ (True) ∧ (True) ∧ (True) ∧ (NLe 0 i1_0 ∧ NLt i1_0 (ilen l)) ∧ (True) ∧ (True) ∧ (True) ∧ (True) ∧ (True) ∧ (True) ∧ (NNe (ilen l) 0) ∧ (NLe 0 (irem (iadd i1_0 (1 : Int)) (ilen l)) ∧ NLt (irem (iadd i1_0 (1 : Int)) (ilen l)) (ilen l)) ∧ (True) ∧ ((vB a1 a2 = true ∧ vB b1 b2 = true ∧ vB (getx l i1_0) (gety l i1_0) = true ∧ vB (getx l (irem (iadd i1_0 (1 : Int)) (ilen l))) (gety l (irem (iadd i1_0 (1 : Int)) (ilen l))) = true)) ∧ True) ∧ ((meetB (a1, a2) (b1, b2) ((getx l i1_0), (gety l i1_0)) ((getx l (irem (iadd i1_0 (1 : Int)) (ilen l))), (gety l (irem (iadd i1_0 (1 : Int)) (ilen l))))) = true → ((true = true) ∧ ((True) ∧ True) ∧ ((true : Bool) = (hitB l a1 a2 b1 b2)) ∧ True)) ∧ ((meetB (a1, a2) (b1, b2) ((getx l i1_0), (gety l i1_0)) ((getx l (irem (iadd i1_0 (1 : Int)) (ilen l))), (gety l (irem (iadd i1_0 (1 : Int)) (ilen l))))) = false → ((true = true) ∧ ((True) ∧ (True) ∧ (True) ∧ True) ∧ ((true = true) ∧ (((b1_1 : Bool) = b1_1) ∧ (((iadd i1_0 (1 : Int)) : Int) = (iadd i1_0 (1 : Int))) ∧ ((Cont.pts l) = (Cont.pts l)) ∧ (((a1 : Int) = a1) ∧ ((a2 : Int) = a2) ∧ True) ∧ (((insB l a1 a2) : Bool) = (insB l a1 a2)) ∧ (((insB l a1 a2) : Bool) = (insB l a1 a2)) ∧ (((bite (insB l a1 a2) true (insB l b1 b2)) : Bool) = (bite (insB l a1 a2) true (insB l b1 b2))) ∧ (true = true) ∧ (true = true) ∧ ((Cont.pts l) = (Cont.pts l)) ∧ (((a1 : Int) = a1) ∧ ((a2 : Int) = a2) ∧ True) ∧ (((b1 : Int) = b1) ∧ ((b2 : Int) = b2) ∧ True) ∧ True) ∧ ((((a1 : Int) = a1) ∧ ((a2 : Int) = a2) ∧ True) ∧ (((b1 : Int) = b1) ∧ ((b2 : Int) = b2) ∧ True) ∧ True)) ∧ ((([GK.int, GK.bool] : List GK) = ([GK.int, GK.bool] : List GK)) ∧ I1 [GV.int (iadd i1_0 (1 : Int)), GV.bool b1_1] ∧ μ1 [GV.int (iadd i1_0 (1 : Int)), GV.bool b1_1] < μ1 [GV.int i1_0, GV.bool b1_1]))))) ∧ ((ilt i1_0 (ilen l)) = false → ((true = true) ∧ ((True) ∧ True) ∧ ((false : Bool) = (hitB l a1 a2 b1 b2)) ∧ True))))))) = ev sig_spec_l8Hit xs_spec_l8Hit Tryd.f100.ntmps (fun b => if b == 0 then [.v 7, .v 6] else []) (codeOf Tryd.f100) 0 (initS [.s (.view (.pts l)), .agg [.int a1, .int a2], .agg [.int b1, .int b2]]) (retK Tryd.f100.results.toList [.s (.bool (hitB l a1 a2 b1 b2))]) := by kernel_rfl
set_option maxHeartbeats 400000 in
theorem F_spec_l8Hit : FunOK 100 g_spec_l8Hit := by
  refine fun_F (by kernel_rfl) Tryd.func100 rfl (by kernel_rfl) sig_spec_l8Hit_ok xs_spec_l8Hit_ok ?_
  intro avs sg h hn hl
  unfold g_spec_l8Hit at h
  split at h
  · rename_i l a1 a2 b1 b2
    injection h with h; subst h
    refine ⟨by kernel_rfl, fun b => if b == 0 then [.v 7, .v 6] else [], Eq.mp (V_spec_l8Hit l a1 a2 b1 b2) ?_⟩
    simp only [true_and, and_true, implies_true, and_self, forall_const, true_implies, lenA, lenL, SV.lenOK, Cont.lenOK] at hn hl ⊢
    have h0 := ilen_0 l
    obtain ⟨ha, va, vb⟩ := hn
    simp only [ilt_t, ilt_f, ile_t, ile_f, ieq_t, ieq_f, bnot_e, band_e, bite_and, bite_or, NLt_e, NLe_e, NNe_e, NIs_e, imax_e, imin_e, irem_e, Bool.not_eq_true', Bool.not_eq_false', Bool.and_eq_true, Bool.or_eq_true, Bool.or_eq_false_iff, Bool.and_eq_false_iff, Cont.pts.injEq, Cont.ints.injEq, Cont.bools.injEq, Cont.ptss.injEq, Cont.intss.injEq, Cont.boolss.injEq, true_and, and_true, implies_true]
    refine ⟨?_, fun hi => ?_⟩
    · rintro (h | h) <;> simp [hitB, h]
    · refine ⟨fun | .int k :: _ => 0 ≤ k ∧ k ≤ ilen l ∧ (∀ i, 0 ≤ i → i < k → hitE l a1 a2 b1 b2 i = false) | _ => False, fun | .int k :: _ => (ilen l - k).toNat | _ => 0, ?_, ?_⟩
      · exact ⟨Int.le_refl 0, h0, fun j h0 h1 => absurd h1 (by omega)⟩
      · rintro k _ ⟨hk0, hk1, hk⟩
        simp only [ilt_t, ilt_f, ile_t, ile_f, ieq_t, ieq_f, bnot_e, band_e, bite_and, bite_or, NLt_e, NLe_e, NNe_e, NIs_e, imax_e, imin_e, irem_e, Bool.not_eq_true', Bool.not_eq_false', Bool.and_eq_true, Bool.or_eq_true, Bool.or_eq_false_iff, Bool.and_eq_false_iff, Cont.pts.injEq, Cont.ints.injEq, Cont.bools.injEq, Cont.ptss.injEq, Cont.intss.injEq, Cont.boolss.injEq, true_and, and_true, implies_true]
        refine ⟨fun hkn => ?_, fun hkn => ?_⟩
        · have e1 := iadd_1 hk0 hkn hl
          obtain ⟨n0, n1, _⟩ := nx_in hk0 hkn
          have e2 : (k + 1).tmod (ilen l) = nx l k := rfl
          simp only [e1, e2]
          have hne : ilen l ≠ 0 := by omega
          have v1 := allB_at ha hk0 hkn
          have v2 := allB_at ha n0 n1
          refine ⟨⟨⟨hk0, hkn⟩, hne, ⟨n0, n1⟩, va, vb, v1, v2⟩, fun hx => ?_, fun hx => ?_⟩
          · have hE : hitE l a1 a2 b1 b2 k = true := hx
            simp [hitB, anyN_mk k hk0 hkn hE]
          · have hE : hitE l a1 a2 b1 b2 k = false := hx
            exact ⟨⟨by omega, by omega, upTo hk hE⟩, by omega⟩
        · have : anyN (ilen l) (hitE l a1 a2 b1 b2) = false := anyN_no fun j j0 j1 => hk j j0 (by omega)
          simp [hitB, hi.1, hi.2, this]
  · cases h
def g_spec_l10Clear : List AV → Option Sg
  | [.agg [.view (.ints a1), .view (.ints a2), .view (.ints a3)], .s (.view (.ints j)), .s (.view (.ptss l))] => some ⟨jvB a1 a2 a3 j = true ∧ sceneB l = true, [.s (.bool (acB a1 j l))]⟩
  | _ => none
def sig_spec_l10Clear : FuncId → List AV → Option Sg := sigL [(88, g_spec_l3Points), (100, g_spec_l8Hit)]
def xs_spec_l10Clear : XS := ⟨xsigL [], ysigL []⟩
theorem sig_spec_l10Clear_ok : SigOK sig_spec_l10Clear := sigL_cons F_spec_l3Points (sigL_cons F_spec_l8Hit sigL_nil)
theorem xs_spec_l10Clear_ok : XSigOK xs_spec_l10Clear := ⟨xsigL_nil, ysigL_nil⟩
theorem V_spec_l10Clear (a1 : List Int) (a2 : List Int) (a3 : List Int) (j : List Int) (l : List (List Pt)) : ((true = true) ∧ ((True) ∧ (True) ∧ True) ∧ (true = true) ∧ ((True) ∧ (True) ∧ ((jvB a1 a2 a3 j = true)) ∧ (True) ∧ True) ∧ (true = true) ∧ ((True) ∧ True) ∧ ∃ (I1 : List GV → Prop) (μ1 : List GV → Nat), (((true = true) ∧ (((false : Bool) = false) ∧ (((0 : Int) : Int) = (0 : Int)) ∧ (((Cont.ints a1) = (Cont.ints a1)) ∧ ((Cont.ints a2) = (Cont.ints a2)) ∧ ((Cont.ints a3) = (Cont.ints a3)) ∧ True) ∧ ((Cont.ints j) = (Cont.ints j)) ∧ (true = true) ∧ (true = true) ∧ (true = true) ∧ (((Cont.ints a1) = (Cont.ints a1)) ∧ ((Cont.ints a2) = (Cont.ints a2)) ∧ ((Cont.ints a3) = (Cont.ints a3)) ∧ True) ∧ ((Cont.ints j) = (Cont.ints j)) ∧ ((Cont.ptss l) = (Cont.ptss l)) ∧ True) ∧ (((true = true) ∧ ((Cont.pts (apL a1 j (ilen a1 + 1))) = (Cont.pts (apL a1 j (ilen a1 + 1))))) ∧ (((Cont.ints a1) = (Cont.ints a1)) ∧ ((Cont.ints a2) = (Cont.ints a2)) ∧ ((Cont.ints a3) = (Cont.ints a3)) ∧ True) ∧ True)) ∧ (([GK.int, GK.bool] : List GK) = ([GK.int, GK.bool] : List GK)) ∧ I1 [GV.int (0 : Int), GV.bool false]) ∧ (∀ i1_0 : Int, ∀ b1_1 : Bool, I1 [GV.int i1_0, GV.bool b1_1] → ((true = true) ∧ ((True) ∧ (True) ∧ (True) ∧ (True) ∧ (True) ∧ True) ∧ ((ilt (iadd i1_0 (1 : Int)) (ilen (apL a1 j (ilen a1 + 1)))) = true → ((true = true) ∧ ((True) ∧ True) ∧ ∃ (I2 : List GV → Prop) (μ2 : List GV → Nat), (((true = true) ∧ (((b1_1 : Bool) = b1_1) ∧ (((0 : Int) : Int) = (0 : Int)) ∧ ((i1_0 : Int) = i1_0) ∧ (((iadd i1_0 (1 : Int)) : Int) = (iadd i1_0 (1 : Int))) ∧ (true = true) ∧ (((ilen (apL a1 j (ilen a1 + 1))) : Int) = (ilen (apL a1 j (ilen a1 + 1)))) ∧ (((ilt (iadd i1_0 (1 : Int)) (ilen (apL a1 j (ilen a1 + 1)))) : Bool) = (ilt (iadd i1_0 (1 : Int)) (ilen (apL a1 j (ilen a1 + 1))))) ∧ ((i1_0 : Int) = i1_0) ∧ (((Cont.ints a1) = (Cont.ints a1)) ∧ ((Cont.ints a2) = (Cont.ints a2)) ∧ ((Cont.ints a3) = (Cont.ints a3)) ∧ True) ∧ ((Cont.ints j) = (Cont.ints j)) ∧ (true = true) ∧ (true = true) ∧ (true = true) ∧ (((Cont.ints a1) = (Cont.ints a1)) ∧ ((Cont.ints a2) = (Cont.ints a2)) ∧ ((Cont.ints a3) = (Cont.ints a3)) ∧ True) ∧ ((Cont.ints j) = (Cont.ints j)) ∧ ((Cont.ptss l) = (Cont.ptss l)) ∧ True) ∧ (((true = true) ∧ ((Cont.pts (apL a1 j (ilen a1 + 1))) = (Cont.pts (apL a1 j (ilen a1 + 1))))) ∧ (((Cont.ints a1) = (Cont.ints a1)) ∧ ((Cont.ints a2) = (Cont.ints a2)) ∧ ((Cont.ints a3) = (Cont.ints a3)) ∧ True) ∧ True)) ∧ (([GK.int, GK.bool] : List GK) = ([GK.int, GK.bool] : List GK)) ∧ I2 [GV.int (0 : Int), GV.bool b1_1]) ∧ (∀ i2_0 : Int, ∀ b2_1 : Bool, I2 [GV.int i2_0, GV.bool b2_1] → ((true = true) ∧ ((True) ∧ (True) ∧ (True) ∧ (True) ∧ True) ∧ ((ilt i2_0 (ilen l)) = true → ((true = true) ∧ ((True) ∧ (True) ∧ (NLe 0 i2_0 ∧ NLt i2_0 (ilen l)) ∧ (True) ∧ (True) ∧ (True) ∧ (NLe 0 i1_0 ∧ NLt i1_0 (ilen (apL a1 j (ilen a1 + 1)))) ∧ (NLt i1_0 (ilen (apL a1 j (ilen a1 + 1)))) ∧ (True) ∧ (True) ∧ (True) ∧ (NLe 0 (iadd i1_0 (1 : Int)) ∧ NLt (iadd i1_0 (1 : Int)) (ilen (apL a1 j (ilen a1 + 1)))) ∧ (NLt (iadd i1_0 (1 : Int)) (ilen (apL a1 j (ilen a1 + 1)))) ∧ ((allB (getl l i2_0) = true ∧ vB (getx (apL a1 j (ilen a1 + 1)) i1_0) (gety (apL a1 j (ilen a1 + 1)) i1_0) = true ∧ vB (getx (apL a1 j (ilen a1 + 1)) (iadd i1_0 (1 : Int))) (gety (apL a1 j (ilen a1 + 1)) (iadd i1_0 (1 : Int))) = true)) ∧ True) ∧ ((hitB (getl l i2_0) (getx (apL a1 j (ilen a1 + 1)) i1_0) (gety (apL a1 j (ilen a1 + 1)) i1_0) (getx (apL a1 j (ilen a1 + 1)) (iadd i1_0 (1 : Int))) (gety (apL a1 j (ilen a1 + 1)) (iadd i1_0 (1 : Int)))) = true → ((true = true) ∧ ((True) ∧ True) ∧ ((false : Bool) = (acB a1 j l)) ∧ True)) ∧ ((hitB (getl l i2_0) (getx (apL a1 j (ilen a1 + 1)) i1_0) (gety (apL a1 j (ilen a1 + 1)) i1_0) (getx (apL a1 j (ilen a1 + 1)) (iadd i1_0 (1 : Int))) (gety (apL a1 j (ilen a1 + 1)) (iadd i1_0 (1 : Int)))) = false → ((true = true) ∧ ((True) ∧ (True) ∧ (True) ∧ True) ∧ ((true = true) ∧ (((b2_1 : Bool) = b2_1) ∧ (((iadd i2_0 (1 : Int)) : Int) = (iadd i2_0 (1 : Int))) ∧ ((i1_0 : Int) = i1_0) ∧ (((iadd i1_0 (1 : Int)) : Int) = (iadd i1_0 (1 : Int))) ∧ (true = true) ∧ (((ilen (apL a1 j (ilen a1 + 1))) : Int) = (ilen (apL a1 j (ilen a1 + 1)))) ∧ (((ilt (iadd i1_0 (1 : Int)) (ilen (apL a1 j (ilen a1 + 1)))) : Bool) = (ilt (iadd i1_0 (1 : Int)) (ilen (apL a1 j (ilen a1 + 1))))) ∧ ((i1_0 : Int) = i1_0) ∧ (((Cont.ints a1) = (Cont.ints a1)) ∧ ((Cont.ints a2) = (Cont.ints a2)) ∧ ((Cont.ints a3) = (Cont.ints a3)) ∧ True) ∧ ((Cont.ints j) = (Cont.ints j)) ∧ (true = true) ∧ (true = true) ∧ (true = true) ∧ (((Cont.ints a1) = (Cont.ints a1)) ∧ ((Cont.ints a2) = (Cont.ints a2)) ∧ ((Cont.ints a3) = (Cont.ints a3)) ∧ True) ∧ ((Cont.ints j) = (Cont.ints j)) ∧ ((Cont.ptss l) = (Cont.ptss l)) ∧ True) ∧ (((true = true) ∧ ((Cont.pts (apL a1 j (ilen a1 + 1))) = (Cont.pts (apL a1 j (ilen a1 + 1))))) ∧ (((Cont.ints a1) = (Cont.ints a1)) ∧ ((Cont.ints a2) = (Cont.ints a2)) ∧ ((Cont.ints a3) = (Cont.ints a3)) ∧ True) ∧ True)) ∧ ((([GK.int, GK.bool] : List GK) = ([GK.int, GK.bool] : List GK)) ∧ I2 [GV.int (iadd i2_0 (1 : Int)), GV.bool b2_1] ∧ μ2 [GV.int (iadd i2_0 (1 : Int)), GV.bool b2_1] < μ2 [GV.int i2_0, GV.bool b2_1]))))) ∧ ((ilt i2_0 (ilen l)) = false → ((true = true) ∧ ((True) ∧ (True) ∧ (True) ∧ True) ∧ ((true = true) ∧ (((b2_1 : Bool) = b2_1) ∧ (((iadd i1_0 (1 : Int)) : Int) = (iadd i1_0 (1 : Int))) ∧ (((Cont.ints a1) = (Cont.ints a1)) ∧ ((Cont.ints a2) = (Cont.ints a2)) ∧ ((Cont.ints a3) = (Cont.ints a3)) ∧ True) ∧ ((Cont.ints j) = (Cont.ints j)) ∧ (true = true) ∧ (true = true) ∧ (true = true) ∧ (((Cont.ints a1) = (Cont.ints a1)) ∧ ((Cont.ints a2) = (Cont.ints a2)) ∧ ((Cont.ints a3) = (Cont.ints a3)) ∧ True) ∧ ((Cont.ints j) = (Cont.ints j)) ∧ ((Cont.ptss l) = (Cont.ptss l)) ∧ True) ∧ (((true = true) ∧ ((Cont.pts (apL a1 j (ilen a1 + 1))) = (Cont.pts (apL a1 j (ilen a1 + 1))))) ∧ (((Cont.ints a1) = (Cont.ints a1)) ∧ ((Cont.ints a2) = (Cont.ints a2)) ∧ ((Cont.ints a3) = (Cont.ints a3)) ∧ True) ∧ True)) ∧ ((([GK.int, GK.bool] : List GK) = ([GK.int, GK.bool] : List GK)) ∧ I1 [GV.int (iadd i1_0 (1 : Int)), GV.bool b2_1] ∧ μ1 [GV.int (iadd i1_0 (1 : Int)), GV.bool b2_1] < μ1 [GV.int i1_0, GV.bool b1_1]))))))) ∧ ((ilt (iadd i1_0 (1 : Int)) (ilen (apL a1 j (ilen a1 + 1)))) = false → ((true = true) ∧ ((True) ∧ True) ∧ ((true : Bool) = (acB a1 j l)) ∧ True))))) = ev sig_spec_l10Clear xs_spec_l10Clear Tryd.f65.ntmps (fun b => if b == 0 then [.v 8, .v 6] else if b == 2 then [.v 9, .v 6] else []) (codeOf Tryd.f65) 0 (initS [.agg [.view (.ints a1), .view (.ints a2), .view (.ints a3)], .s (.view (.ints j)), .s (.view (.ptss l))]) (retK Tryd.f65.results.toList [.s (.bool (acB a1 j l))]) := by kernel_rfl
set_option maxHeartbeats 400000 in
theorem F_spec_l10Clear : FunOK 65 g_spec_l10Clear := by
  refine fun_F (by kernel_rfl) Tryd.func65 rfl (by kernel_rfl) sig_spec_l10Clear_ok xs_spec_l10Clear_ok ?_
  intro avs sg h hn hl
  unfold g_spec_l10Clear at h
  split at h
  · rename_i a1 a2 a3 j l
    injection h with h; subst h
    refine ⟨by kernel_rfl, fun b => if b == 0 then [.v 8, .v 6] else if b == 2 then [.v 9, .v 6] else [], Eq.mp (V_spec_l10Clear a1 a2 a3 j l) ?_⟩
    simp only [true_and, and_true, implies_true, and_self, forall_const, true_implies, lenA, lenL, SV.lenOK, Cont.lenOK] at hn hl ⊢
    obtain ⟨hj, hs⟩ := hn
    simp only [ilt_t, ilt_f, ile_t, ile_f, ieq_t, ieq_f, bnot_e, band_e, bite_and, bite_or, NLt_e, NLe_e, NNe_e, NIs_e, imax_e, imin_e, irem_e, Bool.not_eq_true', Bool.not_eq_false', Bool.and_eq_true, Bool.or_eq_true, Bool.or_eq_false_iff, Bool.and_eq_false_iff, Cont.pts.injEq, Cont.ints.injEq, Cont.bools.injEq, Cont.ptss.injEq, Cont.intss.injEq, Cont.boolss.injEq, true_and, and_true, implies_true]
    refine ⟨hj, ?_⟩
    obtain ⟨ha, hjl, hl4, hlk, hjk⟩ := jv_p hj
    obtain ⟨s6, sat⟩ := scene_at hs
    have hl0 := ilen_0 l
    have hv := fun (k : Int) (h0 : 0 ≤ k) (h1 : k ≤ ilen a1) => jv_vB hj h0 h1
    have hlen : ilen (apL a1 j (ilen a1 + 1)) = ilen a1 + 1 := apL_len (by omega)
    have hg : ∀ i, 0 ≤ i → i ≤ ilen a1 → getx (apL a1 j (ilen a1 + 1)) i = apX a1 j i ∧ gety (apL a1 j (ilen a1 + 1)) i = apY a1 j i := fun i h0 h1 => apL_get h0 (by omega)
    rw [hlen]
    generalize apL a1 j (ilen a1 + 1) = P at *
    refine ⟨fun | [.int i, .bool _] => 0 ≤ i ∧ i ≤ ilen a1 ∧ (∀ a, 0 ≤ a → a < i → acN a1 j l a = true) | _ => False, fun | .int i :: _ => (ilen a1 - i).toNat | _ => 0, ⟨by omega, by omega, fun a h0 h1 => by omega⟩, ?_⟩
    rintro i b ⟨i0, i1, hi⟩
    have e1 : iadd i 1 = i + 1 := iadd_e (by omega) (by omega)
    rw [e1]
    refine ⟨fun hc => ?_, fun hc => ?_⟩
    · refine ⟨fun | [.int k, .bool _] => 0 ≤ k ∧ k ≤ ilen l ∧ (∀ m, 0 ≤ m → m < k → acE a1 j (getl l m) i = true) | _ => False, fun | .int k :: _ => (ilen l - k).toNat | _ => 0, ⟨by omega, by omega, fun m h0 h1 => by omega⟩, ?_⟩
      rintro k b2 ⟨k0, k1, hk⟩
      refine ⟨fun hc2 => ?_, fun hc2 => ?_⟩
      · obtain ⟨x1, y1⟩ := hg i (by omega) (by omega)
        obtain ⟨x2, y2⟩ := hg (i + 1) (by omega) (by omega)
        have e3 : iadd k 1 = k + 1 := iadd_e (by omega) (by omega)
        have hcv := (sat k k0 hc2).2
        rw [x1, y1, x2, y2, e3]
        refine ⟨⟨⟨k0, hc2⟩, ⟨by omega, by omega⟩, by omega, ⟨by omega, by omega⟩, by omega, hcv, hv _ (by omega) (by omega), hv _ (by omega) (by omega)⟩, fun hm => ?_, fun hm => ?_⟩
        · have hE : acE a1 j (getl l k) i = false := by unfold acE; rw [hm]; rfl
          have hN : acN a1 j l i = false := by unfold acN; exact allN_no (f := fun o => acE a1 j (getl l o) i) k k0 hc2 hE
          unfold acB
          rw [allN_no (f := acN a1 j l) i i0 (by omega) hN]
        · have hE : acE a1 j (getl l k) i = true := by unfold acE; rw [hm]; rfl
          exact ⟨⟨by omega, by omega, fun m m0 m1 => by
            by_cases h : m = k
            · rw [h]; exact hE
            · exact hk m m0 (by omega)⟩, by show (ilen l - (k + 1)).toNat < (ilen l - k).toNat; omega⟩
      · exact ⟨⟨by omega, by omega, fun a h0 h1 => by
          by_cases h : a = i
          · rw [h]; unfold acN; exact allN_mk fun m m0 m1 => hk m m0 (by omega)
          · exact hi a h0 (by omega)⟩, by show (ilen a1 - (i + 1)).toNat < (ilen a1 - i).toNat; omega⟩
    · unfold acB
      rw [allN_mk fun a h0 h1 => hi a h0 (by omega)]
  · cases h
def g_spec_FreeCells : List AV → Option Sg
  | [.agg [.view (.ints a1), .view (.ints a2), .view (.ints a3)], .s (.int s), .s (.view (.ptss l))] => some ⟨True, [.nrow 34 (.boolss (fcL a1 a2 a3 s l))]⟩
  | _ => none
def sig_spec_FreeCells : FuncId → List AV → Option Sg := sigL [(64, g_spec_l11Size), (55, g_spec_SceneValid), (65, g_spec_l10Clear)]
def xs_spec_FreeCells : XS := ⟨xsigL [], ysigL []⟩
theorem sig_spec_FreeCells_ok : SigOK sig_spec_FreeCells := sigL_cons F_spec_l11Size (sigL_cons F_spec_SceneValid (sigL_cons F_spec_l10Clear sigL_nil))
theorem xs_spec_FreeCells_ok : XSigOK xs_spec_FreeCells := ⟨xsigL_nil, ysigL_nil⟩
theorem V_spec_FreeCells (a1 : List Int) (a2 : List Int) (a3 : List Int) (s : Int) (l : List (List Pt)) : ((true = true) ∧ ((True) ∧ (True) ∧ True) ∧ (true = true) ∧ ((True) ∧ (True) ∧ True) ∧ (true = true) ∧ ((True) ∧ (True) ∧ ((True)) ∧ (True) ∧ (True) ∧ (True) ∧ (True) ∧ (True) ∧ True) ∧ (true = true) ∧ ((True) ∧ ((True)) ∧ (True) ∧ True) ∧ ((bnot (sceneB l)) = true → ((true = true) ∧ ((True) ∧ (True) ∧ True) ∧ ((true = true) ∧ ((Cont.boolss []) = (Cont.boolss (fcL a1 a2 a3 s l)))) ∧ True)) ∧ ((bnot (sceneB l)) = false → ((true = true) ∧ ((True) ∧ True) ∧ ∃ (I1 : List GV → Prop) (μ1 : List GV → Nat), (((true = true) ∧ ((((0 : Int) : Int) = (0 : Int)) ∧ ((Cont.ptss l) = (Cont.ptss l)) ∧ (((sceneB l) : Bool) = (sceneB l)) ∧ (((bnot (sceneB l)) : Bool) = (bnot (sceneB l))) ∧ (((Cont.ints a1) = (Cont.ints a1)) ∧ ((Cont.ints a2) = (Cont.ints a2)) ∧ ((Cont.ints a3) = (Cont.ints a3)) ∧ True) ∧ ((s : Int) = s) ∧ (((gsK a1 a2 a3 s 0) : Int) = (gsK a1 a2 a3 s 0)) ∧ (((gsK a1 a2 a3 s 1) : Int) = (gsK a1 a2 a3 s 1)) ∧ (((gsK a1 a2 a3 s 0) : Int) = (gsK a1 a2 a3 s 0)) ∧ (((gsK a1 a2 a3 s 1) : Int) = (gsK a1 a2 a3 s 1)) ∧ (true = true) ∧ (true = true) ∧ (true = true) ∧ (((Cont.ints a1) = (Cont.ints a1)) ∧ ((Cont.ints a2) = (Cont.ints a2)) ∧ ((Cont.ints a3) = (Cont.ints a3)) ∧ True) ∧ ((s : Int) = s) ∧ ((Cont.ptss l) = (Cont.ptss l)) ∧ True) ∧ (((true = true) ∧ ((Cont.boolss []) = (Cont.boolss []))) ∧ (((Cont.ints a1) = (Cont.ints a1)) ∧ ((Cont.ints a2) = (Cont.ints a2)) ∧ ((Cont.ints a3) = (Cont.ints a3)) ∧ True) ∧ ((true = true) ∧ ((Cont.boolss []) = (Cont.boolss []))) ∧ True)) ∧ (([GK.int, GK.boolss] : List GK) = ([GK.int, GK.boolss] : List GK)) ∧ I1 [GV.int (0 : Int), GV.boolss []]) ∧ (∀ i1_0 : Int, ∀ l1_1 : List (List Bool), I1 [GV.int i1_0, GV.boolss l1_1] → ((true = true) ∧ ((True) ∧ (True) ∧ (True) ∧ True) ∧ ((ilt i1_0 (gsK a1 a2 a3 s 0)) = true → ((true = true) ∧ ((True) ∧ (True) ∧ True) ∧ (true = true) ∧ ((True) ∧ True) ∧ ∃ (I2 : List GV → Prop) (μ2 : List GV → Nat), (((true = true) ∧ ((((0 : Int) : Int) = (0 : Int)) ∧ (true = true) ∧ ((i1_0 : Int) = i1_0) ∧ (((gsK a1 a2 a3 s 0) : Int) = (gsK a1 a2 a3 s 0)) ∧ (((ilt i1_0 (gsK a1 a2 a3 s 0)) : Bool) = (ilt i1_0 (gsK a1 a2 a3 s 0))) ∧ ((i1_0 : Int) = i1_0) ∧ ((Cont.ptss l) = (Cont.ptss l)) ∧ (((sceneB l) : Bool) = (sceneB l)) ∧ (((bnot (sceneB l)) : Bool) = (bnot (sceneB l))) ∧ (((Cont.ints a1) = (Cont.ints a1)) ∧ ((Cont.ints a2) = (Cont.ints a2)) ∧ ((Cont.ints a3) = (Cont.ints a3)) ∧ True) ∧ ((s : Int) = s) ∧ (((gsK a1 a2 a3 s 0) : Int) = (gsK a1 a2 a3 s 0)) ∧ (((gsK a1 a2 a3 s 1) : Int) = (gsK a1 a2 a3 s 1)) ∧ (((gsK a1 a2 a3 s 0) : Int) = (gsK a1 a2 a3 s 0)) ∧ (((gsK a1 a2 a3 s 1) : Int) = (gsK a1 a2 a3 s 1)) ∧ (true = true) ∧ (true = true) ∧ (true = true) ∧ (((Cont.ints a1) = (Cont.ints a1)) ∧ ((Cont.ints a2) = (Cont.ints a2)) ∧ ((Cont.ints a3) = (Cont.ints a3)) ∧ True) ∧ ((s : Int) = s) ∧ ((Cont.ptss l) = (Cont.ptss l)) ∧ True) ∧ (((true = true) ∧ ((Cont.bools []) = (Cont.bools []))) ∧ ((true = true) ∧ ((Cont.boolss l1_1) = (Cont.boolss l1_1))) ∧ (((Cont.ints a1) = (Cont.ints a1)) ∧ ((Cont.ints a2) = (Cont.ints a2)) ∧ ((Cont.ints a3) = (Cont.ints a3)) ∧ True) ∧ ((true = true) ∧ ((Cont.boolss []) = (Cont.boolss []))) ∧ True)) ∧ (([GK.int, GK.bools] : List GK) = ([GK.int, GK.bools] : List GK)) ∧ I2 [GV.int (0 : Int), GV.bools []]) ∧ (∀ i2_0 : Int, ∀ l2_1 : List Bool, I2 [GV.int i2_0, GV.bools l2_1] → ((true = true) ∧ ((True) ∧ (True) ∧ (True) ∧ True) ∧ ((ilt i2_0 (gsK a1 a2 a3 s 1)) = true → ((true = true) ∧ ((True) ∧ (True) ∧ (True) ∧ (True) ∧ (NLe 0 (0 : Int) ∧ NLt (0 : Int) (ilen a2)) ∧ (True) ∧ (True) ∧ (True) ∧ (True) ∧ (True) ∧ (True) ∧ (True) ∧ (NLe 0 (1 : Int) ∧ NLt (1 : Int) (ilen a2)) ∧ (True) ∧ (True) ∧ (True) ∧ (True) ∧ (True) ∧ (True) ∧ (True) ∧ ((jvB a1 a2 a3 [(iadd (geti a2 (0 : Int)) (imul i1_0 s)), (iadd (geti a2 (1 : Int)) (imul i2_0 s))] = true ∧ sceneB l = true)) ∧ (True) ∧ True) ∧ (NLe (ilen l2_1) 1000000000 ∧ NLe (ilen [(acB a1 [(iadd (geti a2 (0 : Int)) (imul i1_0 s)), (iadd (geti a2 (1 : Int)) (imul i2_0 s))] l)]) 1000000000) ∧ (True) ∧ (true = true) ∧ ((True) ∧ (True) ∧ (True) ∧ True) ∧ ((true = true) ∧ ((((iadd i2_0 (1 : Int)) : Int) = (iadd i2_0 (1 : Int))) ∧ (true = true) ∧ ((i1_0 : Int) = i1_0) ∧ (((gsK a1 a2 a3 s 0) : Int) = (gsK a1 a2 a3 s 0)) ∧ (((ilt i1_0 (gsK a1 a2 a3 s 0)) : Bool) = (ilt i1_0 (gsK a1 a2 a3 s 0))) ∧ ((i1_0 : Int) = i1_0) ∧ ((Cont.ptss l) = (Cont.ptss l)) ∧ (((sceneB l) : Bool) = (sceneB l)) ∧ (((bnot (sceneB l)) : Bool) = (bnot (sceneB l))) ∧ (((Cont.ints a1) = (Cont.ints a1)) ∧ ((Cont.ints a2) = (Cont.ints a2)) ∧ ((Cont.ints a3) = (Cont.ints a3)) ∧ True) ∧ ((s : Int) = s) ∧ (((gsK a1 a2 a3 s 0) : Int) = (gsK a1 a2 a3 s 0)) ∧ (((gsK a1 a2 a3 s 1) : Int) = (gsK a1 a2 a3 s 1)) ∧ (((gsK a1 a2 a3 s 0) : Int) = (gsK a1 a2 a3 s 0)) ∧ (((gsK a1 a2 a3 s 1) : Int) = (gsK a1 a2 a3 s 1)) ∧ (true = true) ∧ (true = true) ∧ (true = true) ∧ (((Cont.ints a1) = (Cont.ints a1)) ∧ ((Cont.ints a2) = (Cont.ints a2)) ∧ ((Cont.ints a3) = (Cont.ints a3)) ∧ True) ∧ ((s : Int) = s) ∧ ((Cont.ptss l) = (Cont.ptss l)) ∧ True) ∧ (((true = true) ∧ ((Cont.bools (iapp l2_1 [(acB a1 [(iadd (geti a2 (0 : Int)) (imul i1_0 s)), (iadd (geti a2 (1 : Int)) (imul i2_0 s))] l)])) = (Cont.bools (iapp l2_1 [(acB a1 [(iadd (geti a2 (0 : Int)) (imul i1_0 s)), (iadd (geti a2 (1 : Int)) (imul i2_0 s))] l)])))) ∧ ((true = true) ∧ ((Cont.boolss l1_1) = (Cont.boolss l1_1))) ∧ (((Cont.ints a1) = (Cont.ints a1)) ∧ ((Cont.ints a2) = (Cont.ints a2)) ∧ ((Cont.ints a3) = (Cont.ints a3)) ∧ True) ∧ ((true = true) ∧ ((Cont.boolss []) = (Cont.boolss []))) ∧ True)) ∧ ((([GK.int, GK.bools] : List GK) = ([GK.int, GK.bools] : List GK)) ∧ I2 [GV.int (iadd i2_0 (1 : Int)), GV.bools (iapp l2_1 [(acB a1 [(iadd (geti a2 (0 : Int)) (imul i1_0 s)), (iadd (geti a2 (1 : Int)) (imul i2_0 s))] l)])] ∧ μ2 [GV.int (iadd i2_0 (1 : Int)), GV.bools (iapp l2_1 [(acB a1 [(iadd (geti a2 (0 : Int)) (imul i1_0 s)), (iadd (geti a2 (1 : Int)) (imul i2_0 s))] l)])] < μ2 [GV.int i2_0, GV.bools l2_1]))) ∧ ((ilt i2_0 (gsK a1 a2 a3 s 1)) = false → ((true = true) ∧ ((True) ∧ (True) ∧ True) ∧ (True) ∧ (NLe (ilen l1_1) 1000000000 ∧ NLe (ilen [l2_1]) 1000000000) ∧ (True) ∧ (true = true) ∧ ((True) ∧ (True) ∧ (True) ∧ True) ∧ ((true = true) ∧ ((((iadd i1_0 (1 : Int)) : Int) = (iadd i1_0 (1 : Int))) ∧ ((Cont.ptss l) = (Cont.ptss l)) ∧ (((sceneB l) : Bool) = (sceneB l)) ∧ (((bnot (sceneB l)) : Bool) = (bnot (sceneB l))) ∧ (((Cont.ints a1) = (Cont.ints a1)) ∧ ((Cont.ints a2) = (Cont.ints a2)) ∧ ((Cont.ints a3) = (Cont.ints a3)) ∧ True) ∧ ((s : Int) = s) ∧ (((gsK a1 a2 a3 s 0) : Int) = (gsK a1 a2 a3 s 0)) ∧ (((gsK a1 a2 a3 s 1) : Int) = (gsK a1 a2 a3 s 1)) ∧ (((gsK a1 a2 a3 s 0) : Int) = (gsK a1 a2 a3 s 0)) ∧ (((gsK a1 a2 a3 s 1) : Int) = (gsK a1 a2 a3 s 1)) ∧ (true = true) ∧ (true = true) ∧ (true = true) ∧ (((Cont.ints a1) = (Cont.ints a1)) ∧ ((Cont.ints a2) = (Cont.ints a2)) ∧ ((Cont.ints a3) = (Cont.ints a3)) ∧ True) ∧ ((s : Int) = s) ∧ ((Cont.ptss l) = (Cont.ptss l)) ∧ True) ∧ (((true = true) ∧ ((Cont.boolss (iapp l1_1 [l2_1])) = (Cont.boolss (iapp l1_1 [l2_1])))) ∧ (((Cont.ints a1) = (Cont.ints a1)) ∧ ((Cont.ints a2) = (Cont.ints a2)) ∧ ((Cont.ints a3) = (Cont.ints a3)) ∧ True) ∧ ((true = true) ∧ ((Cont.boolss []) = (Cont.boolss []))) ∧ True)) ∧ ((([GK.int, GK.boolss] : List GK) = ([GK.int, GK.boolss] : List GK)) ∧ I1 [GV.int (iadd i1_0 (1 : Int)), GV.boolss (iapp l1_1 [l2_1])] ∧ μ1 [GV.int (iadd i1_0 (1 : Int)), GV.boolss (iapp l1_1 [l2_1])] < μ1 [GV.int i1_0, GV.boolss l1_1]))))))) ∧ ((ilt i1_0 (gsK a1 a2 a3 s 0)) = false → ((true = true) ∧ ((True) ∧ (True) ∧ True) ∧ ((true = true) ∧ ((Cont.boolss l1_1) = (Cont.boolss (fcL a1 a2 a3 s l)))) ∧ True))))))) = ev sig_spec_FreeCells xs_spec_FreeCells Tryd.f16.ntmps (fun b => if b == 0 then [.v 10, .b 7] else if b == 2 then [.v 12, .b 11] else []) (codeOf Tryd.f16) 0 (initS [.agg [.view (.ints a1), .view (.ints a2), .view (.ints a3)], .s (.int s), .s (.view (.ptss l))]) (retK Tryd.f16.results.toList [.nrow 34 (.boolss (fcL a1 a2 a3 s l))]) := by kernel_rfl
set_option maxHeartbeats 400000 in
theorem F_spec_FreeCells : FunOK 16 g_spec_FreeCells := by
  refine fun_F (by kernel_rfl) Tryd.func16 rfl (by kernel_rfl) sig_spec_FreeCells_ok xs_spec_FreeCells_ok ?_
  intro avs sg h hn hl
  unfold g_spec_FreeCells at h
  split at h
  · rename_i a1 a2 a3 s l
    injection h with h; subst h
    refine ⟨by kernel_rfl, fun b => if b == 0 then [.v 10, .b 7] else if b == 2 then [.v 12, .b 11] else [], Eq.mp (V_spec_FreeCells a1 a2 a3 s l) ?_⟩
    simp only [true_and, and_true, implies_true, and_self, forall_const, true_implies, lenA, lenL, SV.lenOK, Cont.lenOK] at hn hl ⊢
    simp only [ilt_t, ilt_f, ile_t, ile_f, ieq_t, ieq_f, bnot_e, band_e, bite_and, bite_or, NLt_e, NLe_e, NNe_e, NIs_e, imax_e, imin_e, irem_e, Bool.not_eq_true', Bool.not_eq_false', Bool.and_eq_true, Bool.or_eq_true, Bool.or_eq_false_iff, Bool.and_eq_false_iff, Cont.pts.injEq, Cont.ints.injEq, Cont.bools.injEq, Cont.ptss.injEq, Cont.intss.injEq, Cont.boolss.injEq, true_and, and_true, implies_true]
    refine ⟨fun h => by unfold fcL; rw [h]; rfl, fun hs => ?_⟩
    have hL : fcL a1 a2 a3 s l = fcT a1 a2 l s (gsK a1 a2 a3 s 1) (gsK a1 a2 a3 s 0) := by unfold fcL; rw [if_pos hs]
    have hc20 : (0 ≤ gsK a1 a2 a3 s 0 ∧ gsK a1 a2 a3 s 0 ≤ 20) ∧ (0 ≤ gsK a1 a2 a3 s 1 ∧ gsK a1 a2 a3 s 1 ≤ 20) := by
      rcases gsK_cases a1 a2 a3 s with ⟨h0, h1⟩ | ⟨hB, g0, g1, e0, e1, m0, m1⟩ <;> omega
    rw [hL]
    refine ⟨fun | [.int i, .boolss o] => 0 ≤ i ∧ i ≤ gsK a1 a2 a3 s 0 ∧ o = fcT a1 a2 l s (gsK a1 a2 a3 s 1) i | _ => False, fun | .int i :: _ => (gsK a1 a2 a3 s 0 - i).toNat | _ => 0, ⟨by omega, by omega, rfl⟩, ?_⟩
    rintro i o ⟨i0, i1, rfl⟩
    refine ⟨fun hi => ?_, fun hi => ?_⟩
    · refine ⟨fun | [.int k, .bools r] => 0 ≤ k ∧ k ≤ gsK a1 a2 a3 s 1 ∧ r = fcR a1 a2 l s i k | _ => False, fun | .int k :: _ => (gsK a1 a2 a3 s 1 - k).toNat | _ => 0, ⟨by omega, by omega, rfl⟩, ?_⟩
      rintro k r ⟨k0, k1, rfl⟩
      refine ⟨fun hk => ?_, fun hk => ?_⟩
      · obtain ⟨hb, he, _⟩ := cj_in (a1 := a1) (a2 := a2) (a3 := a3) (s := s) i0 hi k0 hk
        have hj := cj_jv hb
        obtain ⟨_, l2, _⟩ := cj_parts hb
        have ee : [iadd (geti a2 0) (imul i s), iadd (geti a2 1) (imul k s)] = fcJ a2 s i k := by
          rw [← he]; unfold cjL; rw [if_pos hb]
        rw [he] at hj
        rw [ee]
        rw [fcR_len k0, iadd_e (by omega) (by omega)]
        exact ⟨⟨⟨by omega, by omega⟩, ⟨by omega, by omega⟩, hj, hs⟩, ⟨by omega, by rw [ilen_one]; omega⟩, ⟨by omega, by omega, fcR_s k0⟩, by show (gsK a1 a2 a3 s 1 - (k + 1)).toNat < (gsK a1 a2 a3 s 1 - k).toNat; omega⟩
      · have ek : k = gsK a1 a2 a3 s 1 := by omega
        subst ek
        rw [fcT_len i0, iadd_e (by omega) (by omega)]
        exact ⟨⟨by omega, by rw [ilen_one]; omega⟩, ⟨by omega, by omega, fcT_s i0⟩, by show (gsK a1 a2 a3 s 0 - (i + 1)).toNat < (gsK a1 a2 a3 s 0 - i).toNat; omega⟩
    · rw [show i = gsK a1 a2 a3 s 0 by omega]
  · cases h
def g_laws_alive : List AV → Option Sg
  | [] => some ⟨True, [.s (.bool (true))]⟩
  | _ => none
def sig_laws_alive : FuncId → List AV → Option Sg := sigL [(68, g_impl_Degrees)]
def xs_laws_alive : XS := ⟨xsigL [], ysigL []⟩
theorem sig_laws_alive_ok : SigOK sig_laws_alive := sigL_cons F_impl_Degrees sigL_nil
theorem xs_laws_alive_ok : XSigOK xs_laws_alive := ⟨xsigL_nil, ysigL_nil⟩
theorem V_laws_alive  : ((true = true) ∧ ((True) ∧ True) ∧ (true = true) ∧ (((True)) ∧ (True) ∧ (True) ∧ True) ∧ (((ieq (degW (-1 : Int)) (359 : Int)) : Bool) = (true)) ∧ True) = ev sig_laws_alive xs_laws_alive Tryd.f18.ntmps (fun b => []) (codeOf Tryd.f18) 0 (initS []) (retK Tryd.f18.results.toList [.s (.bool (true))]) := by kernel_rfl
set_option maxHeartbeats 400000 in
theorem F_laws_alive : FunOK 18 g_laws_alive := by
  refine fun_F (by kernel_rfl) Tryd.func18 rfl (by kernel_rfl) sig_laws_alive_ok xs_laws_alive_ok ?_
  intro avs sg h hn hl
  unfold g_laws_alive at h
  split at h
  ·
    injection h with h; subst h
    refine ⟨by kernel_rfl, fun b => [], Eq.mp (V_laws_alive ) ?_⟩
    simp only [true_and, and_true, implies_true, and_self, forall_const, true_implies, lenA, lenL, SV.lenOK, Cont.lenOK] at hn hl ⊢
    unfold ieq degW
    rw [irem_e, irem_e, iadd_e (by decide) (by decide)]
    decide
  · cases h
def g_impl_JointsValid : List AV → Option Sg
  | [.agg [.view (.ints a1), .view (.ints a2), .view (.ints a3)], .s (.view (.ints j))] => some ⟨True, [.s (.bool (jvB a1 a2 a3 j))]⟩
  | _ => none
def sig_impl_JointsValid : FuncId → List AV → Option Sg := sigL [(66, g_impl_ArmValid), (67, g_impl_within)]
def xs_impl_JointsValid : XS := ⟨xsigL [], ysigL []⟩
theorem sig_impl_JointsValid_ok : SigOK sig_impl_JointsValid := sigL_cons F_impl_ArmValid (sigL_cons F_impl_within sigL_nil)
theorem xs_impl_JointsValid_ok : XSigOK xs_impl_JointsValid := ⟨xsigL_nil, ysigL_nil⟩
theorem V_impl_JointsValid (a1 : List Int) (a2 : List Int) (a3 : List Int) (j : List Int) : ((true = true) ∧ ((True) ∧ (True) ∧ True) ∧ (true = true) ∧ ((True) ∧ ((True)) ∧ (True) ∧ (True) ∧ (NIs (bnot (armB a1 a2 a3)) false → True) ∧ (NIs (bnot (armB a1 a2 a3)) false → True) ∧ (NIs (bnot (armB a1 a2 a3)) false → True) ∧ (NIs (bnot (armB a1 a2 a3)) false → True) ∧ (NIs (bnot (armB a1 a2 a3)) false → True) ∧ (NIs (bnot (armB a1 a2 a3)) false → True) ∧ (True) ∧ True) ∧ ((bite (bnot (armB a1 a2 a3)) true (bnot (ieq (ilen j) (ilen a1)))) = true → ((true = true) ∧ ((True) ∧ True) ∧ ((false : Bool) = (jvB a1 a2 a3 j)) ∧ True)) ∧ ((bite (bnot (armB a1 a2 a3)) true (bnot (ieq (ilen j) (ilen a1)))) = false → ((true = true) ∧ ((True) ∧ (True) ∧ (True) ∧ True) ∧ ∃ (I1 : List GV → Prop) (μ1 : List GV → Nat), (((true = true) ∧ (((false : Bool) = false) ∧ (((0 : Int) : Int) = (0 : Int)) ∧ ((Cont.ints j) = (Cont.ints j)) ∧ (((ilen j) : Int) = (ilen j)) ∧ (((Cont.ints a1) = (Cont.ints a1)) ∧ ((Cont.ints a2) = (Cont.ints a2)) ∧ ((Cont.ints a3) = (Cont.ints a3)) ∧ True) ∧ (((armB a1 a2 a3) : Bool) = (armB a1 a2 a3)) ∧ (((bnot (armB a1 a2 a3)) : Bool) = (bnot (armB a1 a2 a3))) ∧ (((bnot (armB a1 a2 a3)) : Bool) = (bnot (armB a1 a2 a3))) ∧ (((bite (bnot (armB a1 a2 a3)) true (bnot (ieq (ilen j) (ilen a1)))) : Bool) = (bite (bnot (armB a1 a2 a3)) true (bnot (ieq (ilen j) (ilen a1))))) ∧ (true = true) ∧ (((Cont.ints a1) = (Cont.ints a1)) ∧ ((Cont.ints a2) = (Cont.ints a2)) ∧ ((Cont.ints a3) = (Cont.ints a3)) ∧ True) ∧ ((Cont.ints j) = (Cont.ints j)) ∧ True) ∧ ((((Cont.ints a1) = (Cont.ints a1)) ∧ ((Cont.ints a2) = (Cont.ints a2)) ∧ ((Cont.ints a3) = (Cont.ints a3)) ∧ True) ∧ True)) ∧ (([GK.int, GK.bool] : List GK) = ([GK.int, GK.bool] : List GK)) ∧ I1 [GV.int (0 : Int), GV.bool false]) ∧ (∀ i1_0 : Int, ∀ b1_1 : Bool, I1 [GV.int i1_0, GV.bool b1_1] → ((true = true) ∧ ((True) ∧ True) ∧ ((ilt i1_0 (ilen j)) = true → ((true = true) ∧ ((True) ∧ (NLe 0 i1_0 ∧ NLt i1_0 (ilen j)) ∧ (True) ∧ (True) ∧ (True) ∧ True) ∧ (true = true) ∧ ((True) ∧ (True) ∧ (True) ∧ (True) ∧ (NLe 0 i1_0 ∧ NLt i1_0 (ilen a2)) ∧ (True) ∧ (True) ∧ (True) ∧ (True) ∧ (NLe 0 i1_0 ∧ NLt i1_0 (ilen a3)) ∧ (True) ∧ ((True)) ∧ (True) ∧ True) ∧ ((bnot (inB (geti j i1_0) (geti a2 i1_0) (geti a3 i1_0))) = true → ((true = true) ∧ ((True) ∧ True) ∧ ((false : Bool) = (jvB a1 a2 a3 j)) ∧ True)) ∧ ((bnot (inB (geti j i1_0) (geti a2 i1_0) (geti a3 i1_0))) = false → ((true = true) ∧ ((True) ∧ (True) ∧ True) ∧ ((true = true) ∧ (((b1_1 : Bool) = b1_1) ∧ (((iadd i1_0 (1 : Int)) : Int) = (iadd i1_0 (1 : Int))) ∧ ((Cont.ints j) = (Cont.ints j)) ∧ (((ilen j) : Int) = (ilen j)) ∧ (((Cont.ints a1) = (Cont.ints a1)) ∧ ((Cont.ints a2) = (Cont.ints a2)) ∧ ((Cont.ints a3) = (Cont.ints a3)) ∧ True) ∧ (((armB a1 a2 a3) : Bool) = (armB a1 a2 a3)) ∧ (((bnot (armB a1 a2 a3)) : Bool) = (bnot (armB a1 a2 a3))) ∧ (((bnot (armB a1 a2 a3)) : Bool) = (bnot (armB a1 a2 a3))) ∧ (((bite (bnot (armB a1 a2 a3)) true (bnot (ieq (ilen j) (ilen a1)))) : Bool) = (bite (bnot (armB a1 a2 a3)) true (bnot (ieq (ilen j) (ilen a1))))) ∧ (true = true) ∧ (((Cont.ints a1) = (Cont.ints a1)) ∧ ((Cont.ints a2) = (Cont.ints a2)) ∧ ((Cont.ints a3) = (Cont.ints a3)) ∧ True) ∧ ((Cont.ints j) = (Cont.ints j)) ∧ True) ∧ ((((Cont.ints a1) = (Cont.ints a1)) ∧ ((Cont.ints a2) = (Cont.ints a2)) ∧ ((Cont.ints a3) = (Cont.ints a3)) ∧ True) ∧ True)) ∧ ((([GK.int, GK.bool] : List GK) = ([GK.int, GK.bool] : List GK)) ∧ I1 [GV.int (iadd i1_0 (1 : Int)), GV.bool b1_1] ∧ μ1 [GV.int (iadd i1_0 (1 : Int)), GV.bool b1_1] < μ1 [GV.int i1_0, GV.bool b1_1]))))) ∧ ((ilt i1_0 (ilen j)) = false → ((true = true) ∧ ((True) ∧ True) ∧ ((true : Bool) = (jvB a1 a2 a3 j)) ∧ True))))))) = ev sig_impl_JointsValid xs_impl_JointsValid Tryd.f48.ntmps (fun b => if b == 0 then [.v 20, .v 4] else []) (codeOf Tryd.f48) 0 (initS [.agg [.view (.ints a1), .view (.ints a2), .view (.ints a3)], .s (.view (.ints j))]) (retK Tryd.f48.results.toList [.s (.bool (jvB a1 a2 a3 j))]) := by kernel_rfl
set_option maxHeartbeats 400000 in
theorem F_impl_JointsValid : FunOK 48 g_impl_JointsValid := by
  refine fun_F (by kernel_rfl) Tryd.func48 rfl (by kernel_rfl) sig_impl_JointsValid_ok xs_impl_JointsValid_ok ?_
  intro avs sg h hn hl
  unfold g_impl_JointsValid at h
  split at h
  · rename_i a1 a2 a3 j
    injection h with h; subst h
    refine ⟨by kernel_rfl, fun b => if b == 0 then [.v 20, .v 4] else [], Eq.mp (V_impl_JointsValid a1 a2 a3 j) ?_⟩
    simp only [true_and, and_true, implies_true, and_self, forall_const, true_implies, lenA, lenL, SV.lenOK, Cont.lenOK] at hn hl ⊢
    have h0 := ilen_0 j
    simp only [ilt_t, ilt_f, ile_t, ile_f, ieq_t, ieq_f, bnot_e, band_e, bite_and, bite_or, NLt_e, NLe_e, NNe_e, NIs_e, imax_e, imin_e, irem_e, Bool.not_eq_true', Bool.not_eq_false', Bool.and_eq_true, Bool.or_eq_true, Bool.or_eq_false_iff, Bool.and_eq_false_iff, Cont.pts.injEq, Cont.ints.injEq, Cont.bools.injEq, Cont.ptss.injEq, Cont.intss.injEq, Cont.boolss.injEq, true_and, and_true, implies_true]
    refine ⟨fun h => ?_, fun h => ?_⟩
    · unfold jvB; rcases h with h | h <;> simp [h]
    obtain ⟨ha, hl1⟩ := h
    obtain ⟨l2, l3⟩ := armB_len ha
    refine ⟨fun | .int k :: _ => 0 ≤ k ∧ k ≤ ilen j ∧ (∀ i, 0 ≤ i → i < k → inB (geti j i) (geti a2 i) (geti a3 i) = true) | _ => False, fun | .int k :: _ => (ilen j - k).toNat | _ => 0, ⟨by omega, by omega, fun i h0 h1 => by omega⟩, ?_⟩
    rintro k XX ⟨hk0, hk1, hk⟩
    refine ⟨fun hc => ⟨⟨hk0, hc⟩, ⟨⟨hk0, by omega⟩, hk0, by omega⟩, fun hv => ?_, fun hv => ?_⟩, fun hc => ?_⟩
    · unfold jvB; rw [allN_no k hk0 hc hv]; simp
    · rw [iadd_1 hk0 hc hl.2]
      exact ⟨⟨by omega, by omega, upTo hk hv⟩, by show (ilen j - (k + 1)).toNat < (ilen j - k).toNat; omega⟩
    · unfold jvB; rw [ha, allN_mk fun i j0 j1 => hk i j0 (by omega)]; simp [hl1]
  · cases h
def g_impl_ArmClear : List AV → Option Sg
  | [.agg [.view (.ints a1), .view (.ints a2), .view (.ints a3)], .s (.view (.ints j)), .s (.view (.ptss l))] => some ⟨True, [.s (.bool (jvB a1 a2 a3 j && sceneB l && acB a1 j l))]⟩
  | _ => none
def sig_impl_ArmClear : FuncId → List AV → Option Sg := sigL [(48, g_impl_JointsValid), (62, g_impl_SceneValid), (63, g_impl_armClear)]
def xs_impl_ArmClear : XS := ⟨xsigL [], ysigL []⟩
theorem sig_impl_ArmClear_ok : SigOK sig_impl_ArmClear := sigL_cons F_impl_JointsValid (sigL_cons F_impl_SceneValid (sigL_cons F_impl_armClear sigL_nil))
theorem xs_impl_ArmClear_ok : XSigOK xs_impl_ArmClear := ⟨xsigL_nil, ysigL_nil⟩
theorem V_impl_ArmClear (a1 : List Int) (a2 : List Int) (a3 : List Int) (j : List Int) (l : List (List Pt)) : ((true = true) ∧ ((True) ∧ (True) ∧ True) ∧ (true = true) ∧ ((True) ∧ (True) ∧ ((True)) ∧ (True) ∧ (NIs (jvB a1 a2 a3 j) true → True) ∧ (NIs (jvB a1 a2 a3 j) true → (True)) ∧ (True) ∧ (True) ∧ (NIs (bite (jvB a1 a2 a3 j) (sceneB l) false) true → True) ∧ (NIs (bite (jvB a1 a2 a3 j) (sceneB l) false) true → True) ∧ (NIs (bite (jvB a1 a2 a3 j) (sceneB l) false) true → True) ∧ (NIs (bite (jvB a1 a2 a3 j) (sceneB l) false) true → ((jvB a1 a2 a3 j = true ∧ sceneB l = true))) ∧ (True) ∧ (True) ∧ True) ∧ (((bite (bite (jvB a1 a2 a3 j) (sceneB l) false) (acB a1 j l) false) : Bool) = (jvB a1 a2 a3 j && sceneB l && acB a1 j l)) ∧ True) = ev sig_impl_ArmClear xs_impl_ArmClear Tryd.f19.ntmps (fun b => []) (codeOf Tryd.f19) 0 (initS [.agg [.view (.ints a1), .view (.ints a2), .view (.ints a3)], .s (.view (.ints j)), .s (.view (.ptss l))]) (retK Tryd.f19.results.toList [.s (.bool (jvB a1 a2 a3 j && sceneB l && acB a1 j l))]) := by kernel_rfl
set_option maxHeartbeats 400000 in
theorem F_impl_ArmClear : FunOK 19 g_impl_ArmClear := by
  refine fun_F (by kernel_rfl) Tryd.func19 rfl (by kernel_rfl) sig_impl_ArmClear_ok xs_impl_ArmClear_ok ?_
  intro avs sg h hn hl
  unfold g_impl_ArmClear at h
  split at h
  · rename_i a1 a2 a3 j l
    injection h with h; subst h
    refine ⟨by kernel_rfl, fun b => [], Eq.mp (V_impl_ArmClear a1 a2 a3 j l) ?_⟩
    simp only [true_and, and_true, implies_true, and_self, forall_const, true_implies, lenA, lenL, SV.lenOK, Cont.lenOK] at hn hl ⊢
    simp only [ilt_t, ilt_f, ile_t, ile_f, ieq_t, ieq_f, bnot_e, band_e, bite_and, bite_or, NLt_e, NLe_e, NNe_e, NIs_e, imax_e, imin_e, irem_e, Bool.not_eq_true', Bool.not_eq_false', Bool.and_eq_true, Bool.or_eq_true, Bool.or_eq_false_iff, Bool.and_eq_false_iff, Cont.pts.injEq, Cont.ints.injEq, Cont.bools.injEq, Cont.ptss.injEq, Cont.intss.injEq, Cont.boolss.injEq, true_and, and_true, implies_true]
    exact fun h => h
  · cases h
theorem bxor_self (a : Bool) : bxor a a = false := by cases a <;> simp [bxor]
theorem fcR_get {a1 a2 : List Int} {l : List (List Pt)} {s i k j : Int} (h0 : 0 ≤ j) (h1 : j < k) : getb (fcR a1 a2 l s i k) j = acB a1 (fcJ a2 s i j) l := by
  unfold getb fcR
  have : j.toNat < k.toNat := by omega
  simp [List.getD_eq_getElem?_getD, this, Int.toNat_of_nonneg h0]
theorem fcL_at {a1 a2 a3 : List Int} {s : Int} {l : List (List Pt)} (hne : ilen (fcL a1 a2 a3 s l) ≠ 0) : sceneB l = true ∧ ilen (fcL a1 a2 a3 s l) = gsK a1 a2 a3 s 0 ∧ (0 ≤ gsK a1 a2 a3 s 0 ∧ gsK a1 a2 a3 s 0 ≤ 20) ∧ (0 ≤ gsK a1 a2 a3 s 1 ∧ gsK a1 a2 a3 s 1 ≤ 20) ∧
    ∀ i, 0 ≤ i → i < gsK a1 a2 a3 s 0 → ilen (getl (fcL a1 a2 a3 s l) i) = gsK a1 a2 a3 s 1 ∧ ∀ j, 0 ≤ j → j < gsK a1 a2 a3 s 1 → getb (getl (fcL a1 a2 a3 s l) i) j = (jvB a1 a2 a3 (cjL a1 a2 a3 s i j) && sceneB l && acB a1 (cjL a1 a2 a3 s i j) l) := by
  cases hs : sceneB l with
  | false => exfalso; apply hne; unfold fcL; rw [hs]; exact ilen_nil
  | true =>
    have hL : fcL a1 a2 a3 s l = fcT a1 a2 l s (gsK a1 a2 a3 s 1) (gsK a1 a2 a3 s 0) := by unfold fcL; rw [if_pos hs]
    have hc20 : (0 ≤ gsK a1 a2 a3 s 0 ∧ gsK a1 a2 a3 s 0 ≤ 20) ∧ (0 ≤ gsK a1 a2 a3 s 1 ∧ gsK a1 a2 a3 s 1 ≤ 20) := by
      rcases gsK_cases a1 a2 a3 s with ⟨h0, h1⟩ | ⟨hB, g0, g1, e0, e1, m0, m1⟩ <;> omega
    rw [hL]
    refine ⟨rfl, fcT_len hc20.1.1, hc20.1, hc20.2, fun i i0 i1 => ?_⟩
    rw [fcT_get i0 i1]
    refine ⟨fcR_len hc20.2.1, fun j j0 j1 => ?_⟩
    obtain ⟨hb, he, _⟩ := cj_in (a1 := a1) (a2 := a2) (a3 := a3) (s := s) i0 i1 j0 j1
    rw [fcR_get j0 j1, cj_jv hb, he]; rfl
def g_laws_FnFreeCells : List AV → Option Sg
  | [.s (.rdr n)] => some ⟨True, [.s (.bool (true))]⟩
  | _ => none
def sig_laws_FnFreeCells : FuncId → List AV → Option Sg := sigL [(15, g_impl_FreeCells), (16, g_spec_FreeCells), (17, g_impl_GridSize), (18, g_laws_alive), (20, g_impl_CellJoints), (19, nilH (.ptss []) g_impl_ArmClear)]
def xs_laws_FnFreeCells : XS := ⟨xsigL [], ysigL [(14, g_spec_DrawFreeCells)]⟩
theorem sig_laws_FnFreeCells_ok : SigOK sig_laws_FnFreeCells := sigL_cons F_impl_FreeCells (sigL_cons F_spec_FreeCells (sigL_cons F_impl_GridSize (sigL_cons F_laws_alive (sigL_cons F_impl_CellJoints (sigL_cons (FunOK.nil3 (c := .ptss []) rfl F_impl_ArmClear) sigL_nil)))))
theorem xs_laws_FnFreeCells_ok : XSigOK xs_laws_FnFreeCells := ⟨xsigL_nil, ysigL_cons F_spec_DrawFreeCells ysigL_nil⟩
theorem V_laws_FnFreeCells (n : Int) : ((true = true) ∧ ((True) ∧ True) ∧ (true = true) ∧ ((True) ∧ (True) ∧ (True) ∧ True) ∧ ((ilt (1048576 : Int) n) = true → ((true = true) ∧ ((True) ∧ True) ∧ ((true : Bool) = (true)) ∧ True)) ∧ ((ilt (1048576 : Int) n) = false → ((true = true) ∧ ((True) ∧ True) ∧ (true = true) ∧ ((n ≤ 1048576)) ∧ (∀ x_118 : List Int, ∀ y_119 : List Int, ∀ z_120 : List Int, ∀ s_121 : Int, ∀ l_122 : List (List Pt), ((ilen x_118 ≤ 10 ∧ ilen y_119 ≤ 10 ∧ ilen z_120 ≤ 10 ∧ 0 ≤ s_121 ∧ s_121 ≤ 30 ∧ ilen l_122 ≤ 20) → ((true = true) ∧ ((true = true) ∧ ((true = true) ∧ ((true = true) ∧ ((True) ∧ (True) ∧ (True) ∧ (True) ∧ (true = true) ∧ ((True) ∧ (True) ∧ (True) ∧ ((True)) ∧ (True) ∧ True) ∧ (true = true) ∧ ((True) ∧ (True) ∧ (True) ∧ ((True)) ∧ (True) ∧ True) ∧ (true = true) ∧ ((True) ∧ (True) ∧ ((True)) ∧ (True) ∧ (True) ∧ (True) ∧ (True) ∧ (True) ∧ True) ∧ (true = true) ∧ ((True) ∧ (True) ∧ (True) ∧ (True) ∧ (True) ∧ True) ∧ ((bnot (ieq (ilen (fcL (x_118) (y_119) (z_120) (s_121) (l_122))) (ilen (fcL (x_118) (y_119) (z_120) (s_121) (l_122))))) = true → ((true = true) ∧ ((True) ∧ True) ∧ ((false : Bool) = (true)) ∧ True)) ∧ ((bnot (ieq (ilen (fcL (x_118) (y_119) (z_120) (s_121) (l_122))) (ilen (fcL (x_118) (y_119) (z_120) (s_121) (l_122))))) = false → ((true = true) ∧ ((True) ∧ (True) ∧ (True) ∧ True) ∧ ((ieq (ilen (fcL (x_118) (y_119) (z_120) (s_121) (l_122))) (0 : Int)) = true → ((true = true) ∧ (((True)) ∧ (True) ∧ True) ∧ (((true) : Bool) = (true)) ∧ True)) ∧ ((ieq (ilen (fcL (x_118) (y_119) (z_120) (s_121) (l_122))) (0 : Int)) = false → ((true = true) ∧ ((True) ∧ True) ∧ ∃ (I1 : List GV → Prop) (μ1 : List GV → Nat), (((true = true) ∧ (((false : Bool) = false) ∧ (((0 : Int) : Int) = (0 : Int)) ∧ (true = true) ∧ (((ilen (fcL (x_118) (y_119) (z_120) (s_121) (l_122))) : Int) = (ilen (fcL (x_118) (y_119) (z_120) (s_121) (l_122)))) ∧ (((ieq (ilen (fcL (x_118) (y_119) (z_120) (s_121) (l_122))) (0 : Int)) : Bool) = (ieq (ilen (fcL (x_118) (y_119) (z_120) (s_121) (l_122))) (0 : Int))) ∧ (true = true) ∧ (((ilen (fcL (x_118) (y_119) (z_120) (s_121) (l_122))) : Int) = (ilen (fcL (x_118) (y_119) (z_120) (s_121) (l_122)))) ∧ (true = true) ∧ (((ilen (fcL (x_118) (y_119) (z_120) (s_121) (l_122))) : Int) = (ilen (fcL (x_118) (y_119) (z_120) (s_121) (l_122)))) ∧ (((bnot (ieq (ilen (fcL (x_118) (y_119) (z_120) (s_121) (l_122))) (ilen (fcL (x_118) (y_119) (z_120) (s_121) (l_122))))) : Bool) = (bnot (ieq (ilen (fcL (x_118) (y_119) (z_120) (s_121) (l_122))) (ilen (fcL (x_118) (y_119) (z_120) (s_121) (l_122)))))) ∧ (((Cont.ints (x_118)) = (Cont.ints (x_118))) ∧ ((Cont.ints (y_119)) = (Cont.ints (y_119))) ∧ ((Cont.ints (z_120)) = (Cont.ints (z_120))) ∧ True) ∧ (((s_121) : Int) = (s_121)) ∧ (((gsK (x_118) (y_119) (z_120) (s_121) 0) : Int) = (gsK (x_118) (y_119) (z_120) (s_121) 0)) ∧ (((gsK (x_118) (y_119) (z_120) (s_121) 1) : Int) = (gsK (x_118) (y_119) (z_120) (s_121) 1)) ∧ (((gsK (x_118) (y_119) (z_120) (s_121) 0) : Int) = (gsK (x_118) (y_119) (z_120) (s_121) 0)) ∧ (((gsK (x_118) (y_119) (z_120) (s_121) 1) : Int) = (gsK (x_118) (y_119) (z_120) (s_121) 1)) ∧ (((Cont.ints (x_118)) = (Cont.ints (x_118))) ∧ ((Cont.ints (y_119)) = (Cont.ints (y_119))) ∧ ((Cont.ints (z_120)) = (Cont.ints (z_120))) ∧ True) ∧ (((s_121) : Int) = (s_121)) ∧ ((Cont.ptss (l_122)) = (Cont.ptss (l_122))) ∧ (true = true) ∧ (true = true) ∧ (((Cont.ints (x_118)) = (Cont.ints (x_118))) ∧ ((Cont.ints (y_119)) = (Cont.ints (y_119))) ∧ ((Cont.ints (z_120)) = (Cont.ints (z_120))) ∧ True) ∧ (((s_121) : Int) = (s_121)) ∧ ((Cont.ptss (l_122)) = (Cont.ptss (l_122))) ∧ (true = true) ∧ (true = true) ∧ ((Cont.ptss (l_122)) = (Cont.ptss (l_122))) ∧ (((s_121) : Int) = (s_121)) ∧ (true = true) ∧ ((Cont.ptss (l_122)) = (Cont.ptss (l_122))) ∧ (((s_121) : Int) = (s_121)) ∧ (((Cont.ints (x_118)) = (Cont.ints (x_118))) ∧ ((Cont.ints (y_119)) = (Cont.ints (y_119))) ∧ ((Cont.ints (z_120)) = (Cont.ints (z_120))) ∧ True) ∧ ((n : Int) = n) ∧ ((n : Int) = n) ∧ ((n : Int) = n) ∧ (((ilt (1048576 : Int) n) : Bool) = (ilt (1048576 : Int) n)) ∧ ((n : Int) = n) ∧ True) ∧ (((true = true) ∧ ((Cont.boolss (fcL (x_118) (y_119) (z_120) (s_121) (l_122))) = (Cont.boolss (fcL (x_118) (y_119) (z_120) (s_121) (l_122))))) ∧ ((true = true) ∧ ((Cont.boolss (fcL (x_118) (y_119) (z_120) (s_121) (l_122))) = (Cont.boolss (fcL (x_118) (y_119) (z_120) (s_121) (l_122))))) ∧ (((Cont.ints (x_118)) = (Cont.ints (x_118))) ∧ ((Cont.ints (y_119)) = (Cont.ints (y_119))) ∧ ((Cont.ints (z_120)) = (Cont.ints (z_120))) ∧ True) ∧ True)) ∧ (([GK.int, GK.bool] : List GK) = ([GK.int, GK.bool] : List GK)) ∧ I1 [GV.int (0 : Int), GV.bool false]) ∧ (∀ i1_0 : Int, ∀ b1_1 : Bool, I1 [GV.int i1_0, GV.bool b1_1] → ((true = true) ∧ ((True) ∧ (True) ∧ (True) ∧ (True) ∧ True) ∧ ((ilt i1_0 (ilen (fcL (x_118) (y_119) (z_120) (s_121) (l_122)))) = true → ((true = true) ∧ ((True) ∧ (True) ∧ (NLe 0 i1_0 ∧ NLt i1_0 (ilen (fcL (x_118) (y_119) (z_120) (s_121) (l_122)))) ∧ (NLt i1_0 (ilen (fcL (x_118) (y_119) (z_120) (s_121) (l_122)))) ∧ (True) ∧ (True) ∧ (True) ∧ (True) ∧ (NIs (bnot (ieq (ilen (getl (fcL (x_118) (y_119) (z_120) (s_121) (l_122)) i1_0)) (gsK (x_118) (y_119) (z_120) (s_121) 1))) false → True) ∧ (NIs (bnot (ieq (ilen (getl (fcL (x_118) (y_119) (z_120) (s_121) (l_122)) i1_0)) (gsK (x_118) (y_119) (z_120) (s_121) 1))) false → True) ∧ (NIs (bnot (ieq (ilen (getl (fcL (x_118) (y_119) (z_120) (s_121) (l_122)) i1_0)) (gsK (x_118) (y_119) (z_120) (s_121) 1))) false → (NLe 0 i1_0 ∧ NLt i1_0 (ilen (fcL (x_118) (y_119) (z_120) (s_121) (l_122))))) ∧ (NIs (bnot (ieq (ilen (getl (fcL (x_118) (y_119) (z_120) (s_121) (l_122)) i1_0)) (gsK (x_118) (y_119) (z_120) (s_121) 1))) false → NLt i1_0 (ilen (fcL (x_118) (y_119) (z_120) (s_121) (l_122)))) ∧ (NIs (bnot (ieq (ilen (getl (fcL (x_118) (y_119) (z_120) (s_121) (l_122)) i1_0)) (gsK (x_118) (y_119) (z_120) (s_121) 1))) false → True) ∧ (NIs (bnot (ieq (ilen (getl (fcL (x_118) (y_119) (z_120) (s_121) (l_122)) i1_0)) (gsK (x_118) (y_119) (z_120) (s_121) 1))) false → True) ∧ (NIs (bnot (ieq (ilen (getl (fcL (x_118) (y_119) (z_120) (s_121) (l_122)) i1_0)) (gsK (x_118) (y_119) (z_120) (s_121) 1))) false → True) ∧ (True) ∧ True) ∧ ((bite (bnot (ieq (ilen (getl (fcL (x_118) (y_119) (z_120) (s_121) (l_122)) i1_0)) (gsK (x_118) (y_119) (z_120) (s_121) 1))) true (bnot (ieq (ilen (getl (fcL (x_118) (y_119) (z_120) (s_121) (l_122)) i1_0)) (gsK (x_118) (y_119) (z_120) (s_121) 1)))) = true → ((true = true) ∧ ((True) ∧ True) ∧ ((false : Bool) = (true)) ∧ True)) ∧ ((bite (bnot (ieq (ilen (getl (fcL (x_118) (y_119) (z_120) (s_121) (l_122)) i1_0)) (gsK (x_118) (y_119) (z_120) (s_121) 1))) true (bnot (ieq (ilen (getl (fcL (x_118) (y_119) (z_120) (s_121) (l_122)) i1_0)) (gsK (x_118) (y_119) (z_120) (s_121) 1)))) = false → ((true = true) ∧ ((True) ∧ True) ∧ ∃ (I2 : List GV → Prop) (μ2 : List GV → Nat), (((true = true) ∧ (((b1_1 : Bool) = b1_1) ∧ (((0 : Int) : Int) = (0 : Int)) ∧ (true = true) ∧ ((i1_0 : Int) = i1_0) ∧ ((Cont.bools (getl (fcL (x_118) (y_119) (z_120) (s_121) (l_122)) i1_0)) = (Cont.bools (getl (fcL (x_118) (y_119) (z_120) (s_121) (l_122)) i1_0))) ∧ (((ilen (getl (fcL (x_118) (y_119) (z_120) (s_121) (l_122)) i1_0)) : Int) = (ilen (getl (fcL (x_118) (y_119) (z_120) (s_121) (l_122)) i1_0))) ∧ (((gsK (x_118) (y_119) (z_120) (s_121) 1) : Int) = (gsK (x_118) (y_119) (z_120) (s_121) 1)) ∧ (((bnot (ieq (ilen (getl (fcL (x_118) (y_119) (z_120) (s_121) (l_122)) i1_0)) (gsK (x_118) (y_119) (z_120) (s_121) 1))) : Bool) = (bnot (ieq (ilen (getl (fcL (x_118) (y_119) (z_120) (s_121) (l_122)) i1_0)) (gsK (x_118) (y_119) (z_120) (s_121) 1)))) ∧ (((bnot (ieq (ilen (getl (fcL (x_118) (y_119) (z_120) (s_121) (l_122)) i1_0)) (gsK (x_118) (y_119) (z_120) (s_121) 1))) : Bool) = (bnot (ieq (ilen (getl (fcL (x_118) (y_119) (z_120) (s_121) (l_122)) i1_0)) (gsK (x_118) (y_119) (z_120) (s_121) 1)))) ∧ (((bite (bnot (ieq (ilen (getl (fcL (x_118) (y_119) (z_120) (s_121) (l_122)) i1_0)) (gsK (x_118) (y_119) (z_120) (s_121) 1))) true (bnot (ieq (ilen (getl (fcL (x_118) (y_119) (z_120) (s_121) (l_122)) i1_0)) (gsK (x_118) (y_119) (z_120) (s_121) 1)))) : Bool) = (bite (bnot (ieq (ilen (getl (fcL (x_118) (y_119) (z_120) (s_121) (l_122)) i1_0)) (gsK (x_118) (y_119) (z_120) (s_121) 1))) true (bnot (ieq (ilen (getl (fcL (x_118) (y_119) (z_120) (s_121) (l_122)) i1_0)) (gsK (x_118) (y_119) (z_120) (s_121) 1))))) ∧ ((i1_0 : Int) = i1_0) ∧ (true = true) ∧ (((ilen (fcL (x_118) (y_119) (z_120) (s_121) (l_122))) : Int) = (ilen (fcL (x_118) (y_119) (z_120) (s_121) (l_122)))) ∧ (((ilt i1_0 (ilen (fcL (x_118) (y_119) (z_120) (s_121) (l_122)))) : Bool) = (ilt i1_0 (ilen (fcL (x_118) (y_119) (z_120) (s_121) (l_122))))) ∧ ((i1_0 : Int) = i1_0) ∧ (true = true) ∧ (((ilen (fcL (x_118) (y_119) (z_120) (s_121) (l_122))) : Int) = (ilen (fcL (x_118) (y_119) (z_120) (s_121) (l_122)))) ∧ (((ieq (ilen (fcL (x_118) (y_119) (z_120) (s_121) (l_122))) (0 : Int)) : Bool) = (ieq (ilen (fcL (x_118) (y_119) (z_120) (s_121) (l_122))) (0 : Int))) ∧ (true = true) ∧ (((ilen (fcL (x_118) (y_119) (z_120) (s_121) (l_122))) : Int) = (ilen (fcL (x_118) (y_119) (z_120) (s_121) (l_122)))) ∧ (true = true) ∧ (((ilen (fcL (x_118) (y_119) (z_120) (s_121) (l_122))) : Int) = (ilen (fcL (x_118) (y_119) (z_120) (s_121) (l_122)))) ∧ (((bnot (ieq (ilen (fcL (x_118) (y_119) (z_120) (s_121) (l_122))) (ilen (fcL (x_118) (y_119) (z_120) (s_121) (l_122))))) : Bool) = (bnot (ieq (ilen (fcL (x_118) (y_119) (z_120) (s_121) (l_122))) (ilen (fcL (x_118) (y_119) (z_120) (s_121) (l_122)))))) ∧ (((Cont.ints (x_118)) = (Cont.ints (x_118))) ∧ ((Cont.ints (y_119)) = (Cont.ints (y_119))) ∧ ((Cont.ints (z_120)) = (Cont.ints (z_120))) ∧ True) ∧ (((s_121) : Int) = (s_121)) ∧ (((gsK (x_118) (y_119) (z_120) (s_121) 0) : Int) = (gsK (x_118) (y_119) (z_120) (s_121) 0)) ∧ (((gsK (x_118) (y_119) (z_120) (s_121) 1) : Int) = (gsK (x_118) (y_119) (z_120) (s_121) 1)) ∧ (((gsK (x_118) (y_119) (z_120) (s_121) 0) : Int) = (gsK (x_118) (y_119) (z_120) (s_121) 0)) ∧ (((gsK (x_118) (y_119) (z_120) (s_121) 1) : Int) = (gsK (x_118) (y_119) (z_120) (s_121) 1)) ∧ (((Cont.ints (x_118)) = (Cont.ints (x_118))) ∧ ((Cont.ints (y_119)) = (Cont.ints (y_119))) ∧ ((Cont.ints (z_120)) = (Cont.ints (z_120))) ∧ True) ∧ (((s_121) : Int) = (s_121)) ∧ ((Cont.ptss (l_122)) = (Cont.ptss (l_122))) ∧ (true = true) ∧ (true = true) ∧ (((Cont.ints (x_118)) = (Cont.ints (x_118))) ∧ ((Cont.ints (y_119)) = (Cont.ints (y_119))) ∧ ((Cont.ints (z_120)) = (Cont.ints (z_120))) ∧ True) ∧ (((s_121) : Int) = (s_121)) ∧ ((Cont.ptss (l_122)) = (Cont.ptss (l_122))) ∧ (true = true) ∧ (true = true) ∧ ((Cont.ptss (l_122)) = (Cont.ptss (l_122))) ∧ (((s_121) : Int) = (s_121)) ∧ (true = true) ∧ ((Cont.ptss (l_122)) = (Cont.ptss (l_122))) ∧ (((s_121) : Int) = (s_121)) ∧ (((Cont.ints (x_118)) = (Cont.ints (x_118))) ∧ ((Cont.ints (y_119)) = (Cont.ints (y_119))) ∧ ((Cont.ints (z_120)) = (Cont.ints (z_120))) ∧ True) ∧ ((n : Int) = n) ∧ ((n : Int) = n) ∧ ((n : Int) = n) ∧ (((ilt (1048576 : Int) n) : Bool) = (ilt (1048576 : Int) n)) ∧ ((n : Int) = n) ∧ True) ∧ (((true = true) ∧ ((Cont.boolss (fcL (x_118) (y_119) (z_120) (s_121) (l_122))) = (Cont.boolss (fcL (x_118) (y_119) (z_120) (s_121) (l_122))))) ∧ ((true = true) ∧ ((Cont.boolss (fcL (x_118) (y_119) (z_120) (s_121) (l_122))) = (Cont.boolss (fcL (x_118) (y_119) (z_120) (s_121) (l_122))))) ∧ (((Cont.ints (x_118)) = (Cont.ints (x_118))) ∧ ((Cont.ints (y_119)) = (Cont.ints (y_119))) ∧ ((Cont.ints (z_120)) = (Cont.ints (z_120))) ∧ True) ∧ True)) ∧ (([GK.int, GK.bool] : List GK) = ([GK.int, GK.bool] : List GK)) ∧ I2 [GV.int (0 : Int), GV.bool b1_1]) ∧ (∀ i2_0 : Int, ∀ b2_1 : Bool, I2 [GV.int i2_0, GV.bool b2_1] → ((true = true) ∧ ((True) ∧ (True) ∧ (True) ∧ True) ∧ ((ilt i2_0 (gsK (x_118) (y_119) (z_120) (s_121) 1)) = true → ((true = true) ∧ ((True) ∧ (True) ∧ (NLe 0 i1_0 ∧ NLt i1_0 (ilen (fcL (x_118) (y_119) (z_120) (s_121) (l_122)))) ∧ (NLt i1_0 (ilen (fcL (x_118) (y_119) (z_120) (s_121) (l_122)))) ∧ (True) ∧ (NLe 0 i2_0 ∧ NLt i2_0 (ilen (getl (fcL (x_118) (y_119) (z_120) (s_121) (l_122)) i1_0))) ∧ (True) ∧ (True) ∧ (True) ∧ (NLe 0 i1_0 ∧ NLt i1_0 (ilen (fcL (x_118) (y_119) (z_120) (s_121) (l_122)))) ∧ (NLt i1_0 (ilen (fcL (x_118) (y_119) (z_120) (s_121) (l_122)))) ∧ (True) ∧ (NLe 0 i2_0 ∧ NLt i2_0 (ilen (getl (fcL (x_118) (y_119) (z_120) (s_121) (l_122)) i1_0))) ∧ (True) ∧ (True) ∧ (True) ∧ (NIs (bxor (getb (getl (fcL (x_118) (y_119) (z_120) (s_121) (l_122)) i1_0) i2_0) (getb (getl (fcL (x_118) (y_119) (z_120) (s_121) (l_122)) i1_0) i2_0)) false → True) ∧ (NIs (bxor (getb (getl (fcL (x_118) (y_119) (z_120) (s_121) (l_122)) i1_0) i2_0) (getb (getl (fcL (x_118) (y_119) (z_120) (s_121) (l_122)) i1_0) i2_0)) false → True) ∧ (NIs (bxor (getb (getl (fcL (x_118) (y_119) (z_120) (s_121) (l_122)) i1_0) i2_0) (getb (getl (fcL (x_118) (y_119) (z_120) (s_121) (l_122)) i1_0) i2_0)) false → (NLe 0 i1_0 ∧ NLt i1_0 (ilen (fcL (x_118) (y_119) (z_120) (s_121) (l_122))))) ∧ (NIs (bxor (getb (getl (fcL (x_118) (y_119) (z_120) (s_121) (l_122)) i1_0) i2_0) (getb (getl (fcL (x_118) (y_119) (z_120) (s_121) (l_122)) i1_0) i2_0)) false → NLt i1_0 (ilen (fcL (x_118) (y_119) (z_120) (s_121) (l_122)))) ∧ (NIs (bxor (getb (getl (fcL (x_118) (y_119) (z_120) (s_121) (l_122)) i1_0) i2_0) (getb (getl (fcL (x_118) (y_119) (z_120) (s_121) (l_122)) i1_0) i2_0)) false → True) ∧ (NIs (bxor (getb (getl (fcL (x_118) (y_119) (z_120) (s_121) (l_122)) i1_0) i2_0) (getb (getl (fcL (x_118) (y_119) (z_120) (s_121) (l_122)) i1_0) i2_0)) false → (NLe 0 i2_0 ∧ NLt i2_0 (ilen (getl (fcL (x_118) (y_119) (z_120) (s_121) (l_122)) i1_0)))) ∧ (NIs (bxor (getb (getl (fcL (x_118) (y_119) (z_120) (s_121) (l_122)) i1_0) i2_0) (getb (getl (fcL (x_118) (y_119) (z_120) (s_121) (l_122)) i1_0) i2_0)) false → True) ∧ (NIs (bxor (getb (getl (fcL (x_118) (y_119) (z_120) (s_121) (l_122)) i1_0) i2_0) (getb (getl (fcL (x_118) (y_119) (z_120) (s_121) (l_122)) i1_0) i2_0)) false → True) ∧ (NIs (bxor (getb (getl (fcL (x_118) (y_119) (z_120) (s_121) (l_122)) i1_0) i2_0) (getb (getl (fcL (x_118) (y_119) (z_120) (s_121) (l_122)) i1_0) i2_0)) false → True) ∧ (NIs (bxor (getb (getl (fcL (x_118) (y_119) (z_120) (s_121) (l_122)) i1_0) i2_0) (getb (getl (fcL (x_118) (y_119) (z_120) (s_121) (l_122)) i1_0) i2_0)) false → True) ∧ (NIs (bxor (getb (getl (fcL (x_118) (y_119) (z_120) (s_121) (l_122)) i1_0) i2_0) (getb (getl (fcL (x_118) (y_119) (z_120) (s_121) (l_122)) i1_0) i2_0)) false → True) ∧ (NIs (bxor (getb (getl (fcL (x_118) (y_119) (z_120) (s_121) (l_122)) i1_0) i2_0) (getb (getl (fcL (x_118) (y_119) (z_120) (s_121) (l_122)) i1_0) i2_0)) false → True) ∧ (NIs (bxor (getb (getl (fcL (x_118) (y_119) (z_120) (s_121) (l_122)) i1_0) i2_0) (getb (getl (fcL (x_118) (y_119) (z_120) (s_121) (l_122)) i1_0) i2_0)) false → True) ∧ (NIs (bxor (getb (getl (fcL (x_118) (y_119) (z_120) (s_121) (l_122)) i1_0) i2_0) (getb (getl (fcL (x_118) (y_119) (z_120) (s_121) (l_122)) i1_0) i2_0)) false → (True)) ∧ (NIs (bxor (getb (getl (fcL (x_118) (y_119) (z_120) (s_121) (l_122)) i1_0) i2_0) (getb (getl (fcL (x_118) (y_119) (z_120) (s_121) (l_122)) i1_0) i2_0)) false → True) ∧ (NIs (bxor (getb (getl (fcL (x_118) (y_119) (z_120) (s_121) (l_122)) i1_0) i2_0) (getb (getl (fcL (x_118) (y_119) (z_120) (s_121) (l_122)) i1_0) i2_0)) false → (True)) ∧ (NIs (bxor (getb (getl (fcL (x_118) (y_119) (z_120) (s_121) (l_122)) i1_0) i2_0) (getb (getl (fcL (x_118) (y_119) (z_120) (s_121) (l_122)) i1_0) i2_0)) false → True) ∧ (True) ∧ True) ∧ ((bite (bxor (getb (getl (fcL (x_118) (y_119) (z_120) (s_121) (l_122)) i1_0) i2_0) (getb (getl (fcL (x_118) (y_119) (z_120) (s_121) (l_122)) i1_0) i2_0)) true (bxor (getb (getl (fcL (x_118) (y_119) (z_120) (s_121) (l_122)) i1_0) i2_0) (jvB (x_118) (y_119) (z_120) (cjL (x_118) (y_119) (z_120) (s_121) i1_0 i2_0) && sceneB (l_122) && acB (x_118) (cjL (x_118) (y_119) (z_120) (s_121) i1_0 i2_0) (l_122)))) = true → ((true = true) ∧ ((True) ∧ True) ∧ ((false : Bool) = (true)) ∧ True)) ∧ ((bite (bxor (getb (getl (fcL (x_118) (y_119) (z_120) (s_121) (l_122)) i1_0) i2_0) (getb (getl (fcL (x_118) (y_119) (z_120) (s_121) (l_122)) i1_0) i2_0)) true (bxor (getb (getl (fcL (x_118) (y_119) (z_120) (s_121) (l_122)) i1_0) i2_0) (jvB (x_118) (y_119) (z_120) (cjL (x_118) (y_119) (z_120) (s_121) i1_0 i2_0) && sceneB (l_122) && acB (x_118) (cjL (x_118) (y_119) (z_120) (s_121) i1_0 i2_0) (l_122)))) = false → ((true = true) ∧ ((True) ∧ (True) ∧ (True) ∧ True) ∧ ((true = true) ∧ (((b2_1 : Bool) = b2_1) ∧ (((iadd i2_0 (1 : Int)) : Int) = (iadd i2_0 (1 : Int))) ∧ (true = true) ∧ ((i1_0 : Int) = i1_0) ∧ ((Cont.bools (getl (fcL (x_118) (y_119) (z_120) (s_121) (l_122)) i1_0)) = (Cont.bools (getl (fcL (x_118) (y_119) (z_120) (s_121) (l_122)) i1_0))) ∧ (((ilen (getl (fcL (x_118) (y_119) (z_120) (s_121) (l_122)) i1_0)) : Int) = (ilen (getl (fcL (x_118) (y_119) (z_120) (s_121) (l_122)) i1_0))) ∧ (((gsK (x_118) (y_119) (z_120) (s_121) 1) : Int) = (gsK (x_118) (y_119) (z_120) (s_121) 1)) ∧ (((bnot (ieq (ilen (getl (fcL (x_118) (y_119) (z_120) (s_121) (l_122)) i1_0)) (gsK (x_118) (y_119) (z_120) (s_121) 1))) : Bool) = (bnot (ieq (ilen (getl (fcL (x_118) (y_119) (z_120) (s_121) (l_122)) i1_0)) (gsK (x_118) (y_119) (z_120) (s_121) 1)))) ∧ (((bnot (ieq (ilen (getl (fcL (x_118) (y_119) (z_120) (s_121) (l_122)) i1_0)) (gsK (x_118) (y_119) (z_120) (s_121) 1))) : Bool) = (bnot (ieq (ilen (getl (fcL (x_118) (y_119) (z_120) (s_121) (l_122)) i1_0)) (gsK (x_118) (y_119) (z_120) (s_121) 1)))) ∧ (((bite (bnot (ieq (ilen (getl (fcL (x_118) (y_119) (z_120) (s_121) (l_122)) i1_0)) (gsK (x_118) (y_119) (z_120) (s_121) 1))) true (bnot (ieq (ilen (getl (fcL (x_118) (y_119) (z_120) (s_121) (l_122)) i1_0)) (gsK (x_118) (y_119) (z_120) (s_121) 1)))) : Bool) = (bite (bnot (ieq (ilen (getl (fcL (x_118) (y_119) (z_120) (s_121) (l_122)) i1_0)) (gsK (x_118) (y_119) (z_120) (s_121) 1))) true (bnot (ieq (ilen (getl (fcL (x_118) (y_119) (z_120) (s_121) (l_122)) i1_0)) (gsK (x_118) (y_119) (z_120) (s_121) 1))))) ∧ ((i1_0 : Int) = i1_0) ∧ (true = true) ∧ (((ilen (fcL (x_118) (y_119) (z_120) (s_121) (l_122))) : Int) = (ilen (fcL (x_118) (y_119) (z_120) (s_121) (l_122)))) ∧ (((ilt i1_0 (ilen (fcL (x_118) (y_119) (z_120) (s_121) (l_122)))) : Bool) = (ilt i1_0 (ilen (fcL (x_118) (y_119) (z_120) (s_121) (l_122))))) ∧ ((i1_0 : Int) = i1_0) ∧ (true = true) ∧ (((ilen (fcL (x_118) (y_119) (z_120) (s_121) (l_122))) : Int) = (ilen (fcL (x_118) (y_119) (z_120) (s_121) (l_122)))) ∧ (((ieq (ilen (fcL (x_118) (y_119) (z_120) (s_121) (l_122))) (0 : Int)) : Bool) = (ieq (ilen (fcL (x_118) (y_119) (z_120) (s_121) (l_122))) (0 : Int))) ∧ (true = true) ∧ (((ilen (fcL (x_118) (y_119) (z_120) (s_121) (l_122))) : Int) = (ilen (fcL (x_118) (y_119) (z_120) (s_121) (l_122)))) ∧ (true = true) ∧ (((ilen (fcL (x_118) (y_119) (z_120) (s_121) (l_122))) : Int) = (ilen (fcL (x_118) (y_119) (z_120) (s_121) (l_122)))) ∧ (((bnot (ieq (ilen (fcL (x_118) (y_119) (z_120) (s_121) (l_122))) (ilen (fcL (x_118) (y_119) (z_120) (s_121) (l_122))))) : Bool) = (bnot (ieq (ilen (fcL (x_118) (y_119) (z_120) (s_121) (l_122))) (ilen (fcL (x_118) (y_119) (z_120) (s_121) (l_122)))))) ∧ (((Cont.ints (x_118)) = (Cont.ints (x_118))) ∧ ((Cont.ints (y_119)) = (Cont.ints (y_119))) ∧ ((Cont.ints (z_120)) = (Cont.ints (z_120))) ∧ True) ∧ (((s_121) : Int) = (s_121)) ∧ (((gsK (x_118) (y_119) (z_120) (s_121) 0) : Int) = (gsK (x_118) (y_119) (z_120) (s_121) 0)) ∧ (((gsK (x_118) (y_119) (z_120) (s_121) 1) : Int) = (gsK (x_118) (y_119) (z_120) (s_121) 1)) ∧ (((gsK (x_118) (y_119) (z_120) (s_121) 0) : Int) = (gsK (x_118) (y_119) (z_120) (s_121) 0)) ∧ (((gsK (x_118) (y_119) (z_120) (s_121) 1) : Int) = (gsK (x_118) (y_119) (z_120) (s_121) 1)) ∧ (((Cont.ints (x_118)) = (Cont.ints (x_118))) ∧ ((Cont.ints (y_119)) = (Cont.ints (y_119))) ∧ ((Cont.ints (z_120)) = (Cont.ints (z_120))) ∧ True) ∧ (((s_121) : Int) = (s_121)) ∧ ((Cont.ptss (l_122)) = (Cont.ptss (l_122))) ∧ (true = true) ∧ (true = true) ∧ (((Cont.ints (x_118)) = (Cont.ints (x_118))) ∧ ((Cont.ints (y_119)) = (Cont.ints (y_119))) ∧ ((Cont.ints (z_120)) = (Cont.ints (z_120))) ∧ True) ∧ (((s_121) : Int) = (s_121)) ∧ ((Cont.ptss (l_122)) = (Cont.ptss (l_122))) ∧ (true = true) ∧ (true = true) ∧ ((Cont.ptss (l_122)) = (Cont.ptss (l_122))) ∧ (((s_121) : Int) = (s_121)) ∧ (true = true) ∧ ((Cont.ptss (l_122)) = (Cont.ptss (l_122))) ∧ (((s_121) : Int) = (s_121)) ∧ (((Cont.ints (x_118)) = (Cont.ints (x_118))) ∧ ((Cont.ints (y_119)) = (Cont.ints (y_119))) ∧ ((Cont.ints (z_120)) = (Cont.ints (z_120))) ∧ True) ∧ ((n : Int) = n) ∧ ((n : Int) = n) ∧ ((n : Int) = n) ∧ (((ilt (1048576 : Int) n) : Bool) = (ilt (1048576 : Int) n)) ∧ ((n : Int) = n) ∧ True) ∧ (((true = true) ∧ ((Cont.boolss (fcL (x_118) (y_119) (z_120) (s_121) (l_122))) = (Cont.boolss (fcL (x_118) (y_119) (z_120) (s_121) (l_122))))) ∧ ((true = true) ∧ ((Cont.boolss (fcL (x_118) (y_119) (z_120) (s_121) (l_122))) = (Cont.boolss (fcL (x_118) (y_119) (z_120) (s_121) (l_122))))) ∧ (((Cont.ints (x_118)) = (Cont.ints (x_118))) ∧ ((Cont.ints (y_119)) = (Cont.ints (y_119))) ∧ ((Cont.ints (z_120)) = (Cont.ints (z_120))) ∧ True) ∧ True)) ∧ ((([GK.int, GK.bool] : List GK) = ([GK.int, GK.bool] : List GK)) ∧ I2 [GV.int (iadd i2_0 (1 : Int)), GV.bool b2_1] ∧ μ2 [GV.int (iadd i2_0 (1 : Int)), GV.bool b2_1] < μ2 [GV.int i2_0, GV.bool b2_1]))))) ∧ ((ilt i2_0 (gsK (x_118) (y_119) (z_120) (s_121) 1)) = false → ((true = true) ∧ ((True) ∧ (True) ∧ (True) ∧ True) ∧ ((true = true) ∧ (((b2_1 : Bool) = b2_1) ∧ (((iadd i1_0 (1 : Int)) : Int) = (iadd i1_0 (1 : Int))) ∧ (true = true) ∧ (((ilen (fcL (x_118) (y_119) (z_120) (s_121) (l_122))) : Int) = (ilen (fcL (x_118) (y_119) (z_120) (s_121) (l_122)))) ∧ (((ieq (ilen (fcL (x_118) (y_119) (z_120) (s_121) (l_122))) (0 : Int)) : Bool) = (ieq (ilen (fcL (x_118) (y_119) (z_120) (s_121) (l_122))) (0 : Int))) ∧ (true = true) ∧ (((ilen (fcL (x_118) (y_119) (z_120) (s_121) (l_122))) : Int) = (ilen (fcL (x_118) (y_119) (z_120) (s_121) (l_122)))) ∧ (true = true) ∧ (((ilen (fcL (x_118) (y_119) (z_120) (s_121) (l_122))) : Int) = (ilen (fcL (x_118) (y_119) (z_120) (s_121) (l_122)))) ∧ (((bnot (ieq (ilen (fcL (x_118) (y_119) (z_120) (s_121) (l_122))) (ilen (fcL (x_118) (y_119) (z_120) (s_121) (l_122))))) : Bool) = (bnot (ieq (ilen (fcL (x_118) (y_119) (z_120) (s_121) (l_122))) (ilen (fcL (x_118) (y_119) (z_120) (s_121) (l_122)))))) ∧ (((Cont.ints (x_118)) = (Cont.ints (x_118))) ∧ ((Cont.ints (y_119)) = (Cont.ints (y_119))) ∧ ((Cont.ints (z_120)) = (Cont.ints (z_120))) ∧ True) ∧ (((s_121) : Int) = (s_121)) ∧ (((gsK (x_118) (y_119) (z_120) (s_121) 0) : Int) = (gsK (x_118) (y_119) (z_120) (s_121) 0)) ∧ (((gsK (x_118) (y_119) (z_120) (s_121) 1) : Int) = (gsK (x_118) (y_119) (z_120) (s_121) 1)) ∧ (((gsK (x_118) (y_119) (z_120) (s_121) 0) : Int) = (gsK (x_118) (y_119) (z_120) (s_121) 0)) ∧ (((gsK (x_118) (y_119) (z_120) (s_121) 1) : Int) = (gsK (x_118) (y_119) (z_120) (s_121) 1)) ∧ (((Cont.ints (x_118)) = (Cont.ints (x_118))) ∧ ((Cont.ints (y_119)) = (Cont.ints (y_119))) ∧ ((Cont.ints (z_120)) = (Cont.ints (z_120))) ∧ True) ∧ (((s_121) : Int) = (s_121)) ∧ ((Cont.ptss (l_122)) = (Cont.ptss (l_122))) ∧ (true = true) ∧ (true = true) ∧ (((Cont.ints (x_118)) = (Cont.ints (x_118))) ∧ ((Cont.ints (y_119)) = (Cont.ints (y_119))) ∧ ((Cont.ints (z_120)) = (Cont.ints (z_120))) ∧ True) ∧ (((s_121) : Int) = (s_121)) ∧ ((Cont.ptss (l_122)) = (Cont.ptss (l_122))) ∧ (true = true) ∧ (true = true) ∧ ((Cont.ptss (l_122)) = (Cont.ptss (l_122))) ∧ (((s_121) : Int) = (s_121)) ∧ (true = true) ∧ ((Cont.ptss (l_122)) = (Cont.ptss (l_122))) ∧ (((s_121) : Int) = (s_121)) ∧ (((Cont.ints (x_118)) = (Cont.ints (x_118))) ∧ ((Cont.ints (y_119)) = (Cont.ints (y_119))) ∧ ((Cont.ints (z_120)) = (Cont.ints (z_120))) ∧ True) ∧ ((n : Int) = n) ∧ ((n : Int) = n) ∧ ((n : Int) = n) ∧ (((ilt (1048576 : Int) n) : Bool) = (ilt (1048576 : Int) n)) ∧ ((n : Int) = n) ∧ True) ∧ (((true = true) ∧ ((Cont.boolss (fcL (x_118) (y_119) (z_120) (s_121) (l_122))) = (Cont.boolss (fcL (x_118) (y_119) (z_120) (s_121) (l_122))))) ∧ ((true = true) ∧ ((Cont.boolss (fcL (x_118) (y_119) (z_120) (s_121) (l_122))) = (Cont.boolss (fcL (x_118) (y_119) (z_120) (s_121) (l_122))))) ∧ (((Cont.ints (x_118)) = (Cont.ints (x_118))) ∧ ((Cont.ints (y_119)) = (Cont.ints (y_119))) ∧ ((Cont.ints (z_120)) = (Cont.ints (z_120))) ∧ True) ∧ True)) ∧ ((([GK.int, GK.bool] : List GK) = ([GK.int, GK.bool] : List GK)) ∧ I1 [GV.int (iadd i1_0 (1 : Int)), GV.bool b2_1] ∧ μ1 [GV.int (iadd i1_0 (1 : Int)), GV.bool b2_1] < μ1 [GV.int i1_0, GV.bool b1_1]))))))))) ∧ ((ilt i1_0 (ilen (fcL (x_118) (y_119) (z_120) (s_121) (l_122)))) = false → ((true = true) ∧ ((True) ∧ (True) ∧ (True) ∧ (True) ∧ (True) ∧ True) ∧ (((ieq (ilen (fcL (x_118) (y_119) (z_120) (s_121) (l_122))) (gsK (x_118) (y_119) (z_120) (s_121) 0)) : Bool) = (true)) ∧ True)))))))))))))))))) = ev sig_laws_FnFreeCells xs_laws_FnFreeCells Tryd.f3.ntmps (fun b => if b == 0 then [.v 10, .v 2] else if b == 2 then [.v 11, .v 2] else []) (codeOf Tryd.f3) 0 (initS [.s (.rdr n)]) (retK Tryd.f3.results.toList [.s (.bool (true))]) := by kernel_rfl
set_option maxHeartbeats 400000 in
theorem F_laws_FnFreeCells : FunOK 3 g_laws_FnFreeCells := by
  refine fun_F (by kernel_rfl) Tryd.func3 rfl (by kernel_rfl) sig_laws_FnFreeCells_ok xs_laws_FnFreeCells_ok ?_
  intro avs sg h hn hl
  unfold g_laws_FnFreeCells at h
  split at h
  · rename_i n
    injection h with h; subst h
    refine ⟨by kernel_rfl, fun b => if b == 0 then [.v 10, .v 2] else if b == 2 then [.v 11, .v 2] else [], Eq.mp (V_laws_FnFreeCells n) ?_⟩
    simp only [true_and, and_true, implies_true, and_self, forall_const, true_implies, lenA, lenL, SV.lenOK, Cont.lenOK] at hn hl ⊢
    simp only [ilt_t, ilt_f, ile_t, ile_f, ieq_t, ieq_f, bnot_e, band_e, bite_and, bite_or, NLt_e, NLe_e, NNe_e, NIs_e, imax_e, imin_e, irem_e, Bool.not_eq_true', Bool.not_eq_false', Bool.and_eq_true, Bool.or_eq_true, Bool.or_eq_false_iff, Bool.and_eq_false_iff, Cont.pts.injEq, Cont.ints.injEq, Cont.bools.injEq, Cont.ptss.injEq, Cont.intss.injEq, Cont.boolss.injEq, true_and, and_true, implies_true, bxor_self, reduceCtorEq, true_implies, false_implies, false_or, ne_eq, not_true_eq_false]
    intro h
    refine ⟨h, fun x y z s l hp => ?_⟩
    intro hne
    obtain ⟨hs, hl, hc0, hc1, hat⟩ := fcL_at hne
    rw [hl]
    generalize fcL x y z s l = T at *
    refine ⟨fun | [.int k, .bool _] => 0 ≤ k ∧ k ≤ gsK x y z s 0 | _ => False, fun | .int k :: _ => (gsK x y z s 0 - k).toNat | _ => 0, ⟨by omega, by omega⟩, ?_⟩
    rintro k b ⟨k0, k1⟩
    refine ⟨fun hk => ?_, fun _ => rfl⟩
    obtain ⟨hr, hg⟩ := hat k k0 hk
    rw [hr]
    refine ⟨⟨⟨k0, hk⟩, hk, fun _ => ⟨k0, hk⟩, fun _ => hk⟩, fun hx => by rcases hx with h | h <;> exact h rfl, fun _ => ?_⟩
    refine ⟨fun | [.int j, .bool _] => 0 ≤ j ∧ j ≤ gsK x y z s 1 | _ => False, fun | .int j :: _ => (gsK x y z s 1 - j).toNat | _ => 0, ⟨by omega, by omega⟩, ?_⟩
    rintro j b2 ⟨j0, j1⟩
    refine ⟨fun hj => ?_, fun hj => ?_⟩
    · rw [← hg j j0 hj, bxor_self, iadd_e (by omega) (by omega)]
      exact ⟨⟨⟨k0, hk⟩, hk, ⟨j0, hj⟩, ⟨k0, hk⟩, hk, ⟨j0, hj⟩, ⟨k0, hk⟩, hk, j0, hj⟩, fun h => (by cases h), fun _ => ⟨⟨by omega, by omega⟩, by show (gsK x y z s 1 - (j + 1)).toNat < (gsK x y z s 1 - j).toNat; omega⟩⟩
    · rw [iadd_e (by omega) (by omega)]
      exact ⟨⟨by omega, by omega⟩, by show (gsK x y z s 0 - (k + 1)).toNat < (gsK x y z s 0 - k).toNat; omega⟩
  · cases h
theorem fnFreeCells_walk (w : World) (v0 : Value) (x0 : Nat) (w0 : BytesArg w v0 x0) (hI : GInv w) : Calls Tryd.prog 3 #[v0] w fun e w' => e = .returned (.bool true) ∧ Bel w w' :=
  walk_of F_laws_FnFreeCells (avs := [.s (.rdr x0)]) rfl trivial ⟨bytes_reads w0, trivial⟩
set_option maxRecDepth 100000 in
theorem fnFreeCells_lifted (os : Os) (started : os.Started) (H : Type) (enc : TypeId × Value → H) :
    ReturnsInHanded {} Tryd.checked os 3 .any (fun w args => (Rows.fnFreeCellsSpec.pre enc Tryd.prog Tryd.f3 [] false w args ∧ laidMetH Tryd.prog laid3 w) ∧ sizedMet enc Tryd.prog Tryd.f3 (OpenSpec.ofChange Rows.fnFreeCellsSpec) false w args) (Rows.fnFreeCellsSpec.post enc Tryd.prog Tryd.f3 false true false false) := by
  have own : ownKnob Tryd.prog.godebug = none := by kernel_rfl
  have laidOut : laidOutB Tryd.prog = true := by kernel_rfl
  refine returnsInHanded_of_change_and (C := Tryd.checked) (X := fun w _ => laidMetH Tryd.prog laid3 w) (fun _ _ _ hh h => h.of_heap hh) own started (by kernel_rfl) Tryd.func3
    (ChangeSpec.witness_shaped (enc := enc) (C := Tryd.checked) (os := os) (X := fun w _ => laidMetH Tryd.prog laid3 w) false (World.doorLaid Tryd.prog 400 os) #[.slice none 0 0] 8 rfl (World.shaped_of_RefB (by kernel_rfl) (by kernel_rfl)) (by kernel_rfl) (by kernel_rfl) (by kernel_rfl) (door_met os _)) ?_
  intro W base args ds gs before hval0 hW _ _ hL _
  have hI := of_laid hL
  have hval : ∀ (j : Nat) t v, Tryd.f3.params[j]? = some t → args[j]? = some v → Value.okWide Tryd.prog W .any base t v := hval0
  have hW' := hW
  obtain ⟨p, q, hA0, hV, rfl, hfz, hnd⟩ := hW
  have hA : DataW.TrodAll enc Tryd.prog W 0 (fun _ => true) true Tryd.f3.params.toList args.toList ds p := hA0
  rw [Tryd.params3] at hA hval
  obtain ⟨v0, vs0, d0, ds0, p0, q0, hargs, rfl, rfl, h0, r0⟩ := trodAll_cons hA
  obtain ⟨rfl, rfl, rfl⟩ := trodAll_nil r0
  obtain rfl : args = #[v0] := by cases args; simp_all
  obtain ⟨rfl, rfl⟩ := trodVars_none hV
  have k0 := h0
  have lt0 : ∀ x ∈ p0, x.block < W.heap.size := by obtain ⟨m, hm⟩ := k0; exact DataW.trod_lt m _ _ _ hm
  obtain ⟨x0, w0⟩ := opn_bytes (hval 0 22 v0 rfl rfl) h0
  clear hA0 hval0
  refine (fnFreeCells_walk W v0 x0 w0 hI).mono fun e W' ⟨he, bel⟩ => ?_
  subst he
  exact ⟨_, rfl, _, _, _, [], _, [], hW', trodAll_mk1 (shut_bool Tryd.underlying4 _), (trodAll_cons_mk (Below.trod laidOut (by kernel_rfl) (of_decide_eq_true (by kernel_rfl)) k0 bel lt0) trodAll_mk0), rfl, Below.frame bel _, fun h => by cases h⟩
theorem fnFreeCells_over : Rows.fnFreeCellsRow.holds Tryd.pinned (OpenSpec.ofChange Rows.fnFreeCellsSpec) :=
  OpenClaim.holds_of_wide 3 Tryd.f3 rfl rfl rfl rfl rfl rfl rfl ⟨rfl, rfl, rfl, rfl, rfl⟩ rfl rfl rfl rfl rfl (by kernel_rfl) Tryd.func3 (by kernel_rfl)
    (of_decide_eq_true (by kernel_rfl)) (by unfold Func.isWrapper; first | (rw [if_pos (by decide +kernel)]; kernel_rfl) | (rw [if_neg (by decide +kernel)]; exact ⟨rfl, rfl⟩))
    (fun os started H enc _ => fnFreeCells_lifted os started H enc)
theorem fnFreeCells_proved : Rows.FnFreeCellsCardSaid :=
  Claim7.holds_tied_plain_at .later [] [.data, .data, .data] true (true, "16bbdc3ad5447965b735ab462f47ba12bb60540d08a1c5142685da0634440668") false
    fnFreeCells_over (fun _ h => by cases h) (by kernel_rfl) (fun _ h => by cases h) fnFreeCells_row_tie rfl ⟨rfl, rfl⟩ (by kernel_rfl) rfl
    (fun f fn hf hfn => by
      obtain rfl : f = 3 := Option.some.inj ((show Tryd.prog.funcNamed "loop.example/robotcell/laws.FnFreeCells" = some 3 by kernel_rfl).symm.trans hf) |>.symm
      obtain rfl : fn = Tryd.f3 := (Option.some.inj (Tryd.func3.symm.trans hfn)).symm
      exact ⟨by kernel_rfl, fun j t ht => by
        rw [Tryd.params3] at ht
        have hm : t ∈ [22] := by simpa using Array.mem_of_getElem? ht
        have hall : ([22].all fun u => !Tryd.prog.wantsStandIn u) = true := by kernel_rfl
        exact (show Tryd.prog.wantsStandIn t = false by simpa using List.all_eq_true.1 hall t hm)⟩)
    (by kernel_rfl)
#print axioms fnFreeCells_proved
end Go.Proofs.YtdkpnlhcodogeaaDoor

/- 'FnExactFirstContact': for all arguments the program's FirstContact returns what the reference's returns and leaves its arguments alone. Conditions: none. -/
import Derived.Test.YtdkpnlhcodogeaaDoorFnExactFirstContactP1
namespace Go.Proofs.YtdkpnlhcodogeaaDoor
open Go.ChangeShapes Go.WideShapes Go.ChangeAt Go.RowKit
set_option maxRecDepth 100000
set_option linter.unusedSimpArgs false
set_option linter.unusedVariables false
def g_spec_FirstContact : List AV → Option Sg
  | [.agg [.view (.ints a1), .view (.ints a2), .view (.ints a3)], .s (.view (.intss r)), .s (.view (.ptss l))] => some ⟨True, [.s (.int (fcF a1 a2 a3 r l))]⟩
  | _ => none
def sig_spec_FirstContact : FuncId → List AV → Option Sg := sigL [(57, g_spec_ArmValid), (55, g_spec_SceneValid), (47, g_spec_JointsValid), (65, g_spec_l10Clear)]
def xs_spec_FirstContact : XS := ⟨xsigL [], ysigL []⟩
theorem sig_spec_FirstContact_ok : SigOK sig_spec_FirstContact := sigL_cons F_spec_ArmValid (sigL_cons F_spec_SceneValid (sigL_cons F_spec_JointsValid (sigL_cons F_spec_l10Clear sigL_nil)))
theorem xs_spec_FirstContact_ok : XSigOK xs_spec_FirstContact := ⟨xsigL_nil, ysigL_nil⟩
theorem V_spec_FirstContact (a1 : List Int) (a2 : List Int) (a3 : List Int) (r : List (List Int)) (l : List (List Pt)) : ((true = true) ∧ ((True) ∧ (True) ∧ True) ∧ (true = true) ∧ ((True) ∧ ((True)) ∧ (True) ∧ (True) ∧ (NIs (bnot (armB a1 a2 a3)) false → True) ∧ (NIs (bnot (armB a1 a2 a3)) false → (True)) ∧ (NIs (bnot (armB a1 a2 a3)) false → True) ∧ (True) ∧ (True) ∧ (NIs (bite (bnot (armB a1 a2 a3)) true (bnot (sceneB l))) false → True) ∧ (NIs (bite (bnot (armB a1 a2 a3)) true (bnot (sceneB l))) false → True) ∧ (NIs (bite (bnot (armB a1 a2 a3)) true (bnot (sceneB l))) false → True) ∧ (True) ∧ True) ∧ ((bite (bite (bnot (armB a1 a2 a3)) true (bnot (sceneB l))) true (ilt (400 : Int) (ilen r))) = true → ((true = true) ∧ ((True) ∧ True) ∧ (((-2 : Int) : Int) = (fcF a1 a2 a3 r l)) ∧ True)) ∧ ((bite (bite (bnot (armB a1 a2 a3)) true (bnot (sceneB l))) true (ilt (400 : Int) (ilen r))) = false → ((true = true) ∧ ((True) ∧ True) ∧ ∃ (I1 : List GV → Prop) (μ1 : List GV → Nat), (((true = true) ∧ ((((0 : Int) : Int) = (0 : Int)) ∧ (((0 : Int) : Int) = (0 : Int)) ∧ (((Cont.ints a1) = (Cont.ints a1)) ∧ ((Cont.ints a2) = (Cont.ints a2)) ∧ ((Cont.ints a3) = (Cont.ints a3)) ∧ True) ∧ (((armB a1 a2 a3) : Bool) = (armB a1 a2 a3)) ∧ (((bnot (armB a1 a2 a3)) : Bool) = (bnot (armB a1 a2 a3))) ∧ (((bnot (armB a1 a2 a3)) : Bool) = (bnot (armB a1 a2 a3))) ∧ (((bite (bnot (armB a1 a2 a3)) true (bnot (sceneB l))) : Bool) = (bite (bnot (armB a1 a2 a3)) true (bnot (sceneB l)))) ∧ (((bite (bnot (armB a1 a2 a3)) true (bnot (sceneB l))) : Bool) = (bite (bnot (armB a1 a2 a3)) true (bnot (sceneB l)))) ∧ (((bite (bite (bnot (armB a1 a2 a3)) true (bnot (sceneB l))) true (ilt (400 : Int) (ilen r))) : Bool) = (bite (bite (bnot (armB a1 a2 a3)) true (bnot (sceneB l))) true (ilt (400 : Int) (ilen r)))) ∧ (true = true) ∧ (((Cont.ints a1) = (Cont.ints a1)) ∧ ((Cont.ints a2) = (Cont.ints a2)) ∧ ((Cont.ints a3) = (Cont.ints a3)) ∧ True) ∧ ((Cont.intss r) = (Cont.intss r)) ∧ ((Cont.ptss l) = (Cont.ptss l)) ∧ True) ∧ ((((Cont.ints a1) = (Cont.ints a1)) ∧ ((Cont.ints a2) = (Cont.ints a2)) ∧ ((Cont.ints a3) = (Cont.ints a3)) ∧ True) ∧ True)) ∧ (([GK.int, GK.int] : List GK) = ([GK.int, GK.int] : List GK)) ∧ I1 [GV.int (0 : Int), GV.int (0 : Int)]) ∧ (∀ i1_0 : Int, ∀ i1_1 : Int, I1 [GV.int i1_0, GV.int i1_1] → ((true = true) ∧ ((True) ∧ (True) ∧ (True) ∧ (True) ∧ True) ∧ ((ilt i1_0 (ilen r)) = true → ((true = true) ∧ ((True) ∧ (True) ∧ (True) ∧ (NLe 0 i1_0 ∧ NLt i1_0 (ilen r)) ∧ (True) ∧ ((True)) ∧ (True) ∧ (True) ∧ (NIs (bnot (jvB a1 a2 a3 (getl r i1_0))) false → True) ∧ (NIs (bnot (jvB a1 a2 a3 (getl r i1_0))) false → True) ∧ (NIs (bnot (jvB a1 a2 a3 (getl r i1_0))) false → True) ∧ (NIs (bnot (jvB a1 a2 a3 (getl r i1_0))) false → (NLe 0 i1_0 ∧ NLt i1_0 (ilen r))) ∧ (NIs (bnot (jvB a1 a2 a3 (getl r i1_0))) false → True) ∧ (NIs (bnot (jvB a1 a2 a3 (getl r i1_0))) false → True) ∧ (NIs (bnot (jvB a1 a2 a3 (getl r i1_0))) false → ((jvB a1 a2 a3 (getl r i1_0) = true ∧ sceneB l = true))) ∧ (NIs (bnot (jvB a1 a2 a3 (getl r i1_0))) false → True) ∧ (True) ∧ True) ∧ ((bite (bnot (jvB a1 a2 a3 (getl r i1_0))) true (bnot (acB a1 (getl r i1_0) l))) = true → ((true = true) ∧ ((True) ∧ (True) ∧ True) ∧ ((i1_0 : Int) = (fcF a1 a2 a3 r l)) ∧ True)) ∧ ((bite (bnot (jvB a1 a2 a3 (getl r i1_0))) true (bnot (acB a1 (getl r i1_0) l))) = false → ((true = true) ∧ ((True) ∧ (True) ∧ (True) ∧ True) ∧ ((true = true) ∧ (((i1_1 : Int) = i1_1) ∧ (((iadd i1_0 (1 : Int)) : Int) = (iadd i1_0 (1 : Int))) ∧ (((Cont.ints a1) = (Cont.ints a1)) ∧ ((Cont.ints a2) = (Cont.ints a2)) ∧ ((Cont.ints a3) = (Cont.ints a3)) ∧ True) ∧ (((armB a1 a2 a3) : Bool) = (armB a1 a2 a3)) ∧ (((bnot (armB a1 a2 a3)) : Bool) = (bnot (armB a1 a2 a3))) ∧ (((bnot (armB a1 a2 a3)) : Bool) = (bnot (armB a1 a2 a3))) ∧ (((bite (bnot (armB a1 a2 a3)) true (bnot (sceneB l))) : Bool) = (bite (bnot (armB a1 a2 a3)) true (bnot (sceneB l)))) ∧ (((bite (bnot (armB a1 a2 a3)) true (bnot (sceneB l))) : Bool) = (bite (bnot (armB a1 a2 a3)) true (bnot (sceneB l)))) ∧ (((bite (bite (bnot (armB a1 a2 a3)) true (bnot (sceneB l))) true (ilt (400 : Int) (ilen r))) : Bool) = (bite (bite (bnot (armB a1 a2 a3)) true (bnot (sceneB l))) true (ilt (400 : Int) (ilen r)))) ∧ (true = true) ∧ (((Cont.ints a1) = (Cont.ints a1)) ∧ ((Cont.ints a2) = (Cont.ints a2)) ∧ ((Cont.ints a3) = (Cont.ints a3)) ∧ True) ∧ ((Cont.intss r) = (Cont.intss r)) ∧ ((Cont.ptss l) = (Cont.ptss l)) ∧ True) ∧ ((((Cont.ints a1) = (Cont.ints a1)) ∧ ((Cont.ints a2) = (Cont.ints a2)) ∧ ((Cont.ints a3) = (Cont.ints a3)) ∧ True) ∧ True)) ∧ ((([GK.int, GK.int] : List GK) = ([GK.int, GK.int] : List GK)) ∧ I1 [GV.int (iadd i1_0 (1 : Int)), GV.int i1_1] ∧ μ1 [GV.int (iadd i1_0 (1 : Int)), GV.int i1_1] < μ1 [GV.int i1_0, GV.int i1_1]))))) ∧ ((ilt i1_0 (ilen r)) = false → ((true = true) ∧ ((True) ∧ True) ∧ (((-1 : Int) : Int) = (fcF a1 a2 a3 r l)) ∧ True))))))) = ev sig_spec_FirstContact xs_spec_FirstContact Tryd.f51.ntmps (fun b => if b == 0 then [.v 7, .v 6] else []) (codeOf Tryd.f51) 0 (initS [.agg [.view (.ints a1), .view (.ints a2), .view (.ints a3)], .s (.view (.intss r)), .s (.view (.ptss l))]) (retK Tryd.f51.results.toList [.s (.int (fcF a1 a2 a3 r l))]) := by kernel_rfl
set_option maxHeartbeats 400000 in
theorem F_spec_FirstContact : FunOK 51 g_spec_FirstContact := by
  refine fun_F (by kernel_rfl) Tryd.func51 rfl (by kernel_rfl) sig_spec_FirstContact_ok xs_spec_FirstContact_ok ?_
  intro avs sg h hn hl
  unfold g_spec_FirstContact at h
  split at h
  · rename_i a1 a2 a3 r l
    injection h with h; subst h
    refine ⟨by kernel_rfl, fun b => if b == 0 then [.v 7, .v 6] else [], Eq.mp (V_spec_FirstContact a1 a2 a3 r l) ?_⟩
    simp only [true_and, and_true, implies_true, and_self, forall_const, true_implies, lenA, lenL, SV.lenOK, Cont.lenOK] at hn hl ⊢
    have r0 := ilen_0 r
    simp only [ilt_t, ilt_f, ile_t, ile_f, ieq_t, ieq_f, bnot_e, band_e, bite_and, bite_or, NLt_e, NLe_e, NNe_e, NIs_e, imax_e, imin_e, irem_e, Bool.not_eq_true', Bool.not_eq_false', Bool.and_eq_true, Bool.or_eq_true, Bool.or_eq_false_iff, Bool.and_eq_false_iff, Cont.pts.injEq, Cont.ints.injEq, Cont.bools.injEq, Cont.ptss.injEq, Cont.intss.injEq, Cont.boolss.injEq, true_and, and_true, implies_true]
    refine ⟨fun h => ?_, fun h => ?_⟩
    · unfold fcF
      rcases h with (h | h) | h
      · simp [h]
      · simp [h]
      · have : ¬ ilen r ≤ 400 := by omega
        simp [this]
    obtain ⟨⟨ha, hs⟩, hr⟩ := h
    have hF : fcF a1 a2 a3 r l = firstN (ilen r) (fun i => fcE a1 a2 a3 l (getl r i)) := by unfold fcF; rw [ha, hs]; simp [hr]
    have hE : ∀ m, fcE a1 a2 a3 l m = (jvB a1 a2 a3 m && acB a1 m l) := fun m => by unfold fcE; rw [hs, Bool.and_true]
    rw [hF]
    refine ⟨fun | .int k :: _ => 0 ≤ k ∧ k ≤ ilen r ∧ (∀ j, 0 ≤ j → j < k → fcE a1 a2 a3 l (getl r j) = true) | _ => False, fun | .int k :: _ => (ilen r - k).toNat | _ => 0, ⟨by omega, by omega, fun j j0 j1 => by omega⟩, ?_⟩
    rintro k d ⟨k0, k1, hall⟩
    refine ⟨fun hk => ⟨⟨⟨k0, hk⟩, fun _ => ⟨k0, hk⟩, fun hj => ⟨hj, hs⟩⟩, fun hx => ?_, fun hx => ?_⟩, fun hk => ?_⟩
    · have : fcE a1 a2 a3 l (getl r k) = false := by rw [hE]; rcases hx with h | h <;> simp [h]
      exact (firstN_at k0 hk this hall).symm
    · have : fcE a1 a2 a3 l (getl r k) = true := by rw [hE, hx.1, hx.2]; rfl
      rw [iadd_e (by omega) (by omega)]
      exact ⟨⟨by omega, by omega, upTo hall this⟩, by show (ilen r - (k + 1)).toNat < (ilen r - k).toNat; omega⟩
    · exact (firstN_no fun j j0 j1 => hall j j0 (by omega)).symm
  · cases h
def g_impl_FirstContact : List AV → Option Sg
  | [.agg [.view (.ints a1), .view (.ints a2), .view (.ints a3)], .s (.view (.intss r)), .s (.view (.ptss l))] => some ⟨True, [.s (.int (fcF a1 a2 a3 r l))]⟩
  | _ => none
def g_impl_within : List AV → Option Sg
  | [.s (.int n), .s (.int lo), .s (.int hi)] => some ⟨True, [.s (.bool (inB n lo hi))]⟩
  | _ => none
def sig_impl_within : FuncId → List AV → Option Sg := sigL []
def xs_impl_within : XS := ⟨xsigL [], ysigL []⟩
theorem sig_impl_within_ok : SigOK sig_impl_within := sigL_nil
theorem xs_impl_within_ok : XSigOK xs_impl_within := ⟨xsigL_nil, ysigL_nil⟩
theorem V_impl_within (n : Int) (lo : Int) (hi : Int) : ((true = true) ∧ ((True) ∧ True) ∧ (true = true) ∧ ((True) ∧ (True) ∧ (True) ∧ (True) ∧ (NIs (ile lo n) true → True) ∧ (NIs (ile lo n) true → True) ∧ (NIs (ile lo n) true → True) ∧ (True) ∧ (True) ∧ True) ∧ (((bite (ile lo n) (ile n hi) false) : Bool) = (inB n lo hi)) ∧ True) = ev sig_impl_within xs_impl_within Tryd.f67.ntmps (fun b => []) (codeOf Tryd.f67) 0 (initS [.s (.int n), .s (.int lo), .s (.int hi)]) (retK Tryd.f67.results.toList [.s (.bool (inB n lo hi))]) := by kernel_rfl
set_option maxHeartbeats 400000 in
theorem F_impl_within : FunOK 67 g_impl_within := by
  refine fun_F (by kernel_rfl) Tryd.func67 rfl (by kernel_rfl) sig_impl_within_ok xs_impl_within_ok ?_
  intro avs sg h hn hl
  unfold g_impl_within at h
  split at h
  · rename_i n lo hi
    injection h with h; subst h
    refine ⟨by kernel_rfl, fun b => [], Eq.mp (V_impl_within n lo hi) ?_⟩
    simp only [true_and, and_true, implies_true, and_self, forall_const, true_implies, lenA, lenL, SV.lenOK, Cont.lenOK] at hn hl ⊢
    simp only [bite_and, inB_eq]
  · cases h
def g_impl_ArmValid : List AV → Option Sg
  | [.agg [.view (.ints a1), .view (.ints a2), .view (.ints a3)]] => some ⟨True, [.s (.bool (armB a1 a2 a3))]⟩
  | _ => none
def sig_impl_ArmValid : FuncId → List AV → Option Sg := sigL [(67, g_impl_within)]
def xs_impl_ArmValid : XS := ⟨xsigL [], ysigL []⟩
theorem sig_impl_ArmValid_ok : SigOK sig_impl_ArmValid := sigL_cons F_impl_within sigL_nil
theorem xs_impl_ArmValid_ok : XSigOK xs_impl_ArmValid := ⟨xsigL_nil, ysigL_nil⟩
theorem V_impl_ArmValid (a1 : List Int) (a2 : List Int) (a3 : List Int) : ((true = true) ∧ ((True) ∧ (True) ∧ True) ∧ (true = true) ∧ ((True) ∧ (True) ∧ (True) ∧ (True) ∧ True) ∧ (true = true) ∧ ((True) ∧ ((True)) ∧ (True) ∧ (True) ∧ (NIs (bnot (inB (ilen a1) (1 : Int) (4 : Int))) false → True) ∧ (NIs (bnot (inB (ilen a1) (1 : Int) (4 : Int))) false → True) ∧ (NIs (bnot (inB (ilen a1) (1 : Int) (4 : Int))) false → True) ∧ (NIs (bnot (inB (ilen a1) (1 : Int) (4 : Int))) false → True) ∧ (NIs (bnot (inB (ilen a1) (1 : Int) (4 : Int))) false → True) ∧ (True) ∧ (True) ∧ (NIs (bite (bnot (inB (ilen a1) (1 : Int) (4 : Int))) true (bnot (ieq (ilen a2) (ilen a1)))) false → True) ∧ (NIs (bite (bnot (inB (ilen a1) (1 : Int) (4 : Int))) true (bnot (ieq (ilen a2) (ilen a1)))) false → True) ∧ (NIs (bite (bnot (inB (ilen a1) (1 : Int) (4 : Int))) true (bnot (ieq (ilen a2) (ilen a1)))) false → True) ∧ (NIs (bite (bnot (inB (ilen a1) (1 : Int) (4 : Int))) true (bnot (ieq (ilen a2) (ilen a1)))) false → True) ∧ (NIs (bite (bnot (inB (ilen a1) (1 : Int) (4 : Int))) true (bnot (ieq (ilen a2) (ilen a1)))) false → True) ∧ (True) ∧ True) ∧ ((bite (bite (bnot (inB (ilen a1) (1 : Int) (4 : Int))) true (bnot (ieq (ilen a2) (ilen a1)))) true (bnot (ieq (ilen a3) (ilen a1)))) = true → ((true = true) ∧ ((True) ∧ True) ∧ ((false : Bool) = (armB a1 a2 a3)) ∧ True)) ∧ ((bite (bite (bnot (inB (ilen a1) (1 : Int) (4 : Int))) true (bnot (ieq (ilen a2) (ilen a1)))) true (bnot (ieq (ilen a3) (ilen a1)))) = false → ((true = true) ∧ ((True) ∧ (True) ∧ True) ∧ ∃ (I1 : List GV → Prop) (μ1 : List GV → Nat), (((true = true) ∧ (((false : Bool) = false) ∧ (((0 : Int) : Int) = (0 : Int)) ∧ (((ilen a1) : Int) = (ilen a1)) ∧ (((ilen a1) : Int) = (ilen a1)) ∧ (((inB (ilen a1) (1 : Int) (4 : Int)) : Bool) = (inB (ilen a1) (1 : Int) (4 : Int))) ∧ (((bnot (inB (ilen a1) (1 : Int) (4 : Int))) : Bool) = (bnot (inB (ilen a1) (1 : Int) (4 : Int)))) ∧ (((bnot (inB (ilen a1) (1 : Int) (4 : Int))) : Bool) = (bnot (inB (ilen a1) (1 : Int) (4 : Int)))) ∧ (((bite (bnot (inB (ilen a1) (1 : Int) (4 : Int))) true (bnot (ieq (ilen a2) (ilen a1)))) : Bool) = (bite (bnot (inB (ilen a1) (1 : Int) (4 : Int))) true (bnot (ieq (ilen a2) (ilen a1))))) ∧ (((bite (bnot (inB (ilen a1) (1 : Int) (4 : Int))) true (bnot (ieq (ilen a2) (ilen a1)))) : Bool) = (bite (bnot (inB (ilen a1) (1 : Int) (4 : Int))) true (bnot (ieq (ilen a2) (ilen a1))))) ∧ (((bite (bite (bnot (inB (ilen a1) (1 : Int) (4 : Int))) true (bnot (ieq (ilen a2) (ilen a1)))) true (bnot (ieq (ilen a3) (ilen a1)))) : Bool) = (bite (bite (bnot (inB (ilen a1) (1 : Int) (4 : Int))) true (bnot (ieq (ilen a2) (ilen a1)))) true (bnot (ieq (ilen a3) (ilen a1))))) ∧ (true = true) ∧ ((Cont.ints a1) = (Cont.ints a1)) ∧ (((ilen a1) : Int) = (ilen a1)) ∧ (((ilen a1) : Int) = (ilen a1)) ∧ (true = true) ∧ (((Cont.ints a1) = (Cont.ints a1)) ∧ ((Cont.ints a2) = (Cont.ints a2)) ∧ ((Cont.ints a3) = (Cont.ints a3)) ∧ True) ∧ True) ∧ ((((Cont.ints a1) = (Cont.ints a1)) ∧ ((Cont.ints a2) = (Cont.ints a2)) ∧ ((Cont.ints a3) = (Cont.ints a3)) ∧ True) ∧ True)) ∧ (([GK.int, GK.bool] : List GK) = ([GK.int, GK.bool] : List GK)) ∧ I1 [GV.int (0 : Int), GV.bool false]) ∧ (∀ i1_0 : Int, ∀ b1_1 : Bool, I1 [GV.int i1_0, GV.bool b1_1] → ((true = true) ∧ ((True) ∧ True) ∧ ((ilt i1_0 (ilen a1)) = true → ((true = true) ∧ ((True) ∧ (True) ∧ True) ∧ (true = true) ∧ ((True) ∧ (True) ∧ (True) ∧ (NLe 0 i1_0 ∧ NLt i1_0 (ilen a1)) ∧ (True) ∧ ((True)) ∧ (True) ∧ (True) ∧ (NIs (bnot (inB (geti a1 i1_0) (1 : Int) (500 : Int))) false → True) ∧ (NIs (bnot (inB (geti a1 i1_0) (1 : Int) (500 : Int))) false → True) ∧ (NIs (bnot (inB (geti a1 i1_0) (1 : Int) (500 : Int))) false → True) ∧ (NIs (bnot (inB (geti a1 i1_0) (1 : Int) (500 : Int))) false → (NLe 0 i1_0 ∧ NLt i1_0 (ilen a2))) ∧ (NIs (bnot (inB (geti a1 i1_0) (1 : Int) (500 : Int))) false → True) ∧ (NIs (bnot (inB (geti a1 i1_0) (1 : Int) (500 : Int))) false → (True)) ∧ (NIs (bnot (inB (geti a1 i1_0) (1 : Int) (500 : Int))) false → True) ∧ (True) ∧ (True) ∧ (NIs (bite (bnot (inB (geti a1 i1_0) (1 : Int) (500 : Int))) true (bnot (inB (geti a2 i1_0) (-180 : Int) (180 : Int)))) false → True) ∧ (NIs (bite (bnot (inB (geti a1 i1_0) (1 : Int) (500 : Int))) true (bnot (inB (geti a2 i1_0) (-180 : Int) (180 : Int)))) false → True) ∧ (NIs (bite (bnot (inB (geti a1 i1_0) (1 : Int) (500 : Int))) true (bnot (inB (geti a2 i1_0) (-180 : Int) (180 : Int)))) false → True) ∧ (NIs (bite (bnot (inB (geti a1 i1_0) (1 : Int) (500 : Int))) true (bnot (inB (geti a2 i1_0) (-180 : Int) (180 : Int)))) false → (NLe 0 i1_0 ∧ NLt i1_0 (ilen a3))) ∧ (NIs (bite (bnot (inB (geti a1 i1_0) (1 : Int) (500 : Int))) true (bnot (inB (geti a2 i1_0) (-180 : Int) (180 : Int)))) false → True) ∧ (NIs (bite (bnot (inB (geti a1 i1_0) (1 : Int) (500 : Int))) true (bnot (inB (geti a2 i1_0) (-180 : Int) (180 : Int)))) false → True) ∧ (NIs (bite (bnot (inB (geti a1 i1_0) (1 : Int) (500 : Int))) true (bnot (inB (geti a2 i1_0) (-180 : Int) (180 : Int)))) false → True) ∧ (NIs (bite (bnot (inB (geti a1 i1_0) (1 : Int) (500 : Int))) true (bnot (inB (geti a2 i1_0) (-180 : Int) (180 : Int)))) false → True) ∧ (NIs (bite (bnot (inB (geti a1 i1_0) (1 : Int) (500 : Int))) true (bnot (inB (geti a2 i1_0) (-180 : Int) (180 : Int)))) false → (NLe 0 i1_0 ∧ NLt i1_0 (ilen a2))) ∧ (NIs (bite (bnot (inB (geti a1 i1_0) (1 : Int) (500 : Int))) true (bnot (inB (geti a2 i1_0) (-180 : Int) (180 : Int)))) false → True) ∧ (NIs (bite (bnot (inB (geti a1 i1_0) (1 : Int) (500 : Int))) true (bnot (inB (geti a2 i1_0) (-180 : Int) (180 : Int)))) false → (True)) ∧ (NIs (bite (bnot (inB (geti a1 i1_0) (1 : Int) (500 : Int))) true (bnot (inB (geti a2 i1_0) (-180 : Int) (180 : Int)))) false → True) ∧ (True) ∧ True) ∧ ((bite (bite (bnot (inB (geti a1 i1_0) (1 : Int) (500 : Int))) true (bnot (inB (geti a2 i1_0) (-180 : Int) (180 : Int)))) true (bnot (inB (geti a3 i1_0) (geti a2 i1_0) (180 : Int)))) = true → ((true = true) ∧ ((True) ∧ True) ∧ ((false : Bool) = (armB a1 a2 a3)) ∧ True)) ∧ ((bite (bite (bnot (inB (geti a1 i1_0) (1 : Int) (500 : Int))) true (bnot (inB (geti a2 i1_0) (-180 : Int) (180 : Int)))) true (bnot (inB (geti a3 i1_0) (geti a2 i1_0) (180 : Int)))) = false → ((true = true) ∧ ((True) ∧ (True) ∧ True) ∧ ((true = true) ∧ (((b1_1 : Bool) = b1_1) ∧ (((iadd i1_0 (1 : Int)) : Int) = (iadd i1_0 (1 : Int))) ∧ (((ilen a1) : Int) = (ilen a1)) ∧ (((ilen a1) : Int) = (ilen a1)) ∧ (((inB (ilen a1) (1 : Int) (4 : Int)) : Bool) = (inB (ilen a1) (1 : Int) (4 : Int))) ∧ (((bnot (inB (ilen a1) (1 : Int) (4 : Int))) : Bool) = (bnot (inB (ilen a1) (1 : Int) (4 : Int)))) ∧ (((bnot (inB (ilen a1) (1 : Int) (4 : Int))) : Bool) = (bnot (inB (ilen a1) (1 : Int) (4 : Int)))) ∧ (((bite (bnot (inB (ilen a1) (1 : Int) (4 : Int))) true (bnot (ieq (ilen a2) (ilen a1)))) : Bool) = (bite (bnot (inB (ilen a1) (1 : Int) (4 : Int))) true (bnot (ieq (ilen a2) (ilen a1))))) ∧ (((bite (bnot (inB (ilen a1) (1 : Int) (4 : Int))) true (bnot (ieq (ilen a2) (ilen a1)))) : Bool) = (bite (bnot (inB (ilen a1) (1 : Int) (4 : Int))) true (bnot (ieq (ilen a2) (ilen a1))))) ∧ (((bite (bite (bnot (inB (ilen a1) (1 : Int) (4 : Int))) true (bnot (ieq (ilen a2) (ilen a1)))) true (bnot (ieq (ilen a3) (ilen a1)))) : Bool) = (bite (bite (bnot (inB (ilen a1) (1 : Int) (4 : Int))) true (bnot (ieq (ilen a2) (ilen a1)))) true (bnot (ieq (ilen a3) (ilen a1))))) ∧ (true = true) ∧ ((Cont.ints a1) = (Cont.ints a1)) ∧ (((ilen a1) : Int) = (ilen a1)) ∧ (((ilen a1) : Int) = (ilen a1)) ∧ (true = true) ∧ (((Cont.ints a1) = (Cont.ints a1)) ∧ ((Cont.ints a2) = (Cont.ints a2)) ∧ ((Cont.ints a3) = (Cont.ints a3)) ∧ True) ∧ True) ∧ ((((Cont.ints a1) = (Cont.ints a1)) ∧ ((Cont.ints a2) = (Cont.ints a2)) ∧ ((Cont.ints a3) = (Cont.ints a3)) ∧ True) ∧ True)) ∧ ((([GK.int, GK.bool] : List GK) = ([GK.int, GK.bool] : List GK)) ∧ I1 [GV.int (iadd i1_0 (1 : Int)), GV.bool b1_1] ∧ μ1 [GV.int (iadd i1_0 (1 : Int)), GV.bool b1_1] < μ1 [GV.int i1_0, GV.bool b1_1]))))) ∧ ((ilt i1_0 (ilen a1)) = false → ((true = true) ∧ ((True) ∧ True) ∧ ((true : Bool) = (armB a1 a2 a3)) ∧ True))))))) = ev sig_impl_ArmValid xs_impl_ArmValid Tryd.f66.ntmps (fun b => if b == 0 then [.v 26, .v 2] else []) (codeOf Tryd.f66) 0 (initS [.agg [.view (.ints a1), .view (.ints a2), .view (.ints a3)]]) (retK Tryd.f66.results.toList [.s (.bool (armB a1 a2 a3))]) := by kernel_rfl
set_option maxHeartbeats 400000 in
theorem F_impl_ArmValid : FunOK 66 g_impl_ArmValid := by
  refine fun_F (by kernel_rfl) Tryd.func66 rfl (by kernel_rfl) sig_impl_ArmValid_ok xs_impl_ArmValid_ok ?_
  intro avs sg h hn hl
  unfold g_impl_ArmValid at h
  split at h
  · rename_i a1 a2 a3
    injection h with h; subst h
    refine ⟨by kernel_rfl, fun b => if b == 0 then [.v 26, .v 2] else [], Eq.mp (V_impl_ArmValid a1 a2 a3) ?_⟩
    simp only [true_and, and_true, implies_true, and_self, forall_const, true_implies, lenA, lenL, SV.lenOK, Cont.lenOK] at hn hl ⊢
    have h0 := ilen_0 a1
    simp only [ilt_t, ilt_f, ile_t, ile_f, ieq_t, ieq_f, bnot_e, band_e, bite_and, bite_or, NLt_e, NLe_e, NNe_e, NIs_e, imax_e, imin_e, irem_e, Bool.not_eq_true', Bool.not_eq_false', Bool.and_eq_true, Bool.or_eq_true, Bool.or_eq_false_iff, Bool.and_eq_false_iff, Cont.pts.injEq, Cont.ints.injEq, Cont.bools.injEq, Cont.ptss.injEq, Cont.intss.injEq, Cont.boolss.injEq, true_and, and_true, implies_true]
    refine ⟨fun h => ?_, fun h => ?_⟩
    · unfold armB
      rcases h with (h | h) | h <;> simp [h]
    · obtain ⟨⟨c1, c2⟩, c3⟩ := h
      refine ⟨fun | .int k :: _ => 0 ≤ k ∧ k ≤ ilen a1 ∧ (∀ j, 0 ≤ j → j < k → armE a1 a2 a3 j = true) | _ => False, fun | .int k :: _ => (ilen a1 - k).toNat | _ => 0, ?_, ?_⟩
      · exact ⟨Int.le_refl 0, h0, fun j h0 h1 => absurd h1 (by omega)⟩
      · rintro k _ ⟨hk0, hk1, hk⟩
        simp only [ilt_t, ilt_f, ile_t, ile_f, ieq_t, ieq_f, bnot_e, band_e, bite_and, bite_or, NLt_e, NLe_e, NNe_e, NIs_e, imax_e, imin_e, irem_e, Bool.not_eq_true', Bool.not_eq_false', Bool.and_eq_true, Bool.or_eq_true, Bool.or_eq_false_iff, Bool.and_eq_false_iff, Cont.pts.injEq, Cont.ints.injEq, Cont.bools.injEq, Cont.ptss.injEq, Cont.intss.injEq, Cont.boolss.injEq, true_and, and_true, implies_true]
        refine ⟨fun hc => ⟨⟨⟨hk0, hc⟩, fun _ => ⟨hk0, by omega⟩, fun _ => ⟨hk0, by omega⟩, fun _ => ⟨hk0, by omega⟩⟩, fun hv => ?_, fun hv => ?_⟩, fun hc => ?_⟩
        · have hE : armE a1 a2 a3 k = false := by unfold armE; rcases hv with (hv | hv) | hv <;> simp [hv]
          unfold armB; rw [allN_no k hk0 hc hE]; simp
        · have hE : armE a1 a2 a3 k = true := by unfold armE; rw [hv.1.1, hv.1.2, hv.2]; rfl
          rw [iadd_1 hk0 hc hl.1]
          exact ⟨⟨by omega, by omega, upTo hk hE⟩, by omega⟩
        · unfold armB; rw [allN_mk fun j h0 h1 => hk j h0 (by omega), c1]; simp [c2, c3]
  · cases h
def g_impl_PointValid : List AV → Option Sg
  | [.agg [.int p1, .int p2]] => some ⟨True, [.s (.bool (vB p1 p2))]⟩
  | _ => none
def sig_impl_PointValid : FuncId → List AV → Option Sg := sigL [(67, g_impl_within)]
def xs_impl_PointValid : XS := ⟨xsigL [], ysigL []⟩
theorem sig_impl_PointValid_ok : SigOK sig_impl_PointValid := sigL_cons F_impl_within sigL_nil
theorem xs_impl_PointValid_ok : XSigOK xs_impl_PointValid := ⟨xsigL_nil, ysigL_nil⟩
theorem V_impl_PointValid (p1 : Int) (p2 : Int) : ((true = true) ∧ ((True) ∧ (True) ∧ True) ∧ (true = true) ∧ ((True) ∧ (True) ∧ ((True)) ∧ (True) ∧ (NIs (inB p1 (-10000 : Int) (10000 : Int)) true → True) ∧ (NIs (inB p1 (-10000 : Int) (10000 : Int)) true → True) ∧ (NIs (inB p1 (-10000 : Int) (10000 : Int)) true → (True)) ∧ (True) ∧ (True) ∧ True) ∧ (((bite (inB p1 (-10000 : Int) (10000 : Int)) (inB p2 (-10000 : Int) (10000 : Int)) false) : Bool) = (vB p1 p2)) ∧ True) = ev sig_impl_PointValid xs_impl_PointValid Tryd.f84.ntmps (fun b => []) (codeOf Tryd.f84) 0 (initS [.agg [.int p1, .int p2]]) (retK Tryd.f84.results.toList [.s (.bool (vB p1 p2))]) := by kernel_rfl
set_option maxHeartbeats 400000 in
theorem F_impl_PointValid : FunOK 84 g_impl_PointValid := by
  refine fun_F (by kernel_rfl) Tryd.func84 rfl (by kernel_rfl) sig_impl_PointValid_ok xs_impl_PointValid_ok ?_
  intro avs sg h hn hl
  unfold g_impl_PointValid at h
  split at h
  · rename_i p1 p2
    injection h with h; subst h
    refine ⟨by kernel_rfl, fun b => [], Eq.mp (V_impl_PointValid p1 p2) ?_⟩
    simp only [true_and, and_true, implies_true, and_self, forall_const, true_implies, lenA, lenL, SV.lenOK, Cont.lenOK] at hn hl ⊢
    simp only [bite_and, vB]
  · cases h
def g_impl_allPoints : List AV → Option Sg
  | [.s (.view (.pts l))] => some ⟨True, [.s (.bool (allB l))]⟩
  | _ => none
def sig_impl_allPoints : FuncId → List AV → Option Sg := sigL [(84, g_impl_PointValid)]
def xs_impl_allPoints : XS := ⟨xsigL [], ysigL []⟩
theorem sig_impl_allPoints_ok : SigOK sig_impl_allPoints := sigL_cons F_impl_PointValid sigL_nil
theorem xs_impl_allPoints_ok : XSigOK xs_impl_allPoints := ⟨xsigL_nil, ysigL_nil⟩
theorem V_impl_allPoints (l : List Pt) : ((true = true) ∧ ((True) ∧ True) ∧ (true = true) ∧ ((True) ∧ (True) ∧ (True) ∧ True) ∧ ∃ (I1 : List GV → Prop) (μ1 : List GV → Nat), (((true = true) ∧ (((false : Bool) = false) ∧ (((0 : Int) : Int) = (0 : Int)) ∧ ((Cont.pts l) = (Cont.pts l)) ∧ (((ilen l) : Int) = (ilen l)) ∧ ((Cont.pts l) = (Cont.pts l)) ∧ True) ∧ (True)) ∧ (([GK.int, GK.bool] : List GK) = ([GK.int, GK.bool] : List GK)) ∧ I1 [GV.int (0 : Int), GV.bool false]) ∧ (∀ i1_0 : Int, ∀ b1_1 : Bool, I1 [GV.int i1_0, GV.bool b1_1] → ((true = true) ∧ ((True) ∧ True) ∧ ((ilt i1_0 (ilen l)) = true → ((true = true) ∧ ((NLe 0 i1_0 ∧ NLt i1_0 (ilen l)) ∧ (True) ∧ (True) ∧ True) ∧ (True) ∧ (true = true) ∧ ((True) ∧ ((True)) ∧ (True) ∧ True) ∧ ((bnot (vB (getx l i1_0) (gety l i1_0))) = true → ((true = true) ∧ ((True) ∧ True) ∧ ((false : Bool) = (allB l)) ∧ True)) ∧ ((bnot (vB (getx l i1_0) (gety l i1_0))) = false → ((true = true) ∧ ((True) ∧ (True) ∧ True) ∧ ((true = true) ∧ (((b1_1 : Bool) = b1_1) ∧ (((iadd i1_0 (1 : Int)) : Int) = (iadd i1_0 (1 : Int))) ∧ ((Cont.pts l) = (Cont.pts l)) ∧ (((ilen l) : Int) = (ilen l)) ∧ ((Cont.pts l) = (Cont.pts l)) ∧ True) ∧ (True)) ∧ ((([GK.int, GK.bool] : List GK) = ([GK.int, GK.bool] : List GK)) ∧ I1 [GV.int (iadd i1_0 (1 : Int)), GV.bool b1_1] ∧ μ1 [GV.int (iadd i1_0 (1 : Int)), GV.bool b1_1] < μ1 [GV.int i1_0, GV.bool b1_1]))))) ∧ ((ilt i1_0 (ilen l)) = false → ((true = true) ∧ ((True) ∧ True) ∧ ((true : Bool) = (allB l)) ∧ True))))) = ev sig_impl_allPoints xs_impl_allPoints Tryd.f117.ntmps (fun b => if b == 0 then [.v 7, .v 2] else []) (codeOf Tryd.f117) 0 (initS [.s (.view (.pts l))]) (retK Tryd.f117.results.toList [.s (.bool (allB l))]) := by kernel_rfl
set_option maxHeartbeats 400000 in
theorem F_impl_allPoints : FunOK 117 g_impl_allPoints := by
  refine fun_F (by kernel_rfl) Tryd.func117 rfl (by kernel_rfl) sig_impl_allPoints_ok xs_impl_allPoints_ok ?_
  intro avs sg h hn hl
  unfold g_impl_allPoints at h
  split at h
  · rename_i l
    injection h with h; subst h
    refine ⟨by kernel_rfl, fun b => if b == 0 then [.v 7, .v 2] else [], Eq.mp (V_impl_allPoints l) ?_⟩
    simp only [true_and, and_true, implies_true, and_self, forall_const, true_implies, lenA, lenL, SV.lenOK, Cont.lenOK] at hn hl ⊢
    have h0 := ilen_0 l
    simp only [ilt_t, ilt_f, ile_t, ile_f, ieq_t, ieq_f, bnot_e, band_e, bite_and, bite_or, NLt_e, NLe_e, NNe_e, NIs_e, imax_e, imin_e, irem_e, Bool.not_eq_true', Bool.not_eq_false', Bool.and_eq_true, Bool.or_eq_true, Bool.or_eq_false_iff, Bool.and_eq_false_iff, Cont.pts.injEq, Cont.ints.injEq, Cont.bools.injEq, Cont.ptss.injEq, Cont.intss.injEq, Cont.boolss.injEq, true_and, and_true, implies_true]
    refine ⟨fun | .int k :: _ => 0 ≤ k ∧ k ≤ ilen l ∧ (∀ j, 0 ≤ j → j < k → vB (getx l j) (gety l j) = true) | _ => False, fun | .int k :: _ => (ilen l - k).toNat | _ => 0, ?_, ?_⟩
    · exact ⟨Int.le_refl 0, h0, fun j h0 h1 => absurd h1 (by omega)⟩
    · rintro k _ ⟨hk0, hk1, hk⟩
      simp only [ilt_t, ilt_f, ile_t, ile_f, ieq_t, ieq_f, bnot_e, band_e, bite_and, bite_or, NLt_e, NLe_e, NNe_e, NIs_e, imax_e, imin_e, irem_e, Bool.not_eq_true', Bool.not_eq_false', Bool.and_eq_true, Bool.or_eq_true, Bool.or_eq_false_iff, Bool.and_eq_false_iff, Cont.pts.injEq, Cont.ints.injEq, Cont.bools.injEq, Cont.ptss.injEq, Cont.intss.injEq, Cont.boolss.injEq, true_and, and_true, implies_true]
      refine ⟨fun hc => ⟨⟨hk0, hc⟩, fun hv => ?_, fun hv => ?_⟩, fun hc => ?_⟩
      · rw [allB_N, allN_no k hk0 hc hv]
      · rw [iadd_1 hk0 hc hl]
        exact ⟨⟨by omega, by omega, allN_up hk hv⟩, by omega⟩
      · rw [allB_N, allN_mk fun j h0 h1 => hk j h0 (by omega)]
  · cases h
def g_impl_cross : List AV → Option Sg
  | [.agg [.int a1, .int a2], .agg [.int b1, .int b2], .agg [.int c1, .int c2]] => some ⟨True, [.s (.int (crW a1 a2 b1 b2 c1 c2))]⟩
  | _ => none
def sig_impl_cross : FuncId → List AV → Option Sg := sigL []
def xs_impl_cross : XS := ⟨xsigL [], ysigL []⟩
theorem sig_impl_cross_ok : SigOK sig_impl_cross := sigL_nil
theorem xs_impl_cross_ok : XSigOK xs_impl_cross := ⟨xsigL_nil, ysigL_nil⟩
theorem V_impl_cross (a1 : Int) (a2 : Int) (b1 : Int) (b2 : Int) (c1 : Int) (c2 : Int) : ((true = true) ∧ ((True) ∧ (True) ∧ (True) ∧ (True) ∧ True) ∧ (true = true) ∧ ((True) ∧ (True) ∧ (True) ∧ (True) ∧ (True) ∧ (True) ∧ (True) ∧ (True) ∧ (True) ∧ (True) ∧ (True) ∧ (True) ∧ (True) ∧ (True) ∧ (True) ∧ (True) ∧ (True) ∧ (True) ∧ (True) ∧ (True) ∧ (True) ∧ (True) ∧ (True) ∧ (True) ∧ True) ∧ (((isub (imul (isub b1 a1) (isub c2 a2)) (imul (isub b2 a2) (isub c1 a1))) : Int) = (crW a1 a2 b1 b2 c1 c2)) ∧ True) = ev sig_impl_cross xs_impl_cross Tryd.f111.ntmps (fun b => []) (codeOf Tryd.f111) 0 (initS [.agg [.int a1, .int a2], .agg [.int b1, .int b2], .agg [.int c1, .int c2]]) (retK Tryd.f111.results.toList [.s (.int (crW a1 a2 b1 b2 c1 c2))]) := by kernel_rfl
set_option maxHeartbeats 400000 in
theorem F_impl_cross : FunOK 111 g_impl_cross := by
  refine fun_F (by kernel_rfl) Tryd.func111 rfl (by kernel_rfl) sig_impl_cross_ok xs_impl_cross_ok ?_
  intro avs sg h hn hl
  unfold g_impl_cross at h
  split at h
  · rename_i a1 a2 b1 b2 c1 c2
    injection h with h; subst h
    refine ⟨by kernel_rfl, fun b => [], Eq.mp (V_impl_cross a1 a2 b1 b2 c1 c2) ?_⟩
    simp only [true_and, and_true, implies_true, and_self, forall_const, true_implies, lenA, lenL, SV.lenOK, Cont.lenOK] at hn hl ⊢
    simp only [crW]
  · cases h
def g_impl_ConvexValid : List AV → Option Sg
  | [.s (.view (.pts l))] => some ⟨True, [.s (.bool (convB l))]⟩
  | _ => none
def sig_impl_ConvexValid : FuncId → List AV → Option Sg := sigL [(67, g_impl_within), (117, g_impl_allPoints), (111, g_impl_cross)]
def xs_impl_ConvexValid : XS := ⟨xsigL [], ysigL []⟩
theorem sig_impl_ConvexValid_ok : SigOK sig_impl_ConvexValid := sigL_cons F_impl_within (sigL_cons F_impl_allPoints (sigL_cons F_impl_cross sigL_nil))
theorem xs_impl_ConvexValid_ok : XSigOK xs_impl_ConvexValid := ⟨xsigL_nil, ysigL_nil⟩
theorem V_impl_ConvexValid (l : List Pt) : ((true = true) ∧ ((True) ∧ True) ∧ (true = true) ∧ ((True) ∧ (True) ∧ ((True)) ∧ (True) ∧ (True) ∧ (NIs (bnot (inB (ilen l) (3 : Int) (8 : Int))) false → True) ∧ (NIs (bnot (inB (ilen l) (3 : Int) (8 : Int))) false → (True)) ∧ (NIs (bnot (inB (ilen l) (3 : Int) (8 : Int))) false → True) ∧ (True) ∧ True) ∧ ((bite (bnot (inB (ilen l) (3 : Int) (8 : Int))) true (bnot (allB l))) = true → ((true = true) ∧ ((True) ∧ True) ∧ ((false : Bool) = (convB l)) ∧ True)) ∧ ((bite (bnot (inB (ilen l) (3 : Int) (8 : Int))) true (bnot (allB l))) = false → ((true = true) ∧ ((True) ∧ (True) ∧ (True) ∧ True) ∧ ∃ (I1 : List GV → Prop) (μ1 : List GV → Nat), (((true = true) ∧ (((false : Bool) = false) ∧ (((0 : Int) : Int) = (0 : Int)) ∧ ((Cont.pts l) = (Cont.pts l)) ∧ (((ilen l) : Int) = (ilen l)) ∧ ((Cont.pts l) = (Cont.pts l)) ∧ (((ilen l) : Int) = (ilen l)) ∧ (((inB (ilen l) (3 : Int) (8 : Int)) : Bool) = (inB (ilen l) (3 : Int) (8 : Int))) ∧ (((bnot (inB (ilen l) (3 : Int) (8 : Int))) : Bool) = (bnot (inB (ilen l) (3 : Int) (8 : Int)))) ∧ (((bnot (inB (ilen l) (3 : Int) (8 : Int))) : Bool) = (bnot (inB (ilen l) (3 : Int) (8 : Int)))) ∧ (((bite (bnot (inB (ilen l) (3 : Int) (8 : Int))) true (bnot (allB l))) : Bool) = (bite (bnot (inB (ilen l) (3 : Int) (8 : Int))) true (bnot (allB l)))) ∧ ((Cont.pts l) = (Cont.pts l)) ∧ True) ∧ (True)) ∧ (([GK.int, GK.bool] : List GK) = ([GK.int, GK.bool] : List GK)) ∧ I1 [GV.int (0 : Int), GV.bool false]) ∧ (∀ i1_0 : Int, ∀ b1_1 : Bool, I1 [GV.int i1_0, GV.bool b1_1] → ((true = true) ∧ ((True) ∧ True) ∧ ((ilt i1_0 (ilen l)) = true → ((true = true) ∧ ((True) ∧ (NLe 0 i1_0 ∧ NLt i1_0 (ilen l)) ∧ (True) ∧ (True) ∧ (True) ∧ True) ∧ (True) ∧ (true = true) ∧ ((True) ∧ (True) ∧ (True) ∧ (True) ∧ (NNe (ilen l) 0) ∧ (True) ∧ True) ∧ (true = true) ∧ ((True) ∧ (True) ∧ (True) ∧ True) ∧ ∃ (I2 : List GV → Prop) (μ2 : List GV → Nat), (((true = true) ∧ (((b1_1 : Bool) = b1_1) ∧ (((0 : Int) : Int) = (0 : Int)) ∧ ((Cont.pts l) = (Cont.pts l)) ∧ (((ilen l) : Int) = (ilen l)) ∧ ((i1_0 : Int) = i1_0) ∧ (((iadd i1_0 (1 : Int)) : Int) = (iadd i1_0 (1 : Int))) ∧ ((Cont.pts l) = (Cont.pts l)) ∧ (((ilen l) : Int) = (ilen l)) ∧ (((irem (iadd i1_0 (1 : Int)) (ilen l)) : Int) = (irem (iadd i1_0 (1 : Int)) (ilen l))) ∧ (((irem (iadd i1_0 (1 : Int)) (ilen l)) : Int) = (irem (iadd i1_0 (1 : Int)) (ilen l))) ∧ ((i1_0 : Int) = i1_0) ∧ ((((getx l i1_0) : Int) = (getx l i1_0)) ∧ (((gety l i1_0) : Int) = (gety l i1_0)) ∧ True) ∧ (true = true) ∧ ((i1_0 : Int) = i1_0) ∧ (((ilt i1_0 (ilen l)) : Bool) = (ilt i1_0 (ilen l))) ∧ ((i1_0 : Int) = i1_0) ∧ ((Cont.pts l) = (Cont.pts l)) ∧ (((ilen l) : Int) = (ilen l)) ∧ ((Cont.pts l) = (Cont.pts l)) ∧ (((ilen l) : Int) = (ilen l)) ∧ (((inB (ilen l) (3 : Int) (8 : Int)) : Bool) = (inB (ilen l) (3 : Int) (8 : Int))) ∧ (((bnot (inB (ilen l) (3 : Int) (8 : Int))) : Bool) = (bnot (inB (ilen l) (3 : Int) (8 : Int)))) ∧ (((bnot (inB (ilen l) (3 : Int) (8 : Int))) : Bool) = (bnot (inB (ilen l) (3 : Int) (8 : Int)))) ∧ (((bite (bnot (inB (ilen l) (3 : Int) (8 : Int))) true (bnot (allB l))) : Bool) = (bite (bnot (inB (ilen l) (3 : Int) (8 : Int))) true (bnot (allB l)))) ∧ ((Cont.pts l) = (Cont.pts l)) ∧ True) ∧ (((((getx l i1_0) : Int) = (getx l i1_0)) ∧ (((gety l i1_0) : Int) = (gety l i1_0)) ∧ True) ∧ True)) ∧ (([GK.int, GK.bool] : List GK) = ([GK.int, GK.bool] : List GK)) ∧ I2 [GV.int (0 : Int), GV.bool b1_1]) ∧ (∀ i2_0 : Int, ∀ b2_1 : Bool, I2 [GV.int i2_0, GV.bool b2_1] → ((true = true) ∧ ((True) ∧ True) ∧ ((ilt i2_0 (ilen l)) = true → ((true = true) ∧ ((True) ∧ (NLe 0 i2_0 ∧ NLt i2_0 (ilen l)) ∧ (True) ∧ (True) ∧ (True) ∧ True) ∧ (True) ∧ (true = true) ∧ ((True) ∧ (True) ∧ (True) ∧ (True) ∧ (NIs (bnot (ieq i2_0 i1_0)) true → True) ∧ (NIs (bnot (ieq i2_0 i1_0)) true → True) ∧ (NIs (bnot (ieq i2_0 i1_0)) true → True) ∧ (True) ∧ (True) ∧ (NIs (bite (bnot (ieq i2_0 i1_0)) (bnot (ieq i2_0 (irem (iadd i1_0 (1 : Int)) (ilen l)))) false) true → True) ∧ (NIs (bite (bnot (ieq i2_0 i1_0)) (bnot (ieq i2_0 (irem (iadd i1_0 (1 : Int)) (ilen l)))) false) true → True) ∧ (NIs (bite (bnot (ieq i2_0 i1_0)) (bnot (ieq i2_0 (irem (iadd i1_0 (1 : Int)) (ilen l)))) false) true → True) ∧ (NIs (bite (bnot (ieq i2_0 i1_0)) (bnot (ieq i2_0 (irem (iadd i1_0 (1 : Int)) (ilen l)))) false) true → (NLe 0 (irem (iadd i1_0 (1 : Int)) (ilen l)) ∧ NLt (irem (iadd i1_0 (1 : Int)) (ilen l)) (ilen l))) ∧ (NIs (bite (bnot (ieq i2_0 i1_0)) (bnot (ieq i2_0 (irem (iadd i1_0 (1 : Int)) (ilen l)))) false) true → True) ∧ (NIs (bite (bnot (ieq i2_0 i1_0)) (bnot (ieq i2_0 (irem (iadd i1_0 (1 : Int)) (ilen l)))) false) true → True) ∧ (NIs (bite (bnot (ieq i2_0 i1_0)) (bnot (ieq i2_0 (irem (iadd i1_0 (1 : Int)) (ilen l)))) false) true → (True)) ∧ (NIs (bite (bnot (ieq i2_0 i1_0)) (bnot (ieq i2_0 (irem (iadd i1_0 (1 : Int)) (ilen l)))) false) true → True) ∧ (True) ∧ True) ∧ ((bite (bite (bnot (ieq i2_0 i1_0)) (bnot (ieq i2_0 (irem (iadd i1_0 (1 : Int)) (ilen l)))) false) (ile (crW (getx l i1_0) (gety l i1_0) (getx l (irem (iadd i1_0 (1 : Int)) (ilen l))) (gety l (irem (iadd i1_0 (1 : Int)) (ilen l))) (getx l i2_0) (gety l i2_0)) (0 : Int)) false) = true → ((true = true) ∧ ((True) ∧ True) ∧ ((false : Bool) = (convB l)) ∧ True)) ∧ ((bite (bite (bnot (ieq i2_0 i1_0)) (bnot (ieq i2_0 (irem (iadd i1_0 (1 : Int)) (ilen l)))) false) (ile (crW (getx l i1_0) (gety l i1_0) (getx l (irem (iadd i1_0 (1 : Int)) (ilen l))) (gety l (irem (iadd i1_0 (1 : Int)) (ilen l))) (getx l i2_0) (gety l i2_0)) (0 : Int)) false) = false → ((true = true) ∧ ((True) ∧ (True) ∧ True) ∧ ((true = true) ∧ (((b2_1 : Bool) = b2_1) ∧ (((iadd i2_0 (1 : Int)) : Int) = (iadd i2_0 (1 : Int))) ∧ ((Cont.pts l) = (Cont.pts l)) ∧ (((ilen l) : Int) = (ilen l)) ∧ ((i1_0 : Int) = i1_0) ∧ (((iadd i1_0 (1 : Int)) : Int) = (iadd i1_0 (1 : Int))) ∧ ((Cont.pts l) = (Cont.pts l)) ∧ (((ilen l) : Int) = (ilen l)) ∧ (((irem (iadd i1_0 (1 : Int)) (ilen l)) : Int) = (irem (iadd i1_0 (1 : Int)) (ilen l))) ∧ (((irem (iadd i1_0 (1 : Int)) (ilen l)) : Int) = (irem (iadd i1_0 (1 : Int)) (ilen l))) ∧ ((i1_0 : Int) = i1_0) ∧ ((((getx l i1_0) : Int) = (getx l i1_0)) ∧ (((gety l i1_0) : Int) = (gety l i1_0)) ∧ True) ∧ (true = true) ∧ ((i1_0 : Int) = i1_0) ∧ (((ilt i1_0 (ilen l)) : Bool) = (ilt i1_0 (ilen l))) ∧ ((i1_0 : Int) = i1_0) ∧ ((Cont.pts l) = (Cont.pts l)) ∧ (((ilen l) : Int) = (ilen l)) ∧ ((Cont.pts l) = (Cont.pts l)) ∧ (((ilen l) : Int) = (ilen l)) ∧ (((inB (ilen l) (3 : Int) (8 : Int)) : Bool) = (inB (ilen l) (3 : Int) (8 : Int))) ∧ (((bnot (inB (ilen l) (3 : Int) (8 : Int))) : Bool) = (bnot (inB (ilen l) (3 : Int) (8 : Int)))) ∧ (((bnot (inB (ilen l) (3 : Int) (8 : Int))) : Bool) = (bnot (inB (ilen l) (3 : Int) (8 : Int)))) ∧ (((bite (bnot (inB (ilen l) (3 : Int) (8 : Int))) true (bnot (allB l))) : Bool) = (bite (bnot (inB (ilen l) (3 : Int) (8 : Int))) true (bnot (allB l)))) ∧ ((Cont.pts l) = (Cont.pts l)) ∧ True) ∧ (((((getx l i1_0) : Int) = (getx l i1_0)) ∧ (((gety l i1_0) : Int) = (gety l i1_0)) ∧ True) ∧ True)) ∧ ((([GK.int, GK.bool] : List GK) = ([GK.int, GK.bool] : List GK)) ∧ I2 [GV.int (iadd i2_0 (1 : Int)), GV.bool b2_1] ∧ μ2 [GV.int (iadd i2_0 (1 : Int)), GV.bool b2_1] < μ2 [GV.int i2_0, GV.bool b2_1]))))) ∧ ((ilt i2_0 (ilen l)) = false → ((true = true) ∧ ((True) ∧ (True) ∧ True) ∧ ((true = true) ∧ (((b2_1 : Bool) = b2_1) ∧ (((iadd i1_0 (1 : Int)) : Int) = (iadd i1_0 (1 : Int))) ∧ ((Cont.pts l) = (Cont.pts l)) ∧ (((ilen l) : Int) = (ilen l)) ∧ ((Cont.pts l) = (Cont.pts l)) ∧ (((ilen l) : Int) = (ilen l)) ∧ (((inB (ilen l) (3 : Int) (8 : Int)) : Bool) = (inB (ilen l) (3 : Int) (8 : Int))) ∧ (((bnot (inB (ilen l) (3 : Int) (8 : Int))) : Bool) = (bnot (inB (ilen l) (3 : Int) (8 : Int)))) ∧ (((bnot (inB (ilen l) (3 : Int) (8 : Int))) : Bool) = (bnot (inB (ilen l) (3 : Int) (8 : Int)))) ∧ (((bite (bnot (inB (ilen l) (3 : Int) (8 : Int))) true (bnot (allB l))) : Bool) = (bite (bnot (inB (ilen l) (3 : Int) (8 : Int))) true (bnot (allB l)))) ∧ ((Cont.pts l) = (Cont.pts l)) ∧ True) ∧ (True)) ∧ ((([GK.int, GK.bool] : List GK) = ([GK.int, GK.bool] : List GK)) ∧ I1 [GV.int (iadd i1_0 (1 : Int)), GV.bool b2_1] ∧ μ1 [GV.int (iadd i1_0 (1 : Int)), GV.bool b2_1] < μ1 [GV.int i1_0, GV.bool b1_1]))))))) ∧ ((ilt i1_0 (ilen l)) = false → ((true = true) ∧ ((True) ∧ True) ∧ ((true : Bool) = (convB l)) ∧ True))))))) = ev sig_impl_ConvexValid xs_impl_ConvexValid Tryd.f98.ntmps (fun b => if b == 0 then [.v 19, .v 2] else if b == 2 then [.v 31, .v 2] else []) (codeOf Tryd.f98) 0 (initS [.s (.view (.pts l))]) (retK Tryd.f98.results.toList [.s (.bool (convB l))]) := by kernel_rfl
set_option maxHeartbeats 400000 in
theorem F_impl_ConvexValid : FunOK 98 g_impl_ConvexValid := by
  refine fun_F (by kernel_rfl) Tryd.func98 rfl (by kernel_rfl) sig_impl_ConvexValid_ok xs_impl_ConvexValid_ok ?_
  intro avs sg h hn hl
  unfold g_impl_ConvexValid at h
  split at h
  · rename_i l
    injection h with h; subst h
    refine ⟨by kernel_rfl, fun b => if b == 0 then [.v 19, .v 2] else if b == 2 then [.v 31, .v 2] else [], Eq.mp (V_impl_ConvexValid l) ?_⟩
    simp only [true_and, and_true, implies_true, and_self, forall_const, true_implies, lenA, lenL, SV.lenOK, Cont.lenOK] at hn hl ⊢
    have h0 := ilen_0 l
    simp only [ilt_t, ilt_f, ile_t, ile_f, ieq_t, ieq_f, bnot_e, band_e, bite_and, bite_or, NLt_e, NLe_e, NNe_e, NIs_e, imax_e, imin_e, irem_e, Bool.not_eq_true', Bool.not_eq_false', Bool.and_eq_true, Bool.or_eq_true, Bool.or_eq_false_iff, Bool.and_eq_false_iff, Cont.pts.injEq, Cont.ints.injEq, Cont.bools.injEq, Cont.ptss.injEq, Cont.intss.injEq, Cont.boolss.injEq, true_and, and_true, implies_true]
    refine ⟨?_, fun hc => ?_⟩
    · rintro (h | h) <;> simp [convB, h]
    · obtain ⟨hv1, hv2⟩ : inB (ilen l) 3 8 = true ∧ allB l = true := by simpa using hc
      have hlen := inB_true hv1
      refine ⟨fun | [.int k, .bool _] => 0 ≤ k ∧ k ≤ ilen l ∧ (∀ i, 0 ≤ i → i < k → allN (ilen l) (convE l i) = true) | _ => False, fun | [.int k, .bool _] => (ilen l - k).toNat | _ => 0, ?_, ?_⟩
      · exact ⟨Int.le_refl 0, h0, fun j h0 h1 => absurd h1 (by omega)⟩
      · rintro k b ⟨hk0, hk1, hk⟩
        simp only [ilt_t, ilt_f, ile_t, ile_f, ieq_t, ieq_f, bnot_e, band_e, bite_and, bite_or, NLt_e, NLe_e, NNe_e, NIs_e, imax_e, imin_e, irem_e, Bool.not_eq_true', Bool.not_eq_false', Bool.and_eq_true, Bool.or_eq_true, Bool.or_eq_false_iff, Bool.and_eq_false_iff, Cont.pts.injEq, Cont.ints.injEq, Cont.bools.injEq, Cont.ptss.injEq, Cont.intss.injEq, Cont.boolss.injEq, true_and, and_true, implies_true]
        refine ⟨fun hkn => ⟨⟨hk0, hkn⟩, by omega, ?_⟩, fun hkn => ?_⟩
        · have e1 := iadd_1 hk0 hkn hl
          obtain ⟨n0, n1, _⟩ := nx_in hk0 hkn
          have e2 : (k + 1).tmod (ilen l) = nx l k := rfl
          simp only [e1, e2]
          refine ⟨fun | [.int j, .bool _] => 0 ≤ j ∧ j ≤ ilen l ∧ (∀ i, 0 ≤ i → i < j → convE l k i = true) | _ => False, fun | [.int j, .bool _] => (ilen l - j).toNat | _ => 0, ?_, ?_⟩
          · exact ⟨Int.le_refl 0, h0, fun j h0 h1 => absurd h1 (by omega)⟩
          · rintro j b ⟨hj0, hj1, hj⟩
            simp only [ilt_t, ilt_f, ile_t, ile_f, ieq_t, ieq_f, bnot_e, band_e, bite_and, bite_or, NLt_e, NLe_e, NNe_e, NIs_e, imax_e, imin_e, irem_e, Bool.not_eq_true', Bool.not_eq_false', Bool.and_eq_true, Bool.or_eq_true, Bool.or_eq_false_iff, Bool.and_eq_false_iff, Cont.pts.injEq, Cont.ints.injEq, Cont.bools.injEq, Cont.ptss.injEq, Cont.intss.injEq, Cont.boolss.injEq, true_and, and_true, implies_true]
            refine ⟨fun hjn => ⟨⟨hj0, hjn⟩, fun _ => ⟨n0, n1⟩, fun hx => ?_, fun hx => ?_⟩, fun hjn => ?_⟩
            · have hE : convE l k j = false := by
                unfold convE cr
                simp only [decide_eq_false_iff_not]
                omega
              unfold convB
              rw [allN_no k hk0 hkn (allN_no j hj0 hjn hE)]
              simp
            · have hE : convE l k j = true := by
                unfold convE cr
                simp only [decide_eq_true_eq]
                omega
              rw [iadd_1 hj0 hjn hl]
              exact ⟨⟨by omega, by omega, allN_up hj hE⟩, by omega⟩
            · exact ⟨⟨by omega, by omega, allN_up hk (allN_mk fun i h0 h1 => hj i h0 (by omega))⟩, by omega⟩
        · unfold convB
          rw [hv1, hv2, allN_mk fun i h0 h1 => hk i h0 (by omega)]
          rfl
  · cases h
def g_impl_SceneValid_1 : List AV → Option Sg
  | [.s (.view (.pts l))] => some ⟨True, [.s (.bool (!convB l))]⟩
  | _ => none
def sig_impl_SceneValid_1 : FuncId → List AV → Option Sg := sigL [(98, g_impl_ConvexValid)]
def xs_impl_SceneValid_1 : XS := ⟨xsigL [], ysigL []⟩
theorem sig_impl_SceneValid_1_ok : SigOK sig_impl_SceneValid_1 := sigL_cons F_impl_ConvexValid sigL_nil
theorem xs_impl_SceneValid_1_ok : XSigOK xs_impl_SceneValid_1 := ⟨xsigL_nil, ysigL_nil⟩
theorem V_impl_SceneValid_1 (l : List Pt) : ((true = true) ∧ ((True) ∧ True) ∧ (true = true) ∧ ((True) ∧ ((True)) ∧ (True) ∧ (True) ∧ True) ∧ (((bnot (convB l)) : Bool) = (!convB l)) ∧ True) = ev sig_impl_SceneValid_1 xs_impl_SceneValid_1 Tryd.f97.ntmps (fun b => []) (codeOf Tryd.f97) 0 (initS [.s (.view (.pts l))]) (retK Tryd.f97.results.toList [.s (.bool (!convB l))]) := by kernel_rfl
set_option maxHeartbeats 400000 in
theorem F_impl_SceneValid_1 : FunOK 97 g_impl_SceneValid_1 := by
  refine fun_F (by kernel_rfl) Tryd.func97 rfl (by kernel_rfl) sig_impl_SceneValid_1_ok xs_impl_SceneValid_1_ok ?_
  intro avs sg h hn hl
  unfold g_impl_SceneValid_1 at h
  split at h
  · rename_i l
    injection h with h; subst h
    refine ⟨by kernel_rfl, fun b => [], Eq.mp (V_impl_SceneValid_1 l) ?_⟩
    simp only [true_and, and_true, implies_true, and_self, forall_const, true_implies, lenA, lenL, SV.lenOK, Cont.lenOK] at hn hl ⊢
    simp only [ilt_t, ilt_f, ile_t, ile_f, ieq_t, ieq_f, bnot_e, band_e, bite_and, bite_or, NLt_e, NLe_e, NNe_e, NIs_e, imax_e, imin_e, irem_e, Bool.not_eq_true', Bool.not_eq_false', Bool.and_eq_true, Bool.or_eq_true, Bool.or_eq_false_iff, Bool.and_eq_false_iff, Cont.pts.injEq, Cont.ints.injEq, Cont.bools.injEq, Cont.ptss.injEq, Cont.intss.injEq, Cont.boolss.injEq, true_and, and_true, implies_true]
  · cases h
def g_slices_IndexFunc_SSimpl_Point_Simpl_Point : List AV → Option Sg
  | [.s (.view (.ptss l)), .s (.x (.func (.func 97) ⟨[]⟩ ⟨[]⟩))] => some ⟨True, [.s (.int (idxN (ilen l) fun i => !convB (getl l i)))]⟩
  | _ => none
def sig_slices_IndexFunc_SSimpl_Point_Simpl_Point : FuncId → List AV → Option Sg := sigL [(97, g_impl_SceneValid_1)]
def xs_slices_IndexFunc_SSimpl_Point_Simpl_Point : XS := ⟨xsigL [], ysigL []⟩
theorem sig_slices_IndexFunc_SSimpl_Point_Simpl_Point_ok : SigOK sig_slices_IndexFunc_SSimpl_Point_Simpl_Point := sigL_cons F_impl_SceneValid_1 sigL_nil
theorem xs_slices_IndexFunc_SSimpl_Point_Simpl_Point_ok : XSigOK xs_slices_IndexFunc_SSimpl_Point_Simpl_Point := ⟨xsigL_nil, ysigL_nil⟩
theorem V_slices_IndexFunc_SSimpl_Point_Simpl_Point (l : List (List Pt)) : ((true = true) ∧ ((True) ∧ True) ∧ (true = true) ∧ ((True) ∧ (True) ∧ (True) ∧ True) ∧ ∃ (I1 : List GV → Prop) (μ1 : List GV → Nat), (((true = true) ∧ ((((0 : Int) : Int) = (0 : Int)) ∧ (((0 : Int) : Int) = (0 : Int)) ∧ ((Cont.ptss l) = (Cont.ptss l)) ∧ (((ilen l) : Int) = (ilen l)) ∧ ((Cont.ptss l) = (Cont.ptss l)) ∧ (((.func (.func 97) #[] #[]) : Value) = (.func (.func 97) #[] #[])) ∧ True) ∧ (True)) ∧ (([GK.int, GK.int] : List GK) = ([GK.int, GK.int] : List GK)) ∧ I1 [GV.int (0 : Int), GV.int (0 : Int)]) ∧ (∀ i1_0 : Int, ∀ i1_1 : Int, I1 [GV.int i1_0, GV.int i1_1] → ((true = true) ∧ ((True) ∧ True) ∧ ((ilt i1_0 (ilen l)) = true → ((true = true) ∧ ((True) ∧ (True) ∧ True) ∧ (true = true) ∧ ((True) ∧ (True) ∧ (True) ∧ (NLe 0 i1_0 ∧ NLt i1_0 (ilen l)) ∧ (True) ∧ ((True)) ∧ True) ∧ ((!convB (getl l i1_0)) = true → ((true = true) ∧ ((True) ∧ (True) ∧ True) ∧ ((i1_0 : Int) = (idxN (ilen l) fun i => !convB (getl l i))) ∧ True)) ∧ ((!convB (getl l i1_0)) = false → ((true = true) ∧ ((True) ∧ (True) ∧ True) ∧ ((true = true) ∧ (((i1_1 : Int) = i1_1) ∧ (((iadd i1_0 (1 : Int)) : Int) = (iadd i1_0 (1 : Int))) ∧ ((Cont.ptss l) = (Cont.ptss l)) ∧ (((ilen l) : Int) = (ilen l)) ∧ ((Cont.ptss l) = (Cont.ptss l)) ∧ (((.func (.func 97) #[] #[]) : Value) = (.func (.func 97) #[] #[])) ∧ True) ∧ (True)) ∧ ((([GK.int, GK.int] : List GK) = ([GK.int, GK.int] : List GK)) ∧ I1 [GV.int (iadd i1_0 (1 : Int)), GV.int i1_1] ∧ μ1 [GV.int (iadd i1_0 (1 : Int)), GV.int i1_1] < μ1 [GV.int i1_0, GV.int i1_1]))))) ∧ ((ilt i1_0 (ilen l)) = false → ((true = true) ∧ ((True) ∧ True) ∧ (((-1 : Int) : Int) = (idxN (ilen l) fun i => !convB (getl l i))) ∧ True))))) = ev sig_slices_IndexFunc_SSimpl_Point_Simpl_Point xs_slices_IndexFunc_SSimpl_Point_Simpl_Point Tryd.f116.ntmps (fun b => if b == 0 then [.v 8, .v 4] else []) (codeOf Tryd.f116) 0 (initS [.s (.view (.ptss l)), .s (.x (.func (.func 97) ⟨[]⟩ ⟨[]⟩))]) (retK Tryd.f116.results.toList [.s (.int (idxN (ilen l) fun i => !convB (getl l i)))]) := by kernel_rfl
set_option maxHeartbeats 400000 in
theorem F_slices_IndexFunc_SSimpl_Point_Simpl_Point : FunOK 116 g_slices_IndexFunc_SSimpl_Point_Simpl_Point := by
  refine fun_F (by kernel_rfl) Tryd.func116 rfl (by kernel_rfl) sig_slices_IndexFunc_SSimpl_Point_Simpl_Point_ok xs_slices_IndexFunc_SSimpl_Point_Simpl_Point_ok ?_
  intro avs sg h hn hl
  unfold g_slices_IndexFunc_SSimpl_Point_Simpl_Point at h
  split at h
  · rename_i l
    injection h with h; subst h
    refine ⟨by kernel_rfl, fun b => if b == 0 then [.v 8, .v 4] else [], Eq.mp (V_slices_IndexFunc_SSimpl_Point_Simpl_Point l) ?_⟩
    simp only [true_and, and_true, implies_true, and_self, forall_const, true_implies, lenA, lenL, SV.lenOK, Cont.lenOK] at hn hl ⊢
    have h0 := ilen_0 l
    simp only [ilt_t, ilt_f, ile_t, ile_f, ieq_t, ieq_f, bnot_e, band_e, bite_and, bite_or, NLt_e, NLe_e, NNe_e, NIs_e, imax_e, imin_e, irem_e, Bool.not_eq_true', Bool.not_eq_false', Bool.and_eq_true, Bool.or_eq_true, Bool.or_eq_false_iff, Bool.and_eq_false_iff, Cont.pts.injEq, Cont.ints.injEq, Cont.bools.injEq, Cont.ptss.injEq, Cont.intss.injEq, Cont.boolss.injEq, true_and, and_true, implies_true]
    refine ⟨fun | .int k :: _ => 0 ≤ k ∧ k ≤ ilen l ∧ (∀ i, 0 ≤ i → i < k → convB (getl l i) = true) | _ => False, fun | .int k :: _ => (ilen l - k).toNat | _ => 0, ?_, ?_⟩
    · exact ⟨Int.le_refl 0, h0, fun j h0 h1 => absurd h1 (by omega)⟩
    · rintro k _ ⟨hk0, hk1, hk⟩
      simp only [ilt_t, ilt_f, ile_t, ile_f, ieq_t, ieq_f, bnot_e, band_e, bite_and, bite_or, NLt_e, NLe_e, NNe_e, NIs_e, imax_e, imin_e, irem_e, Bool.not_eq_true', Bool.not_eq_false', Bool.and_eq_true, Bool.or_eq_true, Bool.or_eq_false_iff, Bool.and_eq_false_iff, Cont.pts.injEq, Cont.ints.injEq, Cont.bools.injEq, Cont.ptss.injEq, Cont.intss.injEq, Cont.boolss.injEq, true_and, and_true, implies_true]
      refine ⟨fun hkn => ⟨⟨hk0, hkn⟩, fun hx => ?_, fun hx => ?_⟩, fun hkn => ?_⟩
      · rw [idxN_at hk0 hkn (fun j j0 j1 => by simp [hk j j0 j1]) (by simp [hx])]
      · rw [iadd_1 hk0 hkn hl.1]
        exact ⟨⟨by omega, by omega, upTo hk hx⟩, by omega⟩
      · have e : k = ilen l := by omega
        subst e
        obtain ⟨a, ha⟩ := Int.eq_ofNat_of_zero_le h0
        rw [ha] at hk ⊢
        rw [idxN_no fun j j0 j1 => by simp [hk j j0 j1]]
  · cases h
def g_slices_ContainsFunc_SSimpl_Point_Simpl_Point : List AV → Option Sg
  | [.s (.view (.ptss l)), .s (.x (.func (.func 97) ⟨[]⟩ ⟨[]⟩))] => some ⟨True, [.s (.bool (anyN (ilen l) fun i => !convB (getl l i)))]⟩
  | _ => none
def sig_slices_ContainsFunc_SSimpl_Point_Simpl_Point : FuncId → List AV → Option Sg := sigL [(116, g_slices_IndexFunc_SSimpl_Point_Simpl_Point)]
def xs_slices_ContainsFunc_SSimpl_Point_Simpl_Point : XS := ⟨xsigL [], ysigL []⟩
theorem sig_slices_ContainsFunc_SSimpl_Point_Simpl_Point_ok : SigOK sig_slices_ContainsFunc_SSimpl_Point_Simpl_Point := sigL_cons F_slices_IndexFunc_SSimpl_Point_Simpl_Point sigL_nil
theorem xs_slices_ContainsFunc_SSimpl_Point_Simpl_Point_ok : XSigOK xs_slices_ContainsFunc_SSimpl_Point_Simpl_Point := ⟨xsigL_nil, ysigL_nil⟩
theorem V_slices_ContainsFunc_SSimpl_Point_Simpl_Point (l : List (List Pt)) : ((true = true) ∧ ((True) ∧ True) ∧ (true = true) ∧ ((True) ∧ (True) ∧ ((True)) ∧ (True) ∧ (True) ∧ True) ∧ (((ile (0 : Int) (idxN (ilen l) fun i => !convB (getl l i))) : Bool) = (anyN (ilen l) fun i => !convB (getl l i))) ∧ True) = ev sig_slices_ContainsFunc_SSimpl_Point_Simpl_Point xs_slices_ContainsFunc_SSimpl_Point_Simpl_Point Tryd.f96.ntmps (fun b => []) (codeOf Tryd.f96) 0 (initS [.s (.view (.ptss l)), .s (.x (.func (.func 97) ⟨[]⟩ ⟨[]⟩))]) (retK Tryd.f96.results.toList [.s (.bool (anyN (ilen l) fun i => !convB (getl l i)))]) := by kernel_rfl
set_option maxHeartbeats 400000 in
theorem F_slices_ContainsFunc_SSimpl_Point_Simpl_Point : FunOK 96 g_slices_ContainsFunc_SSimpl_Point_Simpl_Point := by
  refine fun_F (by kernel_rfl) Tryd.func96 rfl (by kernel_rfl) sig_slices_ContainsFunc_SSimpl_Point_Simpl_Point_ok xs_slices_ContainsFunc_SSimpl_Point_Simpl_Point_ok ?_
  intro avs sg h hn hl
  unfold g_slices_ContainsFunc_SSimpl_Point_Simpl_Point at h
  split at h
  · rename_i l
    injection h with h; subst h
    refine ⟨by kernel_rfl, fun b => [], Eq.mp (V_slices_ContainsFunc_SSimpl_Point_Simpl_Point l) ?_⟩
    simp only [true_and, and_true, implies_true, and_self, forall_const, true_implies, lenA, lenL, SV.lenOK, Cont.lenOK] at hn hl ⊢
    rw [idxN_any (ilen_0 l)]
  · cases h
def g_impl_SceneValid : List AV → Option Sg
  | [.s (.view (.ptss l))] => some ⟨True, [.s (.bool (sceneB l))]⟩
  | _ => none
def sig_impl_SceneValid : FuncId → List AV → Option Sg := sigL [(96, g_slices_ContainsFunc_SSimpl_Point_Simpl_Point)]
def xs_impl_SceneValid : XS := ⟨xsigL [], ysigL []⟩
theorem sig_impl_SceneValid_ok : SigOK sig_impl_SceneValid := sigL_cons F_slices_ContainsFunc_SSimpl_Point_Simpl_Point sigL_nil
theorem xs_impl_SceneValid_ok : XSigOK xs_impl_SceneValid := ⟨xsigL_nil, ysigL_nil⟩
theorem V_impl_SceneValid (l : List (List Pt)) : ((true = true) ∧ ((True) ∧ True) ∧ (true = true) ∧ ((True) ∧ (True) ∧ (True) ∧ (True) ∧ (NIs (ile (ilen l) (6 : Int)) true → True) ∧ (NIs (ile (ilen l) (6 : Int)) true → (True)) ∧ (NIs (ile (ilen l) (6 : Int)) true → True) ∧ (True) ∧ (True) ∧ True) ∧ (((bite (ile (ilen l) (6 : Int)) (bnot (anyN (ilen l) fun i => !convB (getl l i))) false) : Bool) = (sceneB l)) ∧ True) = ev sig_impl_SceneValid xs_impl_SceneValid Tryd.f62.ntmps (fun b => []) (codeOf Tryd.f62) 0 (initS [.s (.view (.ptss l))]) (retK Tryd.f62.results.toList [.s (.bool (sceneB l))]) := by kernel_rfl
set_option maxHeartbeats 400000 in
theorem F_impl_SceneValid : FunOK 62 g_impl_SceneValid := by
  refine fun_F (by kernel_rfl) Tryd.func62 rfl (by kernel_rfl) sig_impl_SceneValid_ok xs_impl_SceneValid_ok ?_
  intro avs sg h hn hl
  unfold g_impl_SceneValid at h
  split at h
  · rename_i l
    injection h with h; subst h
    refine ⟨by kernel_rfl, fun b => [], Eq.mp (V_impl_SceneValid l) ?_⟩
    simp only [true_and, and_true, implies_true, and_self, forall_const, true_implies, lenA, lenL, SV.lenOK, Cont.lenOK] at hn hl ⊢
    simp only [ilt_t, ilt_f, ile_t, ile_f, ieq_t, ieq_f, bnot_e, band_e, bite_and, bite_or, NLt_e, NLe_e, NNe_e, NIs_e, imax_e, imin_e, irem_e, Bool.not_eq_true', Bool.not_eq_false', Bool.and_eq_true, Bool.or_eq_true, Bool.or_eq_false_iff, Bool.and_eq_false_iff, Cont.pts.injEq, Cont.ints.injEq, Cont.bools.injEq, Cont.ptss.injEq, Cont.intss.injEq, Cont.boolss.injEq, true_and, and_true, implies_true, anyN_not, Bool.not_not]
    unfold sceneB
    rfl
  · cases h
def g_impl_JointsValid : List AV → Option Sg
  | [.agg [.view (.ints a1), .view (.ints a2), .view (.ints a3)], .s (.view (.ints j))] => some ⟨True, [.s (.bool (jvB a1 a2 a3 j))]⟩
  | _ => none
def sig_impl_JointsValid : FuncId → List AV → Option Sg := sigL [(66, g_impl_ArmValid), (67, g_impl_within)]
def xs_impl_JointsValid : XS := ⟨xsigL [], ysigL []⟩
theorem sig_impl_JointsValid_ok : SigOK sig_impl_JointsValid := sigL_cons F_impl_ArmValid (sigL_cons F_impl_within sigL_nil)
theorem xs_impl_JointsValid_ok : XSigOK xs_impl_JointsValid := ⟨xsigL_nil, ysigL_nil⟩
theorem V_impl_JointsValid (a1 : List Int) (a2 : List Int) (a3 : List Int) (j : List Int) : ((true = true) ∧ ((True) ∧ (True) ∧ True) ∧ (true = true) ∧ ((True) ∧ ((True)) ∧ (True) ∧ (True) ∧ (NIs (bnot (armB a1 a2 a3)) false → True) ∧ (NIs (bnot (armB a1 a2 a3)) false → True) ∧ (NIs (bnot (armB a1 a2 a3)) false → True) ∧ (NIs (bnot (armB a1 a2 a3)) false → True) ∧ (NIs (bnot (armB a1 a2 a3)) false → True) ∧ (NIs (bnot (armB a1 a2 a3)) false → True) ∧ (True) ∧ True) ∧ ((bite (bnot (armB a1 a2 a3)) true (bnot (ieq (ilen j) (ilen a1)))) = true → ((true = true) ∧ ((True) ∧ True) ∧ ((false : Bool) = (jvB a1 a2 a3 j)) ∧ True)) ∧ ((bite (bnot (armB a1 a2 a3)) true (bnot (ieq (ilen j) (ilen a1)))) = false → ((true = true) ∧ ((True) ∧ (True) ∧ (True) ∧ True) ∧ ∃ (I1 : List GV → Prop) (μ1 : List GV → Nat), (((true = true) ∧ (((false : Bool) = false) ∧ (((0 : Int) : Int) = (0 : Int)) ∧ ((Cont.ints j) = (Cont.ints j)) ∧ (((ilen j) : Int) = (ilen j)) ∧ (((Cont.ints a1) = (Cont.ints a1)) ∧ ((Cont.ints a2) = (Cont.ints a2)) ∧ ((Cont.ints a3) = (Cont.ints a3)) ∧ True) ∧ (((armB a1 a2 a3) : Bool) = (armB a1 a2 a3)) ∧ (((bnot (armB a1 a2 a3)) : Bool) = (bnot (armB a1 a2 a3))) ∧ (((bnot (armB a1 a2 a3)) : Bool) = (bnot (armB a1 a2 a3))) ∧ (((bite (bnot (armB a1 a2 a3)) true (bnot (ieq (ilen j) (ilen a1)))) : Bool) = (bite (bnot (armB a1 a2 a3)) true (bnot (ieq (ilen j) (ilen a1))))) ∧ (true = true) ∧ (((Cont.ints a1) = (Cont.ints a1)) ∧ ((Cont.ints a2) = (Cont.ints a2)) ∧ ((Cont.ints a3) = (Cont.ints a3)) ∧ True) ∧ ((Cont.ints j) = (Cont.ints j)) ∧ True) ∧ ((((Cont.ints a1) = (Cont.ints a1)) ∧ ((Cont.ints a2) = (Cont.ints a2)) ∧ ((Cont.ints a3) = (Cont.ints a3)) ∧ True) ∧ True)) ∧ (([GK.int, GK.bool] : List GK) = ([GK.int, GK.bool] : List GK)) ∧ I1 [GV.int (0 : Int), GV.bool false]) ∧ (∀ i1_0 : Int, ∀ b1_1 : Bool, I1 [GV.int i1_0, GV.bool b1_1] → ((true = true) ∧ ((True) ∧ True) ∧ ((ilt i1_0 (ilen j)) = true → ((true = true) ∧ ((True) ∧ (NLe 0 i1_0 ∧ NLt i1_0 (ilen j)) ∧ (True) ∧ (True) ∧ (True) ∧ True) ∧ (true = true) ∧ ((True) ∧ (True) ∧ (True) ∧ (True) ∧ (NLe 0 i1_0 ∧ NLt i1_0 (ilen a2)) ∧ (True) ∧ (True) ∧ (True) ∧ (True) ∧ (NLe 0 i1_0 ∧ NLt i1_0 (ilen a3)) ∧ (True) ∧ ((True)) ∧ (True) ∧ True) ∧ ((bnot (inB (geti j i1_0) (geti a2 i1_0) (geti a3 i1_0))) = true → ((true = true) ∧ ((True) ∧ True) ∧ ((false : Bool) = (jvB a1 a2 a3 j)) ∧ True)) ∧ ((bnot (inB (geti j i1_0) (geti a2 i1_0) (geti a3 i1_0))) = false → ((true = true) ∧ ((True) ∧ (True) ∧ True) ∧ ((true = true) ∧ (((b1_1 : Bool) = b1_1) ∧ (((iadd i1_0 (1 : Int)) : Int) = (iadd i1_0 (1 : Int))) ∧ ((Cont.ints j) = (Cont.ints j)) ∧ (((ilen j) : Int) = (ilen j)) ∧ (((Cont.ints a1) = (Cont.ints a1)) ∧ ((Cont.ints a2) = (Cont.ints a2)) ∧ ((Cont.ints a3) = (Cont.ints a3)) ∧ True) ∧ (((armB a1 a2 a3) : Bool) = (armB a1 a2 a3)) ∧ (((bnot (armB a1 a2 a3)) : Bool) = (bnot (armB a1 a2 a3))) ∧ (((bnot (armB a1 a2 a3)) : Bool) = (bnot (armB a1 a2 a3))) ∧ (((bite (bnot (armB a1 a2 a3)) true (bnot (ieq (ilen j) (ilen a1)))) : Bool) = (bite (bnot (armB a1 a2 a3)) true (bnot (ieq (ilen j) (ilen a1))))) ∧ (true = true) ∧ (((Cont.ints a1) = (Cont.ints a1)) ∧ ((Cont.ints a2) = (Cont.ints a2)) ∧ ((Cont.ints a3) = (Cont.ints a3)) ∧ True) ∧ ((Cont.ints j) = (Cont.ints j)) ∧ True) ∧ ((((Cont.ints a1) = (Cont.ints a1)) ∧ ((Cont.ints a2) = (Cont.ints a2)) ∧ ((Cont.ints a3) = (Cont.ints a3)) ∧ True) ∧ True)) ∧ ((([GK.int, GK.bool] : List GK) = ([GK.int, GK.bool] : List GK)) ∧ I1 [GV.int (iadd i1_0 (1 : Int)), GV.bool b1_1] ∧ μ1 [GV.int (iadd i1_0 (1 : Int)), GV.bool b1_1] < μ1 [GV.int i1_0, GV.bool b1_1]))))) ∧ ((ilt i1_0 (ilen j)) = false → ((true = true) ∧ ((True) ∧ True) ∧ ((true : Bool) = (jvB a1 a2 a3 j)) ∧ True))))))) = ev sig_impl_JointsValid xs_impl_JointsValid Tryd.f48.ntmps (fun b => if b == 0 then [.v 20, .v 4] else []) (codeOf Tryd.f48) 0 (initS [.agg [.view (.ints a1), .view (.ints a2), .view (.ints a3)], .s (.view (.ints j))]) (retK Tryd.f48.results.toList [.s (.bool (jvB a1 a2 a3 j))]) := by kernel_rfl
set_option maxHeartbeats 400000 in
theorem F_impl_JointsValid : FunOK 48 g_impl_JointsValid := by
  refine fun_F (by kernel_rfl) Tryd.func48 rfl (by kernel_rfl) sig_impl_JointsValid_ok xs_impl_JointsValid_ok ?_
  intro avs sg h hn hl
  unfold g_impl_JointsValid at h
  split at h
  · rename_i a1 a2 a3 j
    injection h with h; subst h
    refine ⟨by kernel_rfl, fun b => if b == 0 then [.v 20, .v 4] else [], Eq.mp (V_impl_JointsValid a1 a2 a3 j) ?_⟩
    simp only [true_and, and_true, implies_true, and_self, forall_const, true_implies, lenA, lenL, SV.lenOK, Cont.lenOK] at hn hl ⊢
    have h0 := ilen_0 j
    simp only [ilt_t, ilt_f, ile_t, ile_f, ieq_t, ieq_f, bnot_e, band_e, bite_and, bite_or, NLt_e, NLe_e, NNe_e, NIs_e, imax_e, imin_e, irem_e, Bool.not_eq_true', Bool.not_eq_false', Bool.and_eq_true, Bool.or_eq_true, Bool.or_eq_false_iff, Bool.and_eq_false_iff, Cont.pts.injEq, Cont.ints.injEq, Cont.bools.injEq, Cont.ptss.injEq, Cont.intss.injEq, Cont.boolss.injEq, true_and, and_true, implies_true]
    refine ⟨fun h => ?_, fun h => ?_⟩
    · unfold jvB; rcases h with h | h <;> simp [h]
    obtain ⟨ha, hl1⟩ := h
    obtain ⟨l2, l3⟩ := armB_len ha
    refine ⟨fun | .int k :: _ => 0 ≤ k ∧ k ≤ ilen j ∧ (∀ i, 0 ≤ i → i < k → inB (geti j i) (geti a2 i) (geti a3 i) = true) | _ => False, fun | .int k :: _ => (ilen j - k).toNat | _ => 0, ⟨by omega, by omega, fun i h0 h1 => by omega⟩, ?_⟩
    rintro k XX ⟨hk0, hk1, hk⟩
    refine ⟨fun hc => ⟨⟨hk0, hc⟩, ⟨⟨hk0, by omega⟩, hk0, by omega⟩, fun hv => ?_, fun hv => ?_⟩, fun hc => ?_⟩
    · unfold jvB; rw [allN_no k hk0 hc hv]; simp
    · rw [iadd_1 hk0 hc hl.2]
      exact ⟨⟨by omega, by omega, upTo hk hv⟩, by show (ilen j - (k + 1)).toNat < (ilen j - k).toNat; omega⟩
    · unfold jvB; rw [ha, allN_mk fun i j0 j1 => hk i j0 (by omega)]; simp [hl1]
  · cases h
def g_impl_Degrees : List AV → Option Sg
  | [.s (.int d)] => some ⟨True, [.s (.int (degW d))]⟩
  | _ => none
def sig_impl_Degrees : FuncId → List AV → Option Sg := sigL []
def xs_impl_Degrees : XS := ⟨xsigL [], ysigL []⟩
theorem sig_impl_Degrees_ok : SigOK sig_impl_Degrees := sigL_nil
theorem xs_impl_Degrees_ok : XSigOK xs_impl_Degrees := ⟨xsigL_nil, ysigL_nil⟩
theorem V_impl_Degrees (d : Int) : ((true = true) ∧ ((True) ∧ True) ∧ (true = true) ∧ ((True) ∧ (NNe (360 : Int) 0) ∧ (True) ∧ (NNe (360 : Int) 0) ∧ (True) ∧ True) ∧ (((irem (iadd (irem d (360 : Int)) (360 : Int)) (360 : Int)) : Int) = (degW d)) ∧ True) = ev sig_impl_Degrees xs_impl_Degrees Tryd.f68.ntmps (fun b => []) (codeOf Tryd.f68) 0 (initS [.s (.int d)]) (retK Tryd.f68.results.toList [.s (.int (degW d))]) := by kernel_rfl
set_option maxHeartbeats 400000 in
theorem F_impl_Degrees : FunOK 68 g_impl_Degrees := by
  refine fun_F (by kernel_rfl) Tryd.func68 rfl (by kernel_rfl) sig_impl_Degrees_ok xs_impl_Degrees_ok ?_
  intro avs sg h hn hl
  unfold g_impl_Degrees at h
  split at h
  · rename_i d
    injection h with h; subst h
    refine ⟨by kernel_rfl, fun b => [], Eq.mp (V_impl_Degrees d) ?_⟩
    simp only [true_and, and_true, implies_true, and_self, forall_const, true_implies, lenA, lenL, SV.lenOK, Cont.lenOK] at hn hl ⊢
    simp only [ilt_t, ilt_f, ile_t, ile_f, ieq_t, ieq_f, bnot_e, band_e, bite_and, bite_or, NLt_e, NLe_e, NNe_e, NIs_e, imax_e, imin_e, irem_e, Bool.not_eq_true', Bool.not_eq_false', Bool.and_eq_true, Bool.or_eq_true, Bool.or_eq_false_iff, Bool.and_eq_false_iff, Cont.pts.injEq, Cont.ints.injEq, Cont.bools.injEq, Cont.ptss.injEq, Cont.intss.injEq, Cont.boolss.injEq, true_and, and_true, implies_true]
    exact ⟨by decide, by simp [degW, irem_e]⟩
  · cases h
def g_impl_Cosine : List AV → Option Sg
  | [.s (.int d)] => some ⟨True, [.s (.int (cosF d))]⟩
  | _ => none
def sig_impl_Cosine : FuncId → List AV → Option Sg := sigL [(68, g_impl_Degrees), (104, g_impl_Sine)]
def xs_impl_Cosine : XS := ⟨xsigL [], ysigL []⟩
theorem sig_impl_Cosine_ok : SigOK sig_impl_Cosine := sigL_cons F_impl_Degrees (sigL_cons F_impl_Sine sigL_nil)
theorem xs_impl_Cosine_ok : XSigOK xs_impl_Cosine := ⟨xsigL_nil, ysigL_nil⟩
theorem V_impl_Cosine (d : Int) : ((true = true) ∧ ((True) ∧ True) ∧ (true = true) ∧ ((True) ∧ ((True)) ∧ (True) ∧ ((True)) ∧ (True) ∧ True) ∧ (((sinF (iadd (degW d) (90 : Int))) : Int) = (cosF d)) ∧ True) = ev sig_impl_Cosine xs_impl_Cosine Tryd.f105.ntmps (fun b => []) (codeOf Tryd.f105) 0 (initS [.s (.int d)]) (retK Tryd.f105.results.toList [.s (.int (cosF d))]) := by kernel_rfl
set_option maxHeartbeats 400000 in
theorem F_impl_Cosine : FunOK 105 g_impl_Cosine := by
  refine fun_F (by kernel_rfl) Tryd.func105 rfl (by kernel_rfl) sig_impl_Cosine_ok xs_impl_Cosine_ok ?_
  intro avs sg h hn hl
  unfold g_impl_Cosine at h
  split at h
  · rename_i d
    injection h with h; subst h
    refine ⟨by kernel_rfl, fun b => [], Eq.mp (V_impl_Cosine d) ?_⟩
    simp only [true_and, and_true, implies_true, and_self, forall_const, true_implies, lenA, lenL, SV.lenOK, Cont.lenOK] at hn hl ⊢
    try simp only [ilt_t, ilt_f, ile_t, ile_f, ieq_t, ieq_f, bnot_e, band_e, bite_and, bite_or, NLt_e, NLe_e, NNe_e, NIs_e, imax_e, imin_e, irem_e, Bool.not_eq_true', Bool.not_eq_false', Bool.and_eq_true, Bool.or_eq_true, Bool.or_eq_false_iff, Bool.and_eq_false_iff, Cont.pts.injEq, Cont.ints.injEq, Cont.bools.injEq, Cont.ptss.injEq, Cont.intss.injEq, Cont.boolss.injEq, true_and, and_true, implies_true]
    rw [degW_e]
    unfold cosF
    rw [iadd_e (by omega) (by omega)]
  · cases h
def g_impl_floor : List AV → Option Sg
  | [.s (.int a), .s (.int b)] => some ⟨1 ≤ b ∧ -9223372036854775807 ≤ a ∧ a ≤ 9223372036854775807, [.s (.int (a / b))]⟩
  | _ => none
def sig_impl_floor : FuncId → List AV → Option Sg := sigL []
def xs_impl_floor : XS := ⟨xsigL [], ysigL []⟩
theorem sig_impl_floor_ok : SigOK sig_impl_floor := sigL_nil
theorem xs_impl_floor_ok : XSigOK xs_impl_floor := ⟨xsigL_nil, ysigL_nil⟩
theorem V_impl_floor (a : Int) (b : Int) : ((true = true) ∧ ((True) ∧ True) ∧ (true = true) ∧ ((True) ∧ (True) ∧ (NNe b 0) ∧ (True) ∧ True) ∧ (true = true) ∧ ((True) ∧ (True) ∧ (NNe b 0) ∧ (True) ∧ True) ∧ ((ilt (irem a b) (0 : Int)) = true → ((true = true) ∧ ((True) ∧ (True) ∧ (True) ∧ True) ∧ (true = true) ∧ ((True) ∧ (True) ∧ True) ∧ (((isub (iquo a b) (1 : Int)) : Int) = (a / b)) ∧ True)) ∧ ((ilt (irem a b) (0 : Int)) = false → ((true = true) ∧ ((True) ∧ (True) ∧ True) ∧ (((iquo a b) : Int) = (a / b)) ∧ True))) = ev sig_impl_floor xs_impl_floor Tryd.f125.ntmps (fun b => []) (codeOf Tryd.f125) 0 (initS [.s (.int a), .s (.int b)]) (retK Tryd.f125.results.toList [.s (.int (a / b))]) := by kernel_rfl
set_option maxHeartbeats 400000 in
theorem F_impl_floor : FunOK 125 g_impl_floor := by
  refine fun_F (by kernel_rfl) Tryd.func125 rfl (by kernel_rfl) sig_impl_floor_ok xs_impl_floor_ok ?_
  intro avs sg h hn hl
  unfold g_impl_floor at h
  split at h
  · rename_i a b
    injection h with h; subst h
    refine ⟨by kernel_rfl, fun b => [], Eq.mp (V_impl_floor a b) ?_⟩
    simp only [true_and, and_true, implies_true, and_self, forall_const, true_implies, lenA, lenL, SV.lenOK, Cont.lenOK] at hn hl ⊢
    obtain ⟨n1, n2, n3⟩ := hn
    obtain ⟨q1, q2⟩ := tdiv_bd n1 n2 n3
    obtain ⟨f1, f2⟩ := floor_e (a := a) n1
    simp only [ilt_t, ilt_f, ile_t, ile_f, ieq_t, ieq_f, bnot_e, band_e, bite_and, bite_or, NLt_e, NLe_e, NNe_e, NIs_e, imax_e, imin_e, irem_e, Bool.not_eq_true', Bool.not_eq_false', Bool.and_eq_true, Bool.or_eq_true, Bool.or_eq_false_iff, Bool.and_eq_false_iff, Cont.pts.injEq, Cont.ints.injEq, Cont.bools.injEq, Cont.ptss.injEq, Cont.intss.injEq, Cont.boolss.injEq, true_and, and_true, implies_true]
    refine ⟨by omega, by omega, fun h => ?_, fun h => ?_⟩
    · rw [q1, q2 h, f1 h]
    · rw [q1, f2 h]
  · cases h
def g_impl_nearest : List AV → Option Sg
  | [.s (.int a), .s (.int b)] => some ⟨1 ≤ b ∧ b ≤ 1000000 ∧ -1000000000000 ≤ a ∧ a ≤ 1000000000000, [.s (.int (rnd a b))]⟩
  | _ => none
def sig_impl_nearest : FuncId → List AV → Option Sg := sigL [(125, g_impl_floor)]
def xs_impl_nearest : XS := ⟨xsigL [], ysigL []⟩
theorem sig_impl_nearest_ok : SigOK sig_impl_nearest := sigL_cons F_impl_floor sigL_nil
theorem xs_impl_nearest_ok : XSigOK xs_impl_nearest := ⟨xsigL_nil, ysigL_nil⟩
theorem V_impl_nearest (a : Int) (b : Int) : ((true = true) ∧ ((True) ∧ True) ∧ (true = true) ∧ ((True) ∧ (True) ∧ (True) ∧ (True) ∧ (True) ∧ (True) ∧ ((1 ≤ (imul (2 : Int) b) ∧ -9223372036854775807 ≤ (iadd (imul (2 : Int) a) b) ∧ (iadd (imul (2 : Int) a) b) ≤ 9223372036854775807)) ∧ (True) ∧ True) ∧ ((((iadd (imul (2 : Int) a) b) / (imul (2 : Int) b)) : Int) = (rnd a b)) ∧ True) = ev sig_impl_nearest xs_impl_nearest Tryd.f106.ntmps (fun b => []) (codeOf Tryd.f106) 0 (initS [.s (.int a), .s (.int b)]) (retK Tryd.f106.results.toList [.s (.int (rnd a b))]) := by kernel_rfl
set_option maxHeartbeats 400000 in
theorem F_impl_nearest : FunOK 106 g_impl_nearest := by
  refine fun_F (by kernel_rfl) Tryd.func106 rfl (by kernel_rfl) sig_impl_nearest_ok xs_impl_nearest_ok ?_
  intro avs sg h hn hl
  unfold g_impl_nearest at h
  split at h
  · rename_i a b
    injection h with h; subst h
    refine ⟨by kernel_rfl, fun b => [], Eq.mp (V_impl_nearest a b) ?_⟩
    simp only [true_and, and_true, implies_true, and_self, forall_const, true_implies, lenA, lenL, SV.lenOK, Cont.lenOK] at hn hl ⊢
    rw [imul_e (by omega) (by omega), imul_e (by omega) (by omega), iadd_e (by omega) (by omega)]
    exact ⟨by omega, rfl⟩
  · cases h
def g_impl_RotatePoint : List AV → Option Sg
  | [.agg [.int p1, .int p2], .s (.int d)] => some ⟨vB p1 p2 = true, [.agg [.int (rotX p1 p2 d), .int (rotY p1 p2 d)]]⟩
  | _ => none
def sig_impl_RotatePoint : FuncId → List AV → Option Sg := sigL [(84, g_impl_PointValid), (104, g_impl_Sine), (105, g_impl_Cosine), (106, g_impl_nearest)]
def xs_impl_RotatePoint : XS := ⟨xsigL [], ysigL []⟩
theorem sig_impl_RotatePoint_ok : SigOK sig_impl_RotatePoint := sigL_cons F_impl_PointValid (sigL_cons F_impl_Sine (sigL_cons F_impl_Cosine (sigL_cons F_impl_nearest sigL_nil)))
theorem xs_impl_RotatePoint_ok : XSigOK xs_impl_RotatePoint := ⟨xsigL_nil, ysigL_nil⟩
theorem V_impl_RotatePoint (p1 : Int) (p2 : Int) (d : Int) : ((true = true) ∧ ((True) ∧ (True) ∧ True) ∧ (true = true) ∧ ((True) ∧ ((True)) ∧ (True) ∧ True) ∧ ((bnot (vB p1 p2)) = true → ((true = true) ∧ ((True) ∧ True) ∧ (True) ∧ ((((0 : Int) : Int) = (rotX p1 p2 d)) ∧ (((0 : Int) : Int) = (rotY p1 p2 d)) ∧ True) ∧ True)) ∧ ((bnot (vB p1 p2)) = false → ((true = true) ∧ ((True) ∧ ((True)) ∧ (True) ∧ ((True)) ∧ (True) ∧ (True) ∧ True) ∧ (true = true) ∧ ((True) ∧ (True) ∧ (True) ∧ (True) ∧ (True) ∧ (True) ∧ (True) ∧ (True) ∧ (True) ∧ ((1 ≤ (4096 : Int) ∧ (4096 : Int) ≤ 1000000 ∧ -1000000000000 ≤ (isub (imul p1 (cosF d)) (imul p2 (sinF d))) ∧ (isub (imul p1 (cosF d)) (imul p2 (sinF d))) ≤ 1000000000000)) ∧ (True) ∧ (True) ∧ (True) ∧ (True) ∧ (True) ∧ (True) ∧ (True) ∧ (True) ∧ (True) ∧ ((1 ≤ (4096 : Int) ∧ (4096 : Int) ≤ 1000000 ∧ -1000000000000 ≤ (iadd (imul p1 (sinF d)) (imul p2 (cosF d))) ∧ (iadd (imul p1 (sinF d)) (imul p2 (cosF d))) ≤ 1000000000000)) ∧ (True) ∧ True) ∧ (True) ∧ ((((rnd (isub (imul p1 (cosF d)) (imul p2 (sinF d))) (4096 : Int)) : Int) = (rotX p1 p2 d)) ∧ (((rnd (iadd (imul p1 (sinF d)) (imul p2 (cosF d))) (4096 : Int)) : Int) = (rotY p1 p2 d)) ∧ True) ∧ True))) = ev sig_impl_RotatePoint xs_impl_RotatePoint Tryd.f85.ntmps (fun b => []) (codeOf Tryd.f85) 0 (initS [.agg [.int p1, .int p2], .s (.int d)]) (retK Tryd.f85.results.toList [.agg [.int (rotX p1 p2 d), .int (rotY p1 p2 d)]]) := by kernel_rfl
set_option maxHeartbeats 400000 in
theorem F_impl_RotatePoint : FunOK 85 g_impl_RotatePoint := by
  refine fun_F (by kernel_rfl) Tryd.func85 rfl (by kernel_rfl) sig_impl_RotatePoint_ok xs_impl_RotatePoint_ok ?_
  intro avs sg h hn hl
  unfold g_impl_RotatePoint at h
  split at h
  · rename_i p1 p2 d
    injection h with h; subst h
    refine ⟨by kernel_rfl, fun b => [], Eq.mp (V_impl_RotatePoint p1 p2 d) ?_⟩
    simp only [true_and, and_true, implies_true, and_self, forall_const, true_implies, lenA, lenL, SV.lenOK, Cont.lenOK] at hn hl ⊢
    have c := cosF_bd d; have s := sinF_bd d
    have hv := vB_bd hn
    have q1 := mul40 (x := p1) (y := cosF d) (a := 10000) (by omega) (by omega) c
    have q2 := mul40 (x := p2) (y := sinF d) (a := 10000) (by omega) (by omega) s
    have q3 := mul40 (x := p1) (y := sinF d) (a := 10000) (by omega) (by omega) s
    have q4 := mul40 (x := p2) (y := cosF d) (a := 10000) (by omega) (by omega) c
    simp only [ilt_t, ilt_f, ile_t, ile_f, ieq_t, ieq_f, bnot_e, band_e, bite_and, bite_or, NLt_e, NLe_e, NNe_e, NIs_e, imax_e, imin_e, irem_e, Bool.not_eq_true', Bool.not_eq_false', Bool.and_eq_true, Bool.or_eq_true, Bool.or_eq_false_iff, Bool.and_eq_false_iff, Cont.pts.injEq, Cont.ints.injEq, Cont.bools.injEq, Cont.ptss.injEq, Cont.intss.injEq, Cont.boolss.injEq, true_and, and_true, implies_true]
    refine ⟨fun h => (by rw [hn] at h; cases h), fun _ => ?_⟩
    rw [imul_e (a := p1) (b := cosF d) (by omega) (by omega), imul_e (a := p2) (b := sinF d) (by omega) (by omega), imul_e (a := p1) (b := sinF d) (by omega) (by omega), imul_e (a := p2) (b := cosF d) (by omega) (by omega), isub_e (by omega) (by omega), iadd_e (by omega) (by omega)]
    exact ⟨⟨⟨by omega, by omega, by omega, by omega⟩, by omega, by omega, by omega, by omega⟩, by rw [rnd_4]; rfl, by rw [rnd_4]; rfl⟩
  · cases h
def g_impl_armPoints : List AV → Option Sg
  | [.agg [.view (.ints a1), .view (.ints a2), .view (.ints a3)], .s (.view (.ints j))] => some ⟨jvB a1 a2 a3 j = true, [.nrow 62 (.pts (apL a1 j (ilen a1 + 1)))]⟩
  | _ => none
def sig_impl_armPoints : FuncId → List AV → Option Sg := sigL [(85, g_impl_RotatePoint)]
def xs_impl_armPoints : XS := ⟨xsigL [], ysigL []⟩
theorem sig_impl_armPoints_ok : SigOK sig_impl_armPoints := sigL_cons F_impl_RotatePoint sigL_nil
theorem xs_impl_armPoints_ok : XSigOK xs_impl_armPoints := ⟨xsigL_nil, ysigL_nil⟩
theorem V_impl_armPoints (a1 : List Int) (a2 : List Int) (a3 : List Int) (j : List Int) : ((true = true) ∧ ((True) ∧ (True) ∧ True) ∧ (true = true) ∧ ((True) ∧ (True) ∧ (True) ∧ True) ∧ (true = true) ∧ ((True) ∧ (True) ∧ True) ∧ (True) ∧ (True) ∧ (true = true) ∧ ((True) ∧ (True) ∧ (True) ∧ (True) ∧ True) ∧ ∃ (I1 : List GV → Prop) (μ1 : List GV → Nat), (((true = true) ∧ ((((0 : Int) : Int) = (0 : Int)) ∧ (((0 : Int) : Int) = (0 : Int)) ∧ (true = true) ∧ ((Cont.ints a1) = (Cont.ints a1)) ∧ (((ilen a1) : Int) = (ilen a1)) ∧ ((((0 : Int) : Int) = (0 : Int)) ∧ (((0 : Int) : Int) = (0 : Int)) ∧ True) ∧ (true = true) ∧ ((((0 : Int) : Int) = (0 : Int)) ∧ (((0 : Int) : Int) = (0 : Int)) ∧ True) ∧ (true = true) ∧ (true = true) ∧ (true = true) ∧ (((Cont.ints a1) = (Cont.ints a1)) ∧ ((Cont.ints a2) = (Cont.ints a2)) ∧ ((Cont.ints a3) = (Cont.ints a3)) ∧ True) ∧ ((Cont.ints j) = (Cont.ints j)) ∧ True) ∧ (((((0 : Int) : Int) = (0 : Int)) ∧ (((0 : Int) : Int) = (0 : Int)) ∧ True) ∧ ((true = true) ∧ ((Cont.pts [((0 : Int), (0 : Int))]) = (Cont.pts [((0 : Int), (0 : Int))]))) ∧ (((Cont.ints a1) = (Cont.ints a1)) ∧ ((Cont.ints a2) = (Cont.ints a2)) ∧ ((Cont.ints a3) = (Cont.ints a3)) ∧ True) ∧ ((true = true) ∧ ((Cont.pts []) = (Cont.pts []))) ∧ True)) ∧ (([GK.int, GK.int, GK.pts, GK.int, GK.int] : List GK) = ([GK.int, GK.int, GK.pts, GK.int, GK.int] : List GK)) ∧ I1 [GV.int (0 : Int), GV.int (0 : Int), GV.pts [((0 : Int), (0 : Int))], GV.int (0 : Int), GV.int (0 : Int)]) ∧ (∀ i1_0 : Int, ∀ i1_1 : Int, ∀ l1_2 : List Pt, ∀ i1_3 : Int, ∀ i1_4 : Int, I1 [GV.int i1_0, GV.int i1_1, GV.pts l1_2, GV.int i1_3, GV.int i1_4] → ((true = true) ∧ ((True) ∧ True) ∧ ((ilt i1_0 (ilen a1)) = true → ((true = true) ∧ ((True) ∧ (NLe 0 i1_0 ∧ NLt i1_0 (ilen a1)) ∧ (True) ∧ (True) ∧ (True) ∧ True) ∧ (true = true) ∧ ((True) ∧ (True) ∧ (True) ∧ (NLe 0 i1_0 ∧ NLt i1_0 (ilen j)) ∧ (True) ∧ (True) ∧ (True) ∧ True) ∧ (true = true) ∧ ((True) ∧ (True) ∧ (True) ∧ ((vB (geti a1 i1_0) (0 : Int) = true)) ∧ (True) ∧ True) ∧ (True) ∧ (true = true) ∧ ((True) ∧ (True) ∧ (True) ∧ (True) ∧ (True) ∧ (True) ∧ (True) ∧ (True) ∧ (True) ∧ (True) ∧ (True) ∧ True) ∧ (True) ∧ (true = true) ∧ ((True) ∧ (True) ∧ (True) ∧ True) ∧ (NLe (ilen l1_2) 1000000000 ∧ NLe (ilen [((iadd i1_3 (rotX (geti a1 i1_0) (0 : Int) (iadd i1_1 (geti j i1_0)))), (iadd i1_4 (rotY (geti a1 i1_0) (0 : Int) (iadd i1_1 (geti j i1_0)))))]) 1000000000) ∧ (True) ∧ (true = true) ∧ ((True) ∧ (True) ∧ True) ∧ ((true = true) ∧ ((((iadd i1_1 (geti j i1_0)) : Int) = (iadd i1_1 (geti j i1_0))) ∧ (((iadd i1_0 (1 : Int)) : Int) = (iadd i1_0 (1 : Int))) ∧ (true = true) ∧ ((Cont.ints a1) = (Cont.ints a1)) ∧ (((ilen a1) : Int) = (ilen a1)) ∧ ((((0 : Int) : Int) = (0 : Int)) ∧ (((0 : Int) : Int) = (0 : Int)) ∧ True) ∧ (true = true) ∧ ((((0 : Int) : Int) = (0 : Int)) ∧ (((0 : Int) : Int) = (0 : Int)) ∧ True) ∧ (true = true) ∧ (true = true) ∧ (true = true) ∧ (((Cont.ints a1) = (Cont.ints a1)) ∧ ((Cont.ints a2) = (Cont.ints a2)) ∧ ((Cont.ints a3) = (Cont.ints a3)) ∧ True) ∧ ((Cont.ints j) = (Cont.ints j)) ∧ True) ∧ (((((iadd i1_3 (rotX (geti a1 i1_0) (0 : Int) (iadd i1_1 (geti j i1_0)))) : Int) = (iadd i1_3 (rotX (geti a1 i1_0) (0 : Int) (iadd i1_1 (geti j i1_0))))) ∧ (((iadd i1_4 (rotY (geti a1 i1_0) (0 : Int) (iadd i1_1 (geti j i1_0)))) : Int) = (iadd i1_4 (rotY (geti a1 i1_0) (0 : Int) (iadd i1_1 (geti j i1_0))))) ∧ True) ∧ ((true = true) ∧ ((Cont.pts (iapp l1_2 [((iadd i1_3 (rotX (geti a1 i1_0) (0 : Int) (iadd i1_1 (geti j i1_0)))), (iadd i1_4 (rotY (geti a1 i1_0) (0 : Int) (iadd i1_1 (geti j i1_0)))))])) = (Cont.pts (iapp l1_2 [((iadd i1_3 (rotX (geti a1 i1_0) (0 : Int) (iadd i1_1 (geti j i1_0)))), (iadd i1_4 (rotY (geti a1 i1_0) (0 : Int) (iadd i1_1 (geti j i1_0)))))])))) ∧ (((Cont.ints a1) = (Cont.ints a1)) ∧ ((Cont.ints a2) = (Cont.ints a2)) ∧ ((Cont.ints a3) = (Cont.ints a3)) ∧ True) ∧ ((true = true) ∧ ((Cont.pts []) = (Cont.pts []))) ∧ True)) ∧ ((([GK.int, GK.int, GK.pts, GK.int, GK.int] : List GK) = ([GK.int, GK.int, GK.pts, GK.int, GK.int] : List GK)) ∧ I1 [GV.int (iadd i1_0 (1 : Int)), GV.int (iadd i1_1 (geti j i1_0)), GV.pts (iapp l1_2 [((iadd i1_3 (rotX (geti a1 i1_0) (0 : Int) (iadd i1_1 (geti j i1_0)))), (iadd i1_4 (rotY (geti a1 i1_0) (0 : Int) (iadd i1_1 (geti j i1_0)))))]), GV.int (iadd i1_3 (rotX (geti a1 i1_0) (0 : Int) (iadd i1_1 (geti j i1_0)))), GV.int (iadd i1_4 (rotY (geti a1 i1_0) (0 : Int) (iadd i1_1 (geti j i1_0))))] ∧ μ1 [GV.int (iadd i1_0 (1 : Int)), GV.int (iadd i1_1 (geti j i1_0)), GV.pts (iapp l1_2 [((iadd i1_3 (rotX (geti a1 i1_0) (0 : Int) (iadd i1_1 (geti j i1_0)))), (iadd i1_4 (rotY (geti a1 i1_0) (0 : Int) (iadd i1_1 (geti j i1_0)))))]), GV.int (iadd i1_3 (rotX (geti a1 i1_0) (0 : Int) (iadd i1_1 (geti j i1_0)))), GV.int (iadd i1_4 (rotY (geti a1 i1_0) (0 : Int) (iadd i1_1 (geti j i1_0))))] < μ1 [GV.int i1_0, GV.int i1_1, GV.pts l1_2, GV.int i1_3, GV.int i1_4]))) ∧ ((ilt i1_0 (ilen a1)) = false → ((true = true) ∧ ((True) ∧ (True) ∧ True) ∧ ((true = true) ∧ ((Cont.pts l1_2) = (Cont.pts (apL a1 j (ilen a1 + 1))))) ∧ True))))) = ev sig_impl_armPoints xs_impl_armPoints Tryd.f90.ntmps (fun b => if b == 0 then [.v 17, .v 7, .b 5, .b 6] else []) (codeOf Tryd.f90) 0 (initS [.agg [.view (.ints a1), .view (.ints a2), .view (.ints a3)], .s (.view (.ints j))]) (retK Tryd.f90.results.toList [.nrow 62 (.pts (apL a1 j (ilen a1 + 1)))]) := by kernel_rfl
set_option maxHeartbeats 400000 in
theorem F_impl_armPoints : FunOK 90 g_impl_armPoints := by
  refine fun_F (by kernel_rfl) Tryd.func90 rfl (by kernel_rfl) sig_impl_armPoints_ok xs_impl_armPoints_ok ?_
  intro avs sg h hn hl
  unfold g_impl_armPoints at h
  split at h
  · rename_i a1 a2 a3 j
    injection h with h; subst h
    refine ⟨by kernel_rfl, fun b => if b == 0 then [.v 17, .v 7, .b 5, .b 6] else [], Eq.mp (V_impl_armPoints a1 a2 a3 j) ?_⟩
    simp only [true_and, and_true, implies_true, and_self, forall_const, true_implies, lenA, lenL, SV.lenOK, Cont.lenOK] at hn hl ⊢
    obtain ⟨ha, hjl, hl4, hlk, hjk⟩ := jv_p hn
    simp only [ilt_t, ilt_f, ile_t, ile_f, ieq_t, ieq_f, bnot_e, band_e, bite_and, bite_or, NLt_e, NLe_e, NNe_e, NIs_e, imax_e, imin_e, irem_e, Bool.not_eq_true', Bool.not_eq_false', Bool.and_eq_true, Bool.or_eq_true, Bool.or_eq_false_iff, Bool.and_eq_false_iff, Cont.pts.injEq, Cont.ints.injEq, Cont.bools.injEq, Cont.ptss.injEq, Cont.intss.injEq, Cont.boolss.injEq, true_and, and_true, implies_true]
    refine ⟨fun | [.int k, .int d, .pts o, .int x, .int y] => 0 ≤ k ∧ k ≤ ilen a1 ∧ o = apL a1 j (k + 1) ∧ d = dirK j k ∧ x = apX a1 j k ∧ y = apY a1 j k | _ => False, fun | .int k :: _ => (ilen a1 - k).toNat | _ => 0, ⟨by omega, by omega, rfl, rfl, rfl, rfl⟩, ?_⟩
    rintro k d o x y ⟨k0, k1, rfl, rfl, rfl, rfl⟩
    refine ⟨fun hc => ?_, fun hc => ?_⟩
    · have hk : k < ilen a1 := by omega
      have b1 := jv_bd hn k0 k1
      have b2 := jv_bd hn (k := k + 1) (by omega) (by omega)
      have hL := hlk k k0 hk
      have hJ := hjk k k0 hk
      have hd := dirK_1 (J := j) k0
      have hx := apX_1 (L := a1) (J := j) k0
      have hy := apY_1 (L := a1) (J := j) k0
      have e1 : iadd (dirK j k) (geti j k) = dirK j (k + 1) := by rw [iadd_e (by omega) (by omega), hd]
      rw [e1]
      have e2 : iadd (apX a1 j k) (rotX (geti a1 k) 0 (dirK j (k + 1))) = apX a1 j (k + 1) := by rw [iadd_e (by omega) (by omega), hx]
      have e3 : iadd (apY a1 j k) (rotY (geti a1 k) 0 (dirK j (k + 1))) = apY a1 j (k + 1) := by rw [iadd_e (by omega) (by omega), hy]
      rw [e2, e3, apL_len (by omega), iadd_e (by omega) (by omega)]
      exact ⟨⟨k0, by omega⟩, ⟨k0, by omega⟩, vB_mk (by omega), ⟨by omega, by rw [ilen_one]; omega⟩, ⟨by omega, by omega, apL_s (by omega), rfl, rfl, rfl⟩, by show (ilen a1 - (k + 1)).toNat < (ilen a1 - k).toNat; omega⟩
    · rw [show k = ilen a1 by omega]
  · cases h
def g_impl_inside : List AV → Option Sg
  | [.s (.view (.pts l)), .agg [.int p1, .int p2]] => some ⟨True, [.s (.bool (insB l p1 p2))]⟩
  | _ => none
def sig_impl_inside : FuncId → List AV → Option Sg := sigL [(111, g_impl_cross)]
def xs_impl_inside : XS := ⟨xsigL [], ysigL []⟩
theorem sig_impl_inside_ok : SigOK sig_impl_inside := sigL_cons F_impl_cross sigL_nil
theorem xs_impl_inside_ok : XSigOK xs_impl_inside := ⟨xsigL_nil, ysigL_nil⟩
theorem V_impl_inside (l : List Pt) (p1 : Int) (p2 : Int) : ((true = true) ∧ ((True) ∧ (True) ∧ True) ∧ (true = true) ∧ ((True) ∧ (True) ∧ (True) ∧ True) ∧ ∃ (I1 : List GV → Prop) (μ1 : List GV → Nat), (((true = true) ∧ (((false : Bool) = false) ∧ (((0 : Int) : Int) = (0 : Int)) ∧ ((Cont.pts l) = (Cont.pts l)) ∧ (((ilen l) : Int) = (ilen l)) ∧ (true = true) ∧ ((Cont.pts l) = (Cont.pts l)) ∧ (((p1 : Int) = p1) ∧ ((p2 : Int) = p2) ∧ True) ∧ True) ∧ ((((p1 : Int) = p1) ∧ ((p2 : Int) = p2) ∧ True) ∧ True)) ∧ (([GK.int, GK.bool] : List GK) = ([GK.int, GK.bool] : List GK)) ∧ I1 [GV.int (0 : Int), GV.bool false]) ∧ (∀ i1_0 : Int, ∀ b1_1 : Bool, I1 [GV.int i1_0, GV.bool b1_1] → ((true = true) ∧ ((True) ∧ True) ∧ ((ilt i1_0 (ilen l)) = true → ((true = true) ∧ ((True) ∧ (NLe 0 i1_0 ∧ NLt i1_0 (ilen l)) ∧ (True) ∧ (True) ∧ (True) ∧ True) ∧ (True) ∧ (true = true) ∧ ((True) ∧ (True) ∧ (True) ∧ (True) ∧ (True) ∧ (True) ∧ (NNe (ilen l) 0) ∧ (NLe 0 (irem (iadd i1_0 (1 : Int)) (ilen l)) ∧ NLt (irem (iadd i1_0 (1 : Int)) (ilen l)) (ilen l)) ∧ (True) ∧ (True) ∧ ((True)) ∧ (True) ∧ True) ∧ ((ilt (crW (getx l i1_0) (gety l i1_0) (getx l (irem (iadd i1_0 (1 : Int)) (ilen l))) (gety l (irem (iadd i1_0 (1 : Int)) (ilen l))) p1 p2) (0 : Int)) = true → ((true = true) ∧ ((True) ∧ True) ∧ ((false : Bool) = (insB l p1 p2)) ∧ True)) ∧ ((ilt (crW (getx l i1_0) (gety l i1_0) (getx l (irem (iadd i1_0 (1 : Int)) (ilen l))) (gety l (irem (iadd i1_0 (1 : Int)) (ilen l))) p1 p2) (0 : Int)) = false → ((true = true) ∧ ((True) ∧ (True) ∧ True) ∧ ((true = true) ∧ (((b1_1 : Bool) = b1_1) ∧ (((iadd i1_0 (1 : Int)) : Int) = (iadd i1_0 (1 : Int))) ∧ ((Cont.pts l) = (Cont.pts l)) ∧ (((ilen l) : Int) = (ilen l)) ∧ (true = true) ∧ ((Cont.pts l) = (Cont.pts l)) ∧ (((p1 : Int) = p1) ∧ ((p2 : Int) = p2) ∧ True) ∧ True) ∧ ((((p1 : Int) = p1) ∧ ((p2 : Int) = p2) ∧ True) ∧ True)) ∧ ((([GK.int, GK.bool] : List GK) = ([GK.int, GK.bool] : List GK)) ∧ I1 [GV.int (iadd i1_0 (1 : Int)), GV.bool b1_1] ∧ μ1 [GV.int (iadd i1_0 (1 : Int)), GV.bool b1_1] < μ1 [GV.int i1_0, GV.bool b1_1]))))) ∧ ((ilt i1_0 (ilen l)) = false → ((true = true) ∧ ((True) ∧ True) ∧ ((true : Bool) = (insB l p1 p2)) ∧ True))))) = ev sig_impl_inside xs_impl_inside Tryd.f118.ntmps (fun b => if b == 0 then [.v 9, .v 4] else []) (codeOf Tryd.f118) 0 (initS [.s (.view (.pts l)), .agg [.int p1, .int p2]]) (retK Tryd.f118.results.toList [.s (.bool (insB l p1 p2))]) := by kernel_rfl
set_option maxHeartbeats 400000 in
theorem F_impl_inside : FunOK 118 g_impl_inside := by
  refine fun_F (by kernel_rfl) Tryd.func118 rfl (by kernel_rfl) sig_impl_inside_ok xs_impl_inside_ok ?_
  intro avs sg h hn hl
  unfold g_impl_inside at h
  split at h
  · rename_i l p1 p2
    injection h with h; subst h
    refine ⟨by kernel_rfl, fun b => if b == 0 then [.v 9, .v 4] else [], Eq.mp (V_impl_inside l p1 p2) ?_⟩
    simp only [true_and, and_true, implies_true, and_self, forall_const, true_implies, lenA, lenL, SV.lenOK, Cont.lenOK] at hn hl ⊢
    have h0 := ilen_0 l
    simp only [ilt_t, ilt_f, ile_t, ile_f, ieq_t, ieq_f, bnot_e, band_e, bite_and, bite_or, NLt_e, NLe_e, NNe_e, NIs_e, imax_e, imin_e, irem_e, Bool.not_eq_true', Bool.not_eq_false', Bool.and_eq_true, Bool.or_eq_true, Bool.or_eq_false_iff, Bool.and_eq_false_iff, Cont.pts.injEq, Cont.ints.injEq, Cont.bools.injEq, Cont.ptss.injEq, Cont.intss.injEq, Cont.boolss.injEq, true_and, and_true, implies_true]
    refine ⟨fun | .int k :: _ => 0 ≤ k ∧ k ≤ ilen l ∧ (∀ i, 0 ≤ i → i < k → insE l p1 p2 i = true) | _ => False, fun | .int k :: _ => (ilen l - k).toNat | _ => 0, ?_, ?_⟩
    · exact ⟨Int.le_refl 0, h0, fun j h0 h1 => absurd h1 (by omega)⟩
    · rintro k _ ⟨hk0, hk1, hk⟩
      simp only [ilt_t, ilt_f, ile_t, ile_f, ieq_t, ieq_f, bnot_e, band_e, bite_and, bite_or, NLt_e, NLe_e, NNe_e, NIs_e, imax_e, imin_e, irem_e, Bool.not_eq_true', Bool.not_eq_false', Bool.and_eq_true, Bool.or_eq_true, Bool.or_eq_false_iff, Bool.and_eq_false_iff, Cont.pts.injEq, Cont.ints.injEq, Cont.bools.injEq, Cont.ptss.injEq, Cont.intss.injEq, Cont.boolss.injEq, true_and, and_true, implies_true]
      refine ⟨fun hkn => ?_, fun hkn => ?_⟩
      · have e1 := iadd_1 hk0 hkn hl
        obtain ⟨n0, n1, _⟩ := nx_in hk0 hkn
        have e2 : (k + 1).tmod (ilen l) = nx l k := rfl
        simp only [e1, e2]
        have hne : ilen l ≠ 0 := by omega
        refine ⟨⟨hk0, hkn⟩, ⟨hne, ⟨n0, n1⟩⟩, fun hx => ?_, fun hx => ?_⟩
        · have hE : insE l p1 p2 k = false := by
            unfold insE
            simp only [decide_eq_false_iff_not]
            omega
          unfold insB
          rw [allN_no k hk0 hkn hE]
        · have hE : insE l p1 p2 k = true := by
            unfold insE
            simp only [decide_eq_true_eq]
            omega
          exact ⟨⟨by omega, by omega, allN_up hk hE⟩, by omega⟩
      · unfold insB
        rw [allN_mk fun i h0 h1 => hk i h0 (by omega)]
  · cases h
def g_cmp_isNaN_int : List AV → Option Sg
  | [.s (.int n)] => some ⟨True, [.s (.bool (false))]⟩
  | _ => none
def sig_cmp_isNaN_int : FuncId → List AV → Option Sg := sigL []
def xs_cmp_isNaN_int : XS := ⟨xsigL [], ysigL []⟩
theorem sig_cmp_isNaN_int_ok : SigOK sig_cmp_isNaN_int := sigL_nil
theorem xs_cmp_isNaN_int_ok : XSigOK xs_cmp_isNaN_int := ⟨xsigL_nil, ysigL_nil⟩
theorem V_cmp_isNaN_int (n : Int) : ((true = true) ∧ ((True) ∧ True) ∧ (true = true) ∧ ((True) ∧ (True) ∧ (True) ∧ (True) ∧ True) ∧ (((bnot (ieq n n)) : Bool) = (false)) ∧ True) = ev sig_cmp_isNaN_int xs_cmp_isNaN_int Tryd.f126.ntmps (fun b => []) (codeOf Tryd.f126) 0 (initS [.s (.int n)]) (retK Tryd.f126.results.toList [.s (.bool (false))]) := by kernel_rfl
set_option maxHeartbeats 400000 in
theorem F_cmp_isNaN_int : FunOK 126 g_cmp_isNaN_int := by
  refine fun_F (by kernel_rfl) Tryd.func126 rfl (by kernel_rfl) sig_cmp_isNaN_int_ok xs_cmp_isNaN_int_ok ?_
  intro avs sg h hn hl
  unfold g_cmp_isNaN_int at h
  split at h
  · rename_i n
    injection h with h; subst h
    refine ⟨by kernel_rfl, fun b => [], Eq.mp (V_cmp_isNaN_int n) ?_⟩
    simp only [true_and, and_true, implies_true, and_self, forall_const, true_implies, lenA, lenL, SV.lenOK, Cont.lenOK] at hn hl ⊢
    simp [bnot, ieq]
  · cases h
def g_cmp_Compare_int : List AV → Option Sg
  | [.s (.int a), .s (.int b)] => some ⟨True, [.s (.int (sgn (a - b)))]⟩
  | _ => none
def sig_cmp_Compare_int : FuncId → List AV → Option Sg := sigL [(126, g_cmp_isNaN_int)]
def xs_cmp_Compare_int : XS := ⟨xsigL [], ysigL []⟩
theorem sig_cmp_Compare_int_ok : SigOK sig_cmp_Compare_int := sigL_cons F_cmp_isNaN_int sigL_nil
theorem xs_cmp_Compare_int_ok : XSigOK xs_cmp_Compare_int := ⟨xsigL_nil, ysigL_nil⟩
theorem V_cmp_Compare_int (a : Int) (b : Int) : ((true = true) ∧ ((True) ∧ True) ∧ (true = true) ∧ ((True) ∧ ((True)) ∧ (True) ∧ True) ∧ (true = true) ∧ ((True) ∧ ((True)) ∧ (True) ∧ True) ∧ (true = true) ∧ ((True) ∧ True) ∧ ((false) = true → ((true = true) ∧ ((True) ∧ True) ∧ ((false) = true → ((true = true) ∧ ((True) ∧ True) ∧ (((0 : Int) : Int) = (sgn (a - b))) ∧ True)) ∧ ((false) = false → ((true = true) ∧ ((True) ∧ True) ∧ (((-1 : Int) : Int) = (sgn (a - b))) ∧ True)))) ∧ ((false) = false → ((true = true) ∧ ((True) ∧ True) ∧ ((false) = true → ((true = true) ∧ ((True) ∧ True) ∧ (((1 : Int) : Int) = (sgn (a - b))) ∧ True)) ∧ ((false) = false → ((true = true) ∧ ((True) ∧ (True) ∧ (True) ∧ True) ∧ ((ilt a b) = true → ((true = true) ∧ ((True) ∧ True) ∧ (((-1 : Int) : Int) = (sgn (a - b))) ∧ True)) ∧ ((ilt a b) = false → ((true = true) ∧ ((True) ∧ (True) ∧ (True) ∧ True) ∧ ((ilt b a) = true → ((true = true) ∧ ((True) ∧ True) ∧ (((1 : Int) : Int) = (sgn (a - b))) ∧ True)) ∧ ((ilt b a) = false → ((true = true) ∧ ((True) ∧ True) ∧ (((0 : Int) : Int) = (sgn (a - b))) ∧ True))))))))) = ev sig_cmp_Compare_int xs_cmp_Compare_int Tryd.f110.ntmps (fun b => []) (codeOf Tryd.f110) 0 (initS [.s (.int a), .s (.int b)]) (retK Tryd.f110.results.toList [.s (.int (sgn (a - b)))]) := by kernel_rfl
set_option maxHeartbeats 400000 in
theorem F_cmp_Compare_int : FunOK 110 g_cmp_Compare_int := by
  refine fun_F (by kernel_rfl) Tryd.func110 rfl (by kernel_rfl) sig_cmp_Compare_int_ok xs_cmp_Compare_int_ok ?_
  intro avs sg h hn hl
  unfold g_cmp_Compare_int at h
  split at h
  · rename_i a b
    injection h with h; subst h
    refine ⟨by kernel_rfl, fun b => [], Eq.mp (V_cmp_Compare_int a b) ?_⟩
    simp only [true_and, and_true, implies_true, and_self, forall_const, true_implies, lenA, lenL, SV.lenOK, Cont.lenOK] at hn hl ⊢
    simp only [ilt_t, ilt_f, ile_t, ile_f, ieq_t, ieq_f, bnot_e, band_e, bite_and, bite_or, NLt_e, NLe_e, NNe_e, NIs_e, imax_e, imin_e, irem_e, Bool.not_eq_true', Bool.not_eq_false', Bool.and_eq_true, Bool.or_eq_true, Bool.or_eq_false_iff, Bool.and_eq_false_iff, Cont.pts.injEq, Cont.ints.injEq, Cont.bools.injEq, Cont.ptss.injEq, Cont.intss.injEq, Cont.boolss.injEq, true_and, and_true, implies_true, Bool.false_eq_true, false_implies, true_implies, true_and, forall_const]
    unfold sgn
    by_cases h1 : a < b
    · rw [if_neg (show ¬ 0 < a - b by omega), if_pos (show a - b < 0 by omega)]
      simp [h1]; try omega
    · by_cases h2 : b < a
      · rw [if_pos (show 0 < a - b by omega)]
        simp [h1, h2]; try omega
      · rw [if_neg (show ¬ 0 < a - b by omega), if_neg (show ¬ a - b < 0 by omega)]
        simp [h1, h2]; try omega
  · cases h
def g_impl_between : List AV → Option Sg
  | [.agg [.int a1, .int a2], .agg [.int b1, .int b2], .agg [.int p1, .int p2]] => some ⟨True, [.s (.bool (btW a1 a2 b1 b2 p1 p2))]⟩
  | _ => none
def sig_impl_between : FuncId → List AV → Option Sg := sigL [(67, g_impl_within)]
def xs_impl_between : XS := ⟨xsigL [], ysigL []⟩
theorem sig_impl_between_ok : SigOK sig_impl_between := sigL_cons F_impl_within sigL_nil
theorem xs_impl_between_ok : XSigOK xs_impl_between := ⟨xsigL_nil, ysigL_nil⟩
theorem V_impl_between (a1 : Int) (a2 : Int) (b1 : Int) (b2 : Int) (p1 : Int) (p2 : Int) : ((true = true) ∧ ((True) ∧ (True) ∧ (True) ∧ (True) ∧ True) ∧ (true = true) ∧ ((True) ∧ (True) ∧ (True) ∧ (True) ∧ (True) ∧ (True) ∧ (True) ∧ (True) ∧ (True) ∧ (True) ∧ (True) ∧ (True) ∧ ((True)) ∧ (True) ∧ (NIs (inB p1 (imin a1 b1) (imax a1 b1)) true → True) ∧ (NIs (inB p1 (imin a1 b1) (imax a1 b1)) true → True) ∧ (NIs (inB p1 (imin a1 b1) (imax a1 b1)) true → True) ∧ (NIs (inB p1 (imin a1 b1) (imax a1 b1)) true → True) ∧ (NIs (inB p1 (imin a1 b1) (imax a1 b1)) true → True) ∧ (NIs (inB p1 (imin a1 b1) (imax a1 b1)) true → True) ∧ (NIs (inB p1 (imin a1 b1) (imax a1 b1)) true → True) ∧ (NIs (inB p1 (imin a1 b1) (imax a1 b1)) true → True) ∧ (NIs (inB p1 (imin a1 b1) (imax a1 b1)) true → True) ∧ (NIs (inB p1 (imin a1 b1) (imax a1 b1)) true → True) ∧ (NIs (inB p1 (imin a1 b1) (imax a1 b1)) true → True) ∧ (NIs (inB p1 (imin a1 b1) (imax a1 b1)) true → True) ∧ (NIs (inB p1 (imin a1 b1) (imax a1 b1)) true → (True)) ∧ (True) ∧ (True) ∧ True) ∧ (((bite (inB p1 (imin a1 b1) (imax a1 b1)) (inB p2 (imin a2 b2) (imax a2 b2)) false) : Bool) = (btW a1 a2 b1 b2 p1 p2)) ∧ True) = ev sig_impl_between xs_impl_between Tryd.f112.ntmps (fun b => []) (codeOf Tryd.f112) 0 (initS [.agg [.int a1, .int a2], .agg [.int b1, .int b2], .agg [.int p1, .int p2]]) (retK Tryd.f112.results.toList [.s (.bool (btW a1 a2 b1 b2 p1 p2))]) := by kernel_rfl
set_option maxHeartbeats 400000 in
theorem F_impl_between : FunOK 112 g_impl_between := by
  refine fun_F (by kernel_rfl) Tryd.func112 rfl (by kernel_rfl) sig_impl_between_ok xs_impl_between_ok ?_
  intro avs sg h hn hl
  unfold g_impl_between at h
  split at h
  · rename_i a1 a2 b1 b2 p1 p2
    injection h with h; subst h
    refine ⟨by kernel_rfl, fun b => [], Eq.mp (V_impl_between a1 a2 b1 b2 p1 p2) ?_⟩
    simp only [true_and, and_true, implies_true, and_self, forall_const, true_implies, lenA, lenL, SV.lenOK, Cont.lenOK] at hn hl ⊢
    simp only [ilt_t, ilt_f, ile_t, ile_f, ieq_t, ieq_f, bnot_e, band_e, bite_and, bite_or, NLt_e, NLe_e, NNe_e, NIs_e, imax_e, imin_e, irem_e, Bool.not_eq_true', Bool.not_eq_false', Bool.and_eq_true, Bool.or_eq_true, Bool.or_eq_false_iff, Bool.and_eq_false_iff, Cont.pts.injEq, Cont.ints.injEq, Cont.bools.injEq, Cont.ptss.injEq, Cont.intss.injEq, Cont.boolss.injEq, true_and, and_true, implies_true]
    rfl
  · cases h
def g_impl_meet : List AV → Option Sg
  | [.agg [.int a1, .int a2], .agg [.int b1, .int b2], .agg [.int c1, .int c2], .agg [.int d1, .int d2]] => some ⟨vB a1 a2 = true ∧ vB b1 b2 = true ∧ vB c1 c2 = true ∧ vB d1 d2 = true, [.s (.bool (meetB (a1, a2) (b1, b2) (c1, c2) (d1, d2)))]⟩
  | _ => none
def sig_impl_meet : FuncId → List AV → Option Sg := sigL [(111, g_impl_cross), (110, g_cmp_Compare_int), (112, g_impl_between)]
def xs_impl_meet : XS := ⟨xsigL [], ysigL []⟩
theorem sig_impl_meet_ok : SigOK sig_impl_meet := sigL_cons F_impl_cross (sigL_cons F_cmp_Compare_int (sigL_cons F_impl_between sigL_nil))
theorem xs_impl_meet_ok : XSigOK xs_impl_meet := ⟨xsigL_nil, ysigL_nil⟩
theorem V_impl_meet (a1 : Int) (a2 : Int) (b1 : Int) (b2 : Int) (c1 : Int) (c2 : Int) (d1 : Int) (d2 : Int) : ((true = true) ∧ ((True) ∧ (True) ∧ (True) ∧ (True) ∧ (True) ∧ True) ∧ (true = true) ∧ ((True) ∧ (True) ∧ (True) ∧ ((True)) ∧ ((True)) ∧ (True) ∧ (True) ∧ (True) ∧ ((True)) ∧ ((True)) ∧ (True) ∧ (True) ∧ True) ∧ (true = true) ∧ ((True) ∧ (True) ∧ (True) ∧ ((True)) ∧ ((True)) ∧ (True) ∧ (True) ∧ (True) ∧ ((True)) ∧ ((True)) ∧ (True) ∧ (True) ∧ True) ∧ (true = true) ∧ ((True) ∧ (True) ∧ (True) ∧ (True) ∧ (True) ∧ (NIs (ilt (imul (sgn ((crW a1 a2 b1 b2 c1 c2) - (0 : Int))) (sgn ((crW a1 a2 b1 b2 d1 d2) - (0 : Int)))) (0 : Int)) true → True) ∧ (NIs (ilt (imul (sgn ((crW a1 a2 b1 b2 c1 c2) - (0 : Int))) (sgn ((crW a1 a2 b1 b2 d1 d2) - (0 : Int)))) (0 : Int)) true → True) ∧ (NIs (ilt (imul (sgn ((crW a1 a2 b1 b2 c1 c2) - (0 : Int))) (sgn ((crW a1 a2 b1 b2 d1 d2) - (0 : Int)))) (0 : Int)) true → True) ∧ (NIs (ilt (imul (sgn ((crW a1 a2 b1 b2 c1 c2) - (0 : Int))) (sgn ((crW a1 a2 b1 b2 d1 d2) - (0 : Int)))) (0 : Int)) true → True) ∧ (True) ∧ True) ∧ ((bite (ilt (imul (sgn ((crW a1 a2 b1 b2 c1 c2) - (0 : Int))) (sgn ((crW a1 a2 b1 b2 d1 d2) - (0 : Int)))) (0 : Int)) (ilt (imul (sgn ((crW c1 c2 d1 d2 a1 a2) - (0 : Int))) (sgn ((crW c1 c2 d1 d2 b1 b2) - (0 : Int)))) (0 : Int)) false) = true → ((true = true) ∧ ((True) ∧ True) ∧ ((true : Bool) = (meetB (a1, a2) (b1, b2) (c1, c2) (d1, d2))) ∧ True)) ∧ ((bite (ilt (imul (sgn ((crW a1 a2 b1 b2 c1 c2) - (0 : Int))) (sgn ((crW a1 a2 b1 b2 d1 d2) - (0 : Int)))) (0 : Int)) (ilt (imul (sgn ((crW c1 c2 d1 d2 a1 a2) - (0 : Int))) (sgn ((crW c1 c2 d1 d2 b1 b2) - (0 : Int)))) (0 : Int)) false) = false → ((true = true) ∧ ((True) ∧ (True) ∧ (True) ∧ (NIs (ieq (sgn ((crW a1 a2 b1 b2 c1 c2) - (0 : Int))) (0 : Int)) true → True) ∧ (NIs (ieq (sgn ((crW a1 a2 b1 b2 c1 c2) - (0 : Int))) (0 : Int)) true → True) ∧ (NIs (ieq (sgn ((crW a1 a2 b1 b2 c1 c2) - (0 : Int))) (0 : Int)) true → True) ∧ (NIs (ieq (sgn ((crW a1 a2 b1 b2 c1 c2) - (0 : Int))) (0 : Int)) true → (True)) ∧ (True) ∧ (True) ∧ (NIs (bite (ieq (sgn ((crW a1 a2 b1 b2 c1 c2) - (0 : Int))) (0 : Int)) (btW a1 a2 b1 b2 c1 c2) false) false → True) ∧ (NIs (bite (ieq (sgn ((crW a1 a2 b1 b2 c1 c2) - (0 : Int))) (0 : Int)) (btW a1 a2 b1 b2 c1 c2) false) false → True) ∧ (NIs (bite (ieq (sgn ((crW a1 a2 b1 b2 c1 c2) - (0 : Int))) (0 : Int)) (btW a1 a2 b1 b2 c1 c2) false) false → True) ∧ (NIs (bite (ieq (sgn ((crW a1 a2 b1 b2 c1 c2) - (0 : Int))) (0 : Int)) (btW a1 a2 b1 b2 c1 c2) false) false → (NIs (ieq (sgn ((crW a1 a2 b1 b2 d1 d2) - (0 : Int))) (0 : Int)) true → True)) ∧ (NIs (bite (ieq (sgn ((crW a1 a2 b1 b2 c1 c2) - (0 : Int))) (0 : Int)) (btW a1 a2 b1 b2 c1 c2) false) false → (NIs (ieq (sgn ((crW a1 a2 b1 b2 d1 d2) - (0 : Int))) (0 : Int)) true → True)) ∧ (NIs (bite (ieq (sgn ((crW a1 a2 b1 b2 c1 c2) - (0 : Int))) (0 : Int)) (btW a1 a2 b1 b2 c1 c2) false) false → (NIs (ieq (sgn ((crW a1 a2 b1 b2 d1 d2) - (0 : Int))) (0 : Int)) true → True)) ∧ (NIs (bite (ieq (sgn ((crW a1 a2 b1 b2 c1 c2) - (0 : Int))) (0 : Int)) (btW a1 a2 b1 b2 c1 c2) false) false → (NIs (ieq (sgn ((crW a1 a2 b1 b2 d1 d2) - (0 : Int))) (0 : Int)) true → (True))) ∧ (NIs (bite (ieq (sgn ((crW a1 a2 b1 b2 c1 c2) - (0 : Int))) (0 : Int)) (btW a1 a2 b1 b2 c1 c2) false) false → True) ∧ (True) ∧ (True) ∧ (NIs (bite (bite (ieq (sgn ((crW a1 a2 b1 b2 c1 c2) - (0 : Int))) (0 : Int)) (btW a1 a2 b1 b2 c1 c2) false) true (bite (ieq (sgn ((crW a1 a2 b1 b2 d1 d2) - (0 : Int))) (0 : Int)) (btW a1 a2 b1 b2 d1 d2) false)) false → True) ∧ (NIs (bite (bite (ieq (sgn ((crW a1 a2 b1 b2 c1 c2) - (0 : Int))) (0 : Int)) (btW a1 a2 b1 b2 c1 c2) false) true (bite (ieq (sgn ((crW a1 a2 b1 b2 d1 d2) - (0 : Int))) (0 : Int)) (btW a1 a2 b1 b2 d1 d2) false)) false → True) ∧ (NIs (bite (bite (ieq (sgn ((crW a1 a2 b1 b2 c1 c2) - (0 : Int))) (0 : Int)) (btW a1 a2 b1 b2 c1 c2) false) true (bite (ieq (sgn ((crW a1 a2 b1 b2 d1 d2) - (0 : Int))) (0 : Int)) (btW a1 a2 b1 b2 d1 d2) false)) false → True) ∧ (NIs (bite (bite (ieq (sgn ((crW a1 a2 b1 b2 c1 c2) - (0 : Int))) (0 : Int)) (btW a1 a2 b1 b2 c1 c2) false) true (bite (ieq (sgn ((crW a1 a2 b1 b2 d1 d2) - (0 : Int))) (0 : Int)) (btW a1 a2 b1 b2 d1 d2) false)) false → (NIs (ieq (sgn ((crW c1 c2 d1 d2 a1 a2) - (0 : Int))) (0 : Int)) true → True)) ∧ (NIs (bite (bite (ieq (sgn ((crW a1 a2 b1 b2 c1 c2) - (0 : Int))) (0 : Int)) (btW a1 a2 b1 b2 c1 c2) false) true (bite (ieq (sgn ((crW a1 a2 b1 b2 d1 d2) - (0 : Int))) (0 : Int)) (btW a1 a2 b1 b2 d1 d2) false)) false → (NIs (ieq (sgn ((crW c1 c2 d1 d2 a1 a2) - (0 : Int))) (0 : Int)) true → True)) ∧ (NIs (bite (bite (ieq (sgn ((crW a1 a2 b1 b2 c1 c2) - (0 : Int))) (0 : Int)) (btW a1 a2 b1 b2 c1 c2) false) true (bite (ieq (sgn ((crW a1 a2 b1 b2 d1 d2) - (0 : Int))) (0 : Int)) (btW a1 a2 b1 b2 d1 d2) false)) false → (NIs (ieq (sgn ((crW c1 c2 d1 d2 a1 a2) - (0 : Int))) (0 : Int)) true → True)) ∧ (NIs (bite (bite (ieq (sgn ((crW a1 a2 b1 b2 c1 c2) - (0 : Int))) (0 : Int)) (btW a1 a2 b1 b2 c1 c2) false) true (bite (ieq (sgn ((crW a1 a2 b1 b2 d1 d2) - (0 : Int))) (0 : Int)) (btW a1 a2 b1 b2 d1 d2) false)) false → (NIs (ieq (sgn ((crW c1 c2 d1 d2 a1 a2) - (0 : Int))) (0 : Int)) true → (True))) ∧ (NIs (bite (bite (ieq (sgn ((crW a1 a2 b1 b2 c1 c2) - (0 : Int))) (0 : Int)) (btW a1 a2 b1 b2 c1 c2) false) true (bite (ieq (sgn ((crW a1 a2 b1 b2 d1 d2) - (0 : Int))) (0 : Int)) (btW a1 a2 b1 b2 d1 d2) false)) false → True) ∧ (True) ∧ (True) ∧ (NIs (bite (bite (bite (ieq (sgn ((crW a1 a2 b1 b2 c1 c2) - (0 : Int))) (0 : Int)) (btW a1 a2 b1 b2 c1 c2) false) true (bite (ieq (sgn ((crW a1 a2 b1 b2 d1 d2) - (0 : Int))) (0 : Int)) (btW a1 a2 b1 b2 d1 d2) false)) true (bite (ieq (sgn ((crW c1 c2 d1 d2 a1 a2) - (0 : Int))) (0 : Int)) (btW c1 c2 d1 d2 a1 a2) false)) false → True) ∧ (NIs (bite (bite (bite (ieq (sgn ((crW a1 a2 b1 b2 c1 c2) - (0 : Int))) (0 : Int)) (btW a1 a2 b1 b2 c1 c2) false) true (bite (ieq (sgn ((crW a1 a2 b1 b2 d1 d2) - (0 : Int))) (0 : Int)) (btW a1 a2 b1 b2 d1 d2) false)) true (bite (ieq (sgn ((crW c1 c2 d1 d2 a1 a2) - (0 : Int))) (0 : Int)) (btW c1 c2 d1 d2 a1 a2) false)) false → True) ∧ (NIs (bite (bite (bite (ieq (sgn ((crW a1 a2 b1 b2 c1 c2) - (0 : Int))) (0 : Int)) (btW a1 a2 b1 b2 c1 c2) false) true (bite (ieq (sgn ((crW a1 a2 b1 b2 d1 d2) - (0 : Int))) (0 : Int)) (btW a1 a2 b1 b2 d1 d2) false)) true (bite (ieq (sgn ((crW c1 c2 d1 d2 a1 a2) - (0 : Int))) (0 : Int)) (btW c1 c2 d1 d2 a1 a2) false)) false → True) ∧ (NIs (bite (bite (bite (ieq (sgn ((crW a1 a2 b1 b2 c1 c2) - (0 : Int))) (0 : Int)) (btW a1 a2 b1 b2 c1 c2) false) true (bite (ieq (sgn ((crW a1 a2 b1 b2 d1 d2) - (0 : Int))) (0 : Int)) (btW a1 a2 b1 b2 d1 d2) false)) true (bite (ieq (sgn ((crW c1 c2 d1 d2 a1 a2) - (0 : Int))) (0 : Int)) (btW c1 c2 d1 d2 a1 a2) false)) false → (NIs (ieq (sgn ((crW c1 c2 d1 d2 b1 b2) - (0 : Int))) (0 : Int)) true → True)) ∧ (NIs (bite (bite (bite (ieq (sgn ((crW a1 a2 b1 b2 c1 c2) - (0 : Int))) (0 : Int)) (btW a1 a2 b1 b2 c1 c2) false) true (bite (ieq (sgn ((crW a1 a2 b1 b2 d1 d2) - (0 : Int))) (0 : Int)) (btW a1 a2 b1 b2 d1 d2) false)) true (bite (ieq (sgn ((crW c1 c2 d1 d2 a1 a2) - (0 : Int))) (0 : Int)) (btW c1 c2 d1 d2 a1 a2) false)) false → (NIs (ieq (sgn ((crW c1 c2 d1 d2 b1 b2) - (0 : Int))) (0 : Int)) true → True)) ∧ (NIs (bite (bite (bite (ieq (sgn ((crW a1 a2 b1 b2 c1 c2) - (0 : Int))) (0 : Int)) (btW a1 a2 b1 b2 c1 c2) false) true (bite (ieq (sgn ((crW a1 a2 b1 b2 d1 d2) - (0 : Int))) (0 : Int)) (btW a1 a2 b1 b2 d1 d2) false)) true (bite (ieq (sgn ((crW c1 c2 d1 d2 a1 a2) - (0 : Int))) (0 : Int)) (btW c1 c2 d1 d2 a1 a2) false)) false → (NIs (ieq (sgn ((crW c1 c2 d1 d2 b1 b2) - (0 : Int))) (0 : Int)) true → True)) ∧ (NIs (bite (bite (bite (ieq (sgn ((crW a1 a2 b1 b2 c1 c2) - (0 : Int))) (0 : Int)) (btW a1 a2 b1 b2 c1 c2) false) true (bite (ieq (sgn ((crW a1 a2 b1 b2 d1 d2) - (0 : Int))) (0 : Int)) (btW a1 a2 b1 b2 d1 d2) false)) true (bite (ieq (sgn ((crW c1 c2 d1 d2 a1 a2) - (0 : Int))) (0 : Int)) (btW c1 c2 d1 d2 a1 a2) false)) false → (NIs (ieq (sgn ((crW c1 c2 d1 d2 b1 b2) - (0 : Int))) (0 : Int)) true → (True))) ∧ (NIs (bite (bite (bite (ieq (sgn ((crW a1 a2 b1 b2 c1 c2) - (0 : Int))) (0 : Int)) (btW a1 a2 b1 b2 c1 c2) false) true (bite (ieq (sgn ((crW a1 a2 b1 b2 d1 d2) - (0 : Int))) (0 : Int)) (btW a1 a2 b1 b2 d1 d2) false)) true (bite (ieq (sgn ((crW c1 c2 d1 d2 a1 a2) - (0 : Int))) (0 : Int)) (btW c1 c2 d1 d2 a1 a2) false)) false → True) ∧ (True) ∧ (True) ∧ True) ∧ (((bite (bite (bite (bite (ieq (sgn ((crW a1 a2 b1 b2 c1 c2) - (0 : Int))) (0 : Int)) (btW a1 a2 b1 b2 c1 c2) false) true (bite (ieq (sgn ((crW a1 a2 b1 b2 d1 d2) - (0 : Int))) (0 : Int)) (btW a1 a2 b1 b2 d1 d2) false)) true (bite (ieq (sgn ((crW c1 c2 d1 d2 a1 a2) - (0 : Int))) (0 : Int)) (btW c1 c2 d1 d2 a1 a2) false)) true (bite (ieq (sgn ((crW c1 c2 d1 d2 b1 b2) - (0 : Int))) (0 : Int)) (btW c1 c2 d1 d2 b1 b2) false)) : Bool) = (meetB (a1, a2) (b1, b2) (c1, c2) (d1, d2))) ∧ True))) = ev sig_impl_meet xs_impl_meet Tryd.f91.ntmps (fun b => []) (codeOf Tryd.f91) 0 (initS [.agg [.int a1, .int a2], .agg [.int b1, .int b2], .agg [.int c1, .int c2], .agg [.int d1, .int d2]]) (retK Tryd.f91.results.toList [.s (.bool (meetB (a1, a2) (b1, b2) (c1, c2) (d1, d2)))]) := by kernel_rfl
set_option maxHeartbeats 400000 in
theorem F_impl_meet : FunOK 91 g_impl_meet := by
  refine fun_F (by kernel_rfl) Tryd.func91 rfl (by kernel_rfl) sig_impl_meet_ok xs_impl_meet_ok ?_
  intro avs sg h hn hl
  unfold g_impl_meet at h
  split at h
  · rename_i a1 a2 b1 b2 c1 c2 d1 d2
    injection h with h; subst h
    refine ⟨by kernel_rfl, fun b => [], Eq.mp (V_impl_meet a1 a2 b1 b2 c1 c2 d1 d2) ?_⟩
    simp only [true_and, and_true, implies_true, and_self, forall_const, true_implies, lenA, lenL, SV.lenOK, Cont.lenOK] at hn hl ⊢
    obtain ⟨va, vb, vc, vd⟩ := hn
    simp only [ilt_t, ilt_f, ile_t, ile_f, ieq_t, ieq_f, bnot_e, band_e, bite_and, bite_or, NLt_e, NLe_e, NNe_e, NIs_e, imax_e, imin_e, irem_e, Bool.not_eq_true', Bool.not_eq_false', Bool.and_eq_true, Bool.or_eq_true, Bool.or_eq_false_iff, Bool.and_eq_false_iff, Cont.pts.injEq, Cont.ints.injEq, Cont.bools.injEq, Cont.ptss.injEq, Cont.intss.injEq, Cont.boolss.injEq, true_and, and_true, implies_true, crW_e va vb vc, crW_e va vb vd, crW_e vc vd va, crW_e vc vd vb, btW_e, Int.sub_zero, imul_sgn, ieq_sgn]
    unfold meetB
    generalize crs (a1, a2) (b1, b2) (c1, c2) = x1 at *
    generalize crs (a1, a2) (b1, b2) (d1, d2) = x2 at *
    generalize crs (c1, c2) (d1, d2) (a1, a2) = x3 at *
    generalize crs (c1, c2) (d1, d2) (b1, b2) = x4 at *
    refine ⟨fun h => by simp [h.1, h.2], fun h => ?_⟩
    have e : (decide (sgn x1 * sgn x2 < 0) && decide (sgn x3 * sgn x4 < 0)) = false := by
      rcases h with h | h <;> simp [h] <;> omega
    rw [e, Bool.false_or]
  · cases h
def g_impl_hits : List AV → Option Sg
  | [.s (.view (.pts l)), .agg [.int a1, .int a2], .agg [.int b1, .int b2]] => some ⟨allB l = true ∧ vB a1 a2 = true ∧ vB b1 b2 = true, [.s (.bool (hitB l a1 a2 b1 b2))]⟩
  | _ => none
def sig_impl_hits : FuncId → List AV → Option Sg := sigL [(118, g_impl_inside), (91, g_impl_meet)]
def xs_impl_hits : XS := ⟨xsigL [], ysigL []⟩
theorem sig_impl_hits_ok : SigOK sig_impl_hits := sigL_cons F_impl_inside (sigL_cons F_impl_meet sigL_nil)
theorem xs_impl_hits_ok : XSigOK xs_impl_hits := ⟨xsigL_nil, ysigL_nil⟩
theorem V_impl_hits (l : List Pt) (a1 : Int) (a2 : Int) (b1 : Int) (b2 : Int) : ((true = true) ∧ ((True) ∧ (True) ∧ (True) ∧ True) ∧ (true = true) ∧ ((True) ∧ (True) ∧ ((True)) ∧ (True) ∧ (NIs (insB l a1 a2) false → True) ∧ (NIs (insB l a1 a2) false → True) ∧ (NIs (insB l a1 a2) false → (True)) ∧ (True) ∧ True) ∧ ((bite (insB l a1 a2) true (insB l b1 b2)) = true → ((true = true) ∧ ((True) ∧ True) ∧ ((true : Bool) = (hitB l a1 a2 b1 b2)) ∧ True)) ∧ ((bite (insB l a1 a2) true (insB l b1 b2)) = false → ((true = true) ∧ ((True) ∧ (True) ∧ (True) ∧ True) ∧ ∃ (I1 : List GV → Prop) (μ1 : List GV → Nat), (((true = true) ∧ (((false : Bool) = false) ∧ (((0 : Int) : Int) = (0 : Int)) ∧ ((Cont.pts l) = (Cont.pts l)) ∧ (((ilen l) : Int) = (ilen l)) ∧ ((Cont.pts l) = (Cont.pts l)) ∧ (((a1 : Int) = a1) ∧ ((a2 : Int) = a2) ∧ True) ∧ (((insB l a1 a2) : Bool) = (insB l a1 a2)) ∧ (((insB l a1 a2) : Bool) = (insB l a1 a2)) ∧ (((bite (insB l a1 a2) true (insB l b1 b2)) : Bool) = (bite (insB l a1 a2) true (insB l b1 b2))) ∧ (true = true) ∧ (true = true) ∧ ((Cont.pts l) = (Cont.pts l)) ∧ (((a1 : Int) = a1) ∧ ((a2 : Int) = a2) ∧ True) ∧ (((b1 : Int) = b1) ∧ ((b2 : Int) = b2) ∧ True) ∧ True) ∧ ((((a1 : Int) = a1) ∧ ((a2 : Int) = a2) ∧ True) ∧ (((b1 : Int) = b1) ∧ ((b2 : Int) = b2) ∧ True) ∧ True)) ∧ (([GK.int, GK.bool] : List GK) = ([GK.int, GK.bool] : List GK)) ∧ I1 [GV.int (0 : Int), GV.bool false]) ∧ (∀ i1_0 : Int, ∀ b1_1 : Bool, I1 [GV.int i1_0, GV.bool b1_1] → ((true = true) ∧ ((True) ∧ True) ∧ ((ilt i1_0 (ilen l)) = true → ((true = true) ∧ ((True) ∧ (NLe 0 i1_0 ∧ NLt i1_0 (ilen l)) ∧ (True) ∧ (True) ∧ (True) ∧ True) ∧ (True) ∧ (true = true) ∧ ((True) ∧ (True) ∧ (True) ∧ (True) ∧ (True) ∧ (True) ∧ (True) ∧ (True) ∧ (NNe (ilen l) 0) ∧ (NLe 0 (irem (iadd i1_0 (1 : Int)) (ilen l)) ∧ NLt (irem (iadd i1_0 (1 : Int)) (ilen l)) (ilen l)) ∧ (True) ∧ ((vB a1 a2 = true ∧ vB b1 b2 = true ∧ vB (getx l i1_0) (gety l i1_0) = true ∧ vB (getx l (irem (iadd i1_0 (1 : Int)) (ilen l))) (gety l (irem (iadd i1_0 (1 : Int)) (ilen l))) = true)) ∧ True) ∧ ((meetB (a1, a2) (b1, b2) ((getx l i1_0), (gety l i1_0)) ((getx l (irem (iadd i1_0 (1 : Int)) (ilen l))), (gety l (irem (iadd i1_0 (1 : Int)) (ilen l))))) = true → ((true = true) ∧ ((True) ∧ True) ∧ ((true : Bool) = (hitB l a1 a2 b1 b2)) ∧ True)) ∧ ((meetB (a1, a2) (b1, b2) ((getx l i1_0), (gety l i1_0)) ((getx l (irem (iadd i1_0 (1 : Int)) (ilen l))), (gety l (irem (iadd i1_0 (1 : Int)) (ilen l))))) = false → ((true = true) ∧ ((True) ∧ (True) ∧ True) ∧ ((true = true) ∧ (((b1_1 : Bool) = b1_1) ∧ (((iadd i1_0 (1 : Int)) : Int) = (iadd i1_0 (1 : Int))) ∧ ((Cont.pts l) = (Cont.pts l)) ∧ (((ilen l) : Int) = (ilen l)) ∧ ((Cont.pts l) = (Cont.pts l)) ∧ (((a1 : Int) = a1) ∧ ((a2 : Int) = a2) ∧ True) ∧ (((insB l a1 a2) : Bool) = (insB l a1 a2)) ∧ (((insB l a1 a2) : Bool) = (insB l a1 a2)) ∧ (((bite (insB l a1 a2) true (insB l b1 b2)) : Bool) = (bite (insB l a1 a2) true (insB l b1 b2))) ∧ (true = true) ∧ (true = true) ∧ ((Cont.pts l) = (Cont.pts l)) ∧ (((a1 : Int) = a1) ∧ ((a2 : Int) = a2) ∧ True) ∧ (((b1 : Int) = b1) ∧ ((b2 : Int) = b2) ∧ True) ∧ True) ∧ ((((a1 : Int) = a1) ∧ ((a2 : Int) = a2) ∧ True) ∧ (((b1 : Int) = b1) ∧ ((b2 : Int) = b2) ∧ True) ∧ True)) ∧ ((([GK.int, GK.bool] : List GK) = ([GK.int, GK.bool] : List GK)) ∧ I1 [GV.int (iadd i1_0 (1 : Int)), GV.bool b1_1] ∧ μ1 [GV.int (iadd i1_0 (1 : Int)), GV.bool b1_1] < μ1 [GV.int i1_0, GV.bool b1_1]))))) ∧ ((ilt i1_0 (ilen l)) = false → ((true = true) ∧ ((True) ∧ True) ∧ ((false : Bool) = (hitB l a1 a2 b1 b2)) ∧ True))))))) = ev sig_impl_hits xs_impl_hits Tryd.f99.ntmps (fun b => if b == 0 then [.v 19, .v 6] else []) (codeOf Tryd.f99) 0 (initS [.s (.view (.pts l)), .agg [.int a1, .int a2], .agg [.int b1, .int b2]]) (retK Tryd.f99.results.toList [.s (.bool (hitB l a1 a2 b1 b2))]) := by kernel_rfl
set_option maxHeartbeats 400000 in
theorem F_impl_hits : FunOK 99 g_impl_hits := by
  refine fun_F (by kernel_rfl) Tryd.func99 rfl (by kernel_rfl) sig_impl_hits_ok xs_impl_hits_ok ?_
  intro avs sg h hn hl
  unfold g_impl_hits at h
  split at h
  · rename_i l a1 a2 b1 b2
    injection h with h; subst h
    refine ⟨by kernel_rfl, fun b => if b == 0 then [.v 19, .v 6] else [], Eq.mp (V_impl_hits l a1 a2 b1 b2) ?_⟩
    simp only [true_and, and_true, implies_true, and_self, forall_const, true_implies, lenA, lenL, SV.lenOK, Cont.lenOK] at hn hl ⊢
    have h0 := ilen_0 l
    obtain ⟨ha, va, vb⟩ := hn
    simp only [ilt_t, ilt_f, ile_t, ile_f, ieq_t, ieq_f, bnot_e, band_e, bite_and, bite_or, NLt_e, NLe_e, NNe_e, NIs_e, imax_e, imin_e, irem_e, Bool.not_eq_true', Bool.not_eq_false', Bool.and_eq_true, Bool.or_eq_true, Bool.or_eq_false_iff, Bool.and_eq_false_iff, Cont.pts.injEq, Cont.ints.injEq, Cont.bools.injEq, Cont.ptss.injEq, Cont.intss.injEq, Cont.boolss.injEq, true_and, and_true, implies_true]
    refine ⟨?_, fun hi => ?_⟩
    · rintro (h | h) <;> simp [hitB, h]
    · refine ⟨fun | .int k :: _ => 0 ≤ k ∧ k ≤ ilen l ∧ (∀ i, 0 ≤ i → i < k → hitE l a1 a2 b1 b2 i = false) | _ => False, fun | .int k :: _ => (ilen l - k).toNat | _ => 0, ?_, ?_⟩
      · exact ⟨Int.le_refl 0, h0, fun j h0 h1 => absurd h1 (by omega)⟩
      · rintro k _ ⟨hk0, hk1, hk⟩
        simp only [ilt_t, ilt_f, ile_t, ile_f, ieq_t, ieq_f, bnot_e, band_e, bite_and, bite_or, NLt_e, NLe_e, NNe_e, NIs_e, imax_e, imin_e, irem_e, Bool.not_eq_true', Bool.not_eq_false', Bool.and_eq_true, Bool.or_eq_true, Bool.or_eq_false_iff, Bool.and_eq_false_iff, Cont.pts.injEq, Cont.ints.injEq, Cont.bools.injEq, Cont.ptss.injEq, Cont.intss.injEq, Cont.boolss.injEq, true_and, and_true, implies_true]
        refine ⟨fun hkn => ?_, fun hkn => ?_⟩
        · have e1 := iadd_1 hk0 hkn hl
          obtain ⟨n0, n1, _⟩ := nx_in hk0 hkn
          have e2 : (k + 1).tmod (ilen l) = nx l k := rfl
          simp only [e1, e2]
          have hne : ilen l ≠ 0 := by omega
          have v1 := allB_at ha hk0 hkn
          have v2 := allB_at ha n0 n1
          refine ⟨⟨hk0, hkn⟩, ⟨hne, ⟨n0, n1⟩, va, vb, v1, v2⟩, fun hx => ?_, fun hx => ?_⟩
          · have hE : hitE l a1 a2 b1 b2 k = true := hx
            simp [hitB, anyN_mk k hk0 hkn hE]
          · have hE : hitE l a1 a2 b1 b2 k = false := hx
            exact ⟨⟨by omega, by omega, upTo hk hE⟩, by omega⟩
        · have : anyN (ilen l) (hitE l a1 a2 b1 b2) = false := anyN_no fun j j0 j1 => hk j j0 (by omega)
          simp [hitB, hi.1, hi.2, this]
  · cases h
def g_impl_armClear : List AV → Option Sg
  | [.agg [.view (.ints a1), .view (.ints a2), .view (.ints a3)], .s (.view (.ints j)), .s (.view (.ptss l))] => some ⟨jvB a1 a2 a3 j = true ∧ sceneB l = true, [.s (.bool (acB a1 j l))]⟩
  | _ => none
def sig_impl_armClear : FuncId → List AV → Option Sg := sigL [(90, g_impl_armPoints), (99, g_impl_hits)]
def xs_impl_armClear : XS := ⟨xsigL [], ysigL []⟩
theorem sig_impl_armClear_ok : SigOK sig_impl_armClear := sigL_cons F_impl_armPoints (sigL_cons F_impl_hits sigL_nil)
theorem xs_impl_armClear_ok : XSigOK xs_impl_armClear := ⟨xsigL_nil, ysigL_nil⟩
theorem V_impl_armClear (a1 : List Int) (a2 : List Int) (a3 : List Int) (j : List Int) (l : List (List Pt)) : ((true = true) ∧ ((True) ∧ (True) ∧ True) ∧ (true = true) ∧ ((True) ∧ (True) ∧ ((jvB a1 a2 a3 j = true)) ∧ (True) ∧ True) ∧ (true = true) ∧ ((True) ∧ (True) ∧ (True) ∧ (True) ∧ True) ∧ ∃ (I1 : List GV → Prop) (μ1 : List GV → Nat), (((true = true) ∧ (((false : Bool) = false) ∧ (((0 : Int) : Int) = (0 : Int)) ∧ (true = true) ∧ (((ilen (apL a1 j (ilen a1 + 1))) : Int) = (ilen (apL a1 j (ilen a1 + 1)))) ∧ (((isub (ilen (apL a1 j (ilen a1 + 1))) (1 : Int)) : Int) = (isub (ilen (apL a1 j (ilen a1 + 1))) (1 : Int))) ∧ (((Cont.ints a1) = (Cont.ints a1)) ∧ ((Cont.ints a2) = (Cont.ints a2)) ∧ ((Cont.ints a3) = (Cont.ints a3)) ∧ True) ∧ ((Cont.ints j) = (Cont.ints j)) ∧ (true = true) ∧ (true = true) ∧ (true = true) ∧ (((Cont.ints a1) = (Cont.ints a1)) ∧ ((Cont.ints a2) = (Cont.ints a2)) ∧ ((Cont.ints a3) = (Cont.ints a3)) ∧ True) ∧ ((Cont.ints j) = (Cont.ints j)) ∧ ((Cont.ptss l) = (Cont.ptss l)) ∧ True) ∧ (((true = true) ∧ ((Cont.pts (apL a1 j (ilen a1 + 1))) = (Cont.pts (apL a1 j (ilen a1 + 1))))) ∧ (((Cont.ints a1) = (Cont.ints a1)) ∧ ((Cont.ints a2) = (Cont.ints a2)) ∧ ((Cont.ints a3) = (Cont.ints a3)) ∧ True) ∧ True)) ∧ (([GK.int, GK.bool] : List GK) = ([GK.int, GK.bool] : List GK)) ∧ I1 [GV.int (0 : Int), GV.bool false]) ∧ (∀ i1_0 : Int, ∀ b1_1 : Bool, I1 [GV.int i1_0, GV.bool b1_1] → ((true = true) ∧ ((True) ∧ True) ∧ ((ilt i1_0 (isub (ilen (apL a1 j (ilen a1 + 1))) (1 : Int))) = true → ((true = true) ∧ ((True) ∧ (True) ∧ True) ∧ (true = true) ∧ ((True) ∧ (True) ∧ (True) ∧ True) ∧ ∃ (I2 : List GV → Prop) (μ2 : List GV → Nat), (((true = true) ∧ (((b1_1 : Bool) = b1_1) ∧ (((0 : Int) : Int) = (0 : Int)) ∧ ((Cont.ptss l) = (Cont.ptss l)) ∧ (((ilen l) : Int) = (ilen l)) ∧ ((i1_0 : Int) = i1_0) ∧ ((i1_0 : Int) = i1_0) ∧ (((ilt i1_0 (isub (ilen (apL a1 j (ilen a1 + 1))) (1 : Int))) : Bool) = (ilt i1_0 (isub (ilen (apL a1 j (ilen a1 + 1))) (1 : Int)))) ∧ ((i1_0 : Int) = i1_0) ∧ (true = true) ∧ (((ilen (apL a1 j (ilen a1 + 1))) : Int) = (ilen (apL a1 j (ilen a1 + 1)))) ∧ (((isub (ilen (apL a1 j (ilen a1 + 1))) (1 : Int)) : Int) = (isub (ilen (apL a1 j (ilen a1 + 1))) (1 : Int))) ∧ (((Cont.ints a1) = (Cont.ints a1)) ∧ ((Cont.ints a2) = (Cont.ints a2)) ∧ ((Cont.ints a3) = (Cont.ints a3)) ∧ True) ∧ ((Cont.ints j) = (Cont.ints j)) ∧ (true = true) ∧ (true = true) ∧ (true = true) ∧ (((Cont.ints a1) = (Cont.ints a1)) ∧ ((Cont.ints a2) = (Cont.ints a2)) ∧ ((Cont.ints a3) = (Cont.ints a3)) ∧ True) ∧ ((Cont.ints j) = (Cont.ints j)) ∧ ((Cont.ptss l) = (Cont.ptss l)) ∧ True) ∧ (((true = true) ∧ ((Cont.pts (apL a1 j (ilen a1 + 1))) = (Cont.pts (apL a1 j (ilen a1 + 1))))) ∧ (((Cont.ints a1) = (Cont.ints a1)) ∧ ((Cont.ints a2) = (Cont.ints a2)) ∧ ((Cont.ints a3) = (Cont.ints a3)) ∧ True) ∧ True)) ∧ (([GK.int, GK.bool] : List GK) = ([GK.int, GK.bool] : List GK)) ∧ I2 [GV.int (0 : Int), GV.bool b1_1]) ∧ (∀ i2_0 : Int, ∀ b2_1 : Bool, I2 [GV.int i2_0, GV.bool b2_1] → ((true = true) ∧ ((True) ∧ True) ∧ ((ilt i2_0 (ilen l)) = true → ((true = true) ∧ ((NLe 0 i2_0 ∧ NLt i2_0 (ilen l)) ∧ (True) ∧ (True) ∧ True) ∧ (true = true) ∧ ((True) ∧ (True) ∧ (True) ∧ (NLe 0 i1_0 ∧ NLt i1_0 (ilen (apL a1 j (ilen a1 + 1)))) ∧ (NLt i1_0 (ilen (apL a1 j (ilen a1 + 1)))) ∧ (True) ∧ (True) ∧ (True) ∧ (NLe 0 (iadd i1_0 (1 : Int)) ∧ NLt (iadd i1_0 (1 : Int)) (ilen (apL a1 j (ilen a1 + 1)))) ∧ (NLt (iadd i1_0 (1 : Int)) (ilen (apL a1 j (ilen a1 + 1)))) ∧ ((allB (getl l i2_0) = true ∧ vB (getx (apL a1 j (ilen a1 + 1)) i1_0) (gety (apL a1 j (ilen a1 + 1)) i1_0) = true ∧ vB (getx (apL a1 j (ilen a1 + 1)) (iadd i1_0 (1 : Int))) (gety (apL a1 j (ilen a1 + 1)) (iadd i1_0 (1 : Int))) = true)) ∧ True) ∧ ((hitB (getl l i2_0) (getx (apL a1 j (ilen a1 + 1)) i1_0) (gety (apL a1 j (ilen a1 + 1)) i1_0) (getx (apL a1 j (ilen a1 + 1)) (iadd i1_0 (1 : Int))) (gety (apL a1 j (ilen a1 + 1)) (iadd i1_0 (1 : Int)))) = true → ((true = true) ∧ ((True) ∧ True) ∧ ((false : Bool) = (acB a1 j l)) ∧ True)) ∧ ((hitB (getl l i2_0) (getx (apL a1 j (ilen a1 + 1)) i1_0) (gety (apL a1 j (ilen a1 + 1)) i1_0) (getx (apL a1 j (ilen a1 + 1)) (iadd i1_0 (1 : Int))) (gety (apL a1 j (ilen a1 + 1)) (iadd i1_0 (1 : Int)))) = false → ((true = true) ∧ ((True) ∧ (True) ∧ True) ∧ ((true = true) ∧ (((b2_1 : Bool) = b2_1) ∧ (((iadd i2_0 (1 : Int)) : Int) = (iadd i2_0 (1 : Int))) ∧ ((Cont.ptss l) = (Cont.ptss l)) ∧ (((ilen l) : Int) = (ilen l)) ∧ ((i1_0 : Int) = i1_0) ∧ ((i1_0 : Int) = i1_0) ∧ (((ilt i1_0 (isub (ilen (apL a1 j (ilen a1 + 1))) (1 : Int))) : Bool) = (ilt i1_0 (isub (ilen (apL a1 j (ilen a1 + 1))) (1 : Int)))) ∧ ((i1_0 : Int) = i1_0) ∧ (true = true) ∧ (((ilen (apL a1 j (ilen a1 + 1))) : Int) = (ilen (apL a1 j (ilen a1 + 1)))) ∧ (((isub (ilen (apL a1 j (ilen a1 + 1))) (1 : Int)) : Int) = (isub (ilen (apL a1 j (ilen a1 + 1))) (1 : Int))) ∧ (((Cont.ints a1) = (Cont.ints a1)) ∧ ((Cont.ints a2) = (Cont.ints a2)) ∧ ((Cont.ints a3) = (Cont.ints a3)) ∧ True) ∧ ((Cont.ints j) = (Cont.ints j)) ∧ (true = true) ∧ (true = true) ∧ (true = true) ∧ (((Cont.ints a1) = (Cont.ints a1)) ∧ ((Cont.ints a2) = (Cont.ints a2)) ∧ ((Cont.ints a3) = (Cont.ints a3)) ∧ True) ∧ ((Cont.ints j) = (Cont.ints j)) ∧ ((Cont.ptss l) = (Cont.ptss l)) ∧ True) ∧ (((true = true) ∧ ((Cont.pts (apL a1 j (ilen a1 + 1))) = (Cont.pts (apL a1 j (ilen a1 + 1))))) ∧ (((Cont.ints a1) = (Cont.ints a1)) ∧ ((Cont.ints a2) = (Cont.ints a2)) ∧ ((Cont.ints a3) = (Cont.ints a3)) ∧ True) ∧ True)) ∧ ((([GK.int, GK.bool] : List GK) = ([GK.int, GK.bool] : List GK)) ∧ I2 [GV.int (iadd i2_0 (1 : Int)), GV.bool b2_1] ∧ μ2 [GV.int (iadd i2_0 (1 : Int)), GV.bool b2_1] < μ2 [GV.int i2_0, GV.bool b2_1]))))) ∧ ((ilt i2_0 (ilen l)) = false → ((true = true) ∧ ((True) ∧ (True) ∧ True) ∧ ((true = true) ∧ (((b2_1 : Bool) = b2_1) ∧ (((iadd i1_0 (1 : Int)) : Int) = (iadd i1_0 (1 : Int))) ∧ (true = true) ∧ (((ilen (apL a1 j (ilen a1 + 1))) : Int) = (ilen (apL a1 j (ilen a1 + 1)))) ∧ (((isub (ilen (apL a1 j (ilen a1 + 1))) (1 : Int)) : Int) = (isub (ilen (apL a1 j (ilen a1 + 1))) (1 : Int))) ∧ (((Cont.ints a1) = (Cont.ints a1)) ∧ ((Cont.ints a2) = (Cont.ints a2)) ∧ ((Cont.ints a3) = (Cont.ints a3)) ∧ True) ∧ ((Cont.ints j) = (Cont.ints j)) ∧ (true = true) ∧ (true = true) ∧ (true = true) ∧ (((Cont.ints a1) = (Cont.ints a1)) ∧ ((Cont.ints a2) = (Cont.ints a2)) ∧ ((Cont.ints a3) = (Cont.ints a3)) ∧ True) ∧ ((Cont.ints j) = (Cont.ints j)) ∧ ((Cont.ptss l) = (Cont.ptss l)) ∧ True) ∧ (((true = true) ∧ ((Cont.pts (apL a1 j (ilen a1 + 1))) = (Cont.pts (apL a1 j (ilen a1 + 1))))) ∧ (((Cont.ints a1) = (Cont.ints a1)) ∧ ((Cont.ints a2) = (Cont.ints a2)) ∧ ((Cont.ints a3) = (Cont.ints a3)) ∧ True) ∧ True)) ∧ ((([GK.int, GK.bool] : List GK) = ([GK.int, GK.bool] : List GK)) ∧ I1 [GV.int (iadd i1_0 (1 : Int)), GV.bool b2_1] ∧ μ1 [GV.int (iadd i1_0 (1 : Int)), GV.bool b2_1] < μ1 [GV.int i1_0, GV.bool b1_1]))))))) ∧ ((ilt i1_0 (isub (ilen (apL a1 j (ilen a1 + 1))) (1 : Int))) = false → ((true = true) ∧ ((True) ∧ True) ∧ ((true : Bool) = (acB a1 j l)) ∧ True))))) = ev sig_impl_armClear xs_impl_armClear Tryd.f63.ntmps (fun b => if b == 0 then [.v 17, .v 6] else if b == 2 then [.v 22, .v 6] else []) (codeOf Tryd.f63) 0 (initS [.agg [.view (.ints a1), .view (.ints a2), .view (.ints a3)], .s (.view (.ints j)), .s (.view (.ptss l))]) (retK Tryd.f63.results.toList [.s (.bool (acB a1 j l))]) := by kernel_rfl
set_option maxHeartbeats 400000 in
theorem F_impl_armClear : FunOK 63 g_impl_armClear := by
  refine fun_F (by kernel_rfl) Tryd.func63 rfl (by kernel_rfl) sig_impl_armClear_ok xs_impl_armClear_ok ?_
  intro avs sg h hn hl
  unfold g_impl_armClear at h
  split at h
  · rename_i a1 a2 a3 j l
    injection h with h; subst h
    refine ⟨by kernel_rfl, fun b => if b == 0 then [.v 17, .v 6] else if b == 2 then [.v 22, .v 6] else [], Eq.mp (V_impl_armClear a1 a2 a3 j l) ?_⟩
    simp only [true_and, and_true, implies_true, and_self, forall_const, true_implies, lenA, lenL, SV.lenOK, Cont.lenOK] at hn hl ⊢
    obtain ⟨hj, hs⟩ := hn
    simp only [ilt_t, ilt_f, ile_t, ile_f, ieq_t, ieq_f, bnot_e, band_e, bite_and, bite_or, NLt_e, NLe_e, NNe_e, NIs_e, imax_e, imin_e, irem_e, Bool.not_eq_true', Bool.not_eq_false', Bool.and_eq_true, Bool.or_eq_true, Bool.or_eq_false_iff, Bool.and_eq_false_iff, Cont.pts.injEq, Cont.ints.injEq, Cont.bools.injEq, Cont.ptss.injEq, Cont.intss.injEq, Cont.boolss.injEq, true_and, and_true, implies_true]
    refine ⟨hj, ?_⟩
    obtain ⟨ha, hjl, hl4, hlk, hjk⟩ := jv_p hj
    obtain ⟨s6, sat⟩ := scene_at hs
    have hl0 := ilen_0 l
    have hv := fun (k : Int) (h0 : 0 ≤ k) (h1 : k ≤ ilen a1) => jv_vB hj h0 h1
    have hlen : ilen (apL a1 j (ilen a1 + 1)) = ilen a1 + 1 := apL_len (by omega)
    have hg : ∀ i, 0 ≤ i → i ≤ ilen a1 → getx (apL a1 j (ilen a1 + 1)) i = apX a1 j i ∧ gety (apL a1 j (ilen a1 + 1)) i = apY a1 j i := fun i h0 h1 => apL_get h0 (by omega)
    rw [hlen]
    generalize apL a1 j (ilen a1 + 1) = P at *
    have es : isub (ilen a1 + 1) 1 = ilen a1 := by rw [isub_e (by omega) (by omega)]; omega
    rw [es]
    refine ⟨fun | [.int i, .bool _] => 0 ≤ i ∧ i ≤ ilen a1 ∧ (∀ a, 0 ≤ a → a < i → acN a1 j l a = true) | _ => False, fun | .int i :: _ => (ilen a1 - i).toNat | _ => 0, ⟨by omega, by omega, fun a h0 h1 => by omega⟩, ?_⟩
    rintro i b ⟨i0, i1, hi⟩
    have e1 : iadd i 1 = i + 1 := iadd_e (by omega) (by omega)
    rw [e1]
    refine ⟨fun hc => ?_, fun hc => ?_⟩
    · refine ⟨fun | [.int k, .bool _] => 0 ≤ k ∧ k ≤ ilen l ∧ (∀ m, 0 ≤ m → m < k → acE a1 j (getl l m) i = true) | _ => False, fun | .int k :: _ => (ilen l - k).toNat | _ => 0, ⟨by omega, by omega, fun m h0 h1 => by omega⟩, ?_⟩
      rintro k b2 ⟨k0, k1, hk⟩
      refine ⟨fun hc2 => ?_, fun hc2 => ?_⟩
      · obtain ⟨x1, y1⟩ := hg i (by omega) (by omega)
        obtain ⟨x2, y2⟩ := hg (i + 1) (by omega) (by omega)
        have e3 : iadd k 1 = k + 1 := iadd_e (by omega) (by omega)
        have hcv := (sat k k0 hc2).2
        rw [x1, y1, x2, y2, e3]
        refine ⟨⟨k0, hc2⟩, ⟨⟨by omega, by omega⟩, by omega, ⟨by omega, by omega⟩, by omega, hcv, hv _ (by omega) (by omega), hv _ (by omega) (by omega)⟩, fun hm => ?_, fun hm => ?_⟩
        · have hE : acE a1 j (getl l k) i = false := by unfold acE; rw [hm]; rfl
          have hN : acN a1 j l i = false := by unfold acN; exact allN_no (f := fun o => acE a1 j (getl l o) i) k k0 hc2 hE
          unfold acB
          rw [allN_no (f := acN a1 j l) i i0 (by omega) hN]
        · have hE : acE a1 j (getl l k) i = true := by unfold acE; rw [hm]; rfl
          exact ⟨⟨by omega, by omega, fun m m0 m1 => by
            by_cases h : m = k
            · rw [h]; exact hE
            · exact hk m m0 (by omega)⟩, by show (ilen l - (k + 1)).toNat < (ilen l - k).toNat; omega⟩
      · exact ⟨⟨by omega, by omega, fun a h0 h1 => by
          by_cases h : a = i
          · rw [h]; unfold acN; exact allN_mk fun m m0 m1 => hk m m0 (by omega)
          · exact hi a h0 (by omega)⟩, by show (ilen a1 - (i + 1)).toNat < (ilen a1 - i).toNat; omega⟩
    · unfold acB
      rw [allN_mk fun a h0 h1 => hi a h0 (by omega)]
  · cases h
def g_impl_ArmClear : List AV → Option Sg
  | [.agg [.view (.ints a1), .view (.ints a2), .view (.ints a3)], .s (.view (.ints j)), .s (.view (.ptss l))] => some ⟨True, [.s (.bool (jvB a1 a2 a3 j && sceneB l && acB a1 j l))]⟩
  | _ => none
def sig_impl_ArmClear : FuncId → List AV → Option Sg := sigL [(48, g_impl_JointsValid), (62, g_impl_SceneValid), (63, g_impl_armClear)]
def xs_impl_ArmClear : XS := ⟨xsigL [], ysigL []⟩
theorem sig_impl_ArmClear_ok : SigOK sig_impl_ArmClear := sigL_cons F_impl_JointsValid (sigL_cons F_impl_SceneValid (sigL_cons F_impl_armClear sigL_nil))
theorem xs_impl_ArmClear_ok : XSigOK xs_impl_ArmClear := ⟨xsigL_nil, ysigL_nil⟩
theorem V_impl_ArmClear (a1 : List Int) (a2 : List Int) (a3 : List Int) (j : List Int) (l : List (List Pt)) : ((true = true) ∧ ((True) ∧ (True) ∧ True) ∧ (true = true) ∧ ((True) ∧ (True) ∧ ((True)) ∧ (True) ∧ (NIs (jvB a1 a2 a3 j) true → True) ∧ (NIs (jvB a1 a2 a3 j) true → (True)) ∧ (True) ∧ (True) ∧ (NIs (bite (jvB a1 a2 a3 j) (sceneB l) false) true → True) ∧ (NIs (bite (jvB a1 a2 a3 j) (sceneB l) false) true → True) ∧ (NIs (bite (jvB a1 a2 a3 j) (sceneB l) false) true → True) ∧ (NIs (bite (jvB a1 a2 a3 j) (sceneB l) false) true → ((jvB a1 a2 a3 j = true ∧ sceneB l = true))) ∧ (True) ∧ (True) ∧ True) ∧ (((bite (bite (jvB a1 a2 a3 j) (sceneB l) false) (acB a1 j l) false) : Bool) = (jvB a1 a2 a3 j && sceneB l && acB a1 j l)) ∧ True) = ev sig_impl_ArmClear xs_impl_ArmClear Tryd.f19.ntmps (fun b => []) (codeOf Tryd.f19) 0 (initS [.agg [.view (.ints a1), .view (.ints a2), .view (.ints a3)], .s (.view (.ints j)), .s (.view (.ptss l))]) (retK Tryd.f19.results.toList [.s (.bool (jvB a1 a2 a3 j && sceneB l && acB a1 j l))]) := by kernel_rfl
set_option maxHeartbeats 400000 in
theorem F_impl_ArmClear : FunOK 19 g_impl_ArmClear := by
  refine fun_F (by kernel_rfl) Tryd.func19 rfl (by kernel_rfl) sig_impl_ArmClear_ok xs_impl_ArmClear_ok ?_
  intro avs sg h hn hl
  unfold g_impl_ArmClear at h
  split at h
  · rename_i a1 a2 a3 j l
    injection h with h; subst h
    refine ⟨by kernel_rfl, fun b => [], Eq.mp (V_impl_ArmClear a1 a2 a3 j l) ?_⟩
    simp only [true_and, and_true, implies_true, and_self, forall_const, true_implies, lenA, lenL, SV.lenOK, Cont.lenOK] at hn hl ⊢
    simp only [ilt_t, ilt_f, ile_t, ile_f, ieq_t, ieq_f, bnot_e, band_e, bite_and, bite_or, NLt_e, NLe_e, NNe_e, NIs_e, imax_e, imin_e, irem_e, Bool.not_eq_true', Bool.not_eq_false', Bool.and_eq_true, Bool.or_eq_true, Bool.or_eq_false_iff, Bool.and_eq_false_iff, Cont.pts.injEq, Cont.ints.injEq, Cont.bools.injEq, Cont.ptss.injEq, Cont.intss.injEq, Cont.boolss.injEq, true_and, and_true, implies_true]
    exact fun h => h
  · cases h
theorem reads_bel {L0 : Nat → Prop} {w w' : World} {v : Value} {c : Cont} (h : Reads L0 w v c) (hb : Bel w w') : Reads L0 w' v c :=
  Reads.evo (E := EL L0) (E' := EL L0) (grown_evo (bel_grown hb)) h
theorem hasL_bel {L0 : Nat → Prop} {w w' : World} {vs : List Value} {l : List SV} (hb : Bel w w') (h : hasL (EL L0) w vs l) : hasL (EL L0) w' vs l :=
  hasL_evo (grown_evo (bel_grown hb)) (fun _ _ _ _ => rfl) h
theorem ltI_bel {L0 : Nat → Prop} {w w' : World} (h : LtI L0 w) (hb : Bel w w') : LtI L0 w' := h.grow (bel_grown hb) (fun b e => by cases e)
/-- The closure: a row of which the arm is not clear. -/
theorem clo_x {L0 : Nat → Prop} {w : World} {a1 a2 a3 m : List Int} {l : List (List Pt)} {x1 x2 x3 vl vr : Value} {g1 g2 : Nat} {e1 e2 : TypeId} (hL : LtI L0 w)
    (h1 : w.heap[g1]? = some (.cells #[x1, x2, x3] e1 (0, 0))) (h2 : w.heap[g2]? = some (.cells #[vl] e2 (0, 0)))
    (hA : hasL (EL L0) w [x1, x2, x3] [.view (.ints a1), .view (.ints a2), .view (.ints a3)]) (hl : Reads L0 w vl (.ptss l)) (hr : Reads L0 w vr (.ints m)) :
    Calls Tryd.prog 80 #[vr, .pointer (some ⟨g1, 0, none⟩), .pointer (some ⟨g2, 0, none⟩)] w fun e w' => e = .returned (.bool (!fcE a1 a2 a3 l m)) ∧ Bel w w' := by
  have c1 : w.cell? ⟨g1, 0, none⟩ = some x1 := cell_of_row w g1 0 _ _ _ h1
  have c2 : w.cell? ⟨g1, 1, none⟩ = some x2 := cell_of_row w g1 1 _ _ _ h1
  have c3 : w.cell? ⟨g1, 2, none⟩ = some x3 := cell_of_row w g1 2 _ _ _ h1
  have c4 : w.cell? ⟨g2, 0, none⟩ = some vl := cell_of_row w g2 0 _ _ _ h2
  have hc := F_impl_ArmClear [.agg [.view (.ints a1), .view (.ints a2), .view (.ints a3)], .s (.view (.ints m)), .s (.view (.ptss l))] _ rfl trivial L0 #[.agg #[x1, x2, x3], vr, vl] w hL ⟨⟨_, rfl, hA⟩, hr, hl, trivial⟩
  have HC := Lib.hid hc.2
  clear hc h1 h2 hA hl hr hL
  go_enter Tryd.func80, Tryd.ntmps80
  go_wp2_with (go_at_call 19; refine HC.out.mono ?_; rintro e w' ⟨v, rfl, hv, hb⟩; obtain rfl : v = .bool (fcE a1 a2 a3 l m) := hv)
  go_ret
  exact ⟨rfl, by assumption⟩
set_option maxHeartbeats 1000000 in
theorem idx_x {L0 : Nat → Prop} {w : World} {a1 a2 a3 : List Int} {r : List (List Int)} {l : List (List Pt)} {x1 x2 x3 vl vr : Value} {g1 g2 : Nat} {e1 e2 : TypeId} (hL : LtI L0 w)
    (h1 : w.heap[g1]? = some (.cells #[x1, x2, x3] e1 (0, 0))) (h2 : w.heap[g2]? = some (.cells #[vl] e2 (0, 0)))
    (hA : hasL (EL L0) w [x1, x2, x3] [.view (.ints a1), .view (.ints a2), .view (.ints a3)]) (hl : Reads L0 w vl (.ptss l)) (hr : Reads L0 w vr (.intss r)) :
    Calls Tryd.prog 79 #[vr, .func (.func 80) #[] #[.pointer (some ⟨g1, 0, none⟩), .pointer (some ⟨g2, 0, none⟩)]] w fun e w' => e = .returned (.int .i64 (firstN (ilen r) (fun i => fcE a1 a2 a3 l (getl r i)))) ∧ Bel w w' := by
  have hlt1 := heap_lt h1
  have hlt2 := heap_lt h2
  obtain ⟨xs, ⟨A, cap, rfl, hc1, hc2, hxl, hcell⟩, hxn, hin⟩ := hr
  have hm : maxLen = 9223372036854775807 := by decide
  have hn : r.length ≤ 9223372036854775807 := by have : r.length ≤ cap := hc1; omega
  have hxl' : xs.length = r.length := by rw [hxl]; show r.length * 1 = _; omega
  have hcell' : 0 < r.length → ∃ b off, A = some ⟨b, off, none⟩ ∧ b < w.heap.size ∧ ¬ L0 b ∧ ∀ (j : Nat) (u : Value), xs[j]? = some u → w.cell? ⟨b, off + j, none⟩ = some u := hcell
  have hc1' : r.length ≤ cap := hc1
  clear hcell hc1 hxl
  show Calls _ _ #[.slice A r.length cap, _] _ _
  have eg : ∀ args w, (callFunc 80 args).run Tryd.prog w = .ok (.enter 80 args) w := enters_of Tryd.func80 (by kernel_rfl) rfl
  go_enter Tryd.func79, Tryd.ntmps79
  go_wp2
  go_loopw [8] (fun i wr => ∃ k : Nat, k ≤ r.length ∧ i = .int .i64 k ∧ (∀ j : Int, 0 ≤ j → j < k → fcE a1 a2 a3 l (getl r j) = true) ∧ Bel w wr) (fun i _ => r.length - (intOf i).toNat)
  case atStart => exact ⟨0, Nat.zero_le _, rfl, fun j j0 j1 => by omega, Bel.refl _⟩
  case round =>
    obtain ⟨k, hk, rfl, hall, hb⟩ := hrel
    by_cases hlt : k < r.length
    · obtain ⟨b, off, rfl, hbs, hbl, hcell⟩ := hcell' (by omega)
      have hk2 : k < xs.length := by omega
      have c1 := hb.cell hbs (hcell k _ (List.getElem?_eq_getElem hk2))
      have hrow : Reads L0 w xs[k] (.ints r[k]) := ⟨_, hin k _ _ (List.getElem?_eq_getElem hk2) (List.getElem?_eq_getElem hlt), rfl⟩
      have eg1 : getl r k = r[k] := by unfold getl; simp [List.getD_eq_getElem?_getD, hlt]
      have hcl := fun (wq : World) (hq : Bel w wq) => clo_x (ltI_bel hL hq) ((hq.block g1 hlt1).trans h1) ((hq.block g2 hlt2).trans h2) (hasL_bel hq hA) (reads_bel hl hq) (reads_bel hrow hq)
      have HCL := Lib.hid hcl
      have HB := Lib.hid hb
      clear hcl hcell hcell' hin hA hl hrow h1 h2
      go_wp2_with (go_at_call 80; refine (HCL.out _ (by first | exact HB.out | exact HB.out.drew)).mono ?_; rintro e w1 ⟨rfl, hb1⟩)
      · have h : (!fcE a1 a2 a3 l r[k]) = true := by assumption
        go_ret
        refine ⟨ret_int (firstN_at (by omega) (by unfold ilen; omega) (by rw [eg1]; simpa using h) hall).symm, (by repeat (first | assumption | exact Bel.refl _ | refine Bel.alloc ?_ _ | refine Bel.drew ?_ | refine Bel.drewN ?_ _ | (apply Bel.snart; assumption)))⟩
      · have h : (!fcE a1 a2 a3 l r[k]) = false := by assumption
        have h' : fcE a1 a2 a3 l r[k] = true := by simpa using h
        clear h
        go_roundw
        case rel => exact ⟨k + 1, by omega, by go_num, fun j j0 j1 => by
          by_cases hj : j < k
          · exact hall j j0 hj
          · rw [show j = (k : Int) by omega, eg1]; exact h', (by repeat (first | assumption | exact Bel.refl _ | refine Bel.alloc ?_ _ | refine Bel.drew ?_ | refine Bel.drewN ?_ _ | (apply Bel.snart; assumption)))⟩
        case measure => simp [intOf]; omega
    · go_wp2
      go_ret
      refine ⟨ret_int (firstN_no fun j j0 j1 => hall j j0 (by unfold ilen at j1; omega)).symm, hb⟩
set_option maxHeartbeats 1000000 in
theorem fc_x {L0 : Nat → Prop} {w : World} {a1 a2 a3 : List Int} {r : List (List Int)} {l : List (List Pt)} {x1 x2 x3 vl vr : Value} (hL : LtI L0 w)
    (hA : hasL (EL L0) w [x1, x2, x3] [.view (.ints a1), .view (.ints a2), .view (.ints a3)]) (hl : Reads L0 w vl (.ptss l)) (hr : Reads L0 w vr (.intss r)) :
    Calls Tryd.prog 33 #[.agg #[x1, x2, x3], vr, vl] w fun e w' => e = .returned (.int .i64 (fcF a1 a2 a3 r l)) ∧ Bel w w' := by
  have hmf : ∀ (fn : Fn) (first cap : Array Value) (w : World), (Instr.makeFunc fn first cap).run Tryd.prog w = .ok (.func fn first cap) w := fun _ _ _ _ => rfl
  obtain ⟨A, cap, hvr, hcap⟩ : ∃ A cap, vr = .slice A r.length cap ∧ r.length ≤ 9223372036854775807 := by
    obtain ⟨xs, ⟨A, cap, e, q1, q2, _⟩, _⟩ := hr
    have hm : maxLen = 9223372036854775807 := by decide
    have q1' : r.length ≤ cap := q1
    exact ⟨A, cap, e, by omega⟩
  obtain ⟨B, capB, hvl⟩ : ∃ B capB, vl = .slice B l.length capB := by
    obtain ⟨xs, ⟨B, capB, e, _⟩, _⟩ := hl
    exact ⟨B, capB, e⟩
  obtain ⟨W, hW⟩ : ∃ W, W = (w.alloc (.cells #[x1, x2, x3] 25 (0, 0))).alloc (.cells #[vl] 26 (0, 0)) := ⟨_, rfl⟩
  have hWb : Bel w W := by rw [hW]; exact ((Bel.refl w).alloc _).alloc _
  have b1 : W.heap[w.heap.size]? = some (.cells #[x1, x2, x3] 25 (0, 0)) := by
    rw [hW]
    show ((w.heap.push _).push _)[w.heap.size]? = _
    rw [Array.getElem?_push, if_neg (by rw [Array.size_push]; omega), Array.getElem?_push, if_pos rfl]
  have b2 : W.heap[w.heap.size + 1]? = some (.cells #[vl] 26 (0, 0)) := by
    rw [hW]
    show ((w.heap.push _).push _)[w.heap.size + 1]? = _
    rw [Array.getElem?_push, if_pos (by rw [Array.size_push])]
  have hav := F_impl_ArmValid [.agg [.view (.ints a1), .view (.ints a2), .view (.ints a3)]] _ rfl trivial
  have hsv := F_impl_SceneValid [.s (.view (.ptss l))] _ rfl trivial
  have HAV := Lib.hid (fun (wq : World) (hq : Bel W wq) => (hav L0 #[.agg #[x1, x2, x3]] wq (ltI_bel hL (hWb.trans hq)) ⟨⟨_, rfl, hasL_bel (hWb.trans hq) hA⟩, trivial⟩).2)
  have HSV := Lib.hid (fun (wq : World) (hq : Bel W wq) => (hsv L0 #[vl] wq (ltI_bel hL (hWb.trans hq)) ⟨reads_bel hl (hWb.trans hq), trivial⟩).2)
  have HIX := Lib.hid (fun (wq : World) (hq : Bel W wq) => idx_x (vr := vr) (ltI_bel hL (hWb.trans hq)) ((hq.block _ (heap_lt b1)).trans b1) ((hq.block _ (heap_lt b2)).trans b2) (hasL_bel (hWb.trans hq) hA) (reads_bel hl (hWb.trans hq)) (reads_bel hr (hWb.trans hq)))
  have CB := Lib.hid (fun (wq : World) (hq : Bel W wq) => (cell_of_row wq (w.heap.size + 1) 0 _ _ _ ((hq.block _ (heap_lt b2)).trans b2) : wq.cell? ⟨w.heap.size + 1, 0, none⟩ = some vl))
  have HB := Lib.hid hWb
  clear hav hsv hA hl hr hL
  subst hvr
  subst hW
  subst hvl
  have e400 : ∀ n : Nat, decide ((400 : Int) < n) = !decide ((n : Int) ≤ 400) := fun n => by
    by_cases h : (400 : Int) < n <;> simp [h] <;> omega
  clear b1 b2 hWb
  cases hA : armB a1 a2 a3
  all_goals cases hS : sceneB l
  all_goals by_cases h4 : r.length ≤ 400
  all_goals
    go_enter Tryd.func33, Tryd.ntmps33
    go_wp2_with (first
      | (go_at_call 66; refine (HAV.out _ (by first | exact Bel.refl _ | assumption)).mono ?_; rintro e wa ⟨v, rfl, hv, hba⟩; obtain rfl : v = .bool (armB a1 a2 a3) := hv; rw [hA]; have cB := CB.out _ hba)
      | (go_at_call 62; refine (HSV.out _ (by assumption)).mono ?_; rintro e wb ⟨v, rfl, hv, hbb⟩; obtain rfl : v = .bool (sceneB l) := hv; rw [hS])
      | (go_at_call 79; refine (HIX.out _ (by apply Bel.trans <;> assumption)).mono ?_; rintro e wc ⟨rfl, hbc⟩))
  all_goals have HB2 := HB.out
  all_goals go_ret
  all_goals refine ⟨ret_int ?_, ?_⟩
  all_goals first
    | (show _ = fcF _ _ _ _ _; unfold fcF; rw [hA]; simp; done)
    | (show _ = fcF _ _ _ _ _; unfold fcF; rw [hA, hS]; simp; done)
    | (show (-2 : Int) = fcF _ _ _ _ _; have q : (!decide ((r.length : Int) ≤ 400)) = true := by assumption
       have q2 : ¬ ilen r ≤ 400 := by (unfold ilen; simpa using q)
       unfold fcF; rw [hA, hS]; simp [q2]; done)
    | (show firstN _ _ = fcF _ _ _ _ _; have q : (!decide ((r.length : Int) ≤ 400)) = false := by assumption
       have q2 : ilen r ≤ 400 := by (unfold ilen; simpa using q)
       unfold fcF; rw [hA, hS]; simp [q2]; done)
    | (apply Bel.trans HB2; first | assumption | (apply Bel.trans; assumption; assumption) | (apply Bel.trans; assumption; apply Bel.trans; assumption; assumption))


theorem F_impl_FirstContact : FunOK 33 g_impl_FirstContact := by
  intro avs sg hg hn L0 args w hL hA
  refine ⟨callFunc_enter Tryd.func33 (by kernel_rfl) (by kernel_rfl) _ w, ?_⟩
  unfold g_impl_FirstContact at hg
  split at hg
  · rename_i a1 a2 a3 r l
    injection hg with hg; subst hg
    obtain ⟨al⟩ := args
    match al, hA with
    | [va, vr, vl], hA =>
      obtain ⟨⟨cs, e1, h1⟩, h2, h3, _⟩ := hA
      obtain ⟨cl⟩ := cs
      match cl, h1 with
      | [x1, x2, x3], h1 =>
        subst e1
        refine (fc_x hL h1 h3 h2).mono ?_
        rintro e w' ⟨rfl, hb⟩
        exact ⟨_, rfl, rfl, hb⟩
  · cases hg
def eqI (l m : List Int) : Bool := decide (ilen l = ilen m) && allN (ilen l) fun j => decide (geti l j = geti m j)
theorem eqI_same (l : List Int) : eqI l l = true := by
  unfold eqI
  rw [allN_mk fun j _ _ => by simp]
  simp
def g_laws_eqIntS : List AV → Option Sg
  | [.s (.view (.ints l)), .s (.view (.ints m))] => some ⟨True, [.s (.bool (eqI l m))]⟩
  | _ => none
def sig_laws_eqIntS : FuncId → List AV → Option Sg := sigL []
def xs_laws_eqIntS : XS := ⟨xsigL [], ysigL []⟩
theorem sig_laws_eqIntS_ok : SigOK sig_laws_eqIntS := sigL_nil
theorem xs_laws_eqIntS_ok : XSigOK xs_laws_eqIntS := ⟨xsigL_nil, ysigL_nil⟩
theorem V_laws_eqIntS (l : List Int) (m : List Int) : ((true = true) ∧ ((True) ∧ True) ∧ (true = true) ∧ ((True) ∧ (True) ∧ (True) ∧ (True) ∧ (True) ∧ True) ∧ ((bnot (ieq (ilen l) (ilen m))) = true → ((true = true) ∧ ((True) ∧ True) ∧ ((false : Bool) = (eqI l m)) ∧ True)) ∧ ((bnot (ieq (ilen l) (ilen m))) = false → ((true = true) ∧ ((True) ∧ True) ∧ ∃ (I1 : List GV → Prop) (μ1 : List GV → Nat), (((true = true) ∧ (((false : Bool) = false) ∧ (((0 : Int) : Int) = (0 : Int)) ∧ ((Cont.ints l) = (Cont.ints l)) ∧ (((ilen l) : Int) = (ilen l)) ∧ ((Cont.ints m) = (Cont.ints m)) ∧ (((ilen m) : Int) = (ilen m)) ∧ (((bnot (ieq (ilen l) (ilen m))) : Bool) = (bnot (ieq (ilen l) (ilen m)))) ∧ ((Cont.ints l) = (Cont.ints l)) ∧ ((Cont.ints m) = (Cont.ints m)) ∧ True) ∧ (True)) ∧ (([GK.int, GK.bool] : List GK) = ([GK.int, GK.bool] : List GK)) ∧ I1 [GV.int (0 : Int), GV.bool false]) ∧ (∀ i1_0 : Int, ∀ b1_1 : Bool, I1 [GV.int i1_0, GV.bool b1_1] → ((true = true) ∧ ((True) ∧ (True) ∧ (True) ∧ (True) ∧ True) ∧ ((ilt i1_0 (ilen l)) = true → ((true = true) ∧ ((True) ∧ (True) ∧ (NLe 0 i1_0 ∧ NLt i1_0 (ilen l)) ∧ (True) ∧ (True) ∧ (True) ∧ (NLe 0 i1_0 ∧ NLt i1_0 (ilen m)) ∧ (True) ∧ (True) ∧ True) ∧ ((bnot (ieq (geti l i1_0) (geti m i1_0))) = true → ((true = true) ∧ ((True) ∧ True) ∧ ((false : Bool) = (eqI l m)) ∧ True)) ∧ ((bnot (ieq (geti l i1_0) (geti m i1_0))) = false → ((true = true) ∧ ((True) ∧ (True) ∧ (True) ∧ True) ∧ ((true = true) ∧ (((b1_1 : Bool) = b1_1) ∧ (((iadd i1_0 (1 : Int)) : Int) = (iadd i1_0 (1 : Int))) ∧ ((Cont.ints l) = (Cont.ints l)) ∧ (((ilen l) : Int) = (ilen l)) ∧ ((Cont.ints m) = (Cont.ints m)) ∧ (((ilen m) : Int) = (ilen m)) ∧ (((bnot (ieq (ilen l) (ilen m))) : Bool) = (bnot (ieq (ilen l) (ilen m)))) ∧ ((Cont.ints l) = (Cont.ints l)) ∧ ((Cont.ints m) = (Cont.ints m)) ∧ True) ∧ (True)) ∧ ((([GK.int, GK.bool] : List GK) = ([GK.int, GK.bool] : List GK)) ∧ I1 [GV.int (iadd i1_0 (1 : Int)), GV.bool b1_1] ∧ μ1 [GV.int (iadd i1_0 (1 : Int)), GV.bool b1_1] < μ1 [GV.int i1_0, GV.bool b1_1]))))) ∧ ((ilt i1_0 (ilen l)) = false → ((true = true) ∧ ((True) ∧ True) ∧ ((true : Bool) = (eqI l m)) ∧ True))))))) = ev sig_laws_eqIntS xs_laws_eqIntS Tryd.f45.ntmps (fun b => if b == 0 then [.v 5, .v 4] else []) (codeOf Tryd.f45) 0 (initS [.s (.view (.ints l)), .s (.view (.ints m))]) (retK Tryd.f45.results.toList [.s (.bool (eqI l m))]) := by kernel_rfl
set_option maxHeartbeats 400000 in
theorem F_laws_eqIntS : FunOK 45 g_laws_eqIntS := by
  refine fun_F (by kernel_rfl) Tryd.func45 rfl (by kernel_rfl) sig_laws_eqIntS_ok xs_laws_eqIntS_ok ?_
  intro avs sg h hn hl
  unfold g_laws_eqIntS at h
  split at h
  · rename_i l m
    injection h with h; subst h
    refine ⟨by kernel_rfl, fun b => if b == 0 then [.v 5, .v 4] else [], Eq.mp (V_laws_eqIntS l m) ?_⟩
    simp only [true_and, and_true, implies_true, and_self, forall_const, true_implies, lenA, lenL, SV.lenOK, Cont.lenOK] at hn hl ⊢
    have h0 := ilen_0 l
    simp only [ilt_t, ilt_f, ile_t, ile_f, ieq_t, ieq_f, bnot_e, band_e, bite_and, bite_or, NLt_e, NLe_e, NNe_e, NIs_e, imax_e, imin_e, irem_e, Bool.not_eq_true', Bool.not_eq_false', Bool.and_eq_true, Bool.or_eq_true, Bool.or_eq_false_iff, Bool.and_eq_false_iff, Cont.pts.injEq, Cont.ints.injEq, Cont.bools.injEq, Cont.ptss.injEq, Cont.intss.injEq, Cont.boolss.injEq, true_and, and_true, implies_true]
    unfold eqI
    refine ⟨fun h => by simp [h], fun h => ?_⟩
    refine ⟨fun | .int k :: _ => 0 ≤ k ∧ k ≤ ilen l ∧ ∀ j, 0 ≤ j → j < k → decide (geti l j = geti m j) = true | _ => False, fun | .int k :: _ => (ilen l - k).toNat | _ => 0, ?_, ?_⟩
    · exact ⟨Int.le_refl 0, h0, fun j h0 h1 => absurd h1 (by omega)⟩
    · rintro k _ ⟨hk0, hk1, hk⟩
      simp only [ilt_t, ilt_f, ile_t, ile_f, ieq_t, ieq_f, bnot_e, band_e, bite_and, bite_or, NLt_e, NLe_e, NNe_e, NIs_e, imax_e, imin_e, irem_e, Bool.not_eq_true', Bool.not_eq_false', Bool.and_eq_true, Bool.or_eq_true, Bool.or_eq_false_iff, Bool.and_eq_false_iff, Cont.pts.injEq, Cont.ints.injEq, Cont.bools.injEq, Cont.ptss.injEq, Cont.intss.injEq, Cont.boolss.injEq, true_and, and_true, implies_true]
      refine ⟨fun hc => ⟨⟨⟨hk0, hc⟩, hk0, by omega⟩, fun hv => ?_, fun hv => ?_⟩, fun hc => ?_⟩
      · rw [allN_no k hk0 hc (by simpa using hv)]; simp
      · rw [iadd_1 hk0 hc hl.1]
        exact ⟨⟨by omega, by omega, allN_up hk (by simpa using hv)⟩, by omega⟩
      · rw [allN_mk fun j h0 h1 => hk j h0 (by omega)]; simp [h]
  · cases h
def g_laws_eqArm : List AV → Option Sg
  | [.agg [.view (.ints a1), .view (.ints a2), .view (.ints a3)], .agg [.view (.ints b1), .view (.ints b2), .view (.ints b3)]] => some ⟨True, [.s (.bool (eqI a1 b1 && eqI a2 b2 && eqI a3 b3))]⟩
  | _ => none
def sig_laws_eqArm : FuncId → List AV → Option Sg := sigL [(45, g_laws_eqIntS)]
def xs_laws_eqArm : XS := ⟨xsigL [], ysigL []⟩
theorem sig_laws_eqArm_ok : SigOK sig_laws_eqArm := sigL_cons F_laws_eqIntS sigL_nil
theorem xs_laws_eqArm_ok : XSigOK xs_laws_eqArm := ⟨xsigL_nil, ysigL_nil⟩
theorem V_laws_eqArm (a1 : List Int) (a2 : List Int) (a3 : List Int) (b1 : List Int) (b2 : List Int) (b3 : List Int) : ((true = true) ∧ ((True) ∧ (True) ∧ (True) ∧ True) ∧ (true = true) ∧ ((True) ∧ (True) ∧ (True) ∧ (True) ∧ ((True)) ∧ (True) ∧ True) ∧ ((bnot (eqI a1 b1)) = true → ((true = true) ∧ ((True) ∧ True) ∧ ((false : Bool) = (eqI a1 b1 && eqI a2 b2 && eqI a3 b3)) ∧ True)) ∧ ((bnot (eqI a1 b1)) = false → ((true = true) ∧ ((True) ∧ (True) ∧ (True) ∧ (True) ∧ ((True)) ∧ (True) ∧ True) ∧ ((bnot (eqI a2 b2)) = true → ((true = true) ∧ ((True) ∧ True) ∧ ((false : Bool) = (eqI a1 b1 && eqI a2 b2 && eqI a3 b3)) ∧ True)) ∧ ((bnot (eqI a2 b2)) = false → ((true = true) ∧ ((True) ∧ (True) ∧ (True) ∧ (True) ∧ ((True)) ∧ (True) ∧ True) ∧ ((bnot (eqI a3 b3)) = true → ((true = true) ∧ ((True) ∧ True) ∧ ((false : Bool) = (eqI a1 b1 && eqI a2 b2 && eqI a3 b3)) ∧ True)) ∧ ((bnot (eqI a3 b3)) = false → ((true = true) ∧ ((True) ∧ True) ∧ ((true : Bool) = (eqI a1 b1 && eqI a2 b2 && eqI a3 b3)) ∧ True))))))) = ev sig_laws_eqArm xs_laws_eqArm Tryd.f26.ntmps (fun b => []) (codeOf Tryd.f26) 0 (initS [.agg [.view (.ints a1), .view (.ints a2), .view (.ints a3)], .agg [.view (.ints b1), .view (.ints b2), .view (.ints b3)]]) (retK Tryd.f26.results.toList [.s (.bool (eqI a1 b1 && eqI a2 b2 && eqI a3 b3))]) := by kernel_rfl
set_option maxHeartbeats 400000 in
theorem F_laws_eqArm : FunOK 26 g_laws_eqArm := by
  refine fun_F (by kernel_rfl) Tryd.func26 rfl (by kernel_rfl) sig_laws_eqArm_ok xs_laws_eqArm_ok ?_
  intro avs sg h hn hl
  unfold g_laws_eqArm at h
  split at h
  · rename_i a1 a2 a3 b1 b2 b3
    injection h with h; subst h
    refine ⟨by kernel_rfl, fun b => [], Eq.mp (V_laws_eqArm a1 a2 a3 b1 b2 b3) ?_⟩
    simp only [true_and, and_true, implies_true, and_self, forall_const, true_implies, lenA, lenL, SV.lenOK, Cont.lenOK] at hn hl ⊢
    simp only [ilt_t, ilt_f, ile_t, ile_f, ieq_t, ieq_f, bnot_e, band_e, bite_and, bite_or, NLt_e, NLe_e, NNe_e, NIs_e, imax_e, imin_e, irem_e, Bool.not_eq_true', Bool.not_eq_false', Bool.and_eq_true, Bool.or_eq_true, Bool.or_eq_false_iff, Bool.and_eq_false_iff, Cont.pts.injEq, Cont.ints.injEq, Cont.bools.injEq, Cont.ptss.injEq, Cont.intss.injEq, Cont.boolss.injEq, true_and, and_true, implies_true]
    cases eqI a1 b1 <;> cases eqI a2 b2 <;> cases eqI a3 b3 <;> simp
  · cases h
def eqII (l m : List (List Int)) : Bool := decide (ilen l = ilen m) && allN (ilen l) fun j => eqI (getl l j) (getl m j)
theorem eqII_same (l : List (List Int)) : eqII l l = true := by
  unfold eqII
  rw [allN_mk fun j _ _ => eqI_same _]
  simp
def g_laws_eqIntSS : List AV → Option Sg
  | [.s (.view (.intss l)), .s (.view (.intss m))] => some ⟨True, [.s (.bool (eqII l m))]⟩
  | _ => none
def sig_laws_eqIntSS : FuncId → List AV → Option Sg := sigL [(45, g_laws_eqIntS)]
def xs_laws_eqIntSS : XS := ⟨xsigL [], ysigL []⟩
theorem sig_laws_eqIntSS_ok : SigOK sig_laws_eqIntSS := sigL_cons F_laws_eqIntS sigL_nil
theorem xs_laws_eqIntSS_ok : XSigOK xs_laws_eqIntSS := ⟨xsigL_nil, ysigL_nil⟩
theorem V_laws_eqIntSS (l : List (List Int)) (m : List (List Int)) : ((true = true) ∧ ((True) ∧ True) ∧ (true = true) ∧ ((True) ∧ (True) ∧ (True) ∧ (True) ∧ (True) ∧ True) ∧ ((bnot (ieq (ilen l) (ilen m))) = true → ((true = true) ∧ ((True) ∧ True) ∧ ((false : Bool) = (eqII l m)) ∧ True)) ∧ ((bnot (ieq (ilen l) (ilen m))) = false → ((true = true) ∧ ((True) ∧ True) ∧ ∃ (I1 : List GV → Prop) (μ1 : List GV → Nat), (((true = true) ∧ (((false : Bool) = false) ∧ (((0 : Int) : Int) = (0 : Int)) ∧ ((Cont.intss l) = (Cont.intss l)) ∧ (((ilen l) : Int) = (ilen l)) ∧ ((Cont.intss m) = (Cont.intss m)) ∧ (((ilen m) : Int) = (ilen m)) ∧ (((bnot (ieq (ilen l) (ilen m))) : Bool) = (bnot (ieq (ilen l) (ilen m)))) ∧ ((Cont.intss l) = (Cont.intss l)) ∧ ((Cont.intss m) = (Cont.intss m)) ∧ True) ∧ (True)) ∧ (([GK.int, GK.bool] : List GK) = ([GK.int, GK.bool] : List GK)) ∧ I1 [GV.int (0 : Int), GV.bool false]) ∧ (∀ i1_0 : Int, ∀ b1_1 : Bool, I1 [GV.int i1_0, GV.bool b1_1] → ((true = true) ∧ ((True) ∧ (True) ∧ (True) ∧ (True) ∧ True) ∧ ((ilt i1_0 (ilen l)) = true → ((true = true) ∧ ((True) ∧ (True) ∧ (NLe 0 i1_0 ∧ NLt i1_0 (ilen l)) ∧ (True) ∧ (True) ∧ (True) ∧ (NLe 0 i1_0 ∧ NLt i1_0 (ilen m)) ∧ (True) ∧ ((True)) ∧ (True) ∧ True) ∧ ((bnot (eqI (getl l i1_0) (getl m i1_0))) = true → ((true = true) ∧ ((True) ∧ True) ∧ ((false : Bool) = (eqII l m)) ∧ True)) ∧ ((bnot (eqI (getl l i1_0) (getl m i1_0))) = false → ((true = true) ∧ ((True) ∧ (True) ∧ (True) ∧ True) ∧ ((true = true) ∧ (((b1_1 : Bool) = b1_1) ∧ (((iadd i1_0 (1 : Int)) : Int) = (iadd i1_0 (1 : Int))) ∧ ((Cont.intss l) = (Cont.intss l)) ∧ (((ilen l) : Int) = (ilen l)) ∧ ((Cont.intss m) = (Cont.intss m)) ∧ (((ilen m) : Int) = (ilen m)) ∧ (((bnot (ieq (ilen l) (ilen m))) : Bool) = (bnot (ieq (ilen l) (ilen m)))) ∧ ((Cont.intss l) = (Cont.intss l)) ∧ ((Cont.intss m) = (Cont.intss m)) ∧ True) ∧ (True)) ∧ ((([GK.int, GK.bool] : List GK) = ([GK.int, GK.bool] : List GK)) ∧ I1 [GV.int (iadd i1_0 (1 : Int)), GV.bool b1_1] ∧ μ1 [GV.int (iadd i1_0 (1 : Int)), GV.bool b1_1] < μ1 [GV.int i1_0, GV.bool b1_1]))))) ∧ ((ilt i1_0 (ilen l)) = false → ((true = true) ∧ ((True) ∧ True) ∧ ((true : Bool) = (eqII l m)) ∧ True))))))) = ev sig_laws_eqIntSS xs_laws_eqIntSS Tryd.f53.ntmps (fun b => if b == 0 then [.v 5, .v 4] else []) (codeOf Tryd.f53) 0 (initS [.s (.view (.intss l)), .s (.view (.intss m))]) (retK Tryd.f53.results.toList [.s (.bool (eqII l m))]) := by kernel_rfl
set_option maxHeartbeats 400000 in
theorem F_laws_eqIntSS : FunOK 53 g_laws_eqIntSS := by
  refine fun_F (by kernel_rfl) Tryd.func53 rfl (by kernel_rfl) sig_laws_eqIntSS_ok xs_laws_eqIntSS_ok ?_
  intro avs sg h hn hl
  unfold g_laws_eqIntSS at h
  split at h
  · rename_i l m
    injection h with h; subst h
    refine ⟨by kernel_rfl, fun b => if b == 0 then [.v 5, .v 4] else [], Eq.mp (V_laws_eqIntSS l m) ?_⟩
    simp only [true_and, and_true, implies_true, and_self, forall_const, true_implies, lenA, lenL, SV.lenOK, Cont.lenOK] at hn hl ⊢
    have h0 := ilen_0 l
    simp only [ilt_t, ilt_f, ile_t, ile_f, ieq_t, ieq_f, bnot_e, band_e, bite_and, bite_or, NLt_e, NLe_e, NNe_e, NIs_e, imax_e, imin_e, irem_e, Bool.not_eq_true', Bool.not_eq_false', Bool.and_eq_true, Bool.or_eq_true, Bool.or_eq_false_iff, Bool.and_eq_false_iff, Cont.pts.injEq, Cont.ints.injEq, Cont.bools.injEq, Cont.ptss.injEq, Cont.intss.injEq, Cont.boolss.injEq, true_and, and_true, implies_true]
    unfold eqII
    refine ⟨fun h => by simp [h], fun h => ?_⟩
    refine ⟨fun | .int k :: _ => 0 ≤ k ∧ k ≤ ilen l ∧ ∀ j, 0 ≤ j → j < k → eqI (getl l j) (getl m j) = true | _ => False, fun | .int k :: _ => (ilen l - k).toNat | _ => 0, ?_, ?_⟩
    · exact ⟨Int.le_refl 0, h0, fun j h0 h1 => absurd h1 (by omega)⟩
    · rintro k _ ⟨hk0, hk1, hk⟩
      simp only [ilt_t, ilt_f, ile_t, ile_f, ieq_t, ieq_f, bnot_e, band_e, bite_and, bite_or, NLt_e, NLe_e, NNe_e, NIs_e, imax_e, imin_e, irem_e, Bool.not_eq_true', Bool.not_eq_false', Bool.and_eq_true, Bool.or_eq_true, Bool.or_eq_false_iff, Bool.and_eq_false_iff, Cont.pts.injEq, Cont.ints.injEq, Cont.bools.injEq, Cont.ptss.injEq, Cont.intss.injEq, Cont.boolss.injEq, true_and, and_true, implies_true]
      refine ⟨fun hc => ⟨⟨⟨hk0, hc⟩, hk0, by omega⟩, fun hv => ?_, fun hv => ?_⟩, fun hc => ?_⟩
      · rw [allN_no k hk0 hc hv]; simp
      · rw [iadd_1 hk0 hc hl.1.1]
        exact ⟨⟨by omega, by omega, allN_up hk hv⟩, by omega⟩
      · rw [allN_mk fun j h0 h1 => hk j h0 (by omega)]; simp [h]
  · cases h
def g_laws_eqPoint : List AV → Option Sg
  | [.agg [.int p1, .int p2], .agg [.int q1, .int q2]] => some ⟨True, [.s (.bool (eqPt p1 p2 q1 q2))]⟩
  | _ => none
def sig_laws_eqPoint : FuncId → List AV → Option Sg := sigL []
def xs_laws_eqPoint : XS := ⟨xsigL [], ysigL []⟩
theorem sig_laws_eqPoint_ok : SigOK sig_laws_eqPoint := sigL_nil
theorem xs_laws_eqPoint_ok : XSigOK xs_laws_eqPoint := ⟨xsigL_nil, ysigL_nil⟩
theorem V_laws_eqPoint (p1 : Int) (p2 : Int) (q1 : Int) (q2 : Int) : ((true = true) ∧ ((True) ∧ (True) ∧ (True) ∧ True) ∧ (true = true) ∧ ((True) ∧ (True) ∧ (True) ∧ (True) ∧ (True) ∧ True) ∧ ((bnot (ieq p1 q1)) = true → ((true = true) ∧ ((True) ∧ True) ∧ ((false : Bool) = (eqPt p1 p2 q1 q2)) ∧ True)) ∧ ((bnot (ieq p1 q1)) = false → ((true = true) ∧ ((True) ∧ (True) ∧ (True) ∧ (True) ∧ (True) ∧ True) ∧ ((bnot (ieq p2 q2)) = true → ((true = true) ∧ ((True) ∧ True) ∧ ((false : Bool) = (eqPt p1 p2 q1 q2)) ∧ True)) ∧ ((bnot (ieq p2 q2)) = false → ((true = true) ∧ ((True) ∧ True) ∧ ((true : Bool) = (eqPt p1 p2 q1 q2)) ∧ True))))) = ev sig_laws_eqPoint xs_laws_eqPoint Tryd.f86.ntmps (fun b => []) (codeOf Tryd.f86) 0 (initS [.agg [.int p1, .int p2], .agg [.int q1, .int q2]]) (retK Tryd.f86.results.toList [.s (.bool (eqPt p1 p2 q1 q2))]) := by kernel_rfl
set_option maxHeartbeats 400000 in
theorem F_laws_eqPoint : FunOK 86 g_laws_eqPoint := by
  refine fun_F (by kernel_rfl) Tryd.func86 rfl (by kernel_rfl) sig_laws_eqPoint_ok xs_laws_eqPoint_ok ?_
  intro avs sg h hn hl
  unfold g_laws_eqPoint at h
  split at h
  · rename_i p1 p2 q1 q2
    injection h with h; subst h
    refine ⟨by kernel_rfl, fun b => [], Eq.mp (V_laws_eqPoint p1 p2 q1 q2) ?_⟩
    simp only [true_and, and_true, implies_true, and_self, forall_const, true_implies, lenA, lenL, SV.lenOK, Cont.lenOK] at hn hl ⊢
    simp only [ilt_t, ilt_f, ile_t, ile_f, ieq_t, ieq_f, bnot_e, band_e, bite_and, bite_or, NLt_e, NLe_e, NNe_e, NIs_e, imax_e, imin_e, irem_e, Bool.not_eq_true', Bool.not_eq_false', Bool.and_eq_true, Bool.or_eq_true, Bool.or_eq_false_iff, Bool.and_eq_false_iff, Cont.pts.injEq, Cont.ints.injEq, Cont.bools.injEq, Cont.ptss.injEq, Cont.intss.injEq, Cont.boolss.injEq, true_and, and_true, implies_true]
    unfold eqPt
    refine ⟨fun h => by simp [h], fun h => ⟨fun h2 => by simp [h2], fun h2 => by simp [h, h2]⟩⟩
  · cases h
def g_laws_eqPointS : List AV → Option Sg
  | [.s (.view (.pts l)), .s (.view (.pts m))] => some ⟨True, [.s (.bool (eqL l m))]⟩
  | _ => none
def sig_laws_eqPointS : FuncId → List AV → Option Sg := sigL [(86, g_laws_eqPoint)]
def xs_laws_eqPointS : XS := ⟨xsigL [], ysigL []⟩
theorem sig_laws_eqPointS_ok : SigOK sig_laws_eqPointS := sigL_cons F_laws_eqPoint sigL_nil
theorem xs_laws_eqPointS_ok : XSigOK xs_laws_eqPointS := ⟨xsigL_nil, ysigL_nil⟩
theorem V_laws_eqPointS (l : List Pt) (m : List Pt) : ((true = true) ∧ ((True) ∧ True) ∧ (true = true) ∧ ((True) ∧ (True) ∧ (True) ∧ (True) ∧ (True) ∧ True) ∧ ((bnot (ieq (ilen l) (ilen m))) = true → ((true = true) ∧ ((True) ∧ True) ∧ ((false : Bool) = (eqL l m)) ∧ True)) ∧ ((bnot (ieq (ilen l) (ilen m))) = false → ((true = true) ∧ ((True) ∧ True) ∧ ∃ (I1 : List GV → Prop) (μ1 : List GV → Nat), (((true = true) ∧ (((false : Bool) = false) ∧ (((0 : Int) : Int) = (0 : Int)) ∧ ((Cont.pts l) = (Cont.pts l)) ∧ (((ilen l) : Int) = (ilen l)) ∧ ((Cont.pts m) = (Cont.pts m)) ∧ (((ilen m) : Int) = (ilen m)) ∧ (((bnot (ieq (ilen l) (ilen m))) : Bool) = (bnot (ieq (ilen l) (ilen m)))) ∧ ((Cont.pts l) = (Cont.pts l)) ∧ ((Cont.pts m) = (Cont.pts m)) ∧ True) ∧ (True)) ∧ (([GK.int, GK.bool] : List GK) = ([GK.int, GK.bool] : List GK)) ∧ I1 [GV.int (0 : Int), GV.bool false]) ∧ (∀ i1_0 : Int, ∀ b1_1 : Bool, I1 [GV.int i1_0, GV.bool b1_1] → ((true = true) ∧ ((True) ∧ (True) ∧ (True) ∧ (True) ∧ True) ∧ ((ilt i1_0 (ilen l)) = true → ((true = true) ∧ ((True) ∧ (True) ∧ (NLe 0 i1_0 ∧ NLt i1_0 (ilen l)) ∧ (True) ∧ (True) ∧ (True) ∧ (NLe 0 i1_0 ∧ NLt i1_0 (ilen m)) ∧ (True) ∧ ((True)) ∧ (True) ∧ True) ∧ ((bnot (eqPt (getx l i1_0) (gety l i1_0) (getx m i1_0) (gety m i1_0))) = true → ((true = true) ∧ ((True) ∧ True) ∧ ((false : Bool) = (eqL l m)) ∧ True)) ∧ ((bnot (eqPt (getx l i1_0) (gety l i1_0) (getx m i1_0) (gety m i1_0))) = false → ((true = true) ∧ ((True) ∧ (True) ∧ (True) ∧ True) ∧ ((true = true) ∧ (((b1_1 : Bool) = b1_1) ∧ (((iadd i1_0 (1 : Int)) : Int) = (iadd i1_0 (1 : Int))) ∧ ((Cont.pts l) = (Cont.pts l)) ∧ (((ilen l) : Int) = (ilen l)) ∧ ((Cont.pts m) = (Cont.pts m)) ∧ (((ilen m) : Int) = (ilen m)) ∧ (((bnot (ieq (ilen l) (ilen m))) : Bool) = (bnot (ieq (ilen l) (ilen m)))) ∧ ((Cont.pts l) = (Cont.pts l)) ∧ ((Cont.pts m) = (Cont.pts m)) ∧ True) ∧ (True)) ∧ ((([GK.int, GK.bool] : List GK) = ([GK.int, GK.bool] : List GK)) ∧ I1 [GV.int (iadd i1_0 (1 : Int)), GV.bool b1_1] ∧ μ1 [GV.int (iadd i1_0 (1 : Int)), GV.bool b1_1] < μ1 [GV.int i1_0, GV.bool b1_1]))))) ∧ ((ilt i1_0 (ilen l)) = false → ((true = true) ∧ ((True) ∧ True) ∧ ((true : Bool) = (eqL l m)) ∧ True))))))) = ev sig_laws_eqPointS xs_laws_eqPointS Tryd.f37.ntmps (fun b => if b == 0 then [.v 5, .v 4] else []) (codeOf Tryd.f37) 0 (initS [.s (.view (.pts l)), .s (.view (.pts m))]) (retK Tryd.f37.results.toList [.s (.bool (eqL l m))]) := by kernel_rfl
set_option maxHeartbeats 400000 in
theorem F_laws_eqPointS : FunOK 37 g_laws_eqPointS := by
  refine fun_F (by kernel_rfl) Tryd.func37 rfl (by kernel_rfl) sig_laws_eqPointS_ok xs_laws_eqPointS_ok ?_
  intro avs sg h hn hl
  unfold g_laws_eqPointS at h
  split at h
  · rename_i l m
    injection h with h; subst h
    refine ⟨by kernel_rfl, fun b => if b == 0 then [.v 5, .v 4] else [], Eq.mp (V_laws_eqPointS l m) ?_⟩
    simp only [true_and, and_true, implies_true, and_self, forall_const, true_implies, lenA, lenL, SV.lenOK, Cont.lenOK] at hn hl ⊢
    have h0 := ilen_0 l
    simp only [ilt_t, ilt_f, ile_t, ile_f, ieq_t, ieq_f, bnot_e, band_e, bite_and, bite_or, NLt_e, NLe_e, NNe_e, NIs_e, imax_e, imin_e, irem_e, Bool.not_eq_true', Bool.not_eq_false', Bool.and_eq_true, Bool.or_eq_true, Bool.or_eq_false_iff, Bool.and_eq_false_iff, Cont.pts.injEq, Cont.ints.injEq, Cont.bools.injEq, Cont.ptss.injEq, Cont.intss.injEq, Cont.boolss.injEq, true_and, and_true, implies_true]
    unfold eqL
    refine ⟨fun h => by simp [h], fun h => ?_⟩
    refine ⟨fun | .int k :: _ => 0 ≤ k ∧ k ≤ ilen l ∧ ∀ j, 0 ≤ j → j < k → eqPt (getx l j) (gety l j) (getx m j) (gety m j) = true | _ => False, fun | .int k :: _ => (ilen l - k).toNat | _ => 0, ?_, ?_⟩
    · exact ⟨Int.le_refl 0, h0, fun j h0 h1 => absurd h1 (by omega)⟩
    · rintro k _ ⟨hk0, hk1, hk⟩
      simp only [ilt_t, ilt_f, ile_t, ile_f, ieq_t, ieq_f, bnot_e, band_e, bite_and, bite_or, NLt_e, NLe_e, NNe_e, NIs_e, imax_e, imin_e, irem_e, Bool.not_eq_true', Bool.not_eq_false', Bool.and_eq_true, Bool.or_eq_true, Bool.or_eq_false_iff, Bool.and_eq_false_iff, Cont.pts.injEq, Cont.ints.injEq, Cont.bools.injEq, Cont.ptss.injEq, Cont.intss.injEq, Cont.boolss.injEq, true_and, and_true, implies_true]
      refine ⟨fun hc => ⟨⟨⟨hk0, hc⟩, hk0, by omega⟩, fun hv => ?_, fun hv => ?_⟩, fun hc => ?_⟩
      · rw [allN_no k hk0 hc hv]; simp
      · rw [iadd_1 hk0 hc hl.1]
        exact ⟨⟨by omega, by omega, allN_up hk hv⟩, by omega⟩
      · rw [allN_mk fun j h0 h1 => hk j h0 (by omega)]; simp [h]
  · cases h
def g_laws_eqPointSS : List AV → Option Sg
  | [.s (.view (.ptss l)), .s (.view (.ptss m))] => some ⟨True, [.s (.bool (eqLL l m))]⟩
  | _ => none
def sig_laws_eqPointSS : FuncId → List AV → Option Sg := sigL [(37, g_laws_eqPointS)]
def xs_laws_eqPointSS : XS := ⟨xsigL [], ysigL []⟩
theorem sig_laws_eqPointSS_ok : SigOK sig_laws_eqPointSS := sigL_cons F_laws_eqPointS sigL_nil
theorem xs_laws_eqPointSS_ok : XSigOK xs_laws_eqPointSS := ⟨xsigL_nil, ysigL_nil⟩
theorem V_laws_eqPointSS (l : List (List Pt)) (m : List (List Pt)) : ((true = true) ∧ ((True) ∧ True) ∧ (true = true) ∧ ((True) ∧ (True) ∧ (True) ∧ (True) ∧ (True) ∧ True) ∧ ((bnot (ieq (ilen l) (ilen m))) = true → ((true = true) ∧ ((True) ∧ True) ∧ ((false : Bool) = (eqLL l m)) ∧ True)) ∧ ((bnot (ieq (ilen l) (ilen m))) = false → ((true = true) ∧ ((True) ∧ True) ∧ ∃ (I1 : List GV → Prop) (μ1 : List GV → Nat), (((true = true) ∧ (((false : Bool) = false) ∧ (((0 : Int) : Int) = (0 : Int)) ∧ ((Cont.ptss l) = (Cont.ptss l)) ∧ (((ilen l) : Int) = (ilen l)) ∧ ((Cont.ptss m) = (Cont.ptss m)) ∧ (((ilen m) : Int) = (ilen m)) ∧ (((bnot (ieq (ilen l) (ilen m))) : Bool) = (bnot (ieq (ilen l) (ilen m)))) ∧ ((Cont.ptss l) = (Cont.ptss l)) ∧ ((Cont.ptss m) = (Cont.ptss m)) ∧ True) ∧ (True)) ∧ (([GK.int, GK.bool] : List GK) = ([GK.int, GK.bool] : List GK)) ∧ I1 [GV.int (0 : Int), GV.bool false]) ∧ (∀ i1_0 : Int, ∀ b1_1 : Bool, I1 [GV.int i1_0, GV.bool b1_1] → ((true = true) ∧ ((True) ∧ (True) ∧ (True) ∧ (True) ∧ True) ∧ ((ilt i1_0 (ilen l)) = true → ((true = true) ∧ ((True) ∧ (True) ∧ (NLe 0 i1_0 ∧ NLt i1_0 (ilen l)) ∧ (True) ∧ (True) ∧ (True) ∧ (NLe 0 i1_0 ∧ NLt i1_0 (ilen m)) ∧ (True) ∧ ((True)) ∧ (True) ∧ True) ∧ ((bnot (eqL (getl l i1_0) (getl m i1_0))) = true → ((true = true) ∧ ((True) ∧ True) ∧ ((false : Bool) = (eqLL l m)) ∧ True)) ∧ ((bnot (eqL (getl l i1_0) (getl m i1_0))) = false → ((true = true) ∧ ((True) ∧ (True) ∧ (True) ∧ True) ∧ ((true = true) ∧ (((b1_1 : Bool) = b1_1) ∧ (((iadd i1_0 (1 : Int)) : Int) = (iadd i1_0 (1 : Int))) ∧ ((Cont.ptss l) = (Cont.ptss l)) ∧ (((ilen l) : Int) = (ilen l)) ∧ ((Cont.ptss m) = (Cont.ptss m)) ∧ (((ilen m) : Int) = (ilen m)) ∧ (((bnot (ieq (ilen l) (ilen m))) : Bool) = (bnot (ieq (ilen l) (ilen m)))) ∧ ((Cont.ptss l) = (Cont.ptss l)) ∧ ((Cont.ptss m) = (Cont.ptss m)) ∧ True) ∧ (True)) ∧ ((([GK.int, GK.bool] : List GK) = ([GK.int, GK.bool] : List GK)) ∧ I1 [GV.int (iadd i1_0 (1 : Int)), GV.bool b1_1] ∧ μ1 [GV.int (iadd i1_0 (1 : Int)), GV.bool b1_1] < μ1 [GV.int i1_0, GV.bool b1_1]))))) ∧ ((ilt i1_0 (ilen l)) = false → ((true = true) ∧ ((True) ∧ True) ∧ ((true : Bool) = (eqLL l m)) ∧ True))))))) = ev sig_laws_eqPointSS xs_laws_eqPointSS Tryd.f27.ntmps (fun b => if b == 0 then [.v 5, .v 4] else []) (codeOf Tryd.f27) 0 (initS [.s (.view (.ptss l)), .s (.view (.ptss m))]) (retK Tryd.f27.results.toList [.s (.bool (eqLL l m))]) := by kernel_rfl
set_option maxHeartbeats 400000 in
theorem F_laws_eqPointSS : FunOK 27 g_laws_eqPointSS := by
  refine fun_F (by kernel_rfl) Tryd.func27 rfl (by kernel_rfl) sig_laws_eqPointSS_ok xs_laws_eqPointSS_ok ?_
  intro avs sg h hn hl
  unfold g_laws_eqPointSS at h
  split at h
  · rename_i l m
    injection h with h; subst h
    refine ⟨by kernel_rfl, fun b => if b == 0 then [.v 5, .v 4] else [], Eq.mp (V_laws_eqPointSS l m) ?_⟩
    simp only [true_and, and_true, implies_true, and_self, forall_const, true_implies, lenA, lenL, SV.lenOK, Cont.lenOK] at hn hl ⊢
    have h0 := ilen_0 l
    simp only [ilt_t, ilt_f, ile_t, ile_f, ieq_t, ieq_f, bnot_e, band_e, bite_and, bite_or, NLt_e, NLe_e, NNe_e, NIs_e, imax_e, imin_e, irem_e, Bool.not_eq_true', Bool.not_eq_false', Bool.and_eq_true, Bool.or_eq_true, Bool.or_eq_false_iff, Bool.and_eq_false_iff, Cont.pts.injEq, Cont.ints.injEq, Cont.bools.injEq, Cont.ptss.injEq, Cont.intss.injEq, Cont.boolss.injEq, true_and, and_true, implies_true]
    unfold eqLL
    refine ⟨fun h => by simp [h], fun h => ?_⟩
    refine ⟨fun | .int k :: _ => 0 ≤ k ∧ k ≤ ilen l ∧ ∀ j, 0 ≤ j → j < k → eqL (getl l j) (getl m j) = true | _ => False, fun | .int k :: _ => (ilen l - k).toNat | _ => 0, ?_, ?_⟩
    · exact ⟨Int.le_refl 0, h0, fun j h0 h1 => absurd h1 (by omega)⟩
    · rintro k _ ⟨hk0, hk1, hk⟩
      simp only [ilt_t, ilt_f, ile_t, ile_f, ieq_t, ieq_f, bnot_e, band_e, bite_and, bite_or, NLt_e, NLe_e, NNe_e, NIs_e, imax_e, imin_e, irem_e, Bool.not_eq_true', Bool.not_eq_false', Bool.and_eq_true, Bool.or_eq_true, Bool.or_eq_false_iff, Bool.and_eq_false_iff, Cont.pts.injEq, Cont.ints.injEq, Cont.bools.injEq, Cont.ptss.injEq, Cont.intss.injEq, Cont.boolss.injEq, true_and, and_true, implies_true]
      refine ⟨fun hc => ⟨⟨⟨hk0, hc⟩, hk0, by omega⟩, fun hv => ?_, fun hv => ?_⟩, fun hc => ?_⟩
      · rw [allN_no k hk0 hc hv]; simp
      · rw [iadd_1 hk0 hc hl.1.1]
        exact ⟨⟨by omega, by omega, allN_up hk hv⟩, by omega⟩
      · rw [allN_mk fun j h0 h1 => hk j h0 (by omega)]; simp [h]
  · cases h
theorem bxor_self (a : Bool) : bxor a a = false := by cases a <;> simp [bxor]
def g_laws_FnExactFirstContact : List AV → Option Sg
  | [.agg [.view (.ints a1), .view (.ints a2), .view (.ints a3)], .s (.view (.intss r)), .s (.view (.ptss l))] => some ⟨True, [.s (.bool (true))]⟩
  | _ => none
def sig_laws_FnExactFirstContact : FuncId → List AV → Option Sg := sigL [(23, g_laws_toArm), (52, g_laws_toIntSS), (24, g_laws_toPointSS), (51, g_spec_FirstContact), (33, g_impl_FirstContact), (26, g_laws_eqArm), (53, g_laws_eqIntSS), (27, g_laws_eqPointSS)]
def xs_laws_FnExactFirstContact : XS := ⟨xsigL [], ysigL [(21, g_laws_szArm), (50, g_laws_szIntSS), (22, g_laws_szPointSS)]⟩
theorem sig_laws_FnExactFirstContact_ok : SigOK sig_laws_FnExactFirstContact := sigL_cons F_laws_toArm (sigL_cons F_laws_toIntSS (sigL_cons F_laws_toPointSS (sigL_cons F_spec_FirstContact (sigL_cons F_impl_FirstContact (sigL_cons F_laws_eqArm (sigL_cons F_laws_eqIntSS (sigL_cons F_laws_eqPointSS sigL_nil)))))))
theorem xs_laws_FnExactFirstContact_ok : XSigOK xs_laws_FnExactFirstContact := ⟨xsigL_nil, ysigL_cons F_laws_szArm (ysigL_cons F_laws_szIntSS (ysigL_cons F_laws_szPointSS ysigL_nil))⟩
theorem V_laws_FnExactFirstContact (a1 : List Int) (a2 : List Int) (a3 : List Int) (r : List (List Int)) (l : List (List Pt)) : ((true = true) ∧ ((True) ∧ (True) ∧ True) ∧ (true = true) ∧ ((True) ∧ True) ∧ (true = true) ∧ ((True) ∧ (True) ∧ True) ∧ (true = true) ∧ ((0 ≤ (1048576 : Int) ∧ (1048576 : Int) ≤ 1048576)) ∧ (∀ k_1 : Int, ((k_1 < 0 ∨ (0 ≤ k_1 ∧ k_1 ≤ (1048576 : Int) ∧ ilen a1 ≤ (1048576 : Int) ∧ ilen a2 ≤ (1048576 : Int) ∧ ilen a3 ≤ (1048576 : Int))) → ((True) ∧ (true = true) ∧ ((True) ∧ (True) ∧ True) ∧ ((ilt (k_1) (0 : Int)) = true → ((true = true) ∧ ((True) ∧ True) ∧ ((true : Bool) = (true)) ∧ True)) ∧ ((ilt (k_1) (0 : Int)) = false → ((true = true) ∧ ((True) ∧ (True) ∧ True) ∧ (true = true) ∧ ((0 ≤ (k_1) ∧ (k_1) ≤ 1048576)) ∧ (∀ k_2 : Int, ((k_2 < 0 ∨ (0 ≤ k_2 ∧ k_2 ≤ (k_1) ∧ ilen r ≤ (k_1) ∧ ∀ i, 0 ≤ i → i < ilen r → ilen (getl r i) ≤ (k_1))) → ((True) ∧ (true = true) ∧ ((True) ∧ (True) ∧ True) ∧ ((ilt (k_2) (0 : Int)) = true → ((true = true) ∧ ((True) ∧ True) ∧ ((true : Bool) = (true)) ∧ True)) ∧ ((ilt (k_2) (0 : Int)) = false → ((true = true) ∧ ((True) ∧ (True) ∧ True) ∧ (true = true) ∧ ((0 ≤ (k_2) ∧ (k_2) ≤ 1048576)) ∧ (∀ k_3 : Int, ((k_3 < 0 ∨ (0 ≤ k_3 ∧ k_3 ≤ (k_2) ∧ ilen l ≤ (k_2) ∧ ∀ i, 0 ≤ i → i < ilen l → ilen (getl l i) ≤ (k_2))) → ((True) ∧ (true = true) ∧ ((True) ∧ (True) ∧ True) ∧ ((ilt (k_3) (0 : Int)) = true → ((true = true) ∧ ((True) ∧ True) ∧ ((true : Bool) = (true)) ∧ True)) ∧ ((ilt (k_3) (0 : Int)) = false → ((true = true) ∧ ((True) ∧ ((ilen a1 ≤ 100000000 ∧ ilen a2 ≤ 100000000 ∧ ilen a3 ≤ 100000000)) ∧ (True) ∧ ((ilen r ≤ 100000000 ∧ ∀ i, 0 ≤ i → i < ilen r → ilen (getl r i) ≤ 100000000)) ∧ (True) ∧ ((ilen l ≤ 100000000 ∧ ∀ i, 0 ≤ i → i < ilen l → ilen (getl l i) ≤ 100000000)) ∧ ((True)) ∧ (True) ∧ True) ∧ (true = true) ∧ ((True) ∧ ((ilen a1 ≤ 100000000 ∧ ilen a2 ≤ 100000000 ∧ ilen a3 ≤ 100000000)) ∧ (True) ∧ True) ∧ (True) ∧ (true = true) ∧ ((True) ∧ ((ilen r ≤ 100000000 ∧ ∀ i, 0 ≤ i → i < ilen r → ilen (getl r i) ≤ 100000000)) ∧ (True) ∧ True) ∧ (true = true) ∧ ((True) ∧ ((ilen l ≤ 100000000 ∧ ∀ i, 0 ≤ i → i < ilen l → ilen (getl l i) ≤ 100000000)) ∧ (True) ∧ True) ∧ (true = true) ∧ ((True) ∧ (True) ∧ (True) ∧ ((True)) ∧ (True) ∧ True) ∧ (true = true) ∧ ((True) ∧ (True) ∧ (True) ∧ True) ∧ ((bnot (ieq (fcF (a1) (a2) (a3) (r) (l)) (fcF (a1) (a2) (a3) (r) (l)))) = true → ((true = true) ∧ ((True) ∧ True) ∧ ((false : Bool) = (true)) ∧ True)) ∧ ((bnot (ieq (fcF (a1) (a2) (a3) (r) (l)) (fcF (a1) (a2) (a3) (r) (l)))) = false → ((true = true) ∧ ((True) ∧ (True) ∧ ((ilen a1 ≤ 100000000 ∧ ilen a2 ≤ 100000000 ∧ ilen a3 ≤ 100000000)) ∧ ((True)) ∧ (True) ∧ True) ∧ ((bnot (eqI (a1) (a1) && eqI (a2) (a2) && eqI (a3) (a3))) = true → ((true = true) ∧ ((True) ∧ True) ∧ ((false : Bool) = (true)) ∧ True)) ∧ ((bnot (eqI (a1) (a1) && eqI (a2) (a2) && eqI (a3) (a3))) = false → ((true = true) ∧ ((True) ∧ (True) ∧ ((ilen r ≤ 100000000 ∧ ∀ i, 0 ≤ i → i < ilen r → ilen (getl r i) ≤ 100000000)) ∧ ((True)) ∧ (True) ∧ True) ∧ ((bnot (eqII (r) (r))) = true → ((true = true) ∧ ((True) ∧ True) ∧ ((false : Bool) = (true)) ∧ True)) ∧ ((bnot (eqII (r) (r))) = false → ((true = true) ∧ ((True) ∧ (True) ∧ ((ilen l ≤ 100000000 ∧ ∀ i, 0 ≤ i → i < ilen l → ilen (getl l i) ≤ 100000000)) ∧ ((True)) ∧ (True) ∧ True) ∧ ((bnot (eqLL (l) (l))) = true → ((true = true) ∧ ((True) ∧ True) ∧ ((false : Bool) = (true)) ∧ True)) ∧ ((bnot (eqLL (l) (l))) = false → ((true = true) ∧ ((True) ∧ True) ∧ ((true : Bool) = (true)) ∧ True)))))))))))))))))))))))) = ev sig_laws_FnExactFirstContact xs_laws_FnExactFirstContact Tryd.f11.ntmps (fun b => []) (codeOf Tryd.f11) 0 (initS [.agg [.view (.ints a1), .view (.ints a2), .view (.ints a3)], .s (.view (.intss r)), .s (.view (.ptss l))]) (retK Tryd.f11.results.toList [.s (.bool (true))]) := by kernel_rfl
set_option maxHeartbeats 400000 in
theorem F_laws_FnExactFirstContact : FunOK 11 g_laws_FnExactFirstContact := by
  refine fun_F (by kernel_rfl) Tryd.func11 rfl (by kernel_rfl) sig_laws_FnExactFirstContact_ok xs_laws_FnExactFirstContact_ok ?_
  intro avs sg h hn hl
  unfold g_laws_FnExactFirstContact at h
  split at h
  · rename_i a1 a2 a3 r l
    injection h with h; subst h
    refine ⟨by kernel_rfl, fun b => [], Eq.mp (V_laws_FnExactFirstContact a1 a2 a3 r l) ?_⟩
    simp only [true_and, and_true, implies_true, and_self, forall_const, true_implies, lenA, lenL, SV.lenOK, Cont.lenOK] at hn hl ⊢
    simp only [ilt_t, ilt_f, ile_t, ile_f, ieq_t, ieq_f, bnot_e, band_e, bite_and, bite_or, NLt_e, NLe_e, NNe_e, NIs_e, imax_e, imin_e, irem_e, Bool.not_eq_true', Bool.not_eq_false', Bool.and_eq_true, Bool.or_eq_true, Bool.or_eq_false_iff, Bool.and_eq_false_iff, Cont.pts.injEq, Cont.ints.injEq, Cont.bools.injEq, Cont.ptss.injEq, Cont.intss.injEq, Cont.boolss.injEq, true_and, and_true, implies_true, eqI_same, eqII_same, eqLL_same]
    refine ⟨by omega, fun k1 h1 p1 => ⟨by omega, fun k2 h2 p2 => ⟨by omega, fun k3 h3 p3 => ?_⟩⟩⟩
    have ha : ilen a1 ≤ 100000000 ∧ ilen a2 ≤ 100000000 ∧ ilen a3 ≤ 100000000 := by omega
    have hr : ilen r ≤ 100000000 ∧ ∀ i : Int, 0 ≤ i → i < ilen r → ilen (getl r i) ≤ 100000000 := by
      rcases h2 with h | ⟨_, _, q1, q2⟩
      · omega
      · exact ⟨by omega, fun i i0 i1 => by have := q2 i i0 i1; omega⟩
    have hl2 : ilen l ≤ 100000000 ∧ ∀ i : Int, 0 ≤ i → i < ilen l → ilen (getl l i) ≤ 100000000 := by
      rcases h3 with h | ⟨_, _, q1, q2⟩
      · omega
      · exact ⟨by omega, fun i i0 i1 => by have := q2 i i0 i1; omega⟩
    exact ⟨⟨ha, hr, hl2⟩, ha, hr, hl2, fun h => absurd rfl h, fun _ => ⟨ha, by simp, fun _ => ⟨hr, by simp, fun _ => ⟨hl2, by simp⟩⟩⟩⟩
  · cases h
theorem fnExactFirstContact_walk (w : World) (v0 : Value) (x0 : List Int × List Int × List Int) (w0 : ArmArg w v0 x0) (v1 : Value) (x1 : List (List Int)) (w1 : IntSSArg w v1 x1) (v2 : Value) (x2 : List (List Pt)) (w2 : PointSSArg w v2 x2) (hI : GInv w) : Calls Tryd.prog 11 #[v0, v1, v2] w fun e w' => e = .returned (.bool true) ∧ Bel w w' :=
  walk_of F_laws_FnExactFirstContact (avs := [.agg [.view (.ints x0.1), .view (.ints x0.2.1), .view (.ints x0.2.2)], .s (.view (.intss x1)), .s (.view (.ptss x2))]) rfl trivial ⟨arm_reads w0, intss_reads w1, ptss_reads w2, trivial⟩
set_option maxRecDepth 100000 in
theorem fnExactFirstContact_lifted (os : Os) (started : os.Started) (H : Type) (enc : TypeId × Value → H) :
    ReturnsInHanded {} Tryd.checked os 11 .any (fun w args => (Rows.fnExactFirstContactSpec.pre enc Tryd.prog Tryd.f11 [] false w args ∧ laidMetH Tryd.prog laid3 w) ∧ sizedMet enc Tryd.prog Tryd.f11 (OpenSpec.ofChange Rows.fnExactFirstContactSpec) false w args) (Rows.fnExactFirstContactSpec.post enc Tryd.prog Tryd.f11 false true false false) := by
  have own : ownKnob Tryd.prog.godebug = none := by kernel_rfl
  have laidOut : laidOutB Tryd.prog = true := by kernel_rfl
  refine returnsInHanded_of_change_and (C := Tryd.checked) (X := fun w _ => laidMetH Tryd.prog laid3 w) (fun _ _ _ hh h => h.of_heap hh) own started (by kernel_rfl) Tryd.func11
    (ChangeSpec.witness_shaped (enc := enc) (C := Tryd.checked) (os := os) (X := fun w _ => laidMetH Tryd.prog laid3 w) false (World.doorLaid Tryd.prog 400 os) #[.agg #[.slice none 0 0, .slice none 0 0, .slice none 0 0], .slice none 0 0, .slice none 0 0] 8 rfl (World.shaped_of_RefB (by kernel_rfl) (by kernel_rfl)) (by kernel_rfl) (by kernel_rfl) (by kernel_rfl) (door_met os _)) ?_
  intro W base args ds gs before hval0 hW _ _ hL _
  have hI := of_laid hL
  have hval : ∀ (j : Nat) t v, Tryd.f11.params[j]? = some t → args[j]? = some v → Value.okWide Tryd.prog W .any base t v := hval0
  have hW' := hW
  obtain ⟨p, q, hA0, hV, rfl, hfz, hnd⟩ := hW
  have hA : DataW.TrodAll enc Tryd.prog W 0 (fun _ => true) true Tryd.f11.params.toList args.toList ds p := hA0
  rw [Tryd.params11] at hA hval
  obtain ⟨v0, vs0, d0, ds0, p0, q0, hargs, rfl, rfl, h0, r0⟩ := trodAll_cons hA
  obtain ⟨v1, vs1, d1, ds1, p1, q1, rfl, rfl, rfl, h1, r1⟩ := trodAll_cons r0
  obtain ⟨v2, vs2, d2, ds2, p2, q2, rfl, rfl, rfl, h2, r2⟩ := trodAll_cons r1
  obtain ⟨rfl, rfl, rfl⟩ := trodAll_nil r2
  obtain rfl : args = #[v0, v1, v2] := by cases args; simp_all
  obtain ⟨rfl, rfl⟩ := trodVars_none hV
  have k0 := h0
  have lt0 : ∀ x ∈ p0, x.block < W.heap.size := by obtain ⟨m, hm⟩ := k0; exact DataW.trod_lt m _ _ _ hm
  have k1 := h1
  have lt1 : ∀ x ∈ p1, x.block < W.heap.size := by obtain ⟨m, hm⟩ := k1; exact DataW.trod_lt m _ _ _ hm
  have k2 := h2
  have lt2 : ∀ x ∈ p2, x.block < W.heap.size := by obtain ⟨m, hm⟩ := k2; exact DataW.trod_lt m _ _ _ hm
  obtain ⟨x0, w0⟩ := opn_Arm (hval 0 40 v0 rfl rfl) h0
  obtain ⟨x1, w1⟩ := opn_IntSS (hval 1 55 v1 rfl rfl) h1
  obtain ⟨x2, w2⟩ := opn_PointSS (hval 2 41 v2 rfl rfl) h2
  clear hA0 hval0
  refine (fnExactFirstContact_walk W v0 x0 w0 v1 x1 w1 v2 x2 w2 hI).mono fun e W' ⟨he, bel⟩ => ?_
  subst he
  exact ⟨_, rfl, _, _, _, [], _, [], hW', trodAll_mk1 (shut_bool Tryd.underlying4 _), (trodAll_cons_mk (Below.trod laidOut (by kernel_rfl) (of_decide_eq_true (by kernel_rfl)) k0 bel lt0) (trodAll_cons_mk (Below.trod laidOut (by kernel_rfl) (of_decide_eq_true (by kernel_rfl)) k1 bel lt1) (trodAll_cons_mk (Below.trod laidOut (by kernel_rfl) (of_decide_eq_true (by kernel_rfl)) k2 bel lt2) trodAll_mk0))), rfl, Below.frame bel _, fun h => by cases h⟩
theorem fnExactFirstContact_over : Rows.fnExactFirstContactRow.holds Tryd.pinned (OpenSpec.ofChange Rows.fnExactFirstContactSpec) :=
  OpenClaim.holds_of_wide 11 Tryd.f11 rfl rfl rfl rfl rfl rfl rfl ⟨rfl, rfl, rfl, rfl, rfl⟩ rfl rfl rfl rfl rfl (by kernel_rfl) Tryd.func11 (by kernel_rfl)
    (of_decide_eq_true (by kernel_rfl)) (by unfold Func.isWrapper; first | (rw [if_pos (by decide +kernel)]; kernel_rfl) | (rw [if_neg (by decide +kernel)]; exact ⟨rfl, rfl⟩))
    (fun os started H enc _ => fnExactFirstContact_lifted os started H enc)
theorem fnExactFirstContact_proved : Rows.FnExactFirstContactCardSaid :=
  Claim7.holds_tied_plain_at .later [] [.data, .data, .data] true (true, "16bbdc3ad5447965b735ab462f47ba12bb60540d08a1c5142685da0634440668") false
    fnExactFirstContact_over (fun _ h => by cases h) (by kernel_rfl) (fun _ h => by cases h) fnExactFirstContact_row_tie rfl ⟨rfl, rfl⟩ (by kernel_rfl) rfl
    (fun f fn hf hfn => by
      obtain rfl : f = 11 := Option.some.inj ((show Tryd.prog.funcNamed "loop.example/robotcell/laws.FnExactFirstContact" = some 11 by kernel_rfl).symm.trans hf) |>.symm
      obtain rfl : fn = Tryd.f11 := (Option.some.inj (Tryd.func11.symm.trans hfn)).symm
      exact ⟨by kernel_rfl, fun j t ht => by
        rw [Tryd.params11] at ht
        have hm : t ∈ [40, 55, 41] := by simpa using Array.mem_of_getElem? ht
        have hall : ([40, 55, 41].all fun u => !Tryd.prog.wantsStandIn u) = true := by kernel_rfl
        exact (show Tryd.prog.wantsStandIn t = false by simpa using List.all_eq_true.1 hall t hm)⟩)
    (by kernel_rfl)
#print axioms fnExactFirstContact_proved
end Go.Proofs.YtdkpnlhcodogeaaDoor

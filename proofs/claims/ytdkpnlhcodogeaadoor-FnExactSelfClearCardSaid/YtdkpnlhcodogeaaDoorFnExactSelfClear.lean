/- 'FnExactSelfClear': for all arguments the program's SelfClear returns what the reference's returns and leaves its arguments alone. Conditions: none. -/
import Derived.Test.YtdkpnlhcodogeaaDoorFnExactSelfClearP1
namespace Go.Proofs.YtdkpnlhcodogeaaDoor
open Go.ChangeShapes Go.WideShapes Go.ChangeAt Go.RowKit
set_option maxRecDepth 100000
set_option linter.unusedSimpArgs false
set_option linter.unusedVariables false
def g_impl_SelfClear : List AV → Option Sg
  | [.agg [.view (.ints a1), .view (.ints a2), .view (.ints a3)], .s (.view (.ints j))] => some ⟨True, [.s (.bool (scB a1 a2 a3 j))]⟩
  | _ => none
def sig_impl_SelfClear : FuncId → List AV → Option Sg := sigL [(48, g_impl_JointsValid), (90, g_impl_armPoints), (91, g_impl_meet)]
def xs_impl_SelfClear : XS := ⟨xsigL [], ysigL []⟩
theorem sig_impl_SelfClear_ok : SigOK sig_impl_SelfClear := sigL_cons F_impl_JointsValid (sigL_cons F_impl_armPoints (sigL_cons F_impl_meet sigL_nil))
theorem xs_impl_SelfClear_ok : XSigOK xs_impl_SelfClear := ⟨xsigL_nil, ysigL_nil⟩
theorem V_impl_SelfClear (a1 : List Int) (a2 : List Int) (a3 : List Int) (j : List Int) : ((true = true) ∧ ((True) ∧ (True) ∧ True) ∧ (true = true) ∧ ((True) ∧ (True) ∧ ((True)) ∧ (True) ∧ True) ∧ ((bnot (jvB a1 a2 a3 j)) = true → ((true = true) ∧ ((True) ∧ True) ∧ ((false : Bool) = (scB a1 a2 a3 j)) ∧ True)) ∧ ((bnot (jvB a1 a2 a3 j)) = false → ((true = true) ∧ ((True) ∧ (True) ∧ ((jvB a1 a2 a3 j = true)) ∧ (True) ∧ True) ∧ (true = true) ∧ ((True) ∧ (True) ∧ (True) ∧ (True) ∧ True) ∧ ∃ (I1 : List GV → Prop) (μ1 : List GV → Nat), (((true = true) ∧ (((false : Bool) = false) ∧ (((0 : Int) : Int) = (0 : Int)) ∧ (true = true) ∧ (((ilen (apL a1 j (ilen a1 + 1))) : Int) = (ilen (apL a1 j (ilen a1 + 1)))) ∧ (((isub (ilen (apL a1 j (ilen a1 + 1))) (1 : Int)) : Int) = (isub (ilen (apL a1 j (ilen a1 + 1))) (1 : Int))) ∧ (((Cont.ints a1) = (Cont.ints a1)) ∧ ((Cont.ints a2) = (Cont.ints a2)) ∧ ((Cont.ints a3) = (Cont.ints a3)) ∧ True) ∧ ((Cont.ints j) = (Cont.ints j)) ∧ (true = true) ∧ (true = true) ∧ (((Cont.ints a1) = (Cont.ints a1)) ∧ ((Cont.ints a2) = (Cont.ints a2)) ∧ ((Cont.ints a3) = (Cont.ints a3)) ∧ True) ∧ ((Cont.ints j) = (Cont.ints j)) ∧ (((jvB a1 a2 a3 j) : Bool) = (jvB a1 a2 a3 j)) ∧ (((bnot (jvB a1 a2 a3 j)) : Bool) = (bnot (jvB a1 a2 a3 j))) ∧ (true = true) ∧ (((Cont.ints a1) = (Cont.ints a1)) ∧ ((Cont.ints a2) = (Cont.ints a2)) ∧ ((Cont.ints a3) = (Cont.ints a3)) ∧ True) ∧ ((Cont.ints j) = (Cont.ints j)) ∧ True) ∧ (((true = true) ∧ ((Cont.pts (apL a1 j (ilen a1 + 1))) = (Cont.pts (apL a1 j (ilen a1 + 1))))) ∧ (((Cont.ints a1) = (Cont.ints a1)) ∧ ((Cont.ints a2) = (Cont.ints a2)) ∧ ((Cont.ints a3) = (Cont.ints a3)) ∧ True) ∧ True)) ∧ (([GK.int, GK.bool] : List GK) = ([GK.int, GK.bool] : List GK)) ∧ I1 [GV.int (0 : Int), GV.bool false]) ∧ (∀ i1_0 : Int, ∀ b1_1 : Bool, I1 [GV.int i1_0, GV.bool b1_1] → ((true = true) ∧ ((True) ∧ True) ∧ ((ilt i1_0 (isub (ilen (apL a1 j (ilen a1 + 1))) (1 : Int))) = true → ((true = true) ∧ ((True) ∧ (True) ∧ True) ∧ (true = true) ∧ ((True) ∧ (True) ∧ (True) ∧ True) ∧ ∃ (I2 : List GV → Prop) (μ2 : List GV → Nat), (((true = true) ∧ (((b1_1 : Bool) = b1_1) ∧ (((iadd i1_0 (2 : Int)) : Int) = (iadd i1_0 (2 : Int))) ∧ ((i1_0 : Int) = i1_0) ∧ (((iadd i1_0 (2 : Int)) : Int) = (iadd i1_0 (2 : Int))) ∧ ((i1_0 : Int) = i1_0) ∧ ((i1_0 : Int) = i1_0) ∧ (((ilt i1_0 (isub (ilen (apL a1 j (ilen a1 + 1))) (1 : Int))) : Bool) = (ilt i1_0 (isub (ilen (apL a1 j (ilen a1 + 1))) (1 : Int)))) ∧ ((i1_0 : Int) = i1_0) ∧ (true = true) ∧ (((ilen (apL a1 j (ilen a1 + 1))) : Int) = (ilen (apL a1 j (ilen a1 + 1)))) ∧ (((isub (ilen (apL a1 j (ilen a1 + 1))) (1 : Int)) : Int) = (isub (ilen (apL a1 j (ilen a1 + 1))) (1 : Int))) ∧ (((Cont.ints a1) = (Cont.ints a1)) ∧ ((Cont.ints a2) = (Cont.ints a2)) ∧ ((Cont.ints a3) = (Cont.ints a3)) ∧ True) ∧ ((Cont.ints j) = (Cont.ints j)) ∧ (true = true) ∧ (true = true) ∧ (((Cont.ints a1) = (Cont.ints a1)) ∧ ((Cont.ints a2) = (Cont.ints a2)) ∧ ((Cont.ints a3) = (Cont.ints a3)) ∧ True) ∧ ((Cont.ints j) = (Cont.ints j)) ∧ (((jvB a1 a2 a3 j) : Bool) = (jvB a1 a2 a3 j)) ∧ (((bnot (jvB a1 a2 a3 j)) : Bool) = (bnot (jvB a1 a2 a3 j))) ∧ (true = true) ∧ (((Cont.ints a1) = (Cont.ints a1)) ∧ ((Cont.ints a2) = (Cont.ints a2)) ∧ ((Cont.ints a3) = (Cont.ints a3)) ∧ True) ∧ ((Cont.ints j) = (Cont.ints j)) ∧ True) ∧ (((true = true) ∧ ((Cont.pts (apL a1 j (ilen a1 + 1))) = (Cont.pts (apL a1 j (ilen a1 + 1))))) ∧ (((Cont.ints a1) = (Cont.ints a1)) ∧ ((Cont.ints a2) = (Cont.ints a2)) ∧ ((Cont.ints a3) = (Cont.ints a3)) ∧ True) ∧ True)) ∧ (([GK.int, GK.bool] : List GK) = ([GK.int, GK.bool] : List GK)) ∧ I2 [GV.int (iadd i1_0 (2 : Int)), GV.bool b1_1]) ∧ (∀ i2_0 : Int, ∀ b2_1 : Bool, I2 [GV.int i2_0, GV.bool b2_1] → ((true = true) ∧ ((True) ∧ (True) ∧ (True) ∧ (True) ∧ (True) ∧ True) ∧ ((ilt i2_0 (isub (ilen (apL a1 j (ilen a1 + 1))) (1 : Int))) = true → ((true = true) ∧ ((True) ∧ (True) ∧ (NLe 0 i1_0 ∧ NLt i1_0 (ilen (apL a1 j (ilen a1 + 1)))) ∧ (NLt i1_0 (ilen (apL a1 j (ilen a1 + 1)))) ∧ (True) ∧ (True) ∧ (True) ∧ (NLe 0 (iadd i1_0 (1 : Int)) ∧ NLt (iadd i1_0 (1 : Int)) (ilen (apL a1 j (ilen a1 + 1)))) ∧ (NLt (iadd i1_0 (1 : Int)) (ilen (apL a1 j (ilen a1 + 1)))) ∧ (True) ∧ (True) ∧ (NLe 0 i2_0 ∧ NLt i2_0 (ilen (apL a1 j (ilen a1 + 1)))) ∧ (NLt i2_0 (ilen (apL a1 j (ilen a1 + 1)))) ∧ (True) ∧ (True) ∧ (True) ∧ (NLe 0 (iadd i2_0 (1 : Int)) ∧ NLt (iadd i2_0 (1 : Int)) (ilen (apL a1 j (ilen a1 + 1)))) ∧ (NLt (iadd i2_0 (1 : Int)) (ilen (apL a1 j (ilen a1 + 1)))) ∧ ((vB (getx (apL a1 j (ilen a1 + 1)) i1_0) (gety (apL a1 j (ilen a1 + 1)) i1_0) = true ∧ vB (getx (apL a1 j (ilen a1 + 1)) (iadd i1_0 (1 : Int))) (gety (apL a1 j (ilen a1 + 1)) (iadd i1_0 (1 : Int))) = true ∧ vB (getx (apL a1 j (ilen a1 + 1)) i2_0) (gety (apL a1 j (ilen a1 + 1)) i2_0) = true ∧ vB (getx (apL a1 j (ilen a1 + 1)) (iadd i2_0 (1 : Int))) (gety (apL a1 j (ilen a1 + 1)) (iadd i2_0 (1 : Int))) = true)) ∧ True) ∧ ((meetB ((getx (apL a1 j (ilen a1 + 1)) i1_0), (gety (apL a1 j (ilen a1 + 1)) i1_0)) ((getx (apL a1 j (ilen a1 + 1)) (iadd i1_0 (1 : Int))), (gety (apL a1 j (ilen a1 + 1)) (iadd i1_0 (1 : Int)))) ((getx (apL a1 j (ilen a1 + 1)) i2_0), (gety (apL a1 j (ilen a1 + 1)) i2_0)) ((getx (apL a1 j (ilen a1 + 1)) (iadd i2_0 (1 : Int))), (gety (apL a1 j (ilen a1 + 1)) (iadd i2_0 (1 : Int))))) = true → ((true = true) ∧ ((True) ∧ True) ∧ ((false : Bool) = (scB a1 a2 a3 j)) ∧ True)) ∧ ((meetB ((getx (apL a1 j (ilen a1 + 1)) i1_0), (gety (apL a1 j (ilen a1 + 1)) i1_0)) ((getx (apL a1 j (ilen a1 + 1)) (iadd i1_0 (1 : Int))), (gety (apL a1 j (ilen a1 + 1)) (iadd i1_0 (1 : Int)))) ((getx (apL a1 j (ilen a1 + 1)) i2_0), (gety (apL a1 j (ilen a1 + 1)) i2_0)) ((getx (apL a1 j (ilen a1 + 1)) (iadd i2_0 (1 : Int))), (gety (apL a1 j (ilen a1 + 1)) (iadd i2_0 (1 : Int))))) = false → ((true = true) ∧ ((True) ∧ (True) ∧ (True) ∧ True) ∧ ((true = true) ∧ (((b2_1 : Bool) = b2_1) ∧ (((iadd i2_0 (1 : Int)) : Int) = (iadd i2_0 (1 : Int))) ∧ ((i1_0 : Int) = i1_0) ∧ (((iadd i1_0 (2 : Int)) : Int) = (iadd i1_0 (2 : Int))) ∧ ((i1_0 : Int) = i1_0) ∧ ((i1_0 : Int) = i1_0) ∧ (((ilt i1_0 (isub (ilen (apL a1 j (ilen a1 + 1))) (1 : Int))) : Bool) = (ilt i1_0 (isub (ilen (apL a1 j (ilen a1 + 1))) (1 : Int)))) ∧ ((i1_0 : Int) = i1_0) ∧ (true = true) ∧ (((ilen (apL a1 j (ilen a1 + 1))) : Int) = (ilen (apL a1 j (ilen a1 + 1)))) ∧ (((isub (ilen (apL a1 j (ilen a1 + 1))) (1 : Int)) : Int) = (isub (ilen (apL a1 j (ilen a1 + 1))) (1 : Int))) ∧ (((Cont.ints a1) = (Cont.ints a1)) ∧ ((Cont.ints a2) = (Cont.ints a2)) ∧ ((Cont.ints a3) = (Cont.ints a3)) ∧ True) ∧ ((Cont.ints j) = (Cont.ints j)) ∧ (true = true) ∧ (true = true) ∧ (((Cont.ints a1) = (Cont.ints a1)) ∧ ((Cont.ints a2) = (Cont.ints a2)) ∧ ((Cont.ints a3) = (Cont.ints a3)) ∧ True) ∧ ((Cont.ints j) = (Cont.ints j)) ∧ (((jvB a1 a2 a3 j) : Bool) = (jvB a1 a2 a3 j)) ∧ (((bnot (jvB a1 a2 a3 j)) : Bool) = (bnot (jvB a1 a2 a3 j))) ∧ (true = true) ∧ (((Cont.ints a1) = (Cont.ints a1)) ∧ ((Cont.ints a2) = (Cont.ints a2)) ∧ ((Cont.ints a3) = (Cont.ints a3)) ∧ True) ∧ ((Cont.ints j) = (Cont.ints j)) ∧ True) ∧ (((true = true) ∧ ((Cont.pts (apL a1 j (ilen a1 + 1))) = (Cont.pts (apL a1 j (ilen a1 + 1))))) ∧ (((Cont.ints a1) = (Cont.ints a1)) ∧ ((Cont.ints a2) = (Cont.ints a2)) ∧ ((Cont.ints a3) = (Cont.ints a3)) ∧ True) ∧ True)) ∧ ((([GK.int, GK.bool] : List GK) = ([GK.int, GK.bool] : List GK)) ∧ I2 [GV.int (iadd i2_0 (1 : Int)), GV.bool b2_1] ∧ μ2 [GV.int (iadd i2_0 (1 : Int)), GV.bool b2_1] < μ2 [GV.int i2_0, GV.bool b2_1]))))) ∧ ((ilt i2_0 (isub (ilen (apL a1 j (ilen a1 + 1))) (1 : Int))) = false → ((true = true) ∧ ((True) ∧ (True) ∧ True) ∧ ((true = true) ∧ (((b2_1 : Bool) = b2_1) ∧ (((iadd i1_0 (1 : Int)) : Int) = (iadd i1_0 (1 : Int))) ∧ (true = true) ∧ (((ilen (apL a1 j (ilen a1 + 1))) : Int) = (ilen (apL a1 j (ilen a1 + 1)))) ∧ (((isub (ilen (apL a1 j (ilen a1 + 1))) (1 : Int)) : Int) = (isub (ilen (apL a1 j (ilen a1 + 1))) (1 : Int))) ∧ (((Cont.ints a1) = (Cont.ints a1)) ∧ ((Cont.ints a2) = (Cont.ints a2)) ∧ ((Cont.ints a3) = (Cont.ints a3)) ∧ True) ∧ ((Cont.ints j) = (Cont.ints j)) ∧ (true = true) ∧ (true = true) ∧ (((Cont.ints a1) = (Cont.ints a1)) ∧ ((Cont.ints a2) = (Cont.ints a2)) ∧ ((Cont.ints a3) = (Cont.ints a3)) ∧ True) ∧ ((Cont.ints j) = (Cont.ints j)) ∧ (((jvB a1 a2 a3 j) : Bool) = (jvB a1 a2 a3 j)) ∧ (((bnot (jvB a1 a2 a3 j)) : Bool) = (bnot (jvB a1 a2 a3 j))) ∧ (true = true) ∧ (((Cont.ints a1) = (Cont.ints a1)) ∧ ((Cont.ints a2) = (Cont.ints a2)) ∧ ((Cont.ints a3) = (Cont.ints a3)) ∧ True) ∧ ((Cont.ints j) = (Cont.ints j)) ∧ True) ∧ (((true = true) ∧ ((Cont.pts (apL a1 j (ilen a1 + 1))) = (Cont.pts (apL a1 j (ilen a1 + 1))))) ∧ (((Cont.ints a1) = (Cont.ints a1)) ∧ ((Cont.ints a2) = (Cont.ints a2)) ∧ ((Cont.ints a3) = (Cont.ints a3)) ∧ True) ∧ True)) ∧ ((([GK.int, GK.bool] : List GK) = ([GK.int, GK.bool] : List GK)) ∧ I1 [GV.int (iadd i1_0 (1 : Int)), GV.bool b2_1] ∧ μ1 [GV.int (iadd i1_0 (1 : Int)), GV.bool b2_1] < μ1 [GV.int i1_0, GV.bool b1_1]))))))) ∧ ((ilt i1_0 (isub (ilen (apL a1 j (ilen a1 + 1))) (1 : Int))) = false → ((true = true) ∧ ((True) ∧ True) ∧ ((true : Bool) = (scB a1 a2 a3 j)) ∧ True))))))) = ev sig_impl_SelfClear xs_impl_SelfClear Tryd.f44.ntmps (fun b => if b == 0 then [.v 18, .v 4] else if b == 2 then [.v 7, .v 4] else []) (codeOf Tryd.f44) 0 (initS [.agg [.view (.ints a1), .view (.ints a2), .view (.ints a3)], .s (.view (.ints j))]) (retK Tryd.f44.results.toList [.s (.bool (scB a1 a2 a3 j))]) := by kernel_rfl
set_option maxHeartbeats 400000 in
theorem F_impl_SelfClear : FunOK 44 g_impl_SelfClear := by
  refine fun_F (by kernel_rfl) Tryd.func44 rfl (by kernel_rfl) sig_impl_SelfClear_ok xs_impl_SelfClear_ok ?_
  intro avs sg h hn hl
  unfold g_impl_SelfClear at h
  split at h
  · rename_i a1 a2 a3 j
    injection h with h; subst h
    refine ⟨by kernel_rfl, fun b => if b == 0 then [.v 18, .v 4] else if b == 2 then [.v 7, .v 4] else [], Eq.mp (V_impl_SelfClear a1 a2 a3 j) ?_⟩
    simp only [true_and, and_true, implies_true, and_self, forall_const, true_implies, lenA, lenL, SV.lenOK, Cont.lenOK] at hn hl ⊢
    simp only [ilt_t, ilt_f, ile_t, ile_f, ieq_t, ieq_f, bnot_e, band_e, bite_and, bite_or, NLt_e, NLe_e, NNe_e, NIs_e, imax_e, imin_e, irem_e, Bool.not_eq_true', Bool.not_eq_false', Bool.and_eq_true, Bool.or_eq_true, Bool.or_eq_false_iff, Bool.and_eq_false_iff, Cont.pts.injEq, Cont.ints.injEq, Cont.bools.injEq, Cont.ptss.injEq, Cont.intss.injEq, Cont.boolss.injEq, true_and, and_true, implies_true]
    refine ⟨fun h => by unfold scB; simp [h], fun hj => ⟨hj, ?_⟩⟩
    obtain ⟨ha, hjl, hl4, hlk, hjk⟩ := jv_p hj
    have hv := fun (k : Int) (h0 : 0 ≤ k) (h1 : k ≤ ilen a1) => jv_vB hj h0 h1
    have hlen : ilen (apL a1 j (ilen a1 + 1)) = ilen a1 + 1 := apL_len (by omega)
    have hg : ∀ i, 0 ≤ i → i ≤ ilen a1 → getx (apL a1 j (ilen a1 + 1)) i = apX a1 j i ∧ gety (apL a1 j (ilen a1 + 1)) i = apY a1 j i := fun i h0 h1 => apL_get h0 (by omega)
    rw [hlen]
    generalize apL a1 j (ilen a1 + 1) = P at *
    have es : isub (ilen a1 + 1) 1 = ilen a1 := by rw [isub_e (by omega) (by omega)]; omega
    rw [es]
    refine ⟨fun | [.int i, .bool _] => 0 ≤ i ∧ i ≤ ilen a1 ∧ (∀ a, 0 ≤ a → a < i → allN (ilen a1) (scE a1 j a) = true) | _ => False, fun | .int i :: _ => (ilen a1 - i).toNat | _ => 0, ⟨by omega, by omega, fun a h0 h1 => by omega⟩, ?_⟩
    rintro i b ⟨i0, i1, hi⟩
    have e1 : iadd i 1 = i + 1 := iadd_e (by omega) (by omega)
    have e2 : iadd i 2 = i + 2 := iadd_e (by omega) (by omega)
    rw [e1, e2]
    refine ⟨fun hc => ?_, fun hc => ?_⟩
    · refine ⟨fun | [.int k, .bool _] => i + 2 ≤ k ∧ k ≤ ilen a1 + 1 ∧ (∀ m, 0 ≤ m → m < k → scE a1 j i m = true) | _ => False, fun | .int k :: _ => (ilen a1 + 1 - k).toNat | _ => 0, ⟨by omega, by omega, fun m h0 h1 => by unfold scE; simp; omega⟩, ?_⟩
      rintro k b2 ⟨k0, k1, hk⟩
      have e3 : iadd k 1 = k + 1 := iadd_e (by omega) (by omega)
      rw [e3]
      refine ⟨fun hc2 => ?_, fun hc2 => ?_⟩
      · obtain ⟨x1, y1⟩ := hg i (by omega) (by omega)
        obtain ⟨x2, y2⟩ := hg (i + 1) (by omega) (by omega)
        obtain ⟨x3, y3⟩ := hg k (by omega) (by omega)
        obtain ⟨x4, y4⟩ := hg (k + 1) (by omega) (by omega)
        rw [x1, y1, x2, y2, x3, y3, x4, y4]
        refine ⟨⟨⟨by omega, by omega⟩, by omega, ⟨by omega, by omega⟩, by omega, ⟨by omega, by omega⟩, by omega, ⟨by omega, by omega⟩, by omega, hv _ (by omega) (by omega), hv _ (by omega) (by omega), hv _ (by omega) (by omega), hv _ (by omega) (by omega)⟩, fun hm => ?_, fun hm => ?_⟩
        · have hE : scE a1 j i k = false := by unfold scE segM; rw [hm]; simp; omega
          unfold scB
          rw [allN_no i i0 (by omega) (allN_no k (by omega) (by omega) hE)]; simp
        · have hE : scE a1 j i k = true := by unfold scE segM; rw [hm]; simp
          exact ⟨⟨by omega, by omega, fun m m0 m1 => by
            by_cases h : m = k
            · rw [h]; exact hE
            · exact hk m m0 (by omega)⟩, by show (ilen a1 + 1 - (k + 1)).toNat < (ilen a1 + 1 - k).toNat; omega⟩
      · exact ⟨⟨by omega, by omega, fun a h0 h1 => by
          by_cases h : a = i
          · rw [h]; exact allN_mk fun m m0 m1 => hk m m0 (by omega)
          · exact hi a h0 (by omega)⟩, by show (ilen a1 - (i + 1)).toNat < (ilen a1 - i).toNat; omega⟩
    · unfold scB
      rw [hj, allN_mk fun a h0 h1 => hi a h0 (by omega)]; rfl
  · cases h
def eqI (l m : List Int) : Bool := decide (ilen l = ilen m) && allN (ilen l) fun j => decide (geti l j = geti m j)
theorem eqI_same (l : List Int) : eqI l l = true := by
  unfold eqI
  rw [allN_mk fun j _ _ => by simp]
  simp
def g_laws_eqIntS : List AV → Option Sg
  | [.s (.view (.ints l)), .s (.view (.ints m))] => some ⟨True, [.s (.bool (eqI l m))]⟩
  | _ => none
def sig_laws_eqIntS : FuncId → List AV → Option Sg := sigL []
def xs_laws_eqIntS : XS := ⟨xsigL [], ysigL []⟩
theorem sig_laws_eqIntS_ok : SigOK sig_laws_eqIntS := sigL_nil
theorem xs_laws_eqIntS_ok : XSigOK xs_laws_eqIntS := ⟨xsigL_nil, ysigL_nil⟩
theorem V_laws_eqIntS (l : List Int) (m : List Int) : ((true = true) ∧ ((True) ∧ True) ∧ (true = true) ∧ ((True) ∧ (True) ∧ (True) ∧ (True) ∧ (True) ∧ True) ∧ ((bnot (ieq (ilen l) (ilen m))) = true → ((true = true) ∧ ((True) ∧ True) ∧ ((false : Bool) = (eqI l m)) ∧ True)) ∧ ((bnot (ieq (ilen l) (ilen m))) = false → ((true = true) ∧ ((True) ∧ True) ∧ ∃ (I1 : List GV → Prop) (μ1 : List GV → Nat), (((true = true) ∧ (((false : Bool) = false) ∧ (((0 : Int) : Int) = (0 : Int)) ∧ ((Cont.ints l) = (Cont.ints l)) ∧ (((ilen l) : Int) = (ilen l)) ∧ ((Cont.ints m) = (Cont.ints m)) ∧ (((ilen m) : Int) = (ilen m)) ∧ (((bnot (ieq (ilen l) (ilen m))) : Bool) = (bnot (ieq (ilen l) (ilen m)))) ∧ ((Cont.ints l) = (Cont.ints l)) ∧ ((Cont.ints m) = (Cont.ints m)) ∧ True) ∧ (True)) ∧ (([GK.int, GK.bool] : List GK) = ([GK.int, GK.bool] : List GK)) ∧ I1 [GV.int (0 : Int), GV.bool false]) ∧ (∀ i1_0 : Int, ∀ b1_1 : Bool, I1 [GV.int i1_0, GV.bool b1_1] → ((true = true) ∧ ((True) ∧ (True) ∧ (True) ∧ (True) ∧ True) ∧ ((ilt i1_0 (ilen l)) = true → ((true = true) ∧ ((True) ∧ (True) ∧ (NLe 0 i1_0 ∧ NLt i1_0 (ilen l)) ∧ (True) ∧ (True) ∧ (True) ∧ (NLe 0 i1_0 ∧ NLt i1_0 (ilen m)) ∧ (True) ∧ (True) ∧ True) ∧ ((bnot (ieq (geti l i1_0) (geti m i1_0))) = true → ((true = true) ∧ ((True) ∧ True) ∧ ((false : Bool) = (eqI l m)) ∧ True)) ∧ ((bnot (ieq (geti l i1_0) (geti m i1_0))) = false → ((true = true) ∧ ((True) ∧ (True) ∧ (True) ∧ True) ∧ ((true = true) ∧ (((b1_1 : Bool) = b1_1) ∧ (((iadd i1_0 (1 : Int)) : Int) = (iadd i1_0 (1 : Int))) ∧ ((Cont.ints l) = (Cont.ints l)) ∧ (((ilen l) : Int) = (ilen l)) ∧ ((Cont.ints m) = (Cont.ints m)) ∧ (((ilen m) : Int) = (ilen m)) ∧ (((bnot (ieq (ilen l) (ilen m))) : Bool) = (bnot (ieq (ilen l) (ilen m)))) ∧ ((Cont.ints l) = (Cont.ints l)) ∧ ((Cont.ints m) = (Cont.ints m)) ∧ True) ∧ (True)) ∧ ((([GK.int, GK.bool] : List GK) = ([GK.int, GK.bool] : List GK)) ∧ I1 [GV.int (iadd i1_0 (1 : Int)), GV.bool b1_1] ∧ μ1 [GV.int (iadd i1_0 (1 : Int)), GV.bool b1_1] < μ1 [GV.int i1_0, GV.bool b1_1]))))) ∧ ((ilt i1_0 (ilen l)) = false → ((true = true) ∧ ((True) ∧ True) ∧ ((true : Bool) = (eqI l m)) ∧ True))))))) = ev sig_laws_eqIntS xs_laws_eqIntS Tryd.f45.ntmps (fun b => if b == 0 then [.v 5, .v 4] else []) (codeOf Tryd.f45) 0 (initS [.s (.view (.ints l)), .s (.view (.ints m))]) (retK Tryd.f45.results.toList [.s (.bool (eqI l m))]) := by kernel_rfl
set_option maxHeartbeats 400000 in
theorem F_laws_eqIntS : FunOK 45 g_laws_eqIntS := by
  refine fun_F (by kernel_rfl) Tryd.func45 rfl (by kernel_rfl) sig_laws_eqIntS_ok xs_laws_eqIntS_ok ?_
  intro avs sg h hn hl
  unfold g_laws_eqIntS at h
  split at h
  · rename_i l m
    injection h with h; subst h
    refine ⟨by kernel_rfl, fun b => if b == 0 then [.v 5, .v 4] else [], Eq.mp (V_laws_eqIntS l m) ?_⟩
    simp only [true_and, and_true, implies_true, and_self, forall_const, true_implies, lenA, lenL, SV.lenOK, Cont.lenOK] at hn hl ⊢
    have h0 := ilen_0 l
    simp only [ilt_t, ilt_f, ile_t, ile_f, ieq_t, ieq_f, bnot_e, band_e, bite_and, bite_or, NLt_e, NLe_e, NNe_e, NIs_e, imax_e, imin_e, irem_e, Bool.not_eq_true', Bool.not_eq_false', Bool.and_eq_true, Bool.or_eq_true, Bool.or_eq_false_iff, Bool.and_eq_false_iff, Cont.pts.injEq, Cont.ints.injEq, Cont.bools.injEq, Cont.ptss.injEq, Cont.intss.injEq, Cont.boolss.injEq, true_and, and_true, implies_true]
    unfold eqI
    refine ⟨fun h => by simp [h], fun h => ?_⟩
    refine ⟨fun | .int k :: _ => 0 ≤ k ∧ k ≤ ilen l ∧ ∀ j, 0 ≤ j → j < k → decide (geti l j = geti m j) = true | _ => False, fun | .int k :: _ => (ilen l - k).toNat | _ => 0, ?_, ?_⟩
    · exact ⟨Int.le_refl 0, h0, fun j h0 h1 => absurd h1 (by omega)⟩
    · rintro k _ ⟨hk0, hk1, hk⟩
      simp only [ilt_t, ilt_f, ile_t, ile_f, ieq_t, ieq_f, bnot_e, band_e, bite_and, bite_or, NLt_e, NLe_e, NNe_e, NIs_e, imax_e, imin_e, irem_e, Bool.not_eq_true', Bool.not_eq_false', Bool.and_eq_true, Bool.or_eq_true, Bool.or_eq_false_iff, Bool.and_eq_false_iff, Cont.pts.injEq, Cont.ints.injEq, Cont.bools.injEq, Cont.ptss.injEq, Cont.intss.injEq, Cont.boolss.injEq, true_and, and_true, implies_true]
      refine ⟨fun hc => ⟨⟨⟨hk0, hc⟩, hk0, by omega⟩, fun hv => ?_, fun hv => ?_⟩, fun hc => ?_⟩
      · rw [allN_no k hk0 hc (by simpa using hv)]; simp
      · rw [iadd_1 hk0 hc hl.1]
        exact ⟨⟨by omega, by omega, allN_up hk (by simpa using hv)⟩, by omega⟩
      · rw [allN_mk fun j h0 h1 => hk j h0 (by omega)]; simp [h]
  · cases h
def g_laws_eqArm : List AV → Option Sg
  | [.agg [.view (.ints a1), .view (.ints a2), .view (.ints a3)], .agg [.view (.ints b1), .view (.ints b2), .view (.ints b3)]] => some ⟨True, [.s (.bool (eqI a1 b1 && eqI a2 b2 && eqI a3 b3))]⟩
  | _ => none
def sig_laws_eqArm : FuncId → List AV → Option Sg := sigL [(45, g_laws_eqIntS)]
def xs_laws_eqArm : XS := ⟨xsigL [], ysigL []⟩
theorem sig_laws_eqArm_ok : SigOK sig_laws_eqArm := sigL_cons F_laws_eqIntS sigL_nil
theorem xs_laws_eqArm_ok : XSigOK xs_laws_eqArm := ⟨xsigL_nil, ysigL_nil⟩
theorem V_laws_eqArm (a1 : List Int) (a2 : List Int) (a3 : List Int) (b1 : List Int) (b2 : List Int) (b3 : List Int) : ((true = true) ∧ ((True) ∧ (True) ∧ (True) ∧ True) ∧ (true = true) ∧ ((True) ∧ (True) ∧ (True) ∧ (True) ∧ ((True)) ∧ (True) ∧ True) ∧ ((bnot (eqI a1 b1)) = true → ((true = true) ∧ ((True) ∧ True) ∧ ((false : Bool) = (eqI a1 b1 && eqI a2 b2 && eqI a3 b3)) ∧ True)) ∧ ((bnot (eqI a1 b1)) = false → ((true = true) ∧ ((True) ∧ (True) ∧ (True) ∧ (True) ∧ ((True)) ∧ (True) ∧ True) ∧ ((bnot (eqI a2 b2)) = true → ((true = true) ∧ ((True) ∧ True) ∧ ((false : Bool) = (eqI a1 b1 && eqI a2 b2 && eqI a3 b3)) ∧ True)) ∧ ((bnot (eqI a2 b2)) = false → ((true = true) ∧ ((True) ∧ (True) ∧ (True) ∧ (True) ∧ ((True)) ∧ (True) ∧ True) ∧ ((bnot (eqI a3 b3)) = true → ((true = true) ∧ ((True) ∧ True) ∧ ((false : Bool) = (eqI a1 b1 && eqI a2 b2 && eqI a3 b3)) ∧ True)) ∧ ((bnot (eqI a3 b3)) = false → ((true = true) ∧ ((True) ∧ True) ∧ ((true : Bool) = (eqI a1 b1 && eqI a2 b2 && eqI a3 b3)) ∧ True))))))) = ev sig_laws_eqArm xs_laws_eqArm Tryd.f26.ntmps (fun b => []) (codeOf Tryd.f26) 0 (initS [.agg [.view (.ints a1), .view (.ints a2), .view (.ints a3)], .agg [.view (.ints b1), .view (.ints b2), .view (.ints b3)]]) (retK Tryd.f26.results.toList [.s (.bool (eqI a1 b1 && eqI a2 b2 && eqI a3 b3))]) := by kernel_rfl
set_option maxHeartbeats 400000 in
theorem F_laws_eqArm : FunOK 26 g_laws_eqArm := by
  refine fun_F (by kernel_rfl) Tryd.func26 rfl (by kernel_rfl) sig_laws_eqArm_ok xs_laws_eqArm_ok ?_
  intro avs sg h hn hl
  unfold g_laws_eqArm at h
  split at h
  · rename_i a1 a2 a3 b1 b2 b3
    injection h with h; subst h
    refine ⟨by kernel_rfl, fun b => [], Eq.mp (V_laws_eqArm a1 a2 a3 b1 b2 b3) ?_⟩
    simp only [true_and, and_true, implies_true, and_self, forall_const, true_implies, lenA, lenL, SV.lenOK, Cont.lenOK] at hn hl ⊢
    simp only [ilt_t, ilt_f, ile_t, ile_f, ieq_t, ieq_f, bnot_e, band_e, bite_and, bite_or, NLt_e, NLe_e, NNe_e, NIs_e, imax_e, imin_e, irem_e, Bool.not_eq_true', Bool.not_eq_false', Bool.and_eq_true, Bool.or_eq_true, Bool.or_eq_false_iff, Bool.and_eq_false_iff, Cont.pts.injEq, Cont.ints.injEq, Cont.bools.injEq, Cont.ptss.injEq, Cont.intss.injEq, Cont.boolss.injEq, true_and, and_true, implies_true]
    cases eqI a1 b1 <;> cases eqI a2 b2 <;> cases eqI a3 b3 <;> simp
  · cases h
theorem bxor_self (a : Bool) : bxor a a = false := by cases a <;> simp [bxor]
def g_laws_FnExactSelfClear : List AV → Option Sg
  | [.agg [.view (.ints a1), .view (.ints a2), .view (.ints a3)], .s (.view (.ints j))] => some ⟨True, [.s (.bool (true))]⟩
  | _ => none
def sig_laws_FnExactSelfClear : FuncId → List AV → Option Sg := sigL [(23, g_laws_toArm), (43, g_laws_toIntS), (42, g_spec_SelfClear), (44, g_impl_SelfClear), (26, g_laws_eqArm), (45, g_laws_eqIntS)]
def xs_laws_FnExactSelfClear : XS := ⟨xsigL [], ysigL [(21, g_laws_szArm)]⟩
theorem sig_laws_FnExactSelfClear_ok : SigOK sig_laws_FnExactSelfClear := sigL_cons F_laws_toArm (sigL_cons F_laws_toIntS (sigL_cons F_spec_SelfClear (sigL_cons F_impl_SelfClear (sigL_cons F_laws_eqArm (sigL_cons F_laws_eqIntS sigL_nil)))))
theorem xs_laws_FnExactSelfClear_ok : XSigOK xs_laws_FnExactSelfClear := ⟨xsigL_nil, ysigL_cons F_laws_szArm ysigL_nil⟩
theorem V_laws_FnExactSelfClear (a1 : List Int) (a2 : List Int) (a3 : List Int) (j : List Int) : ((true = true) ∧ ((True) ∧ (True) ∧ True) ∧ (true = true) ∧ ((True) ∧ (True) ∧ (True) ∧ True) ∧ ((ilt (1048576 : Int) (ilen j)) = true → ((true = true) ∧ ((True) ∧ True) ∧ ((true : Bool) = (true)) ∧ True)) ∧ ((ilt (1048576 : Int) (ilen j)) = false → ((true = true) ∧ ((True) ∧ True) ∧ (true = true) ∧ ((True) ∧ (True) ∧ True) ∧ (true = true) ∧ ((0 ≤ (1048576 : Int) ∧ (1048576 : Int) ≤ 1048576)) ∧ (∀ k_1 : Int, ((k_1 < 0 ∨ (0 ≤ k_1 ∧ k_1 ≤ (1048576 : Int) ∧ ilen a1 ≤ (1048576 : Int) ∧ ilen a2 ≤ (1048576 : Int) ∧ ilen a3 ≤ (1048576 : Int))) → ((True) ∧ (true = true) ∧ ((True) ∧ (True) ∧ True) ∧ ((ilt (k_1) (0 : Int)) = true → ((true = true) ∧ ((True) ∧ True) ∧ ((true : Bool) = (true)) ∧ True)) ∧ ((ilt (k_1) (0 : Int)) = false → ((true = true) ∧ ((True) ∧ ((ilen a1 ≤ 100000000 ∧ ilen a2 ≤ 100000000 ∧ ilen a3 ≤ 100000000)) ∧ (True) ∧ ((ilen j ≤ 100000000)) ∧ ((True)) ∧ (True) ∧ True) ∧ (true = true) ∧ ((True) ∧ ((ilen a1 ≤ 100000000 ∧ ilen a2 ≤ 100000000 ∧ ilen a3 ≤ 100000000)) ∧ (True) ∧ True) ∧ (True) ∧ (true = true) ∧ ((True) ∧ ((ilen j ≤ 100000000)) ∧ (True) ∧ True) ∧ (true = true) ∧ ((True) ∧ (True) ∧ ((True)) ∧ (True) ∧ True) ∧ (true = true) ∧ ((True) ∧ (True) ∧ (True) ∧ True) ∧ ((bxor (scB (a1) (a2) (a3) (j)) (scB (a1) (a2) (a3) (j))) = true → ((true = true) ∧ ((True) ∧ True) ∧ ((false : Bool) = (true)) ∧ True)) ∧ ((bxor (scB (a1) (a2) (a3) (j)) (scB (a1) (a2) (a3) (j))) = false → ((true = true) ∧ ((True) ∧ (True) ∧ ((ilen a1 ≤ 100000000 ∧ ilen a2 ≤ 100000000 ∧ ilen a3 ≤ 100000000)) ∧ ((True)) ∧ (True) ∧ True) ∧ ((bnot (eqI (a1) (a1) && eqI (a2) (a2) && eqI (a3) (a3))) = true → ((true = true) ∧ ((True) ∧ True) ∧ ((false : Bool) = (true)) ∧ True)) ∧ ((bnot (eqI (a1) (a1) && eqI (a2) (a2) && eqI (a3) (a3))) = false → ((true = true) ∧ ((True) ∧ (True) ∧ ((ilen j ≤ 100000000)) ∧ ((True)) ∧ (True) ∧ True) ∧ ((bnot (eqI (j) (j))) = true → ((true = true) ∧ ((True) ∧ True) ∧ ((false : Bool) = (true)) ∧ True)) ∧ ((bnot (eqI (j) (j))) = false → ((true = true) ∧ ((True) ∧ True) ∧ ((true : Bool) = (true)) ∧ True)))))))))))))) = ev sig_laws_FnExactSelfClear xs_laws_FnExactSelfClear Tryd.f8.ntmps (fun b => []) (codeOf Tryd.f8) 0 (initS [.agg [.view (.ints a1), .view (.ints a2), .view (.ints a3)], .s (.view (.ints j))]) (retK Tryd.f8.results.toList [.s (.bool (true))]) := by kernel_rfl
set_option maxHeartbeats 400000 in
theorem F_laws_FnExactSelfClear : FunOK 8 g_laws_FnExactSelfClear := by
  refine fun_F (by kernel_rfl) Tryd.func8 rfl (by kernel_rfl) sig_laws_FnExactSelfClear_ok xs_laws_FnExactSelfClear_ok ?_
  intro avs sg h hn hl
  unfold g_laws_FnExactSelfClear at h
  split at h
  · rename_i a1 a2 a3 j
    injection h with h; subst h
    refine ⟨by kernel_rfl, fun b => [], Eq.mp (V_laws_FnExactSelfClear a1 a2 a3 j) ?_⟩
    simp only [true_and, and_true, implies_true, and_self, forall_const, true_implies, lenA, lenL, SV.lenOK, Cont.lenOK] at hn hl ⊢
    simp only [ilt_t, ilt_f, ile_t, ile_f, ieq_t, ieq_f, bnot_e, band_e, bite_and, bite_or, NLt_e, NLe_e, NNe_e, NIs_e, imax_e, imin_e, irem_e, Bool.not_eq_true', Bool.not_eq_false', Bool.and_eq_true, Bool.or_eq_true, Bool.or_eq_false_iff, Bool.and_eq_false_iff, Cont.pts.injEq, Cont.ints.injEq, Cont.bools.injEq, Cont.ptss.injEq, Cont.intss.injEq, Cont.boolss.injEq, true_and, and_true, implies_true, eqI_same, bxor_self]
    intro hj
    refine ⟨by omega, fun k hk h0 => ⟨⟨by omega, by omega⟩, by omega, by omega, by simp, fun _ => ⟨by omega, by simp, fun _ => ⟨by omega, by simp⟩⟩⟩⟩
  · cases h
theorem fnExactSelfClear_walk (w : World) (v0 : Value) (x0 : List Int × List Int × List Int) (w0 : ArmArg w v0 x0) (v1 : Value) (x1 : List Int) (w1 : IntsArg w v1 x1) (hI : GInv w) : Calls Tryd.prog 8 #[v0, v1] w fun e w' => e = .returned (.bool true) ∧ Bel w w' :=
  walk_of F_laws_FnExactSelfClear (avs := [.agg [.view (.ints x0.1), .view (.ints x0.2.1), .view (.ints x0.2.2)], .s (.view (.ints x1))]) rfl trivial ⟨arm_reads w0, w1.1, trivial⟩
set_option maxRecDepth 100000 in
theorem fnExactSelfClear_lifted (os : Os) (started : os.Started) (H : Type) (enc : TypeId × Value → H) :
    ReturnsInHanded {} Tryd.checked os 8 .any (fun w args => (Rows.fnExactSelfClearSpec.pre enc Tryd.prog Tryd.f8 [] false w args ∧ laidMetH Tryd.prog laid3 w) ∧ sizedMet enc Tryd.prog Tryd.f8 (OpenSpec.ofChange Rows.fnExactSelfClearSpec) false w args) (Rows.fnExactSelfClearSpec.post enc Tryd.prog Tryd.f8 false true false false) := by
  have own : ownKnob Tryd.prog.godebug = none := by kernel_rfl
  have laidOut : laidOutB Tryd.prog = true := by kernel_rfl
  refine returnsInHanded_of_change_and (C := Tryd.checked) (X := fun w _ => laidMetH Tryd.prog laid3 w) (fun _ _ _ hh h => h.of_heap hh) own started (by kernel_rfl) Tryd.func8
    (ChangeSpec.witness_shaped (enc := enc) (C := Tryd.checked) (os := os) (X := fun w _ => laidMetH Tryd.prog laid3 w) false (World.doorLaid Tryd.prog 400 os) #[.agg #[.slice none 0 0, .slice none 0 0, .slice none 0 0], .slice none 0 0] 8 rfl (World.shaped_of_RefB (by kernel_rfl) (by kernel_rfl)) (by kernel_rfl) (by kernel_rfl) (by kernel_rfl) (door_met os _)) ?_
  intro W base args ds gs before hval0 hW _ _ hL _
  have hI := of_laid hL
  have hval : ∀ (j : Nat) t v, Tryd.f8.params[j]? = some t → args[j]? = some v → Value.okWide Tryd.prog W .any base t v := hval0
  have hW' := hW
  obtain ⟨p, q, hA0, hV, rfl, hfz, hnd⟩ := hW
  have hA : DataW.TrodAll enc Tryd.prog W 0 (fun _ => true) true Tryd.f8.params.toList args.toList ds p := hA0
  rw [Tryd.params8] at hA hval
  obtain ⟨v0, vs0, d0, ds0, p0, q0, hargs, rfl, rfl, h0, r0⟩ := trodAll_cons hA
  obtain ⟨v1, vs1, d1, ds1, p1, q1, rfl, rfl, rfl, h1, r1⟩ := trodAll_cons r0
  obtain ⟨rfl, rfl, rfl⟩ := trodAll_nil r1
  obtain rfl : args = #[v0, v1] := by cases args; simp_all
  obtain ⟨rfl, rfl⟩ := trodVars_none hV
  have k0 := h0
  have lt0 : ∀ x ∈ p0, x.block < W.heap.size := by obtain ⟨m, hm⟩ := k0; exact DataW.trod_lt m _ _ _ hm
  have k1 := h1
  have lt1 : ∀ x ∈ p1, x.block < W.heap.size := by obtain ⟨m, hm⟩ := k1; exact DataW.trod_lt m _ _ _ hm
  obtain ⟨x0, w0⟩ := opn_Arm (hval 0 40 v0 rfl rfl) h0
  obtain ⟨x1, w1⟩ := opn_Ints (hval 1 23 v1 rfl rfl) h1
  clear hA0 hval0
  refine (fnExactSelfClear_walk W v0 x0 w0 v1 x1 w1 hI).mono fun e W' ⟨he, bel⟩ => ?_
  subst he
  exact ⟨_, rfl, _, _, _, [], _, [], hW', trodAll_mk1 (shut_bool Tryd.underlying4 _), (trodAll_cons_mk (Below.trod laidOut (by kernel_rfl) (of_decide_eq_true (by kernel_rfl)) k0 bel lt0) (trodAll_cons_mk (Below.trod laidOut (by kernel_rfl) (of_decide_eq_true (by kernel_rfl)) k1 bel lt1) trodAll_mk0)), rfl, Below.frame bel _, fun h => by cases h⟩
theorem fnExactSelfClear_over : Rows.fnExactSelfClearRow.holds Tryd.pinned (OpenSpec.ofChange Rows.fnExactSelfClearSpec) :=
  OpenClaim.holds_of_wide 8 Tryd.f8 rfl rfl rfl rfl rfl rfl rfl ⟨rfl, rfl, rfl, rfl, rfl⟩ rfl rfl rfl rfl rfl (by kernel_rfl) Tryd.func8 (by kernel_rfl)
    (of_decide_eq_true (by kernel_rfl)) (by unfold Func.isWrapper; first | (rw [if_pos (by decide +kernel)]; kernel_rfl) | (rw [if_neg (by decide +kernel)]; exact ⟨rfl, rfl⟩))
    (fun os started H enc _ => fnExactSelfClear_lifted os started H enc)
theorem fnExactSelfClear_proved : Rows.FnExactSelfClearCardSaid :=
  Claim7.holds_tied_plain_at .later [] [.data, .data, .data] true (true, "16bbdc3ad5447965b735ab462f47ba12bb60540d08a1c5142685da0634440668") false
    fnExactSelfClear_over (fun _ h => by cases h) (by kernel_rfl) (fun _ h => by cases h) fnExactSelfClear_row_tie rfl ⟨rfl, rfl⟩ (by kernel_rfl) rfl
    (fun f fn hf hfn => by
      obtain rfl : f = 8 := Option.some.inj ((show Tryd.prog.funcNamed "loop.example/robotcell/laws.FnExactSelfClear" = some 8 by kernel_rfl).symm.trans hf) |>.symm
      obtain rfl : fn = Tryd.f8 := (Option.some.inj (Tryd.func8.symm.trans hfn)).symm
      exact ⟨by kernel_rfl, fun j t ht => by
        rw [Tryd.params8] at ht
        have hm : t ∈ [40, 23] := by simpa using Array.mem_of_getElem? ht
        have hall : ([40, 23].all fun u => !Tryd.prog.wantsStandIn u) = true := by kernel_rfl
        exact (show Tryd.prog.wantsStandIn t = false by simpa using List.all_eq_true.1 hall t hm)⟩)
    (by kernel_rfl)
#print axioms fnExactSelfClear_proved
end Go.Proofs.YtdkpnlhcodogeaaDoor

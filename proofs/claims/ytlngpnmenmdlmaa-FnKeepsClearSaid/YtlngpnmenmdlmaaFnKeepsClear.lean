/- 'FnKeepsClear': for every code both sides tell the same; a distance below 0 or above 1000 is not kept; without obstacles every distance is kept, and a point that keeps a distance keeps the one less by 1, and the distance 0. Conditions: none. -/
import Derived.Test.YtlngpnmenmdlmaaFnKeepsClearP1
namespace Go.Proofs.Ytlngpnmenmdlmaa
open Go.ChangeShapes Go.WideShapes Go.ChangeAt Go.RowKit
set_option maxRecDepth 100000
set_option linter.unusedSimpArgs false
set_option linter.unusedVariables false
def g_slices_ContainsFunc_Simpl_Point_impl_Point : List AV → Option Sg
  | [.s (.view (.pts l)), .s (.x (.func (.func 72) ⟨[]⟩ ⟨[]⟩))] => some ⟨True, [.s (.bool (anyN (ilen l) fun i => !nearB (getx l i) (gety l i)))]⟩
  | _ => none
def sig_slices_ContainsFunc_Simpl_Point_impl_Point : FuncId → List AV → Option Sg := sigL [(94, g_slices_IndexFunc_Simpl_Point_impl_Point)]
def xs_slices_ContainsFunc_Simpl_Point_impl_Point : XS := ⟨xsigL [], ysigL []⟩
theorem sig_slices_ContainsFunc_Simpl_Point_impl_Point_ok : SigOK sig_slices_ContainsFunc_Simpl_Point_impl_Point := sigL_cons F_slices_IndexFunc_Simpl_Point_impl_Point sigL_nil
theorem xs_slices_ContainsFunc_Simpl_Point_impl_Point_ok : XSigOK xs_slices_ContainsFunc_Simpl_Point_impl_Point := ⟨xsigL_nil, ysigL_nil⟩
theorem V_slices_ContainsFunc_Simpl_Point_impl_Point (l : List Pt) : ((true = true) ∧ ((True) ∧ True) ∧ (true = true) ∧ ((True) ∧ (True) ∧ ((True)) ∧ (True) ∧ (True) ∧ True) ∧ (((ile (0 : Int) (idxN (ilen l) fun i => !nearB (getx l i) (gety l i))) : Bool) = (anyN (ilen l) fun i => !nearB (getx l i) (gety l i))) ∧ True) = ev sig_slices_ContainsFunc_Simpl_Point_impl_Point xs_slices_ContainsFunc_Simpl_Point_impl_Point Try.f71.ntmps (fun b => []) (codeOf Try.f71) 0 (initS [.s (.view (.pts l)), .s (.x (.func (.func 72) ⟨[]⟩ ⟨[]⟩))]) (retK Try.f71.results.toList [.s (.bool (anyN (ilen l) fun i => !nearB (getx l i) (gety l i)))]) := by kernel_rfl
set_option maxHeartbeats 400000 in
theorem F_slices_ContainsFunc_Simpl_Point_impl_Point : FunOK 71 g_slices_ContainsFunc_Simpl_Point_impl_Point := by
  refine fun_F (by kernel_rfl) Try.func71 rfl (by kernel_rfl) sig_slices_ContainsFunc_Simpl_Point_impl_Point_ok xs_slices_ContainsFunc_Simpl_Point_impl_Point_ok ?_
  intro avs sg h hn hl
  unfold g_slices_ContainsFunc_Simpl_Point_impl_Point at h
  split at h
  · rename_i l
    injection h with h; subst h
    refine ⟨by kernel_rfl, fun b => [], Eq.mp (V_slices_ContainsFunc_Simpl_Point_impl_Point l) ?_⟩
    simp only [true_and, and_true, implies_true, and_self, forall_const, true_implies, lenA, lenL, SV.lenOK, Cont.lenOK] at hn hl ⊢
    rw [idxN_any (ilen_0 l)]
  · cases h
def insE (l : List Pt) (p1 p2 i : Int) : Bool := decide (0 ≤ crW (getx l i) (gety l i) (getx l (nx l i)) (gety l (nx l i)) p1 p2)
def insB (l : List Pt) (p1 p2 : Int) : Bool := allN (ilen l) (insE l p1 p2)
def g_impl_inside : List AV → Option Sg
  | [.s (.view (.pts l)), .agg [.int p1, .int p2]] => some ⟨True, [.s (.bool (insB l p1 p2))]⟩
  | _ => none
def sig_impl_inside : FuncId → List AV → Option Sg := sigL [(53, g_impl_cross)]
def xs_impl_inside : XS := ⟨xsigL [], ysigL []⟩
theorem sig_impl_inside_ok : SigOK sig_impl_inside := sigL_cons F_impl_cross sigL_nil
theorem xs_impl_inside_ok : XSigOK xs_impl_inside := ⟨xsigL_nil, ysigL_nil⟩
theorem V_impl_inside (l : List Pt) (p1 : Int) (p2 : Int) : ((true = true) ∧ ((True) ∧ (True) ∧ True) ∧ (true = true) ∧ ((True) ∧ (True) ∧ (True) ∧ True) ∧ ∃ (I1 : List GV → Prop) (μ1 : List GV → Nat), (((true = true) ∧ (((false : Bool) = false) ∧ (((0 : Int) : Int) = (0 : Int)) ∧ ((Cont.pts l) = (Cont.pts l)) ∧ (((ilen l) : Int) = (ilen l)) ∧ (true = true) ∧ ((Cont.pts l) = (Cont.pts l)) ∧ (((p1 : Int) = p1) ∧ ((p2 : Int) = p2) ∧ True) ∧ True) ∧ ((((p1 : Int) = p1) ∧ ((p2 : Int) = p2) ∧ True) ∧ True)) ∧ (([GK.int, GK.bool] : List GK) = ([GK.int, GK.bool] : List GK)) ∧ I1 [GV.int (0 : Int), GV.bool false]) ∧ (∀ i1_0 : Int, ∀ b1_1 : Bool, I1 [GV.int i1_0, GV.bool b1_1] → ((true = true) ∧ ((True) ∧ True) ∧ ((ilt i1_0 (ilen l)) = true → ((true = true) ∧ ((True) ∧ (NLe 0 i1_0 ∧ NLt i1_0 (ilen l)) ∧ (True) ∧ (True) ∧ (True) ∧ True) ∧ (True) ∧ (true = true) ∧ ((True) ∧ (True) ∧ (True) ∧ (True) ∧ (True) ∧ (True) ∧ (NNe (ilen l) 0) ∧ (NLe 0 (irem (iadd i1_0 (1 : Int)) (ilen l)) ∧ NLt (irem (iadd i1_0 (1 : Int)) (ilen l)) (ilen l)) ∧ (True) ∧ (True) ∧ ((True)) ∧ (True) ∧ True) ∧ ((ilt (crW (getx l i1_0) (gety l i1_0) (getx l (irem (iadd i1_0 (1 : Int)) (ilen l))) (gety l (irem (iadd i1_0 (1 : Int)) (ilen l))) p1 p2) (0 : Int)) = true → ((true = true) ∧ ((True) ∧ True) ∧ ((false : Bool) = (insB l p1 p2)) ∧ True)) ∧ ((ilt (crW (getx l i1_0) (gety l i1_0) (getx l (irem (iadd i1_0 (1 : Int)) (ilen l))) (gety l (irem (iadd i1_0 (1 : Int)) (ilen l))) p1 p2) (0 : Int)) = false → ((true = true) ∧ ((True) ∧ (True) ∧ True) ∧ ((true = true) ∧ (((b1_1 : Bool) = b1_1) ∧ (((iadd i1_0 (1 : Int)) : Int) = (iadd i1_0 (1 : Int))) ∧ ((Cont.pts l) = (Cont.pts l)) ∧ (((ilen l) : Int) = (ilen l)) ∧ (true = true) ∧ ((Cont.pts l) = (Cont.pts l)) ∧ (((p1 : Int) = p1) ∧ ((p2 : Int) = p2) ∧ True) ∧ True) ∧ ((((p1 : Int) = p1) ∧ ((p2 : Int) = p2) ∧ True) ∧ True)) ∧ ((([GK.int, GK.bool] : List GK) = ([GK.int, GK.bool] : List GK)) ∧ I1 [GV.int (iadd i1_0 (1 : Int)), GV.bool b1_1] ∧ μ1 [GV.int (iadd i1_0 (1 : Int)), GV.bool b1_1] < μ1 [GV.int i1_0, GV.bool b1_1]))))) ∧ ((ilt i1_0 (ilen l)) = false → ((true = true) ∧ ((True) ∧ True) ∧ ((true : Bool) = (insB l p1 p2)) ∧ True))))) = ev sig_impl_inside xs_impl_inside Try.f63.ntmps (fun b => if b == 0 then [.v 9, .v 4] else []) (codeOf Try.f63) 0 (initS [.s (.view (.pts l)), .agg [.int p1, .int p2]]) (retK Try.f63.results.toList [.s (.bool (insB l p1 p2))]) := by kernel_rfl
set_option maxHeartbeats 400000 in
theorem F_impl_inside : FunOK 63 g_impl_inside := by
  refine fun_F (by kernel_rfl) Try.func63 rfl (by kernel_rfl) sig_impl_inside_ok xs_impl_inside_ok ?_
  intro avs sg h hn hl
  unfold g_impl_inside at h
  split at h
  · rename_i l p1 p2
    injection h with h; subst h
    refine ⟨by kernel_rfl, fun b => if b == 0 then [.v 9, .v 4] else [], Eq.mp (V_impl_inside l p1 p2) ?_⟩
    simp only [true_and, and_true, implies_true, and_self, forall_const, true_implies, lenA, lenL, SV.lenOK, Cont.lenOK] at hn hl ⊢
    have h0 := ilen_0 l
    simp only [ilt_t, ilt_f, ile_t, ile_f, ieq_t, ieq_f, bnot_e, band_e, bite_and, bite_or, NLt_e, NLe_e, NNe_e, NIs_e, imax_e, imin_e, irem_e, Bool.not_eq_true', Bool.not_eq_false', Bool.and_eq_true, Bool.or_eq_true, Bool.or_eq_false_iff, Bool.and_eq_false_iff, Cont.pts.injEq, Cont.ints.injEq, Cont.bools.injEq, Cont.ptss.injEq, Cont.intss.injEq, Cont.boolss.injEq, true_and, and_true, implies_true]
    refine ⟨fun | .int k :: _ => 0 ≤ k ∧ k ≤ ilen l ∧ (∀ i, 0 ≤ i → i < k → insE l p1 p2 i = true) | _ => False, fun | .int k :: _ => (ilen l - k).toNat | _ => 0, ?_, ?_⟩
    · exact ⟨Int.le_refl 0, h0, fun j h0 h1 => absurd h1 (by omega)⟩
    · rintro k _ ⟨hk0, hk1, hk⟩
      simp only [ilt_t, ilt_f, ile_t, ile_f, ieq_t, ieq_f, bnot_e, band_e, bite_and, bite_or, NLt_e, NLe_e, NNe_e, NIs_e, imax_e, imin_e, irem_e, Bool.not_eq_true', Bool.not_eq_false', Bool.and_eq_true, Bool.or_eq_true, Bool.or_eq_false_iff, Bool.and_eq_false_iff, Cont.pts.injEq, Cont.ints.injEq, Cont.bools.injEq, Cont.ptss.injEq, Cont.intss.injEq, Cont.boolss.injEq, true_and, and_true, implies_true]
      refine ⟨fun hkn => ?_, fun hkn => ?_⟩
      · have e1 := iadd_1 hk0 hkn hl
        obtain ⟨n0, n1, _⟩ := nx_in hk0 hkn
        have e2 : (k + 1).tmod (ilen l) = nx l k := rfl
        simp only [e1, e2]
        have hne : ilen l ≠ 0 := by omega
        refine ⟨⟨hk0, hkn⟩, ⟨hne, ⟨n0, n1⟩⟩, fun hx => ?_, fun hx => ?_⟩
        · have hE : insE l p1 p2 k = false := by
            unfold insE
            simp only [decide_eq_false_iff_not]
            omega
          unfold insB
          rw [allN_no k hk0 hkn hE]
        · have hE : insE l p1 p2 k = true := by
            unfold insE
            simp only [decide_eq_true_eq]
            omega
          exact ⟨⟨by omega, by omega, allN_up hk hE⟩, by omega⟩
      · unfold insB
        rw [allN_mk fun i h0 h1 => hk i h0 (by omega)]
  · cases h
def g_impl_square : List AV → Option Sg
  | [.agg [.int a1, .int a2], .agg [.int b1, .int b2]] => some ⟨vB a1 a2 = true ∧ vB b1 b2 = true, [.s (.int (sqE a1 a2 b1 b2))]⟩
  | _ => none
def sig_impl_square : FuncId → List AV → Option Sg := sigL []
def xs_impl_square : XS := ⟨xsigL [], ysigL []⟩
theorem sig_impl_square_ok : SigOK sig_impl_square := sigL_nil
theorem xs_impl_square_ok : XSigOK xs_impl_square := ⟨xsigL_nil, ysigL_nil⟩
theorem V_impl_square (a1 : Int) (a2 : Int) (b1 : Int) (b2 : Int) : ((true = true) ∧ ((True) ∧ (True) ∧ (True) ∧ True) ∧ (true = true) ∧ ((True) ∧ (True) ∧ (True) ∧ (True) ∧ (True) ∧ (True) ∧ (True) ∧ (True) ∧ (True) ∧ (True) ∧ (True) ∧ (True) ∧ (True) ∧ (True) ∧ (True) ∧ (True) ∧ (True) ∧ (True) ∧ (True) ∧ (True) ∧ (True) ∧ (True) ∧ (True) ∧ (True) ∧ True) ∧ (((iadd (imul (isub a1 b1) (isub a1 b1)) (imul (isub a2 b2) (isub a2 b2))) : Int) = (sqE a1 a2 b1 b2)) ∧ True) = ev sig_impl_square xs_impl_square Try.f95.ntmps (fun b => []) (codeOf Try.f95) 0 (initS [.agg [.int a1, .int a2], .agg [.int b1, .int b2]]) (retK Try.f95.results.toList [.s (.int (sqE a1 a2 b1 b2))]) := by kernel_rfl
set_option maxHeartbeats 400000 in
theorem F_impl_square : FunOK 95 g_impl_square := by
  refine fun_F (by kernel_rfl) Try.func95 rfl (by kernel_rfl) sig_impl_square_ok xs_impl_square_ok ?_
  intro avs sg h hn hl
  unfold g_impl_square at h
  split at h
  · rename_i a1 a2 b1 b2
    injection h with h; subst h
    refine ⟨by kernel_rfl, fun b => [], Eq.mp (V_impl_square a1 a2 b1 b2) ?_⟩
    simp only [true_and, and_true, implies_true, and_self, forall_const, true_implies, lenA, lenL, SV.lenOK, Cont.lenOK] at hn hl ⊢
    exact (sq_v hn.1 hn.2).1
  · cases h
def g_impl_segmentSquare : List AV → Option Sg
  | [.agg [.int p1, .int p2], .agg [.int a1, .int a2], .agg [.int b1, .int b2]] => some ⟨nearB p1 p2 = true ∧ nearB a1 a2 = true ∧ nearB b1 b2 = true, [.s (.int (ssqE p1 p2 a1 a2 b1 b2))]⟩
  | _ => none
def sig_impl_segmentSquare : FuncId → List AV → Option Sg := sigL [(95, g_impl_square), (53, g_impl_cross)]
def xs_impl_segmentSquare : XS := ⟨xsigL [], ysigL []⟩
theorem sig_impl_segmentSquare_ok : SigOK sig_impl_segmentSquare := sigL_cons F_impl_square (sigL_cons F_impl_cross sigL_nil)
theorem xs_impl_segmentSquare_ok : XSigOK xs_impl_segmentSquare := ⟨xsigL_nil, ysigL_nil⟩
theorem V_impl_segmentSquare (p1 : Int) (p2 : Int) (a1 : Int) (a2 : Int) (b1 : Int) (b2 : Int) : ((true = true) ∧ ((True) ∧ (True) ∧ (True) ∧ (True) ∧ True) ∧ (true = true) ∧ ((True) ∧ (True) ∧ ((vB a1 a2 = true ∧ vB b1 b2 = true)) ∧ (True) ∧ True) ∧ (true = true) ∧ ((True) ∧ (True) ∧ (True) ∧ (True) ∧ (True) ∧ (True) ∧ (True) ∧ (True) ∧ (True) ∧ (True) ∧ (True) ∧ (True) ∧ (True) ∧ (True) ∧ (True) ∧ (True) ∧ (True) ∧ (True) ∧ (True) ∧ (True) ∧ (True) ∧ (True) ∧ (True) ∧ (True) ∧ True) ∧ (true = true) ∧ ((True) ∧ (True) ∧ (True) ∧ True) ∧ ((ile (iadd (imul (isub p1 a1) (isub b1 a1)) (imul (isub p2 a2) (isub b2 a2))) (0 : Int)) = true → ((true = true) ∧ ((True) ∧ (True) ∧ ((vB p1 p2 = true ∧ vB a1 a2 = true)) ∧ (True) ∧ True) ∧ (((sqE p1 p2 a1 a2) : Int) = (ssqE p1 p2 a1 a2 b1 b2)) ∧ True)) ∧ ((ile (iadd (imul (isub p1 a1) (isub b1 a1)) (imul (isub p2 a2) (isub b2 a2))) (0 : Int)) = false → ((true = true) ∧ ((True) ∧ (True) ∧ (True) ∧ (True) ∧ True) ∧ ((ile (sqE a1 a2 b1 b2) (iadd (imul (isub p1 a1) (isub b1 a1)) (imul (isub p2 a2) (isub b2 a2)))) = true → ((true = true) ∧ ((True) ∧ (True) ∧ ((vB p1 p2 = true ∧ vB b1 b2 = true)) ∧ (True) ∧ True) ∧ (((sqE p1 p2 b1 b2) : Int) = (ssqE p1 p2 a1 a2 b1 b2)) ∧ True)) ∧ ((ile (sqE a1 a2 b1 b2) (iadd (imul (isub p1 a1) (isub b1 a1)) (imul (isub p2 a2) (isub b2 a2)))) = false → ((true = true) ∧ ((True) ∧ (True) ∧ (True) ∧ ((True)) ∧ (True) ∧ True) ∧ (true = true) ∧ ((True) ∧ (True) ∧ (True) ∧ (True) ∧ (NNe (sqE a1 a2 b1 b2) 0) ∧ (True) ∧ True) ∧ (((iquo (imul (crW a1 a2 b1 b2 p1 p2) (crW a1 a2 b1 b2 p1 p2)) (sqE a1 a2 b1 b2)) : Int) = (ssqE p1 p2 a1 a2 b1 b2)) ∧ True))))) = ev sig_impl_segmentSquare xs_impl_segmentSquare Try.f73.ntmps (fun b => []) (codeOf Try.f73) 0 (initS [.agg [.int p1, .int p2], .agg [.int a1, .int a2], .agg [.int b1, .int b2]]) (retK Try.f73.results.toList [.s (.int (ssqE p1 p2 a1 a2 b1 b2))]) := by kernel_rfl
set_option maxHeartbeats 400000 in
theorem F_impl_segmentSquare : FunOK 73 g_impl_segmentSquare := by
  refine fun_F (by kernel_rfl) Try.func73 rfl (by kernel_rfl) sig_impl_segmentSquare_ok xs_impl_segmentSquare_ok ?_
  intro avs sg h hn hl
  unfold g_impl_segmentSquare at h
  split at h
  · rename_i p1 p2 a1 a2 b1 b2
    injection h with h; subst h
    refine ⟨by kernel_rfl, fun b => [], Eq.mp (V_impl_segmentSquare p1 p2 a1 a2 b1 b2) ?_⟩
    simp only [true_and, and_true, implies_true, and_self, forall_const, true_implies, lenA, lenL, SV.lenOK, Cont.lenOK] at hn hl ⊢
    obtain ⟨np, na, nb⟩ := hn
    have hc := crs_bd na nb np
    have hsq := sq_w na nb
    simp only [ilt_t, ilt_f, ile_t, ile_f, ieq_t, ieq_f, bnot_e, band_e, bite_and, bite_or, NLt_e, NLe_e, NNe_e, NIs_e, imax_e, imin_e, irem_e, Bool.not_eq_true', Bool.not_eq_false', Bool.and_eq_true, Bool.or_eq_true, Bool.or_eq_false_iff, Bool.and_eq_false_iff, Cont.pts.injEq, Cont.ints.injEq, Cont.bools.injEq, Cont.ptss.injEq, Cont.intss.injEq, Cont.boolss.injEq, true_and, and_true, implies_true, np, na, nb, near_v np, near_v na, near_v nb, crW_e (near_v na) (near_v nb) (near_v np), al_w np na nb, mul4 hc hc, true_implies, forall_const]
    refine ⟨fun h => by unfold ssqE; rw [if_pos h], fun h => ⟨fun h2 => by unfold ssqE; rw [if_neg (by omega), if_pos h2], fun h2 => ⟨by omega, ?_⟩⟩⟩
    unfold ssqE
    rw [if_neg (by omega), if_neg (by omega)]
    have := mul4b hc hc
    exact iquo_e (by omega) (by omega) (by omega)
  · cases h
def hitE (l : List Pt) (a1 a2 b1 b2 i : Int) : Bool := meetB (a1, a2) (b1, b2) (getx l i, gety l i) (getx l (nx l i), gety l (nx l i))
def hitB (l : List Pt) (a1 a2 b1 b2 : Int) : Bool := insB l a1 a2 || insB l b1 b2 || anyN (ilen l) (hitE l a1 a2 b1 b2)
theorem allB_at {l : List Pt} (h : allB l = true) {i : Int} (h0 : 0 ≤ i) (h1 : i < ilen l) : vB (getx l i) (gety l i) = true := by
  rw [allB_N] at h; exact allN_iff.1 h i h0 h1
theorem convB_all {l : List Pt} (h : convB l = true) : 3 ≤ ilen l ∧ ilen l ≤ 8 ∧ allB l = true := by
  unfold convB at h
  simp only [Bool.and_eq_true] at h
  exact ⟨(inB_true h.1.1).1, (inB_true h.1.1).2, h.1.2⟩
theorem allB_2 (a1 a2 b1 b2 : Int) : allB [(a1, a2), (b1, b2)] = (vB a1 a2 && vB b1 b2) := by simp [allB]
def psqE (l : List Pt) (p1 p2 i : Int) : Int := ssqE p1 p2 (getx l i) (gety l i) (getx l (nx l i)) (gety l (nx l i))
def minF (l : List Pt) (p1 p2 k : Int) : Int := foldN k (fun s i => if s < 0 ∨ psqE l p1 p2 i < s then psqE l p1 p2 i else s) (-1)
def psqB (l : List Pt) (p1 p2 : Int) : Bool := convB l && nearB p1 p2 && allN (ilen l) fun i => nearB (getx l i) (gety l i)
def psq (l : List Pt) (p1 p2 : Int) : Int := if psqB l p1 p2 then (if insB l p1 p2 then 0 else minF l p1 p2 (ilen l)) else -1
theorem minF_1 {l : List Pt} {p1 p2 k : Int} (h : 0 ≤ k) : minF l p1 p2 (k + 1) = if minF l p1 p2 k < 0 ∨ psqE l p1 p2 k < minF l p1 p2 k then psqE l p1 p2 k else minF l p1 p2 k := by unfold minF; rw [foldN_1 h]
def g_impl_PolygonSquare : List AV → Option Sg
  | [.s (.view (.pts l)), .agg [.int p1, .int p2]] => some ⟨True, [.s (.int (psq l p1 p2))]⟩
  | _ => none
def sig_impl_PolygonSquare : FuncId → List AV → Option Sg := sigL [(15, g_impl_ConvexValid), (70, g_impl_near), (71, g_slices_ContainsFunc_Simpl_Point_impl_Point), (63, g_impl_inside), (73, g_impl_segmentSquare)]
def xs_impl_PolygonSquare : XS := ⟨xsigL [], ysigL []⟩
theorem sig_impl_PolygonSquare_ok : SigOK sig_impl_PolygonSquare := sigL_cons F_impl_ConvexValid (sigL_cons F_impl_near (sigL_cons F_slices_ContainsFunc_Simpl_Point_impl_Point (sigL_cons F_impl_inside (sigL_cons F_impl_segmentSquare sigL_nil))))
theorem xs_impl_PolygonSquare_ok : XSigOK xs_impl_PolygonSquare := ⟨xsigL_nil, ysigL_nil⟩
theorem V_impl_PolygonSquare (l : List Pt) (p1 : Int) (p2 : Int) : ((true = true) ∧ ((True) ∧ (True) ∧ True) ∧ (true = true) ∧ ((True) ∧ ((True)) ∧ (True) ∧ (True) ∧ (NIs (bnot (convB l)) false → True) ∧ (NIs (bnot (convB l)) false → (True)) ∧ (NIs (bnot (convB l)) false → True) ∧ (True) ∧ (True) ∧ (NIs (bite (bnot (convB l)) true (bnot (nearB p1 p2))) false → True) ∧ (NIs (bite (bnot (convB l)) true (bnot (nearB p1 p2))) false → (True)) ∧ (True) ∧ True) ∧ ((bite (bite (bnot (convB l)) true (bnot (nearB p1 p2))) true (anyN (ilen l) fun i => !nearB (getx l i) (gety l i))) = true → ((true = true) ∧ ((True) ∧ True) ∧ (((-1 : Int) : Int) = (psq l p1 p2)) ∧ True)) ∧ ((bite (bite (bnot (convB l)) true (bnot (nearB p1 p2))) true (anyN (ilen l) fun i => !nearB (getx l i) (gety l i))) = false → ((true = true) ∧ ((True) ∧ (True) ∧ ((True)) ∧ True) ∧ ((insB l p1 p2) = true → ((true = true) ∧ ((True) ∧ True) ∧ (((0 : Int) : Int) = (psq l p1 p2)) ∧ True)) ∧ ((insB l p1 p2) = false → ((true = true) ∧ ((True) ∧ True) ∧ (true = true) ∧ ((True) ∧ (True) ∧ (True) ∧ True) ∧ ∃ (I1 : List GV → Prop) (μ1 : List GV → Nat), (((true = true) ∧ ((((-1 : Int) : Int) = (-1 : Int)) ∧ (((0 : Int) : Int) = (0 : Int)) ∧ ((Cont.pts l) = (Cont.pts l)) ∧ (((ilen l) : Int) = (ilen l)) ∧ ((Cont.pts l) = (Cont.pts l)) ∧ (((p1 : Int) = p1) ∧ ((p2 : Int) = p2) ∧ True) ∧ (((insB l p1 p2) : Bool) = (insB l p1 p2)) ∧ ((Cont.pts l) = (Cont.pts l)) ∧ (((convB l) : Bool) = (convB l)) ∧ (((bnot (convB l)) : Bool) = (bnot (convB l))) ∧ (((bnot (convB l)) : Bool) = (bnot (convB l))) ∧ (((bite (bnot (convB l)) true (bnot (nearB p1 p2))) : Bool) = (bite (bnot (convB l)) true (bnot (nearB p1 p2)))) ∧ (((bite (bnot (convB l)) true (bnot (nearB p1 p2))) : Bool) = (bite (bnot (convB l)) true (bnot (nearB p1 p2)))) ∧ (((bite (bite (bnot (convB l)) true (bnot (nearB p1 p2))) true (anyN (ilen l) fun i => !nearB (getx l i) (gety l i))) : Bool) = (bite (bite (bnot (convB l)) true (bnot (nearB p1 p2))) true (anyN (ilen l) fun i => !nearB (getx l i) (gety l i)))) ∧ (true = true) ∧ (((0 : Int) : Int) = (0 : Int)) ∧ ((Cont.pts l) = (Cont.pts l)) ∧ (((p1 : Int) = p1) ∧ ((p2 : Int) = p2) ∧ True) ∧ True) ∧ ((((p1 : Int) = p1) ∧ ((p2 : Int) = p2) ∧ True) ∧ True)) ∧ (([GK.int, GK.int] : List GK) = ([GK.int, GK.int] : List GK)) ∧ I1 [GV.int (0 : Int), GV.int (-1 : Int)]) ∧ (∀ i1_0 : Int, ∀ i1_1 : Int, I1 [GV.int i1_0, GV.int i1_1] → ((true = true) ∧ ((True) ∧ True) ∧ ((ilt i1_0 (ilen l)) = true → ((true = true) ∧ ((True) ∧ (NLe 0 i1_0 ∧ NLt i1_0 (ilen l)) ∧ (True) ∧ (True) ∧ (True) ∧ True) ∧ (True) ∧ (true = true) ∧ ((True) ∧ (True) ∧ (True) ∧ (True) ∧ (True) ∧ (True) ∧ (True) ∧ (NNe (ilen l) 0) ∧ (NLe 0 (irem (iadd i1_0 (1 : Int)) (ilen l)) ∧ NLt (irem (iadd i1_0 (1 : Int)) (ilen l)) (ilen l)) ∧ (True) ∧ ((nearB p1 p2 = true ∧ nearB (getx l i1_0) (gety l i1_0) = true ∧ nearB (getx l (irem (iadd i1_0 (1 : Int)) (ilen l))) (gety l (irem (iadd i1_0 (1 : Int)) (ilen l))) = true)) ∧ (True) ∧ True) ∧ (true = true) ∧ ((True) ∧ (True) ∧ (True) ∧ (NIs (ilt i1_1 (0 : Int)) false → True) ∧ (NIs (ilt i1_1 (0 : Int)) false → True) ∧ (NIs (ilt i1_1 (0 : Int)) false → True) ∧ (True) ∧ True) ∧ ((bite (ilt i1_1 (0 : Int)) true (ilt (ssqE p1 p2 (getx l i1_0) (gety l i1_0) (getx l (irem (iadd i1_0 (1 : Int)) (ilen l))) (gety l (irem (iadd i1_0 (1 : Int)) (ilen l)))) i1_1)) = true → ((true = true) ∧ ((True) ∧ (True) ∧ True) ∧ (true = true) ∧ ((True) ∧ (True) ∧ True) ∧ ((true = true) ∧ ((((ssqE p1 p2 (getx l i1_0) (gety l i1_0) (getx l (irem (iadd i1_0 (1 : Int)) (ilen l))) (gety l (irem (iadd i1_0 (1 : Int)) (ilen l)))) : Int) = (ssqE p1 p2 (getx l i1_0) (gety l i1_0) (getx l (irem (iadd i1_0 (1 : Int)) (ilen l))) (gety l (irem (iadd i1_0 (1 : Int)) (ilen l))))) ∧ (((iadd i1_0 (1 : Int)) : Int) = (iadd i1_0 (1 : Int))) ∧ ((Cont.pts l) = (Cont.pts l)) ∧ (((ilen l) : Int) = (ilen l)) ∧ ((Cont.pts l) = (Cont.pts l)) ∧ (((p1 : Int) = p1) ∧ ((p2 : Int) = p2) ∧ True) ∧ (((insB l p1 p2) : Bool) = (insB l p1 p2)) ∧ ((Cont.pts l) = (Cont.pts l)) ∧ (((convB l) : Bool) = (convB l)) ∧ (((bnot (convB l)) : Bool) = (bnot (convB l))) ∧ (((bnot (convB l)) : Bool) = (bnot (convB l))) ∧ (((bite (bnot (convB l)) true (bnot (nearB p1 p2))) : Bool) = (bite (bnot (convB l)) true (bnot (nearB p1 p2)))) ∧ (((bite (bnot (convB l)) true (bnot (nearB p1 p2))) : Bool) = (bite (bnot (convB l)) true (bnot (nearB p1 p2)))) ∧ (((bite (bite (bnot (convB l)) true (bnot (nearB p1 p2))) true (anyN (ilen l) fun i => !nearB (getx l i) (gety l i))) : Bool) = (bite (bite (bnot (convB l)) true (bnot (nearB p1 p2))) true (anyN (ilen l) fun i => !nearB (getx l i) (gety l i)))) ∧ (true = true) ∧ (((0 : Int) : Int) = (0 : Int)) ∧ ((Cont.pts l) = (Cont.pts l)) ∧ (((p1 : Int) = p1) ∧ ((p2 : Int) = p2) ∧ True) ∧ True) ∧ ((((p1 : Int) = p1) ∧ ((p2 : Int) = p2) ∧ True) ∧ True)) ∧ ((([GK.int, GK.int] : List GK) = ([GK.int, GK.int] : List GK)) ∧ I1 [GV.int (iadd i1_0 (1 : Int)), GV.int (ssqE p1 p2 (getx l i1_0) (gety l i1_0) (getx l (irem (iadd i1_0 (1 : Int)) (ilen l))) (gety l (irem (iadd i1_0 (1 : Int)) (ilen l))))] ∧ μ1 [GV.int (iadd i1_0 (1 : Int)), GV.int (ssqE p1 p2 (getx l i1_0) (gety l i1_0) (getx l (irem (iadd i1_0 (1 : Int)) (ilen l))) (gety l (irem (iadd i1_0 (1 : Int)) (ilen l))))] < μ1 [GV.int i1_0, GV.int i1_1]))) ∧ ((bite (ilt i1_1 (0 : Int)) true (ilt (ssqE p1 p2 (getx l i1_0) (gety l i1_0) (getx l (irem (iadd i1_0 (1 : Int)) (ilen l))) (gety l (irem (iadd i1_0 (1 : Int)) (ilen l)))) i1_1)) = false → ((true = true) ∧ ((True) ∧ (True) ∧ True) ∧ ((true = true) ∧ (((i1_1 : Int) = i1_1) ∧ (((iadd i1_0 (1 : Int)) : Int) = (iadd i1_0 (1 : Int))) ∧ ((Cont.pts l) = (Cont.pts l)) ∧ (((ilen l) : Int) = (ilen l)) ∧ ((Cont.pts l) = (Cont.pts l)) ∧ (((p1 : Int) = p1) ∧ ((p2 : Int) = p2) ∧ True) ∧ (((insB l p1 p2) : Bool) = (insB l p1 p2)) ∧ ((Cont.pts l) = (Cont.pts l)) ∧ (((convB l) : Bool) = (convB l)) ∧ (((bnot (convB l)) : Bool) = (bnot (convB l))) ∧ (((bnot (convB l)) : Bool) = (bnot (convB l))) ∧ (((bite (bnot (convB l)) true (bnot (nearB p1 p2))) : Bool) = (bite (bnot (convB l)) true (bnot (nearB p1 p2)))) ∧ (((bite (bnot (convB l)) true (bnot (nearB p1 p2))) : Bool) = (bite (bnot (convB l)) true (bnot (nearB p1 p2)))) ∧ (((bite (bite (bnot (convB l)) true (bnot (nearB p1 p2))) true (anyN (ilen l) fun i => !nearB (getx l i) (gety l i))) : Bool) = (bite (bite (bnot (convB l)) true (bnot (nearB p1 p2))) true (anyN (ilen l) fun i => !nearB (getx l i) (gety l i)))) ∧ (true = true) ∧ (((0 : Int) : Int) = (0 : Int)) ∧ ((Cont.pts l) = (Cont.pts l)) ∧ (((p1 : Int) = p1) ∧ ((p2 : Int) = p2) ∧ True) ∧ True) ∧ ((((p1 : Int) = p1) ∧ ((p2 : Int) = p2) ∧ True) ∧ True)) ∧ ((([GK.int, GK.int] : List GK) = ([GK.int, GK.int] : List GK)) ∧ I1 [GV.int (iadd i1_0 (1 : Int)), GV.int i1_1] ∧ μ1 [GV.int (iadd i1_0 (1 : Int)), GV.int i1_1] < μ1 [GV.int i1_0, GV.int i1_1]))))) ∧ ((ilt i1_0 (ilen l)) = false → ((true = true) ∧ ((True) ∧ (True) ∧ True) ∧ ((i1_1 : Int) = (psq l p1 p2)) ∧ True))))))))) = ev sig_impl_PolygonSquare xs_impl_PolygonSquare Try.f38.ntmps (fun b => if b == 0 then [.v 26, .v 5] else []) (codeOf Try.f38) 0 (initS [.s (.view (.pts l)), .agg [.int p1, .int p2]]) (retK Try.f38.results.toList [.s (.int (psq l p1 p2))]) := by kernel_rfl
set_option maxHeartbeats 400000 in
theorem F_impl_PolygonSquare : FunOK 38 g_impl_PolygonSquare := by
  refine fun_F (by kernel_rfl) Try.func38 rfl (by kernel_rfl) sig_impl_PolygonSquare_ok xs_impl_PolygonSquare_ok ?_
  intro avs sg h hn hl
  unfold g_impl_PolygonSquare at h
  split at h
  · rename_i l p1 p2
    injection h with h; subst h
    refine ⟨by kernel_rfl, fun b => if b == 0 then [.v 26, .v 5] else [], Eq.mp (V_impl_PolygonSquare l p1 p2) ?_⟩
    simp only [true_and, and_true, implies_true, and_self, forall_const, true_implies, lenA, lenL, SV.lenOK, Cont.lenOK] at hn hl ⊢
    have h0 := ilen_0 l
    simp only [ilt_t, ilt_f, ile_t, ile_f, ieq_t, ieq_f, bnot_e, band_e, bite_and, bite_or, NLt_e, NLe_e, NNe_e, NIs_e, imax_e, imin_e, irem_e, Bool.not_eq_true', Bool.not_eq_false', Bool.and_eq_true, Bool.or_eq_true, Bool.or_eq_false_iff, Bool.and_eq_false_iff, Cont.pts.injEq, Cont.ints.injEq, Cont.bools.injEq, Cont.ptss.injEq, Cont.intss.injEq, Cont.boolss.injEq, true_and, and_true, implies_true, anyN_not, Bool.not_not]
    refine ⟨fun h => ?_, fun h => ?_⟩
    · have : psqB l p1 p2 = false := by unfold psqB; rcases h with (h | h) | h <;> simp [h]
      unfold psq; rw [this]; rfl
    · obtain ⟨⟨hc, hp⟩, hN⟩ := h
      have hB : psqB l p1 p2 = true := by unfold psqB; rw [hc, hp, hN]; rfl
      have hNi := allN_iff.1 hN
      obtain ⟨c1, c2, c3⟩ := convB_all hc
      refine ⟨fun hi => by unfold psq; rw [hB, hi]; rfl, fun hi => ?_⟩
      refine ⟨fun | .int k :: .int s :: _ => 0 ≤ k ∧ k ≤ ilen l ∧ s = minF l p1 p2 k | _ => False, fun | .int k :: _ => (ilen l - k).toNat | _ => 0, ?_, ?_⟩
      · exact ⟨Int.le_refl 0, h0, rfl⟩
      · rintro k s ⟨hk0, hk1, hs⟩
        refine ⟨fun hkn => ?_, fun hkn => ?_⟩
        · have e1 := iadd_1 hk0 hkn hl
          obtain ⟨n0, n1, _⟩ := nx_in hk0 hkn
          have e2 : (k + 1).tmod (ilen l) = nx l k := rfl
          simp only [e1, e2]
          have hstep := minF_1 (l := l) (p1 := p1) (p2 := p2) hk0
          have hq : ssqE p1 p2 (getx l k) (gety l k) (getx l (nx l k)) (gety l (nx l k)) = psqE l p1 p2 k := rfl
          simp only [hq]
          refine ⟨⟨hk0, hkn⟩, ⟨by omega, ⟨n0, n1⟩, hp, hNi k hk0 hkn, hNi _ n0 n1⟩, fun hx => ?_, fun hx => ?_⟩
          · rw [← hs, if_pos hx] at hstep
            exact ⟨⟨by omega, by omega, hstep.symm⟩, by omega⟩
          · rw [← hs, if_neg (by omega)] at hstep
            exact ⟨⟨by omega, by omega, hstep.symm⟩, by omega⟩
        · have e : k = ilen l := by omega
          subst e
          unfold psq
          rw [hB, hi, hs]; rfl
  · cases h
def kcE (l : List (List Pt)) (p1 p2 d i : Int) : Bool := decide (0 ≤ psq (getl l i) p1 p2 ∧ d * d ≤ psq (getl l i) p1 p2)
def kcB (l : List (List Pt)) (p1 p2 d : Int) : Bool := inB d 0 1000 && ile (ilen l) 8 && allN (ilen l) (kcE l p1 p2 d)
theorem dd_w {d : Int} (h : 0 ≤ d ∧ d ≤ 1000) : imul d d = d * d := mul4 (by omega) (by omega)
def g_impl_KeepsClear : List AV → Option Sg
  | [.s (.view (.ptss l)), .agg [.int p1, .int p2], .s (.int d)] => some ⟨True, [.s (.bool (kcB l p1 p2 d))]⟩
  | _ => none
def sig_impl_KeepsClear : FuncId → List AV → Option Sg := sigL [(51, g_impl_within), (38, g_impl_PolygonSquare)]
def xs_impl_KeepsClear : XS := ⟨xsigL [], ysigL []⟩
theorem sig_impl_KeepsClear_ok : SigOK sig_impl_KeepsClear := sigL_cons F_impl_within (sigL_cons F_impl_PolygonSquare sigL_nil)
theorem xs_impl_KeepsClear_ok : XSigOK xs_impl_KeepsClear := ⟨xsigL_nil, ysigL_nil⟩
theorem V_impl_KeepsClear (l : List (List Pt)) (p1 : Int) (p2 : Int) (d : Int) : ((true = true) ∧ ((True) ∧ (True) ∧ True) ∧ (true = true) ∧ ((True) ∧ ((True)) ∧ (True) ∧ (True) ∧ (NIs (bnot (inB d (0 : Int) (1000 : Int))) false → True) ∧ (NIs (bnot (inB d (0 : Int) (1000 : Int))) false → True) ∧ (NIs (bnot (inB d (0 : Int) (1000 : Int))) false → True) ∧ (True) ∧ True) ∧ ((bite (bnot (inB d (0 : Int) (1000 : Int))) true (ilt (8 : Int) (ilen l))) = true → ((true = true) ∧ ((True) ∧ True) ∧ ((false : Bool) = (kcB l p1 p2 d)) ∧ True)) ∧ ((bite (bnot (inB d (0 : Int) (1000 : Int))) true (ilt (8 : Int) (ilen l))) = false → ((true = true) ∧ ((True) ∧ (True) ∧ (True) ∧ True) ∧ ∃ (I1 : List GV → Prop) (μ1 : List GV → Nat), (((true = true) ∧ (((false : Bool) = false) ∧ (((0 : Int) : Int) = (0 : Int)) ∧ ((Cont.ptss l) = (Cont.ptss l)) ∧ (((ilen l) : Int) = (ilen l)) ∧ ((d : Int) = d) ∧ (((inB d (0 : Int) (1000 : Int)) : Bool) = (inB d (0 : Int) (1000 : Int))) ∧ (((bnot (inB d (0 : Int) (1000 : Int))) : Bool) = (bnot (inB d (0 : Int) (1000 : Int)))) ∧ (((bnot (inB d (0 : Int) (1000 : Int))) : Bool) = (bnot (inB d (0 : Int) (1000 : Int)))) ∧ (((bite (bnot (inB d (0 : Int) (1000 : Int))) true (ilt (8 : Int) (ilen l))) : Bool) = (bite (bnot (inB d (0 : Int) (1000 : Int))) true (ilt (8 : Int) (ilen l)))) ∧ (true = true) ∧ ((Cont.ptss l) = (Cont.ptss l)) ∧ (((p1 : Int) = p1) ∧ ((p2 : Int) = p2) ∧ True) ∧ ((d : Int) = d) ∧ True) ∧ ((((p1 : Int) = p1) ∧ ((p2 : Int) = p2) ∧ True) ∧ True)) ∧ (([GK.int, GK.bool] : List GK) = ([GK.int, GK.bool] : List GK)) ∧ I1 [GV.int (0 : Int), GV.bool false]) ∧ (∀ i1_0 : Int, ∀ b1_1 : Bool, I1 [GV.int i1_0, GV.bool b1_1] → ((true = true) ∧ ((True) ∧ True) ∧ ((ilt i1_0 (ilen l)) = true → ((true = true) ∧ ((NLe 0 i1_0 ∧ NLt i1_0 (ilen l)) ∧ (True) ∧ (True) ∧ True) ∧ (true = true) ∧ ((True) ∧ (True) ∧ ((True)) ∧ (True) ∧ True) ∧ (true = true) ∧ ((True) ∧ (True) ∧ (True) ∧ (NIs (ilt (psq (getl l i1_0) p1 p2) (0 : Int)) false → True) ∧ (NIs (ilt (psq (getl l i1_0) p1 p2) (0 : Int)) false → True) ∧ (NIs (ilt (psq (getl l i1_0) p1 p2) (0 : Int)) false → True) ∧ (NIs (ilt (psq (getl l i1_0) p1 p2) (0 : Int)) false → True) ∧ (NIs (ilt (psq (getl l i1_0) p1 p2) (0 : Int)) false → True) ∧ (True) ∧ True) ∧ ((bite (ilt (psq (getl l i1_0) p1 p2) (0 : Int)) true (ilt (psq (getl l i1_0) p1 p2) (imul d d))) = true → ((true = true) ∧ ((True) ∧ True) ∧ ((false : Bool) = (kcB l p1 p2 d)) ∧ True)) ∧ ((bite (ilt (psq (getl l i1_0) p1 p2) (0 : Int)) true (ilt (psq (getl l i1_0) p1 p2) (imul d d))) = false → ((true = true) ∧ ((True) ∧ (True) ∧ True) ∧ ((true = true) ∧ (((b1_1 : Bool) = b1_1) ∧ (((iadd i1_0 (1 : Int)) : Int) = (iadd i1_0 (1 : Int))) ∧ ((Cont.ptss l) = (Cont.ptss l)) ∧ (((ilen l) : Int) = (ilen l)) ∧ ((d : Int) = d) ∧ (((inB d (0 : Int) (1000 : Int)) : Bool) = (inB d (0 : Int) (1000 : Int))) ∧ (((bnot (inB d (0 : Int) (1000 : Int))) : Bool) = (bnot (inB d (0 : Int) (1000 : Int)))) ∧ (((bnot (inB d (0 : Int) (1000 : Int))) : Bool) = (bnot (inB d (0 : Int) (1000 : Int)))) ∧ (((bite (bnot (inB d (0 : Int) (1000 : Int))) true (ilt (8 : Int) (ilen l))) : Bool) = (bite (bnot (inB d (0 : Int) (1000 : Int))) true (ilt (8 : Int) (ilen l)))) ∧ (true = true) ∧ ((Cont.ptss l) = (Cont.ptss l)) ∧ (((p1 : Int) = p1) ∧ ((p2 : Int) = p2) ∧ True) ∧ ((d : Int) = d) ∧ True) ∧ ((((p1 : Int) = p1) ∧ ((p2 : Int) = p2) ∧ True) ∧ True)) ∧ ((([GK.int, GK.bool] : List GK) = ([GK.int, GK.bool] : List GK)) ∧ I1 [GV.int (iadd i1_0 (1 : Int)), GV.bool b1_1] ∧ μ1 [GV.int (iadd i1_0 (1 : Int)), GV.bool b1_1] < μ1 [GV.int i1_0, GV.bool b1_1]))))) ∧ ((ilt i1_0 (ilen l)) = false → ((true = true) ∧ ((True) ∧ True) ∧ ((true : Bool) = (kcB l p1 p2 d)) ∧ True))))))) = ev sig_impl_KeepsClear xs_impl_KeepsClear Try.f42.ntmps (fun b => if b == 0 then [.v 20, .v 6] else []) (codeOf Try.f42) 0 (initS [.s (.view (.ptss l)), .agg [.int p1, .int p2], .s (.int d)]) (retK Try.f42.results.toList [.s (.bool (kcB l p1 p2 d))]) := by kernel_rfl
set_option maxHeartbeats 400000 in
theorem F_impl_KeepsClear : FunOK 42 g_impl_KeepsClear := by
  refine fun_F (by kernel_rfl) Try.func42 rfl (by kernel_rfl) sig_impl_KeepsClear_ok xs_impl_KeepsClear_ok ?_
  intro avs sg h hn hl
  unfold g_impl_KeepsClear at h
  split at h
  · rename_i l p1 p2 d
    injection h with h; subst h
    refine ⟨by kernel_rfl, fun b => if b == 0 then [.v 20, .v 6] else [], Eq.mp (V_impl_KeepsClear l p1 p2 d) ?_⟩
    simp only [true_and, and_true, implies_true, and_self, forall_const, true_implies, lenA, lenL, SV.lenOK, Cont.lenOK] at hn hl ⊢
    have h0 := ilen_0 l
    simp only [ilt_t, ilt_f, ile_t, ile_f, ieq_t, ieq_f, bnot_e, band_e, bite_and, bite_or, NLt_e, NLe_e, NNe_e, NIs_e, imax_e, imin_e, irem_e, Bool.not_eq_true', Bool.not_eq_false', Bool.and_eq_true, Bool.or_eq_true, Bool.or_eq_false_iff, Bool.and_eq_false_iff, Cont.pts.injEq, Cont.ints.injEq, Cont.bools.injEq, Cont.ptss.injEq, Cont.intss.injEq, Cont.boolss.injEq, true_and, and_true, implies_true]
    refine ⟨fun h => ?_, fun h => ?_⟩
    · unfold kcB ile
      rcases h with h | h <;> simp [h] <;> omega
    · obtain ⟨hc, hp⟩ := h
      have hd := inB_true hc
      simp only [dd_w hd]
      refine ⟨fun | .int k :: _ => 0 ≤ k ∧ k ≤ ilen l ∧ (∀ i, 0 ≤ i → i < k → kcE l p1 p2 d i = true) | _ => False, fun | .int k :: _ => (ilen l - k).toNat | _ => 0, ?_, ?_⟩
      · exact ⟨Int.le_refl 0, h0, fun j h0 h1 => absurd h1 (by omega)⟩
      · rintro k _ ⟨hk0, hk1, hk⟩
        simp only [ilt_t, ilt_f, ile_t, ile_f, ieq_t, ieq_f, bnot_e, band_e, bite_and, bite_or, NLt_e, NLe_e, NNe_e, NIs_e, imax_e, imin_e, irem_e, Bool.not_eq_true', Bool.not_eq_false', Bool.and_eq_true, Bool.or_eq_true, Bool.or_eq_false_iff, Bool.and_eq_false_iff, Cont.pts.injEq, Cont.ints.injEq, Cont.bools.injEq, Cont.ptss.injEq, Cont.intss.injEq, Cont.boolss.injEq, true_and, and_true, implies_true]
        refine ⟨fun hkn => ?_, fun hkn => ?_⟩
        · refine ⟨⟨hk0, hkn⟩, fun hx => ?_, fun hx => ?_⟩
          · have hE : kcE l p1 p2 d k = false := by unfold kcE; simp only [decide_eq_false_iff_not]; omega
            unfold kcB
            rw [allN_no k hk0 hkn hE]; simp
          · have hE : kcE l p1 p2 d k = true := by unfold kcE; simp only [decide_eq_true_eq]; omega
            rw [iadd_1 hk0 hkn hl.1]
            exact ⟨⟨by omega, by omega, upTo hk hE⟩, by omega⟩
        · unfold kcB
          rw [hc, allN_mk fun i i0 i1 => hk i i0 (by omega)]
          simp [ile]; omega
  · cases h
def g_spec_l2Sign : List AV → Option Sg
  | [.s (.int n)] => some ⟨True, [.s (.int (sgn n))]⟩
  | _ => none
def sig_spec_l2Sign : FuncId → List AV → Option Sg := sigL []
def xs_spec_l2Sign : XS := ⟨xsigL [], ysigL []⟩
theorem sig_spec_l2Sign_ok : SigOK sig_spec_l2Sign := sigL_nil
theorem xs_spec_l2Sign_ok : XSigOK xs_spec_l2Sign := ⟨xsigL_nil, ysigL_nil⟩
theorem V_spec_l2Sign (n : Int) : ((true = true) ∧ ((True) ∧ True) ∧ (true = true) ∧ ((True) ∧ (True) ∧ (True) ∧ True) ∧ ((ilt (0 : Int) n) = true → ((true = true) ∧ ((True) ∧ True) ∧ (((1 : Int) : Int) = (sgn n)) ∧ True)) ∧ ((ilt (0 : Int) n) = false → ((true = true) ∧ ((True) ∧ (True) ∧ (True) ∧ True) ∧ ((ilt n (0 : Int)) = true → ((true = true) ∧ ((True) ∧ True) ∧ (((-1 : Int) : Int) = (sgn n)) ∧ True)) ∧ ((ilt n (0 : Int)) = false → ((true = true) ∧ ((True) ∧ True) ∧ (((0 : Int) : Int) = (sgn n)) ∧ True))))) = ev sig_spec_l2Sign xs_spec_l2Sign Try.f89.ntmps (fun b => []) (codeOf Try.f89) 0 (initS [.s (.int n)]) (retK Try.f89.results.toList [.s (.int (sgn n))]) := by kernel_rfl
set_option maxHeartbeats 400000 in
theorem F_spec_l2Sign : FunOK 89 g_spec_l2Sign := by
  refine fun_F (by kernel_rfl) Try.func89 rfl (by kernel_rfl) sig_spec_l2Sign_ok xs_spec_l2Sign_ok ?_
  intro avs sg h hn hl
  unfold g_spec_l2Sign at h
  split at h
  · rename_i n
    injection h with h; subst h
    refine ⟨by kernel_rfl, fun b => [], Eq.mp (V_spec_l2Sign n) ?_⟩
    simp only [true_and, and_true, implies_true, and_self, forall_const, true_implies, lenA, lenL, SV.lenOK, Cont.lenOK] at hn hl ⊢
    simp only [ilt_t, ilt_f, ile_t, ile_f, ieq_t, ieq_f, bnot_e, band_e, bite_and, bite_or, NLt_e, NLe_e, NNe_e, NIs_e, imax_e, imin_e, irem_e, Bool.not_eq_true', Bool.not_eq_false', Bool.and_eq_true, Bool.or_eq_true, Bool.or_eq_false_iff, Bool.and_eq_false_iff, Cont.pts.injEq, Cont.ints.injEq, Cont.bools.injEq, Cont.ptss.injEq, Cont.intss.injEq, Cont.boolss.injEq, true_and, and_true, implies_true]
    unfold sgn
    refine ⟨fun h => by rw [if_pos h], fun h => ⟨fun h2 => by rw [if_neg (by omega), if_pos h2], fun h2 => by rw [if_neg (by omega), if_neg (by omega)]⟩⟩
  · cases h
def orB (a1 a2 b1 b2 c1 c2 : Int) : Int := if vB a1 a2 && vB b1 b2 && vB c1 c2 then sgn (crW a1 a2 b1 b2 c1 c2) else 0
def orI (l : List Pt) (i j : Int) : Int := orB (getx l i) (gety l i) (getx l (nx l i)) (gety l (nx l i)) (getx l j) (gety l j)
def convF (l : List Pt) (i j : Int) : Bool := decide (j = i ∨ j = nx l i ∨ orI l i j = 1)
def convS (l : List Pt) : Bool := inB (ilen l) 3 8 && allN (ilen l) fun i => allN (ilen l) fun j => convF l i j
theorem convS_eq (l : List Pt) : convS l = convB l := by
  unfold convS convB
  cases h1 : inB (ilen l) 3 8 with
  | false => rfl
  | true =>
    have hl := inB_true h1
    simp only [Bool.true_and]
    cases h2 : allB l with
    | true =>
      simp only [Bool.true_and]
      refine allN_congr fun i i0 i1 => allN_congr fun j j0 j1 => ?_
      rw [allB_N] at h2
      have hv := allN_iff.1 h2
      obtain ⟨n0, n1, _⟩ := nx_in i0 i1
      have e : orI l i j = sgn (cr l i (nx l i) j) := by unfold orI orB cr; rw [hv i i0 i1, hv _ n0 n1, hv j j0 j1]; rfl
      unfold convF convE
      rw [e]
      have : (sgn (cr l i (nx l i) j) = 1) ↔ 0 < cr l i (nx l i) j := by unfold sgn; split <;> (try split) <;> omega
      simp only [this]
    | false =>
      simp only [Bool.false_and]
      rw [allB_N] at h2
      obtain ⟨j, j0, j1, hj⟩ : ∃ j, 0 ≤ j ∧ j < ilen l ∧ vB (getx l j) (gety l j) = false := by
        apply Classical.byContradiction
        intro hn
        rw [allN_mk fun j j0 j1 => by cases e : vB (getx l j) (gety l j) with | true => rfl | false => exact absurd ⟨j, j0, j1, e⟩ hn] at h2
        cases h2
      obtain ⟨n0, n1, n2⟩ := nx_in j0 j1
      obtain ⟨m0, m1, m2⟩ := nx_in n0 n1
      refine allN_no (nx l j) n0 n1 (allN_no j j0 j1 ?_)
      have e : orI l (nx l j) j = 0 := by unfold orI orB; rw [hj]; simp
      unfold convF
      rw [e]
      simp only [decide_eq_false_iff_not]
      omega
def g_spec_Orientation : List AV → Option Sg
  | [.agg [.int a1, .int a2], .agg [.int b1, .int b2], .agg [.int c1, .int c2]] => some ⟨True, [.s (.int (orB a1 a2 b1 b2 c1 c2))]⟩
  | _ => none
def sig_spec_Orientation : FuncId → List AV → Option Sg := sigL [(28, g_spec_PointValid), (57, g_spec_l2Cross), (89, g_spec_l2Sign)]
def xs_spec_Orientation : XS := ⟨xsigL [], ysigL []⟩
theorem sig_spec_Orientation_ok : SigOK sig_spec_Orientation := sigL_cons F_spec_PointValid (sigL_cons F_spec_l2Cross (sigL_cons F_spec_l2Sign sigL_nil))
theorem xs_spec_Orientation_ok : XSigOK xs_spec_Orientation := ⟨xsigL_nil, ysigL_nil⟩
theorem V_spec_Orientation (a1 : Int) (a2 : Int) (b1 : Int) (b2 : Int) (c1 : Int) (c2 : Int) : ((true = true) ∧ ((True) ∧ (True) ∧ (True) ∧ (True) ∧ True) ∧ (true = true) ∧ ((True) ∧ ((True)) ∧ (True) ∧ (True) ∧ (NIs (bnot (vB a1 a2)) false → True) ∧ (NIs (bnot (vB a1 a2)) false → (True)) ∧ (NIs (bnot (vB a1 a2)) false → True) ∧ (True) ∧ (True) ∧ (NIs (bite (bnot (vB a1 a2)) true (bnot (vB b1 b2))) false → True) ∧ (NIs (bite (bnot (vB a1 a2)) true (bnot (vB b1 b2))) false → (True)) ∧ (NIs (bite (bnot (vB a1 a2)) true (bnot (vB b1 b2))) false → True) ∧ (True) ∧ True) ∧ ((bite (bite (bnot (vB a1 a2)) true (bnot (vB b1 b2))) true (bnot (vB c1 c2))) = true → ((true = true) ∧ ((True) ∧ True) ∧ (((0 : Int) : Int) = (orB a1 a2 b1 b2 c1 c2)) ∧ True)) ∧ ((bite (bite (bnot (vB a1 a2)) true (bnot (vB b1 b2))) true (bnot (vB c1 c2))) = false → ((true = true) ∧ ((True) ∧ (True) ∧ (True) ∧ ((True)) ∧ ((True)) ∧ (True) ∧ True) ∧ (((sgn (crW a1 a2 b1 b2 c1 c2)) : Int) = (orB a1 a2 b1 b2 c1 c2)) ∧ True))) = ev sig_spec_Orientation xs_spec_Orientation Try.f55.ntmps (fun b => []) (codeOf Try.f55) 0 (initS [.agg [.int a1, .int a2], .agg [.int b1, .int b2], .agg [.int c1, .int c2]]) (retK Try.f55.results.toList [.s (.int (orB a1 a2 b1 b2 c1 c2))]) := by kernel_rfl
set_option maxHeartbeats 400000 in
theorem F_spec_Orientation : FunOK 55 g_spec_Orientation := by
  refine fun_F (by kernel_rfl) Try.func55 rfl (by kernel_rfl) sig_spec_Orientation_ok xs_spec_Orientation_ok ?_
  intro avs sg h hn hl
  unfold g_spec_Orientation at h
  split at h
  · rename_i a1 a2 b1 b2 c1 c2
    injection h with h; subst h
    refine ⟨by kernel_rfl, fun b => [], Eq.mp (V_spec_Orientation a1 a2 b1 b2 c1 c2) ?_⟩
    simp only [true_and, and_true, implies_true, and_self, forall_const, true_implies, lenA, lenL, SV.lenOK, Cont.lenOK] at hn hl ⊢
    simp only [ilt_t, ilt_f, ile_t, ile_f, ieq_t, ieq_f, bnot_e, band_e, bite_and, bite_or, NLt_e, NLe_e, NNe_e, NIs_e, imax_e, imin_e, irem_e, Bool.not_eq_true', Bool.not_eq_false', Bool.and_eq_true, Bool.or_eq_true, Bool.or_eq_false_iff, Bool.and_eq_false_iff, Cont.pts.injEq, Cont.ints.injEq, Cont.bools.injEq, Cont.ptss.injEq, Cont.intss.injEq, Cont.boolss.injEq, true_and, and_true, implies_true]
    unfold orB
    cases vB a1 a2 <;> cases vB b1 b2 <;> cases vB c1 c2 <;> simp
  · cases h
def g_spec_ConvexValid : List AV → Option Sg
  | [.s (.view (.pts l))] => some ⟨True, [.s (.bool (convB l))]⟩
  | _ => none
def sig_spec_ConvexValid : FuncId → List AV → Option Sg := sigL [(54, g_spec_l1In), (55, g_spec_Orientation)]
def xs_spec_ConvexValid : XS := ⟨xsigL [], ysigL []⟩
theorem sig_spec_ConvexValid_ok : SigOK sig_spec_ConvexValid := sigL_cons F_spec_l1In (sigL_cons F_spec_Orientation sigL_nil)
theorem xs_spec_ConvexValid_ok : XSigOK xs_spec_ConvexValid := ⟨xsigL_nil, ysigL_nil⟩
theorem V_spec_ConvexValid (l : List Pt) : ((true = true) ∧ ((True) ∧ True) ∧ (true = true) ∧ ((True) ∧ (True) ∧ (True) ∧ True) ∧ (true = true) ∧ ((True) ∧ ((True)) ∧ (True) ∧ True) ∧ ((bnot (inB (ilen l) (3 : Int) (8 : Int))) = true → ((true = true) ∧ ((True) ∧ True) ∧ ((false : Bool) = (convB l)) ∧ True)) ∧ ((bnot (inB (ilen l) (3 : Int) (8 : Int))) = false → ((true = true) ∧ ((True) ∧ True) ∧ ∃ (I1 : List GV → Prop) (μ1 : List GV → Nat), (((true = true) ∧ (((false : Bool) = false) ∧ (((0 : Int) : Int) = (0 : Int)) ∧ (((ilen l) : Int) = (ilen l)) ∧ (((inB (ilen l) (3 : Int) (8 : Int)) : Bool) = (inB (ilen l) (3 : Int) (8 : Int))) ∧ (((bnot (inB (ilen l) (3 : Int) (8 : Int))) : Bool) = (bnot (inB (ilen l) (3 : Int) (8 : Int)))) ∧ ((Cont.pts l) = (Cont.pts l)) ∧ (((ilen l) : Int) = (ilen l)) ∧ (((ilen l) : Int) = (ilen l)) ∧ ((Cont.pts l) = (Cont.pts l)) ∧ True) ∧ (True)) ∧ (([GK.int, GK.bool] : List GK) = ([GK.int, GK.bool] : List GK)) ∧ I1 [GV.int (0 : Int), GV.bool false]) ∧ (∀ i1_0 : Int, ∀ b1_1 : Bool, I1 [GV.int i1_0, GV.bool b1_1] → ((true = true) ∧ ((True) ∧ (True) ∧ (True) ∧ True) ∧ ((ilt i1_0 (ilen l)) = true → ((true = true) ∧ ((True) ∧ True) ∧ ∃ (I2 : List GV → Prop) (μ2 : List GV → Nat), (((true = true) ∧ (((b1_1 : Bool) = b1_1) ∧ (((0 : Int) : Int) = (0 : Int)) ∧ ((i1_0 : Int) = i1_0) ∧ (((ilen l) : Int) = (ilen l)) ∧ (((ilt i1_0 (ilen l)) : Bool) = (ilt i1_0 (ilen l))) ∧ ((i1_0 : Int) = i1_0) ∧ (((ilen l) : Int) = (ilen l)) ∧ (((inB (ilen l) (3 : Int) (8 : Int)) : Bool) = (inB (ilen l) (3 : Int) (8 : Int))) ∧ (((bnot (inB (ilen l) (3 : Int) (8 : Int))) : Bool) = (bnot (inB (ilen l) (3 : Int) (8 : Int)))) ∧ ((Cont.pts l) = (Cont.pts l)) ∧ (((ilen l) : Int) = (ilen l)) ∧ (((ilen l) : Int) = (ilen l)) ∧ ((Cont.pts l) = (Cont.pts l)) ∧ True) ∧ (True)) ∧ (([GK.int, GK.bool] : List GK) = ([GK.int, GK.bool] : List GK)) ∧ I2 [GV.int (0 : Int), GV.bool b1_1]) ∧ (∀ i2_0 : Int, ∀ b2_1 : Bool, I2 [GV.int i2_0, GV.bool b2_1] → ((true = true) ∧ ((True) ∧ (True) ∧ (True) ∧ True) ∧ ((ilt i2_0 (ilen l)) = true → ((true = true) ∧ ((True) ∧ (True) ∧ (True) ∧ (True) ∧ (NIs (bnot (ieq i2_0 i1_0)) true → True) ∧ (NIs (bnot (ieq i2_0 i1_0)) true → True) ∧ (NIs (bnot (ieq i2_0 i1_0)) true → True) ∧ (NIs (bnot (ieq i2_0 i1_0)) true → True) ∧ (NIs (bnot (ieq i2_0 i1_0)) true → NNe (ilen l) 0) ∧ (NIs (bnot (ieq i2_0 i1_0)) true → True) ∧ (True) ∧ (True) ∧ (NIs (bite (bnot (ieq i2_0 i1_0)) (bnot (ieq i2_0 (irem (iadd i1_0 (1 : Int)) (ilen l)))) false) true → True) ∧ (NIs (bite (bnot (ieq i2_0 i1_0)) (bnot (ieq i2_0 (irem (iadd i1_0 (1 : Int)) (ilen l)))) false) true → True) ∧ (NIs (bite (bnot (ieq i2_0 i1_0)) (bnot (ieq i2_0 (irem (iadd i1_0 (1 : Int)) (ilen l)))) false) true → (NLe 0 i1_0 ∧ NLt i1_0 (ilen l))) ∧ (NIs (bite (bnot (ieq i2_0 i1_0)) (bnot (ieq i2_0 (irem (iadd i1_0 (1 : Int)) (ilen l)))) false) true → True) ∧ (NIs (bite (bnot (ieq i2_0 i1_0)) (bnot (ieq i2_0 (irem (iadd i1_0 (1 : Int)) (ilen l)))) false) true → True) ∧ (NIs (bite (bnot (ieq i2_0 i1_0)) (bnot (ieq i2_0 (irem (iadd i1_0 (1 : Int)) (ilen l)))) false) true → True) ∧ (NIs (bite (bnot (ieq i2_0 i1_0)) (bnot (ieq i2_0 (irem (iadd i1_0 (1 : Int)) (ilen l)))) false) true → True) ∧ (NIs (bite (bnot (ieq i2_0 i1_0)) (bnot (ieq i2_0 (irem (iadd i1_0 (1 : Int)) (ilen l)))) false) true → True) ∧ (NIs (bite (bnot (ieq i2_0 i1_0)) (bnot (ieq i2_0 (irem (iadd i1_0 (1 : Int)) (ilen l)))) false) true → NNe (ilen l) 0) ∧ (NIs (bite (bnot (ieq i2_0 i1_0)) (bnot (ieq i2_0 (irem (iadd i1_0 (1 : Int)) (ilen l)))) false) true → (NLe 0 (irem (iadd i1_0 (1 : Int)) (ilen l)) ∧ NLt (irem (iadd i1_0 (1 : Int)) (ilen l)) (ilen l))) ∧ (NIs (bite (bnot (ieq i2_0 i1_0)) (bnot (ieq i2_0 (irem (iadd i1_0 (1 : Int)) (ilen l)))) false) true → True) ∧ (NIs (bite (bnot (ieq i2_0 i1_0)) (bnot (ieq i2_0 (irem (iadd i1_0 (1 : Int)) (ilen l)))) false) true → True) ∧ (NIs (bite (bnot (ieq i2_0 i1_0)) (bnot (ieq i2_0 (irem (iadd i1_0 (1 : Int)) (ilen l)))) false) true → True) ∧ (NIs (bite (bnot (ieq i2_0 i1_0)) (bnot (ieq i2_0 (irem (iadd i1_0 (1 : Int)) (ilen l)))) false) true → (NLe 0 i2_0 ∧ NLt i2_0 (ilen l))) ∧ (NIs (bite (bnot (ieq i2_0 i1_0)) (bnot (ieq i2_0 (irem (iadd i1_0 (1 : Int)) (ilen l)))) false) true → True) ∧ (NIs (bite (bnot (ieq i2_0 i1_0)) (bnot (ieq i2_0 (irem (iadd i1_0 (1 : Int)) (ilen l)))) false) true → (True)) ∧ (NIs (bite (bnot (ieq i2_0 i1_0)) (bnot (ieq i2_0 (irem (iadd i1_0 (1 : Int)) (ilen l)))) false) true → True) ∧ (True) ∧ True) ∧ ((bite (bite (bnot (ieq i2_0 i1_0)) (bnot (ieq i2_0 (irem (iadd i1_0 (1 : Int)) (ilen l)))) false) (bnot (ieq (orB (getx l i1_0) (gety l i1_0) (getx l (irem (iadd i1_0 (1 : Int)) (ilen l))) (gety l (irem (iadd i1_0 (1 : Int)) (ilen l))) (getx l i2_0) (gety l i2_0)) (1 : Int))) false) = true → ((true = true) ∧ ((True) ∧ True) ∧ ((false : Bool) = (convB l)) ∧ True)) ∧ ((bite (bite (bnot (ieq i2_0 i1_0)) (bnot (ieq i2_0 (irem (iadd i1_0 (1 : Int)) (ilen l)))) false) (bnot (ieq (orB (getx l i1_0) (gety l i1_0) (getx l (irem (iadd i1_0 (1 : Int)) (ilen l))) (gety l (irem (iadd i1_0 (1 : Int)) (ilen l))) (getx l i2_0) (gety l i2_0)) (1 : Int))) false) = false → ((true = true) ∧ ((True) ∧ (True) ∧ (True) ∧ True) ∧ ((true = true) ∧ (((b2_1 : Bool) = b2_1) ∧ (((iadd i2_0 (1 : Int)) : Int) = (iadd i2_0 (1 : Int))) ∧ ((i1_0 : Int) = i1_0) ∧ (((ilen l) : Int) = (ilen l)) ∧ (((ilt i1_0 (ilen l)) : Bool) = (ilt i1_0 (ilen l))) ∧ ((i1_0 : Int) = i1_0) ∧ (((ilen l) : Int) = (ilen l)) ∧ (((inB (ilen l) (3 : Int) (8 : Int)) : Bool) = (inB (ilen l) (3 : Int) (8 : Int))) ∧ (((bnot (inB (ilen l) (3 : Int) (8 : Int))) : Bool) = (bnot (inB (ilen l) (3 : Int) (8 : Int)))) ∧ ((Cont.pts l) = (Cont.pts l)) ∧ (((ilen l) : Int) = (ilen l)) ∧ (((ilen l) : Int) = (ilen l)) ∧ ((Cont.pts l) = (Cont.pts l)) ∧ True) ∧ (True)) ∧ ((([GK.int, GK.bool] : List GK) = ([GK.int, GK.bool] : List GK)) ∧ I2 [GV.int (iadd i2_0 (1 : Int)), GV.bool b2_1] ∧ μ2 [GV.int (iadd i2_0 (1 : Int)), GV.bool b2_1] < μ2 [GV.int i2_0, GV.bool b2_1]))))) ∧ ((ilt i2_0 (ilen l)) = false → ((true = true) ∧ ((True) ∧ (True) ∧ (True) ∧ True) ∧ ((true = true) ∧ (((b2_1 : Bool) = b2_1) ∧ (((iadd i1_0 (1 : Int)) : Int) = (iadd i1_0 (1 : Int))) ∧ (((ilen l) : Int) = (ilen l)) ∧ (((inB (ilen l) (3 : Int) (8 : Int)) : Bool) = (inB (ilen l) (3 : Int) (8 : Int))) ∧ (((bnot (inB (ilen l) (3 : Int) (8 : Int))) : Bool) = (bnot (inB (ilen l) (3 : Int) (8 : Int)))) ∧ ((Cont.pts l) = (Cont.pts l)) ∧ (((ilen l) : Int) = (ilen l)) ∧ (((ilen l) : Int) = (ilen l)) ∧ ((Cont.pts l) = (Cont.pts l)) ∧ True) ∧ (True)) ∧ ((([GK.int, GK.bool] : List GK) = ([GK.int, GK.bool] : List GK)) ∧ I1 [GV.int (iadd i1_0 (1 : Int)), GV.bool b2_1] ∧ μ1 [GV.int (iadd i1_0 (1 : Int)), GV.bool b2_1] < μ1 [GV.int i1_0, GV.bool b1_1]))))))) ∧ ((ilt i1_0 (ilen l)) = false → ((true = true) ∧ ((True) ∧ True) ∧ ((true : Bool) = (convB l)) ∧ True))))))) = ev sig_spec_ConvexValid xs_spec_ConvexValid Try.f16.ntmps (fun b => if b == 0 then [.v 4, .v 2] else if b == 2 then [.v 5, .v 2] else []) (codeOf Try.f16) 0 (initS [.s (.view (.pts l))]) (retK Try.f16.results.toList [.s (.bool (convB l))]) := by kernel_rfl
set_option maxHeartbeats 400000 in
theorem F_spec_ConvexValid : FunOK 16 g_spec_ConvexValid := by
  refine fun_F (by kernel_rfl) Try.func16 rfl (by kernel_rfl) sig_spec_ConvexValid_ok xs_spec_ConvexValid_ok ?_
  intro avs sg h hn hl
  unfold g_spec_ConvexValid at h
  split at h
  · rename_i l
    injection h with h; subst h
    refine ⟨by kernel_rfl, fun b => if b == 0 then [.v 4, .v 2] else if b == 2 then [.v 5, .v 2] else [], Eq.mp (V_spec_ConvexValid l) ?_⟩
    simp only [true_and, and_true, implies_true, and_self, forall_const, true_implies, lenA, lenL, SV.lenOK, Cont.lenOK] at hn hl ⊢
    simp only [← convS_eq]
    have h0 := ilen_0 l
    simp only [ilt_t, ilt_f, ile_t, ile_f, ieq_t, ieq_f, bnot_e, band_e, bite_and, bite_or, NLt_e, NLe_e, NNe_e, NIs_e, imax_e, imin_e, irem_e, Bool.not_eq_true', Bool.not_eq_false', Bool.and_eq_true, Bool.or_eq_true, Bool.or_eq_false_iff, Bool.and_eq_false_iff, Cont.pts.injEq, Cont.ints.injEq, Cont.bools.injEq, Cont.ptss.injEq, Cont.intss.injEq, Cont.boolss.injEq, true_and, and_true, implies_true]
    refine ⟨?_, fun hv1 => ?_⟩
    · intro h; simp [convS, h]
    · have hlen := inB_true hv1
      refine ⟨fun | [.int k, .bool _] => 0 ≤ k ∧ k ≤ ilen l ∧ (∀ i, 0 ≤ i → i < k → allN (ilen l) (convF l i) = true) | _ => False, fun | [.int k, .bool _] => (ilen l - k).toNat | _ => 0, ?_, ?_⟩
      · exact ⟨Int.le_refl 0, h0, fun j h0 h1 => absurd h1 (by omega)⟩
      · rintro k b ⟨hk0, hk1, hk⟩
        simp only [ilt_t, ilt_f, ile_t, ile_f, ieq_t, ieq_f, bnot_e, band_e, bite_and, bite_or, NLt_e, NLe_e, NNe_e, NIs_e, imax_e, imin_e, irem_e, Bool.not_eq_true', Bool.not_eq_false', Bool.and_eq_true, Bool.or_eq_true, Bool.or_eq_false_iff, Bool.and_eq_false_iff, Cont.pts.injEq, Cont.ints.injEq, Cont.bools.injEq, Cont.ptss.injEq, Cont.intss.injEq, Cont.boolss.injEq, true_and, and_true, implies_true]
        refine ⟨fun hkn => ?_, fun hkn => ?_⟩
        · have e1 := iadd_1 hk0 hkn hl
          obtain ⟨n0, n1, _⟩ := nx_in hk0 hkn
          have e2 : (k + 1).tmod (ilen l) = nx l k := rfl
          simp only [e1, e2]
          refine ⟨fun | [.int j, .bool _] => 0 ≤ j ∧ j ≤ ilen l ∧ (∀ i, 0 ≤ i → i < j → convF l k i = true) | _ => False, fun | [.int j, .bool _] => (ilen l - j).toNat | _ => 0, ?_, ?_⟩
          · exact ⟨Int.le_refl 0, h0, fun j h0 h1 => absurd h1 (by omega)⟩
          · rintro j b ⟨hj0, hj1, hj⟩
            simp only [ilt_t, ilt_f, ile_t, ile_f, ieq_t, ieq_f, bnot_e, band_e, bite_and, bite_or, NLt_e, NLe_e, NNe_e, NIs_e, imax_e, imin_e, irem_e, Bool.not_eq_true', Bool.not_eq_false', Bool.and_eq_true, Bool.or_eq_true, Bool.or_eq_false_iff, Bool.and_eq_false_iff, Cont.pts.injEq, Cont.ints.injEq, Cont.bools.injEq, Cont.ptss.injEq, Cont.intss.injEq, Cont.boolss.injEq, true_and, and_true, implies_true]
            refine ⟨fun hjn => ⟨?_, fun hx => ?_, fun hx => ?_⟩, fun hjn => ?_⟩
            · exact ⟨fun _ => by omega, fun _ => ⟨hk0, hkn⟩, fun _ => by omega, fun _ => ⟨n0, n1⟩, fun _ => ⟨hj0, hjn⟩⟩
            · have hE : convF l k j = false := by
                unfold convF orI
                simp only [decide_eq_false_iff_not]
                omega
              unfold convS
              rw [allN_no k hk0 hkn (allN_no j hj0 hjn hE)]
              simp
            · have hE : convF l k j = true := by
                unfold convF orI
                simp only [decide_eq_true_eq]
                omega
              rw [iadd_1 hj0 hjn hl]
              exact ⟨⟨by omega, by omega, allN_up hj hE⟩, by omega⟩
            · exact ⟨⟨by omega, by omega, allN_up hk (allN_mk fun i h0 h1 => hj i h0 (by omega))⟩, by omega⟩
        · unfold convS
          rw [hv1, allN_mk fun i h0 h1 => hk i h0 (by omega)]
          rfl
  · cases h
def g_spec_l9Near : List AV → Option Sg
  | [.agg [.int p1, .int p2]] => some ⟨True, [.s (.bool (nearB p1 p2))]⟩
  | _ => none
def sig_spec_l9Near : FuncId → List AV → Option Sg := sigL [(54, g_spec_l1In)]
def xs_spec_l9Near : XS := ⟨xsigL [], ysigL []⟩
theorem sig_spec_l9Near_ok : SigOK sig_spec_l9Near := sigL_cons F_spec_l1In sigL_nil
theorem xs_spec_l9Near_ok : XSigOK xs_spec_l9Near := ⟨xsigL_nil, ysigL_nil⟩
theorem V_spec_l9Near (p1 : Int) (p2 : Int) : ((true = true) ∧ ((True) ∧ (True) ∧ True) ∧ (true = true) ∧ ((True) ∧ (True) ∧ ((True)) ∧ (True) ∧ (NIs (inB p1 (-1000 : Int) (1000 : Int)) true → True) ∧ (NIs (inB p1 (-1000 : Int) (1000 : Int)) true → True) ∧ (NIs (inB p1 (-1000 : Int) (1000 : Int)) true → (True)) ∧ (True) ∧ (True) ∧ True) ∧ (((bite (inB p1 (-1000 : Int) (1000 : Int)) (inB p2 (-1000 : Int) (1000 : Int)) false) : Bool) = (nearB p1 p2)) ∧ True) = ev sig_spec_l9Near xs_spec_l9Near Try.f74.ntmps (fun b => []) (codeOf Try.f74) 0 (initS [.agg [.int p1, .int p2]]) (retK Try.f74.results.toList [.s (.bool (nearB p1 p2))]) := by kernel_rfl
set_option maxHeartbeats 400000 in
theorem F_spec_l9Near : FunOK 74 g_spec_l9Near := by
  refine fun_F (by kernel_rfl) Try.func74 rfl (by kernel_rfl) sig_spec_l9Near_ok xs_spec_l9Near_ok ?_
  intro avs sg h hn hl
  unfold g_spec_l9Near at h
  split at h
  · rename_i p1 p2
    injection h with h; subst h
    refine ⟨by kernel_rfl, fun b => [], Eq.mp (V_spec_l9Near p1 p2) ?_⟩
    simp only [true_and, and_true, implies_true, and_self, forall_const, true_implies, lenA, lenL, SV.lenOK, Cont.lenOK] at hn hl ⊢
    simp only [ilt_t, ilt_f, ile_t, ile_f, ieq_t, ieq_f, bnot_e, band_e, bite_and, bite_or, NLt_e, NLe_e, NNe_e, NIs_e, imax_e, imin_e, irem_e, Bool.not_eq_true', Bool.not_eq_false', Bool.and_eq_true, Bool.or_eq_true, Bool.or_eq_false_iff, Bool.and_eq_false_iff, Cont.pts.injEq, Cont.ints.injEq, Cont.bools.injEq, Cont.ptss.injEq, Cont.intss.injEq, Cont.boolss.injEq, true_and, and_true, implies_true, nearB]
  · cases h
def g_spec_l9Square : List AV → Option Sg
  | [.agg [.int p1, .int p2], .agg [.int a1, .int a2], .agg [.int b1, .int b2]] => some ⟨nearB p1 p2 = true ∧ nearB a1 a2 = true ∧ nearB b1 b2 = true, [.s (.int (ssqE p1 p2 a1 a2 b1 b2))]⟩
  | _ => none
def sig_spec_l9Square : FuncId → List AV → Option Sg := sigL [(87, g_spec_l2Square), (57, g_spec_l2Cross)]
def xs_spec_l9Square : XS := ⟨xsigL [], ysigL []⟩
theorem sig_spec_l9Square_ok : SigOK sig_spec_l9Square := sigL_cons F_spec_l2Square (sigL_cons F_spec_l2Cross sigL_nil)
theorem xs_spec_l9Square_ok : XSigOK xs_spec_l9Square := ⟨xsigL_nil, ysigL_nil⟩
theorem V_spec_l9Square (p1 : Int) (p2 : Int) (a1 : Int) (a2 : Int) (b1 : Int) (b2 : Int) : ((true = true) ∧ ((True) ∧ (True) ∧ (True) ∧ (True) ∧ True) ∧ (true = true) ∧ ((True) ∧ (True) ∧ (True) ∧ (True) ∧ (True) ∧ (True) ∧ True) ∧ (true = true) ∧ ((True) ∧ (True) ∧ (True) ∧ (True) ∧ (True) ∧ (True) ∧ True) ∧ (true = true) ∧ ((True) ∧ (True) ∧ (True) ∧ (True) ∧ (True) ∧ (True) ∧ (True) ∧ (True) ∧ True) ∧ (true = true) ∧ ((True) ∧ (True) ∧ (True) ∧ (True) ∧ (True) ∧ (True) ∧ (True) ∧ (True) ∧ (True) ∧ (True) ∧ (True) ∧ (True) ∧ (True) ∧ (True) ∧ (True) ∧ (True) ∧ True) ∧ (true = true) ∧ ((True) ∧ (True) ∧ True) ∧ ((ile (iadd (imul (isub p1 a1) (isub b1 a1)) (imul (isub p2 a2) (isub b2 a2))) (0 : Int)) = true → ((true = true) ∧ ((True) ∧ (True) ∧ ((vB p1 p2 = true ∧ vB a1 a2 = true)) ∧ (True) ∧ True) ∧ (((sqE p1 p2 a1 a2) : Int) = (ssqE p1 p2 a1 a2 b1 b2)) ∧ True)) ∧ ((ile (iadd (imul (isub p1 a1) (isub b1 a1)) (imul (isub p2 a2) (isub b2 a2))) (0 : Int)) = false → ((true = true) ∧ ((True) ∧ (True) ∧ (True) ∧ True) ∧ ((ile (iadd (imul (isub b1 a1) (isub b1 a1)) (imul (isub b2 a2) (isub b2 a2))) (iadd (imul (isub p1 a1) (isub b1 a1)) (imul (isub p2 a2) (isub b2 a2)))) = true → ((true = true) ∧ ((True) ∧ (True) ∧ ((vB p1 p2 = true ∧ vB b1 b2 = true)) ∧ (True) ∧ True) ∧ (((sqE p1 p2 b1 b2) : Int) = (ssqE p1 p2 a1 a2 b1 b2)) ∧ True)) ∧ ((ile (iadd (imul (isub b1 a1) (isub b1 a1)) (imul (isub b2 a2) (isub b2 a2))) (iadd (imul (isub p1 a1) (isub b1 a1)) (imul (isub p2 a2) (isub b2 a2)))) = false → ((true = true) ∧ ((True) ∧ (True) ∧ (True) ∧ ((True)) ∧ (True) ∧ True) ∧ (true = true) ∧ ((True) ∧ (True) ∧ (True) ∧ (True) ∧ (NNe (iadd (imul (isub b1 a1) (isub b1 a1)) (imul (isub b2 a2) (isub b2 a2))) 0) ∧ (True) ∧ True) ∧ (((iquo (imul (crW a1 a2 b1 b2 p1 p2) (crW a1 a2 b1 b2 p1 p2)) (iadd (imul (isub b1 a1) (isub b1 a1)) (imul (isub b2 a2) (isub b2 a2)))) : Int) = (ssqE p1 p2 a1 a2 b1 b2)) ∧ True))))) = ev sig_spec_l9Square xs_spec_l9Square Try.f96.ntmps (fun b => []) (codeOf Try.f96) 0 (initS [.agg [.int p1, .int p2], .agg [.int a1, .int a2], .agg [.int b1, .int b2]]) (retK Try.f96.results.toList [.s (.int (ssqE p1 p2 a1 a2 b1 b2))]) := by kernel_rfl
set_option maxHeartbeats 400000 in
theorem F_spec_l9Square : FunOK 96 g_spec_l9Square := by
  refine fun_F (by kernel_rfl) Try.func96 rfl (by kernel_rfl) sig_spec_l9Square_ok xs_spec_l9Square_ok ?_
  intro avs sg h hn hl
  unfold g_spec_l9Square at h
  split at h
  · rename_i p1 p2 a1 a2 b1 b2
    injection h with h; subst h
    refine ⟨by kernel_rfl, fun b => [], Eq.mp (V_spec_l9Square p1 p2 a1 a2 b1 b2) ?_⟩
    simp only [true_and, and_true, implies_true, and_self, forall_const, true_implies, lenA, lenL, SV.lenOK, Cont.lenOK] at hn hl ⊢
    obtain ⟨np, na, nb⟩ := hn
    have hc := crs_bd na nb np
    have hsq := sq_w na nb
    have sq := sq_w nb na
    have hcm := sqE_comm b1 b2 a1 a2
    rw [hcm] at sq
    simp only [ilt_t, ilt_f, ile_t, ile_f, ieq_t, ieq_f, bnot_e, band_e, bite_and, bite_or, NLt_e, NLe_e, NNe_e, NIs_e, imax_e, imin_e, irem_e, Bool.not_eq_true', Bool.not_eq_false', Bool.and_eq_true, Bool.or_eq_true, Bool.or_eq_false_iff, Bool.and_eq_false_iff, Cont.pts.injEq, Cont.ints.injEq, Cont.bools.injEq, Cont.ptss.injEq, Cont.intss.injEq, Cont.boolss.injEq, true_and, and_true, implies_true, np, na, nb, near_v np, near_v na, near_v nb, crW_e (near_v na) (near_v nb) (near_v np), al_w np na nb, sq.1, mul4 hc hc, true_implies, forall_const]
    refine ⟨fun h => by unfold ssqE; rw [if_pos h], fun h => ⟨fun h2 => by unfold ssqE; rw [if_neg (by omega), if_pos h2], fun h2 => ⟨by omega, ?_⟩⟩⟩
    unfold ssqE
    rw [if_neg (by omega), if_neg (by omega)]
    have := mul4b hc hc
    exact iquo_e (by omega) (by omega) (by omega)
  · cases h
def g_spec_SegmentSquare : List AV → Option Sg
  | [.agg [.int p1, .int p2], .agg [.int a1, .int a2], .agg [.int b1, .int b2]] => some ⟨True, [.s (.int (ssQ p1 p2 a1 a2 b1 b2))]⟩
  | _ => none
def sig_spec_SegmentSquare : FuncId → List AV → Option Sg := sigL [(74, g_spec_l9Near), (96, g_spec_l9Square)]
def xs_spec_SegmentSquare : XS := ⟨xsigL [], ysigL []⟩
theorem sig_spec_SegmentSquare_ok : SigOK sig_spec_SegmentSquare := sigL_cons F_spec_l9Near (sigL_cons F_spec_l9Square sigL_nil)
theorem xs_spec_SegmentSquare_ok : XSigOK xs_spec_SegmentSquare := ⟨xsigL_nil, ysigL_nil⟩
theorem V_spec_SegmentSquare (p1 : Int) (p2 : Int) (a1 : Int) (a2 : Int) (b1 : Int) (b2 : Int) : ((true = true) ∧ ((True) ∧ (True) ∧ (True) ∧ (True) ∧ True) ∧ (true = true) ∧ ((True) ∧ ((True)) ∧ (True) ∧ (True) ∧ (NIs (bnot (nearB p1 p2)) false → True) ∧ (NIs (bnot (nearB p1 p2)) false → (True)) ∧ (NIs (bnot (nearB p1 p2)) false → True) ∧ (True) ∧ (True) ∧ (NIs (bite (bnot (nearB p1 p2)) true (bnot (nearB a1 a2))) false → True) ∧ (NIs (bite (bnot (nearB p1 p2)) true (bnot (nearB a1 a2))) false → (True)) ∧ (NIs (bite (bnot (nearB p1 p2)) true (bnot (nearB a1 a2))) false → True) ∧ (True) ∧ True) ∧ ((bite (bite (bnot (nearB p1 p2)) true (bnot (nearB a1 a2))) true (bnot (nearB b1 b2))) = true → ((true = true) ∧ ((True) ∧ True) ∧ (((-1 : Int) : Int) = (ssQ p1 p2 a1 a2 b1 b2)) ∧ True)) ∧ ((bite (bite (bnot (nearB p1 p2)) true (bnot (nearB a1 a2))) true (bnot (nearB b1 b2))) = false → ((true = true) ∧ ((True) ∧ (True) ∧ (True) ∧ ((nearB p1 p2 = true ∧ nearB a1 a2 = true ∧ nearB b1 b2 = true)) ∧ (True) ∧ True) ∧ (((ssqE p1 p2 a1 a2 b1 b2) : Int) = (ssQ p1 p2 a1 a2 b1 b2)) ∧ True))) = ev sig_spec_SegmentSquare xs_spec_SegmentSquare Try.f75.ntmps (fun b => []) (codeOf Try.f75) 0 (initS [.agg [.int p1, .int p2], .agg [.int a1, .int a2], .agg [.int b1, .int b2]]) (retK Try.f75.results.toList [.s (.int (ssQ p1 p2 a1 a2 b1 b2))]) := by kernel_rfl
set_option maxHeartbeats 400000 in
theorem F_spec_SegmentSquare : FunOK 75 g_spec_SegmentSquare := by
  refine fun_F (by kernel_rfl) Try.func75 rfl (by kernel_rfl) sig_spec_SegmentSquare_ok xs_spec_SegmentSquare_ok ?_
  intro avs sg h hn hl
  unfold g_spec_SegmentSquare at h
  split at h
  · rename_i p1 p2 a1 a2 b1 b2
    injection h with h; subst h
    refine ⟨by kernel_rfl, fun b => [], Eq.mp (V_spec_SegmentSquare p1 p2 a1 a2 b1 b2) ?_⟩
    simp only [true_and, and_true, implies_true, and_self, forall_const, true_implies, lenA, lenL, SV.lenOK, Cont.lenOK] at hn hl ⊢
    simp only [ilt_t, ilt_f, ile_t, ile_f, ieq_t, ieq_f, bnot_e, band_e, bite_and, bite_or, NLt_e, NLe_e, NNe_e, NIs_e, imax_e, imin_e, irem_e, Bool.not_eq_true', Bool.not_eq_false', Bool.and_eq_true, Bool.or_eq_true, Bool.or_eq_false_iff, Bool.and_eq_false_iff, Cont.pts.injEq, Cont.ints.injEq, Cont.bools.injEq, Cont.ptss.injEq, Cont.intss.injEq, Cont.boolss.injEq, true_and, and_true, implies_true]
    unfold ssQ
    cases h1 : nearB p1 p2 <;> cases h2 : nearB a1 a2 <;> cases h3 : nearB b1 b2 <;> simp
  · cases h
def g_spec_l8Inside : List AV → Option Sg
  | [.s (.view (.pts l)), .agg [.int p1, .int p2]] => some ⟨True, [.s (.bool (insB l p1 p2))]⟩
  | _ => none
def sig_spec_l8Inside : FuncId → List AV → Option Sg := sigL [(57, g_spec_l2Cross)]
def xs_spec_l8Inside : XS := ⟨xsigL [], ysigL []⟩
theorem sig_spec_l8Inside_ok : SigOK sig_spec_l8Inside := sigL_cons F_spec_l2Cross sigL_nil
theorem xs_spec_l8Inside_ok : XSigOK xs_spec_l8Inside := ⟨xsigL_nil, ysigL_nil⟩
theorem V_spec_l8Inside (l : List Pt) (p1 : Int) (p2 : Int) : ((true = true) ∧ ((True) ∧ (True) ∧ True) ∧ (true = true) ∧ ((True) ∧ True) ∧ ∃ (I1 : List GV → Prop) (μ1 : List GV → Nat), (((true = true) ∧ (((false : Bool) = false) ∧ (((0 : Int) : Int) = (0 : Int)) ∧ (true = true) ∧ ((Cont.pts l) = (Cont.pts l)) ∧ (((p1 : Int) = p1) ∧ ((p2 : Int) = p2) ∧ True) ∧ True) ∧ ((((p1 : Int) = p1) ∧ ((p2 : Int) = p2) ∧ True) ∧ True)) ∧ (([GK.int, GK.bool] : List GK) = ([GK.int, GK.bool] : List GK)) ∧ I1 [GV.int (0 : Int), GV.bool false]) ∧ (∀ i1_0 : Int, ∀ b1_1 : Bool, I1 [GV.int i1_0, GV.bool b1_1] → ((true = true) ∧ ((True) ∧ (True) ∧ (True) ∧ (True) ∧ True) ∧ ((ilt i1_0 (ilen l)) = true → ((true = true) ∧ ((True) ∧ (True) ∧ (NLe 0 i1_0 ∧ NLt i1_0 (ilen l)) ∧ (True) ∧ (True) ∧ (True) ∧ (True) ∧ (True) ∧ (True) ∧ (NNe (ilen l) 0) ∧ (NLe 0 (irem (iadd i1_0 (1 : Int)) (ilen l)) ∧ NLt (irem (iadd i1_0 (1 : Int)) (ilen l)) (ilen l)) ∧ (True) ∧ (True) ∧ ((True)) ∧ (True) ∧ True) ∧ ((ilt (crW (getx l i1_0) (gety l i1_0) (getx l (irem (iadd i1_0 (1 : Int)) (ilen l))) (gety l (irem (iadd i1_0 (1 : Int)) (ilen l))) p1 p2) (0 : Int)) = true → ((true = true) ∧ ((True) ∧ True) ∧ ((false : Bool) = (insB l p1 p2)) ∧ True)) ∧ ((ilt (crW (getx l i1_0) (gety l i1_0) (getx l (irem (iadd i1_0 (1 : Int)) (ilen l))) (gety l (irem (iadd i1_0 (1 : Int)) (ilen l))) p1 p2) (0 : Int)) = false → ((true = true) ∧ ((True) ∧ (True) ∧ (True) ∧ True) ∧ ((true = true) ∧ (((b1_1 : Bool) = b1_1) ∧ (((iadd i1_0 (1 : Int)) : Int) = (iadd i1_0 (1 : Int))) ∧ (true = true) ∧ ((Cont.pts l) = (Cont.pts l)) ∧ (((p1 : Int) = p1) ∧ ((p2 : Int) = p2) ∧ True) ∧ True) ∧ ((((p1 : Int) = p1) ∧ ((p2 : Int) = p2) ∧ True) ∧ True)) ∧ ((([GK.int, GK.bool] : List GK) = ([GK.int, GK.bool] : List GK)) ∧ I1 [GV.int (iadd i1_0 (1 : Int)), GV.bool b1_1] ∧ μ1 [GV.int (iadd i1_0 (1 : Int)), GV.bool b1_1] < μ1 [GV.int i1_0, GV.bool b1_1]))))) ∧ ((ilt i1_0 (ilen l)) = false → ((true = true) ∧ ((True) ∧ True) ∧ ((true : Bool) = (insB l p1 p2)) ∧ True))))) = ev sig_spec_l8Inside xs_spec_l8Inside Try.f64.ntmps (fun b => if b == 0 then [.v 5, .v 4] else []) (codeOf Try.f64) 0 (initS [.s (.view (.pts l)), .agg [.int p1, .int p2]]) (retK Try.f64.results.toList [.s (.bool (insB l p1 p2))]) := by kernel_rfl
set_option maxHeartbeats 400000 in
theorem F_spec_l8Inside : FunOK 64 g_spec_l8Inside := by
  refine fun_F (by kernel_rfl) Try.func64 rfl (by kernel_rfl) sig_spec_l8Inside_ok xs_spec_l8Inside_ok ?_
  intro avs sg h hn hl
  unfold g_spec_l8Inside at h
  split at h
  · rename_i l p1 p2
    injection h with h; subst h
    refine ⟨by kernel_rfl, fun b => if b == 0 then [.v 5, .v 4] else [], Eq.mp (V_spec_l8Inside l p1 p2) ?_⟩
    simp only [true_and, and_true, implies_true, and_self, forall_const, true_implies, lenA, lenL, SV.lenOK, Cont.lenOK] at hn hl ⊢
    have h0 := ilen_0 l
    simp only [ilt_t, ilt_f, ile_t, ile_f, ieq_t, ieq_f, bnot_e, band_e, bite_and, bite_or, NLt_e, NLe_e, NNe_e, NIs_e, imax_e, imin_e, irem_e, Bool.not_eq_true', Bool.not_eq_false', Bool.and_eq_true, Bool.or_eq_true, Bool.or_eq_false_iff, Bool.and_eq_false_iff, Cont.pts.injEq, Cont.ints.injEq, Cont.bools.injEq, Cont.ptss.injEq, Cont.intss.injEq, Cont.boolss.injEq, true_and, and_true, implies_true]
    refine ⟨fun | .int k :: _ => 0 ≤ k ∧ k ≤ ilen l ∧ (∀ i, 0 ≤ i → i < k → insE l p1 p2 i = true) | _ => False, fun | .int k :: _ => (ilen l - k).toNat | _ => 0, ?_, ?_⟩
    · exact ⟨Int.le_refl 0, h0, fun j h0 h1 => absurd h1 (by omega)⟩
    · rintro k _ ⟨hk0, hk1, hk⟩
      simp only [ilt_t, ilt_f, ile_t, ile_f, ieq_t, ieq_f, bnot_e, band_e, bite_and, bite_or, NLt_e, NLe_e, NNe_e, NIs_e, imax_e, imin_e, irem_e, Bool.not_eq_true', Bool.not_eq_false', Bool.and_eq_true, Bool.or_eq_true, Bool.or_eq_false_iff, Bool.and_eq_false_iff, Cont.pts.injEq, Cont.ints.injEq, Cont.bools.injEq, Cont.ptss.injEq, Cont.intss.injEq, Cont.boolss.injEq, true_and, and_true, implies_true]
      refine ⟨fun hkn => ?_, fun hkn => ?_⟩
      · have e1 := iadd_1 hk0 hkn hl
        obtain ⟨n0, n1, _⟩ := nx_in hk0 hkn
        have e2 : (k + 1).tmod (ilen l) = nx l k := rfl
        simp only [e1, e2]
        have hne : ilen l ≠ 0 := by omega
        refine ⟨⟨⟨hk0, hkn⟩, hne, ⟨n0, n1⟩⟩, fun hx => ?_, fun hx => ?_⟩
        · have hE : insE l p1 p2 k = false := by
            unfold insE
            simp only [decide_eq_false_iff_not]
            omega
          unfold insB
          rw [allN_no k hk0 hkn hE]
        · have hE : insE l p1 p2 k = true := by
            unfold insE
            simp only [decide_eq_true_eq]
            omega
          exact ⟨⟨by omega, by omega, allN_up hk hE⟩, by omega⟩
      · unfold insB
        rw [allN_mk fun i h0 h1 => hk i h0 (by omega)]
  · cases h
def g_spec_PolygonSquare : List AV → Option Sg
  | [.s (.view (.pts l)), .agg [.int p1, .int p2]] => some ⟨True, [.s (.int (psq l p1 p2))]⟩
  | _ => none
def sig_spec_PolygonSquare : FuncId → List AV → Option Sg := sigL [(16, g_spec_ConvexValid), (74, g_spec_l9Near), (75, g_spec_SegmentSquare), (64, g_spec_l8Inside)]
def xs_spec_PolygonSquare : XS := ⟨xsigL [], ysigL []⟩
theorem sig_spec_PolygonSquare_ok : SigOK sig_spec_PolygonSquare := sigL_cons F_spec_ConvexValid (sigL_cons F_spec_l9Near (sigL_cons F_spec_SegmentSquare (sigL_cons F_spec_l8Inside sigL_nil)))
theorem xs_spec_PolygonSquare_ok : XSigOK xs_spec_PolygonSquare := ⟨xsigL_nil, ysigL_nil⟩
theorem V_spec_PolygonSquare (l : List Pt) (p1 : Int) (p2 : Int) : ((true = true) ∧ ((True) ∧ (True) ∧ True) ∧ (true = true) ∧ ((True) ∧ ((True)) ∧ (True) ∧ (True) ∧ (NIs (bnot (convB l)) false → True) ∧ (NIs (bnot (convB l)) false → (True)) ∧ (NIs (bnot (convB l)) false → True) ∧ (True) ∧ True) ∧ ((bite (bnot (convB l)) true (bnot (nearB p1 p2))) = true → ((true = true) ∧ ((True) ∧ True) ∧ (((-1 : Int) : Int) = (psq l p1 p2)) ∧ True)) ∧ ((bite (bnot (convB l)) true (bnot (nearB p1 p2))) = false → ((true = true) ∧ ((True) ∧ True) ∧ (true = true) ∧ ((True) ∧ True) ∧ ∃ (I1 : List GV → Prop) (μ1 : List GV → Nat), (((true = true) ∧ ((((0 : Int) : Int) = (0 : Int)) ∧ (((-1 : Int) : Int) = (-1 : Int)) ∧ (((0 : Int) : Int) = (0 : Int)) ∧ ((Cont.pts l) = (Cont.pts l)) ∧ (((convB l) : Bool) = (convB l)) ∧ (((bnot (convB l)) : Bool) = (bnot (convB l))) ∧ (((bnot (convB l)) : Bool) = (bnot (convB l))) ∧ (((bite (bnot (convB l)) true (bnot (nearB p1 p2))) : Bool) = (bite (bnot (convB l)) true (bnot (nearB p1 p2)))) ∧ (true = true) ∧ ((Cont.pts l) = (Cont.pts l)) ∧ (((p1 : Int) = p1) ∧ ((p2 : Int) = p2) ∧ True) ∧ True) ∧ ((((p1 : Int) = p1) ∧ ((p2 : Int) = p2) ∧ True) ∧ True)) ∧ (([GK.int, GK.int, GK.int] : List GK) = ([GK.int, GK.int, GK.int] : List GK)) ∧ I1 [GV.int (0 : Int), GV.int (-1 : Int), GV.int (0 : Int)]) ∧ (∀ i1_0 : Int, ∀ i1_1 : Int, ∀ i1_2 : Int, I1 [GV.int i1_0, GV.int i1_1, GV.int i1_2] → ((true = true) ∧ ((True) ∧ (True) ∧ (True) ∧ (True) ∧ True) ∧ ((ilt i1_0 (ilen l)) = true → ((true = true) ∧ ((True) ∧ (True) ∧ (True) ∧ (NLe 0 i1_0 ∧ NLt i1_0 (ilen l)) ∧ (True) ∧ (True) ∧ (True) ∧ (True) ∧ (True) ∧ (True) ∧ (NNe (ilen l) 0) ∧ (NLe 0 (irem (iadd i1_0 (1 : Int)) (ilen l)) ∧ NLt (irem (iadd i1_0 (1 : Int)) (ilen l)) (ilen l)) ∧ (True) ∧ ((True)) ∧ (True) ∧ True) ∧ (true = true) ∧ ((True) ∧ (True) ∧ True) ∧ ((ilt (ssQ p1 p2 (getx l i1_0) (gety l i1_0) (getx l (irem (iadd i1_0 (1 : Int)) (ilen l))) (gety l (irem (iadd i1_0 (1 : Int)) (ilen l)))) (0 : Int)) = true → ((true = true) ∧ ((True) ∧ True) ∧ (((-1 : Int) : Int) = (psq l p1 p2)) ∧ True)) ∧ ((ilt (ssQ p1 p2 (getx l i1_0) (gety l i1_0) (getx l (irem (iadd i1_0 (1 : Int)) (ilen l))) (gety l (irem (iadd i1_0 (1 : Int)) (ilen l)))) (0 : Int)) = false → ((true = true) ∧ ((True) ∧ (True) ∧ (True) ∧ (NIs (ilt i1_1 (0 : Int)) false → True) ∧ (NIs (ilt i1_1 (0 : Int)) false → True) ∧ (NIs (ilt i1_1 (0 : Int)) false → True) ∧ (True) ∧ True) ∧ ((bite (ilt i1_1 (0 : Int)) true (ilt (ssQ p1 p2 (getx l i1_0) (gety l i1_0) (getx l (irem (iadd i1_0 (1 : Int)) (ilen l))) (gety l (irem (iadd i1_0 (1 : Int)) (ilen l)))) i1_1)) = true → ((true = true) ∧ ((True) ∧ (True) ∧ True) ∧ (true = true) ∧ ((True) ∧ (True) ∧ (True) ∧ True) ∧ ((true = true) ∧ (((i1_2 : Int) = i1_2) ∧ (((ssQ p1 p2 (getx l i1_0) (gety l i1_0) (getx l (irem (iadd i1_0 (1 : Int)) (ilen l))) (gety l (irem (iadd i1_0 (1 : Int)) (ilen l)))) : Int) = (ssQ p1 p2 (getx l i1_0) (gety l i1_0) (getx l (irem (iadd i1_0 (1 : Int)) (ilen l))) (gety l (irem (iadd i1_0 (1 : Int)) (ilen l))))) ∧ (((iadd i1_0 (1 : Int)) : Int) = (iadd i1_0 (1 : Int))) ∧ ((Cont.pts l) = (Cont.pts l)) ∧ (((convB l) : Bool) = (convB l)) ∧ (((bnot (convB l)) : Bool) = (bnot (convB l))) ∧ (((bnot (convB l)) : Bool) = (bnot (convB l))) ∧ (((bite (bnot (convB l)) true (bnot (nearB p1 p2))) : Bool) = (bite (bnot (convB l)) true (bnot (nearB p1 p2)))) ∧ (true = true) ∧ ((Cont.pts l) = (Cont.pts l)) ∧ (((p1 : Int) = p1) ∧ ((p2 : Int) = p2) ∧ True) ∧ True) ∧ ((((p1 : Int) = p1) ∧ ((p2 : Int) = p2) ∧ True) ∧ True)) ∧ ((([GK.int, GK.int, GK.int] : List GK) = ([GK.int, GK.int, GK.int] : List GK)) ∧ I1 [GV.int (iadd i1_0 (1 : Int)), GV.int (ssQ p1 p2 (getx l i1_0) (gety l i1_0) (getx l (irem (iadd i1_0 (1 : Int)) (ilen l))) (gety l (irem (iadd i1_0 (1 : Int)) (ilen l)))), GV.int i1_2] ∧ μ1 [GV.int (iadd i1_0 (1 : Int)), GV.int (ssQ p1 p2 (getx l i1_0) (gety l i1_0) (getx l (irem (iadd i1_0 (1 : Int)) (ilen l))) (gety l (irem (iadd i1_0 (1 : Int)) (ilen l)))), GV.int i1_2] < μ1 [GV.int i1_0, GV.int i1_1, GV.int i1_2]))) ∧ ((bite (ilt i1_1 (0 : Int)) true (ilt (ssQ p1 p2 (getx l i1_0) (gety l i1_0) (getx l (irem (iadd i1_0 (1 : Int)) (ilen l))) (gety l (irem (iadd i1_0 (1 : Int)) (ilen l)))) i1_1)) = false → ((true = true) ∧ ((True) ∧ (True) ∧ (True) ∧ True) ∧ ((true = true) ∧ (((i1_2 : Int) = i1_2) ∧ ((i1_1 : Int) = i1_1) ∧ (((iadd i1_0 (1 : Int)) : Int) = (iadd i1_0 (1 : Int))) ∧ ((Cont.pts l) = (Cont.pts l)) ∧ (((convB l) : Bool) = (convB l)) ∧ (((bnot (convB l)) : Bool) = (bnot (convB l))) ∧ (((bnot (convB l)) : Bool) = (bnot (convB l))) ∧ (((bite (bnot (convB l)) true (bnot (nearB p1 p2))) : Bool) = (bite (bnot (convB l)) true (bnot (nearB p1 p2)))) ∧ (true = true) ∧ ((Cont.pts l) = (Cont.pts l)) ∧ (((p1 : Int) = p1) ∧ ((p2 : Int) = p2) ∧ True) ∧ True) ∧ ((((p1 : Int) = p1) ∧ ((p2 : Int) = p2) ∧ True) ∧ True)) ∧ ((([GK.int, GK.int, GK.int] : List GK) = ([GK.int, GK.int, GK.int] : List GK)) ∧ I1 [GV.int (iadd i1_0 (1 : Int)), GV.int i1_1, GV.int i1_2] ∧ μ1 [GV.int (iadd i1_0 (1 : Int)), GV.int i1_1, GV.int i1_2] < μ1 [GV.int i1_0, GV.int i1_1, GV.int i1_2]))))))) ∧ ((ilt i1_0 (ilen l)) = false → ((true = true) ∧ ((True) ∧ (True) ∧ ((True)) ∧ True) ∧ ((insB l p1 p2) = true → ((true = true) ∧ ((True) ∧ True) ∧ (((0 : Int) : Int) = (psq l p1 p2)) ∧ True)) ∧ ((insB l p1 p2) = false → ((true = true) ∧ ((True) ∧ (True) ∧ True) ∧ ((i1_1 : Int) = (psq l p1 p2)) ∧ True))))))))) = ev sig_spec_PolygonSquare xs_spec_PolygonSquare Try.f39.ntmps (fun b => if b == 0 then [.v 6, .v 5, .v 4] else []) (codeOf Try.f39) 0 (initS [.s (.view (.pts l)), .agg [.int p1, .int p2]]) (retK Try.f39.results.toList [.s (.int (psq l p1 p2))]) := by kernel_rfl
set_option maxHeartbeats 400000 in
theorem F_spec_PolygonSquare : FunOK 39 g_spec_PolygonSquare := by
  refine fun_F (by kernel_rfl) Try.func39 rfl (by kernel_rfl) sig_spec_PolygonSquare_ok xs_spec_PolygonSquare_ok ?_
  intro avs sg h hn hl
  unfold g_spec_PolygonSquare at h
  split at h
  · rename_i l p1 p2
    injection h with h; subst h
    refine ⟨by kernel_rfl, fun b => if b == 0 then [.v 6, .v 5, .v 4] else [], Eq.mp (V_spec_PolygonSquare l p1 p2) ?_⟩
    simp only [true_and, and_true, implies_true, and_self, forall_const, true_implies, lenA, lenL, SV.lenOK, Cont.lenOK] at hn hl ⊢
    have h0 := ilen_0 l
    simp only [ilt_t, ilt_f, ile_t, ile_f, ieq_t, ieq_f, bnot_e, band_e, bite_and, bite_or, NLt_e, NLe_e, NNe_e, NIs_e, imax_e, imin_e, irem_e, Bool.not_eq_true', Bool.not_eq_false', Bool.and_eq_true, Bool.or_eq_true, Bool.or_eq_false_iff, Bool.and_eq_false_iff, Cont.pts.injEq, Cont.ints.injEq, Cont.bools.injEq, Cont.ptss.injEq, Cont.intss.injEq, Cont.boolss.injEq, true_and, and_true, implies_true]
    refine ⟨fun h => ?_, fun h => ?_⟩
    · have : psqB l p1 p2 = false := by unfold psqB; rcases h with h | h <;> simp [h]
      unfold psq; rw [this]; rfl
    · obtain ⟨hc, hp⟩ := h
      obtain ⟨c1, c2, c3⟩ := convB_all hc
      refine ⟨fun | .int k :: .int s :: _ => 0 ≤ k ∧ k ≤ ilen l ∧ s = minF l p1 p2 k ∧ (∀ i, 0 ≤ i → i < k → nearB (getx l i) (gety l i) = true) | _ => False, fun | .int k :: _ => (ilen l - k).toNat | _ => 0, ?_, ?_⟩
      · exact ⟨Int.le_refl 0, h0, rfl, fun j h0 h1 => absurd h1 (by omega)⟩
      · rintro k s _ ⟨hk0, hk1, hs, hk⟩
        refine ⟨fun hkn => ?_, fun hkn => ?_⟩
        · have e1 := iadd_1 hk0 hkn hl
          obtain ⟨n0, n1, _⟩ := nx_in hk0 hkn
          have e2 : (k + 1).tmod (ilen l) = nx l k := rfl
          simp only [e1, e2]
          have hstep := minF_1 (l := l) (p1 := p1) (p2 := p2) hk0
          refine ⟨⟨⟨hk0, hkn⟩, by omega, ⟨n0, n1⟩⟩, fun hx => ?_, fun hx => ?_⟩
          · have hN : allN (ilen l) (fun i => nearB (getx l i) (gety l i)) = false := by
              cases a1 : nearB (getx l k) (gety l k) with
              | false => exact allN_no k hk0 hkn a1
              | true =>
                cases a2 : nearB (getx l (nx l k)) (gety l (nx l k)) with
                | false => exact allN_no _ n0 n1 a2
                | true =>
                  rw [ssQ_e hp a1 a2] at hx
                  have := ssqE_0 p1 p2 (getx l k) (gety l k) (getx l (nx l k)) (gety l (nx l k))
                  omega
            have : psqB l p1 p2 = false := by unfold psqB; rw [hN]; simp
            unfold psq; rw [this]; rfl
          · obtain ⟨_, a1, a2⟩ := ssQ_0 hx
            have hq : ssQ p1 p2 (getx l k) (gety l k) (getx l (nx l k)) (gety l (nx l k)) = psqE l p1 p2 k := ssQ_e hp a1 a2
            simp only [hq]
            refine ⟨fun hx => ?_, fun hx => ?_⟩
            · rw [← hs, if_pos hx] at hstep
              exact ⟨⟨by omega, by omega, hstep.symm, upTo hk a1⟩, by omega⟩
            · rw [← hs, if_neg (by omega)] at hstep
              exact ⟨⟨by omega, by omega, hstep.symm, upTo hk a1⟩, by omega⟩
        · have e : k = ilen l := by omega
          subst e
          have hB : psqB l p1 p2 = true := by unfold psqB; rw [hc, hp, allN_mk fun i i0 i1 => hk i i0 i1]; rfl
          refine ⟨fun hi => by unfold psq; rw [hB, hi]; rfl, fun hi => ?_⟩
          unfold psq
          rw [hB, hi, hs]; rfl
  · cases h
def g_spec_KeepsClear : List AV → Option Sg
  | [.s (.view (.ptss l)), .agg [.int p1, .int p2], .s (.int d)] => some ⟨True, [.s (.bool (kcB l p1 p2 d))]⟩
  | _ => none
def sig_spec_KeepsClear : FuncId → List AV → Option Sg := sigL [(54, g_spec_l1In), (39, g_spec_PolygonSquare)]
def xs_spec_KeepsClear : XS := ⟨xsigL [], ysigL []⟩
theorem sig_spec_KeepsClear_ok : SigOK sig_spec_KeepsClear := sigL_cons F_spec_l1In (sigL_cons F_spec_PolygonSquare sigL_nil)
theorem xs_spec_KeepsClear_ok : XSigOK xs_spec_KeepsClear := ⟨xsigL_nil, ysigL_nil⟩
theorem V_spec_KeepsClear (l : List (List Pt)) (p1 : Int) (p2 : Int) (d : Int) : ((true = true) ∧ ((True) ∧ (True) ∧ True) ∧ (true = true) ∧ ((True) ∧ (True) ∧ (True) ∧ (True) ∧ (NIs (ilt (8 : Int) (ilen l)) false → True) ∧ (NIs (ilt (8 : Int) (ilen l)) false → (True)) ∧ (NIs (ilt (8 : Int) (ilen l)) false → True) ∧ (True) ∧ True) ∧ ((bite (ilt (8 : Int) (ilen l)) true (bnot (inB d (0 : Int) (1000 : Int)))) = true → ((true = true) ∧ ((True) ∧ True) ∧ ((false : Bool) = (kcB l p1 p2 d)) ∧ True)) ∧ ((bite (ilt (8 : Int) (ilen l)) true (bnot (inB d (0 : Int) (1000 : Int)))) = false → ((true = true) ∧ ((True) ∧ True) ∧ ∃ (I1 : List GV → Prop) (μ1 : List GV → Nat), (((true = true) ∧ (((false : Bool) = false) ∧ (((0 : Int) : Int) = (0 : Int)) ∧ ((Cont.ptss l) = (Cont.ptss l)) ∧ (((ilen l) : Int) = (ilen l)) ∧ (((ilt (8 : Int) (ilen l)) : Bool) = (ilt (8 : Int) (ilen l))) ∧ (((ilt (8 : Int) (ilen l)) : Bool) = (ilt (8 : Int) (ilen l))) ∧ (((bite (ilt (8 : Int) (ilen l)) true (bnot (inB d (0 : Int) (1000 : Int)))) : Bool) = (bite (ilt (8 : Int) (ilen l)) true (bnot (inB d (0 : Int) (1000 : Int))))) ∧ (true = true) ∧ ((Cont.ptss l) = (Cont.ptss l)) ∧ (((p1 : Int) = p1) ∧ ((p2 : Int) = p2) ∧ True) ∧ ((d : Int) = d) ∧ True) ∧ ((((p1 : Int) = p1) ∧ ((p2 : Int) = p2) ∧ True) ∧ True)) ∧ (([GK.int, GK.bool] : List GK) = ([GK.int, GK.bool] : List GK)) ∧ I1 [GV.int (0 : Int), GV.bool false]) ∧ (∀ i1_0 : Int, ∀ b1_1 : Bool, I1 [GV.int i1_0, GV.bool b1_1] → ((true = true) ∧ ((True) ∧ (True) ∧ (True) ∧ (True) ∧ True) ∧ ((ilt i1_0 (ilen l)) = true → ((true = true) ∧ ((True) ∧ (True) ∧ (NLe 0 i1_0 ∧ NLt i1_0 (ilen l)) ∧ (True) ∧ (True) ∧ ((True)) ∧ (True) ∧ True) ∧ (true = true) ∧ ((True) ∧ (True) ∧ (True) ∧ (NIs (ilt (psq (getl l i1_0) p1 p2) (0 : Int)) false → True) ∧ (NIs (ilt (psq (getl l i1_0) p1 p2) (0 : Int)) false → True) ∧ (NIs (ilt (psq (getl l i1_0) p1 p2) (0 : Int)) false → True) ∧ (NIs (ilt (psq (getl l i1_0) p1 p2) (0 : Int)) false → True) ∧ (NIs (ilt (psq (getl l i1_0) p1 p2) (0 : Int)) false → True) ∧ (True) ∧ True) ∧ ((bite (ilt (psq (getl l i1_0) p1 p2) (0 : Int)) true (ilt (psq (getl l i1_0) p1 p2) (imul d d))) = true → ((true = true) ∧ ((True) ∧ True) ∧ ((false : Bool) = (kcB l p1 p2 d)) ∧ True)) ∧ ((bite (ilt (psq (getl l i1_0) p1 p2) (0 : Int)) true (ilt (psq (getl l i1_0) p1 p2) (imul d d))) = false → ((true = true) ∧ ((True) ∧ (True) ∧ (True) ∧ True) ∧ ((true = true) ∧ (((b1_1 : Bool) = b1_1) ∧ (((iadd i1_0 (1 : Int)) : Int) = (iadd i1_0 (1 : Int))) ∧ ((Cont.ptss l) = (Cont.ptss l)) ∧ (((ilen l) : Int) = (ilen l)) ∧ (((ilt (8 : Int) (ilen l)) : Bool) = (ilt (8 : Int) (ilen l))) ∧ (((ilt (8 : Int) (ilen l)) : Bool) = (ilt (8 : Int) (ilen l))) ∧ (((bite (ilt (8 : Int) (ilen l)) true (bnot (inB d (0 : Int) (1000 : Int)))) : Bool) = (bite (ilt (8 : Int) (ilen l)) true (bnot (inB d (0 : Int) (1000 : Int))))) ∧ (true = true) ∧ ((Cont.ptss l) = (Cont.ptss l)) ∧ (((p1 : Int) = p1) ∧ ((p2 : Int) = p2) ∧ True) ∧ ((d : Int) = d) ∧ True) ∧ ((((p1 : Int) = p1) ∧ ((p2 : Int) = p2) ∧ True) ∧ True)) ∧ ((([GK.int, GK.bool] : List GK) = ([GK.int, GK.bool] : List GK)) ∧ I1 [GV.int (iadd i1_0 (1 : Int)), GV.bool b1_1] ∧ μ1 [GV.int (iadd i1_0 (1 : Int)), GV.bool b1_1] < μ1 [GV.int i1_0, GV.bool b1_1]))))) ∧ ((ilt i1_0 (ilen l)) = false → ((true = true) ∧ ((True) ∧ True) ∧ ((true : Bool) = (kcB l p1 p2 d)) ∧ True))))))) = ev sig_spec_KeepsClear xs_spec_KeepsClear Try.f43.ntmps (fun b => if b == 0 then [.v 7, .v 6] else []) (codeOf Try.f43) 0 (initS [.s (.view (.ptss l)), .agg [.int p1, .int p2], .s (.int d)]) (retK Try.f43.results.toList [.s (.bool (kcB l p1 p2 d))]) := by kernel_rfl
set_option maxHeartbeats 400000 in
theorem F_spec_KeepsClear : FunOK 43 g_spec_KeepsClear := by
  refine fun_F (by kernel_rfl) Try.func43 rfl (by kernel_rfl) sig_spec_KeepsClear_ok xs_spec_KeepsClear_ok ?_
  intro avs sg h hn hl
  unfold g_spec_KeepsClear at h
  split at h
  · rename_i l p1 p2 d
    injection h with h; subst h
    refine ⟨by kernel_rfl, fun b => if b == 0 then [.v 7, .v 6] else [], Eq.mp (V_spec_KeepsClear l p1 p2 d) ?_⟩
    simp only [true_and, and_true, implies_true, and_self, forall_const, true_implies, lenA, lenL, SV.lenOK, Cont.lenOK] at hn hl ⊢
    have h0 := ilen_0 l
    simp only [ilt_t, ilt_f, ile_t, ile_f, ieq_t, ieq_f, bnot_e, band_e, bite_and, bite_or, NLt_e, NLe_e, NNe_e, NIs_e, imax_e, imin_e, irem_e, Bool.not_eq_true', Bool.not_eq_false', Bool.and_eq_true, Bool.or_eq_true, Bool.or_eq_false_iff, Bool.and_eq_false_iff, Cont.pts.injEq, Cont.ints.injEq, Cont.bools.injEq, Cont.ptss.injEq, Cont.intss.injEq, Cont.boolss.injEq, true_and, and_true, implies_true]
    refine ⟨fun h => ?_, fun h => ?_⟩
    · unfold kcB ile
      rcases h with h | h <;> simp [h] <;> omega
    · obtain ⟨hc, hp⟩ := h
      have hd := inB_true hp
      simp only [dd_w hd]
      refine ⟨fun | .int k :: _ => 0 ≤ k ∧ k ≤ ilen l ∧ (∀ i, 0 ≤ i → i < k → kcE l p1 p2 d i = true) | _ => False, fun | .int k :: _ => (ilen l - k).toNat | _ => 0, ?_, ?_⟩
      · exact ⟨Int.le_refl 0, h0, fun j h0 h1 => absurd h1 (by omega)⟩
      · rintro k _ ⟨hk0, hk1, hk⟩
        simp only [ilt_t, ilt_f, ile_t, ile_f, ieq_t, ieq_f, bnot_e, band_e, bite_and, bite_or, NLt_e, NLe_e, NNe_e, NIs_e, imax_e, imin_e, irem_e, Bool.not_eq_true', Bool.not_eq_false', Bool.and_eq_true, Bool.or_eq_true, Bool.or_eq_false_iff, Bool.and_eq_false_iff, Cont.pts.injEq, Cont.ints.injEq, Cont.bools.injEq, Cont.ptss.injEq, Cont.intss.injEq, Cont.boolss.injEq, true_and, and_true, implies_true]
        refine ⟨fun hkn => ?_, fun hkn => ?_⟩
        · refine ⟨⟨hk0, hkn⟩, fun hx => ?_, fun hx => ?_⟩
          · have hE : kcE l p1 p2 d k = false := by unfold kcE; simp only [decide_eq_false_iff_not]; omega
            unfold kcB
            rw [allN_no k hk0 hkn hE]; simp
          · have hE : kcE l p1 p2 d k = true := by unfold kcE; simp only [decide_eq_true_eq]; omega
            rw [iadd_1 hk0 hkn hl.1]
            exact ⟨⟨by omega, by omega, upTo hk hE⟩, by omega⟩
        · unfold kcB
          rw [hp, allN_mk fun i i0 i1 => hk i i0 (by omega)]
          simp [ile]; omega
  · cases h
def degW (d : Int) : Int := irem (iadd (irem d 360) 360) 360
def g_impl_Degrees : List AV → Option Sg
  | [.s (.int d)] => some ⟨True, [.s (.int (degW d))]⟩
  | _ => none
def sig_impl_Degrees : FuncId → List AV → Option Sg := sigL []
def xs_impl_Degrees : XS := ⟨xsigL [], ysigL []⟩
theorem sig_impl_Degrees_ok : SigOK sig_impl_Degrees := sigL_nil
theorem xs_impl_Degrees_ok : XSigOK xs_impl_Degrees := ⟨xsigL_nil, ysigL_nil⟩
theorem V_impl_Degrees (d : Int) : ((true = true) ∧ ((True) ∧ True) ∧ (true = true) ∧ ((True) ∧ (NNe (360 : Int) 0) ∧ (True) ∧ (NNe (360 : Int) 0) ∧ (True) ∧ True) ∧ (((irem (iadd (irem d (360 : Int)) (360 : Int)) (360 : Int)) : Int) = (degW d)) ∧ True) = ev sig_impl_Degrees xs_impl_Degrees Try.f56.ntmps (fun b => []) (codeOf Try.f56) 0 (initS [.s (.int d)]) (retK Try.f56.results.toList [.s (.int (degW d))]) := by kernel_rfl
set_option maxHeartbeats 400000 in
theorem F_impl_Degrees : FunOK 56 g_impl_Degrees := by
  refine fun_F (by kernel_rfl) Try.func56 rfl (by kernel_rfl) sig_impl_Degrees_ok xs_impl_Degrees_ok ?_
  intro avs sg h hn hl
  unfold g_impl_Degrees at h
  split at h
  · rename_i d
    injection h with h; subst h
    refine ⟨by kernel_rfl, fun b => [], Eq.mp (V_impl_Degrees d) ?_⟩
    simp only [true_and, and_true, implies_true, and_self, forall_const, true_implies, lenA, lenL, SV.lenOK, Cont.lenOK] at hn hl ⊢
    simp only [ilt_t, ilt_f, ile_t, ile_f, ieq_t, ieq_f, bnot_e, band_e, bite_and, bite_or, NLt_e, NLe_e, NNe_e, NIs_e, imax_e, imin_e, irem_e, Bool.not_eq_true', Bool.not_eq_false', Bool.and_eq_true, Bool.or_eq_true, Bool.or_eq_false_iff, Bool.and_eq_false_iff, Cont.pts.injEq, Cont.ints.injEq, Cont.bools.injEq, Cont.ptss.injEq, Cont.intss.injEq, Cont.boolss.injEq, true_and, and_true, implies_true]
    exact ⟨by decide, by simp [degW, irem_e]⟩
  · cases h
def g_laws_alive : List AV → Option Sg
  | [] => some ⟨True, [.s (.bool (true))]⟩
  | _ => none
def sig_laws_alive : FuncId → List AV → Option Sg := sigL [(56, g_impl_Degrees)]
def xs_laws_alive : XS := ⟨xsigL [], ysigL []⟩
theorem sig_laws_alive_ok : SigOK sig_laws_alive := sigL_cons F_impl_Degrees sigL_nil
theorem xs_laws_alive_ok : XSigOK xs_laws_alive := ⟨xsigL_nil, ysigL_nil⟩
theorem V_laws_alive  : ((true = true) ∧ ((True) ∧ True) ∧ (true = true) ∧ (((True)) ∧ (True) ∧ (True) ∧ True) ∧ (((ieq (degW (-1 : Int)) (359 : Int)) : Bool) = (true)) ∧ True) = ev sig_laws_alive xs_laws_alive Try.f17.ntmps (fun b => []) (codeOf Try.f17) 0 (initS []) (retK Try.f17.results.toList [.s (.bool (true))]) := by kernel_rfl
set_option maxHeartbeats 400000 in
theorem F_laws_alive : FunOK 17 g_laws_alive := by
  refine fun_F (by kernel_rfl) Try.func17 rfl (by kernel_rfl) sig_laws_alive_ok xs_laws_alive_ok ?_
  intro avs sg h hn hl
  unfold g_laws_alive at h
  split at h
  ·
    injection h with h; subst h
    refine ⟨by kernel_rfl, fun b => [], Eq.mp (V_laws_alive ) ?_⟩
    simp only [true_and, and_true, implies_true, and_self, forall_const, true_implies, lenA, lenL, SV.lenOK, Cont.lenOK] at hn hl ⊢
    unfold ieq degW
    rw [irem_e, irem_e, iadd_e (by decide) (by decide)]
    decide
  · cases h
theorem bxor_self (a : Bool) : bxor a a = false := by cases a <;> simp [bxor]
theorem kc_less {l : List (List Pt)} {p1 p2 d e : Int} (h : kcB l p1 p2 d = true) (h0 : 0 ≤ e) (h1 : e ≤ d) : kcB l p1 p2 e = true := by
  unfold kcB at h ⊢
  simp only [Bool.and_eq_true] at h ⊢
  obtain ⟨⟨h2, h3⟩, h4⟩ := h
  have hd := inB_true h2
  refine ⟨⟨by unfold inB; simp; omega, h3⟩, allN_iff.2 fun i i0 i1 => ?_⟩
  have := allN_iff.1 h4 i i0 i1
  unfold kcE at this ⊢
  simp only [decide_eq_true_eq] at this ⊢
  have : e * e ≤ d * d := Int.mul_le_mul h1 h1 h0 (by omega)
  omega
theorem kc_none {p1 p2 d : Int} (h : 0 ≤ d ∧ d ≤ 1000) : kcB [] p1 p2 d = true := by
  unfold kcB inB ile ilen
  simp [allN, h]
theorem kc_out {l : List (List Pt)} {p1 p2 d : Int} (h : d < 0 ∨ 1000 < d) : kcB l p1 p2 d = false := by
  have : inB d 0 1000 = false := by unfold inB; simp; omega
  unfold kcB; rw [this]; rfl
def g_laws_FnKeepsClear : List AV → Option Sg
  | [.s (.rdr n)] => some ⟨True, [.s (.bool (true))]⟩
  | _ => none
def sig_laws_FnKeepsClear : FuncId → List AV → Option Sg := sigL [(42, nilG (.ptss []) g_impl_KeepsClear), (43, g_spec_KeepsClear), (17, g_laws_alive)]
def xs_laws_FnKeepsClear : XS := ⟨xsigL [], ysigL [(41, g_spec_DrawKeepsClear)]⟩
theorem sig_laws_FnKeepsClear_ok : SigOK sig_laws_FnKeepsClear := sigL_cons (FunOK.nil (c := .ptss []) rfl F_impl_KeepsClear) (sigL_cons F_spec_KeepsClear (sigL_cons F_laws_alive sigL_nil))
theorem xs_laws_FnKeepsClear_ok : XSigOK xs_laws_FnKeepsClear := ⟨xsigL_nil, ysigL_cons F_spec_DrawKeepsClear ysigL_nil⟩
theorem V_laws_FnKeepsClear (n : Int) : ((true = true) ∧ ((True) ∧ True) ∧ (true = true) ∧ ((True) ∧ (True) ∧ (True) ∧ True) ∧ ((ilt (1048576 : Int) n) = true → ((true = true) ∧ ((True) ∧ True) ∧ ((true : Bool) = (true)) ∧ True)) ∧ ((ilt (1048576 : Int) n) = false → ((true = true) ∧ ((True) ∧ True) ∧ (true = true) ∧ ((n ≤ 1048576)) ∧ (∀ l_89 : List (List Pt), ∀ x_90 : Int, ∀ y_91 : Int, ∀ d_92 : Int, ((ilen l_89 ≤ 20 ∧ -1 ≤ d_92 ∧ d_92 ≤ 1001) → ((true = true) ∧ ((true = true) ∧ ((true = true) ∧ ((true = true) ∧ ((True) ∧ (True) ∧ (True) ∧ (True) ∧ (true = true) ∧ ((True) ∧ (True) ∧ (True) ∧ ((True)) ∧ (True) ∧ True) ∧ (true = true) ∧ ((True) ∧ (True) ∧ (True) ∧ (True) ∧ ((True)) ∧ (True) ∧ True) ∧ ((bxor (kcB (l_89) (x_90) (y_91) (d_92)) (kcB (l_89) (x_90) (y_91) (d_92))) = true → ((true = true) ∧ ((True) ∧ True) ∧ ((false : Bool) = (true)) ∧ True)) ∧ ((bxor (kcB (l_89) (x_90) (y_91) (d_92)) (kcB (l_89) (x_90) (y_91) (d_92))) = false → ((true = true) ∧ ((True) ∧ (True) ∧ (True) ∧ (NIs (ilt (d_92) (0 : Int)) false → True) ∧ (NIs (ilt (d_92) (0 : Int)) false → True) ∧ (True) ∧ True) ∧ ((bite (ilt (d_92) (0 : Int)) true (ilt (1000 : Int) (d_92))) = true → ((true = true) ∧ ((True) ∧ (True) ∧ (True) ∧ (NIs (bnot (kcB (l_89) (x_90) (y_91) (d_92))) true → (True)) ∧ (True) ∧ (True) ∧ True) ∧ (((bite (bnot (kcB (l_89) (x_90) (y_91) (d_92))) (true) false) : Bool) = (true)) ∧ True)) ∧ ((bite (ilt (d_92) (0 : Int)) true (ilt (1000 : Int) (d_92))) = false → ((true = true) ∧ ((True) ∧ (True) ∧ ((True)) ∧ (True) ∧ (NIs (kcB [] (x_90) (y_91) (d_92)) true → True) ∧ (NIs (kcB [] (x_90) (y_91) (d_92)) true → True) ∧ (NIs (kcB [] (x_90) (y_91) (d_92)) true → True) ∧ (NIs (kcB [] (x_90) (y_91) (d_92)) true → (NIs (bnot (kcB (l_89) (x_90) (y_91) (d_92))) false → True)) ∧ (NIs (kcB [] (x_90) (y_91) (d_92)) true → (NIs (bnot (kcB (l_89) (x_90) (y_91) (d_92))) false → True)) ∧ (NIs (kcB [] (x_90) (y_91) (d_92)) true → True) ∧ (NIs (kcB [] (x_90) (y_91) (d_92)) true → True) ∧ (NIs (kcB [] (x_90) (y_91) (d_92)) true → (NIs (bite (bnot (kcB (l_89) (x_90) (y_91) (d_92))) true (ieq (d_92) (0 : Int))) false → True)) ∧ (NIs (kcB [] (x_90) (y_91) (d_92)) true → (NIs (bite (bnot (kcB (l_89) (x_90) (y_91) (d_92))) true (ieq (d_92) (0 : Int))) false → True)) ∧ (NIs (kcB [] (x_90) (y_91) (d_92)) true → (NIs (bite (bnot (kcB (l_89) (x_90) (y_91) (d_92))) true (ieq (d_92) (0 : Int))) false → True)) ∧ (NIs (kcB [] (x_90) (y_91) (d_92)) true → (NIs (bite (bnot (kcB (l_89) (x_90) (y_91) (d_92))) true (ieq (d_92) (0 : Int))) false → True)) ∧ (NIs (kcB [] (x_90) (y_91) (d_92)) true → (NIs (bite (bnot (kcB (l_89) (x_90) (y_91) (d_92))) true (ieq (d_92) (0 : Int))) false → (True))) ∧ (NIs (kcB [] (x_90) (y_91) (d_92)) true → (NIs (bite (bnot (kcB (l_89) (x_90) (y_91) (d_92))) true (ieq (d_92) (0 : Int))) false → True)) ∧ (NIs (kcB [] (x_90) (y_91) (d_92)) true → (NIs (bite (bnot (kcB (l_89) (x_90) (y_91) (d_92))) true (ieq (d_92) (0 : Int))) false → (NIs (kcB (l_89) (x_90) (y_91) (isub (d_92) (1 : Int))) true → True))) ∧ (NIs (kcB [] (x_90) (y_91) (d_92)) true → (NIs (bite (bnot (kcB (l_89) (x_90) (y_91) (d_92))) true (ieq (d_92) (0 : Int))) false → (NIs (kcB (l_89) (x_90) (y_91) (isub (d_92) (1 : Int))) true → True))) ∧ (NIs (kcB [] (x_90) (y_91) (d_92)) true → (NIs (bite (bnot (kcB (l_89) (x_90) (y_91) (d_92))) true (ieq (d_92) (0 : Int))) false → (NIs (kcB (l_89) (x_90) (y_91) (isub (d_92) (1 : Int))) true → (True)))) ∧ (NIs (kcB [] (x_90) (y_91) (d_92)) true → (NIs (bite (bnot (kcB (l_89) (x_90) (y_91) (d_92))) true (ieq (d_92) (0 : Int))) false → True)) ∧ (NIs (kcB [] (x_90) (y_91) (d_92)) true → True) ∧ (True) ∧ (True) ∧ (NIs (bite (kcB [] (x_90) (y_91) (d_92)) (bite (bite (bnot (kcB (l_89) (x_90) (y_91) (d_92))) true (ieq (d_92) (0 : Int))) true (bite (kcB (l_89) (x_90) (y_91) (isub (d_92) (1 : Int))) (kcB (l_89) (x_90) (y_91) (0 : Int)) false)) false) true → (True)) ∧ (True) ∧ (True) ∧ True) ∧ (((bite (bite (kcB [] (x_90) (y_91) (d_92)) (bite (bite (bnot (kcB (l_89) (x_90) (y_91) (d_92))) true (ieq (d_92) (0 : Int))) true (bite (kcB (l_89) (x_90) (y_91) (isub (d_92) (1 : Int))) (kcB (l_89) (x_90) (y_91) (0 : Int)) false)) false) (true) false) : Bool) = (true)) ∧ True)))))))))))))) = ev sig_laws_FnKeepsClear xs_laws_FnKeepsClear Try.f10.ntmps (fun b => []) (codeOf Try.f10) 0 (initS [.s (.rdr n)]) (retK Try.f10.results.toList [.s (.bool (true))]) := by kernel_rfl
set_option maxHeartbeats 400000 in
theorem F_laws_FnKeepsClear : FunOK 10 g_laws_FnKeepsClear := by
  refine fun_F (by kernel_rfl) Try.func10 rfl (by kernel_rfl) sig_laws_FnKeepsClear_ok xs_laws_FnKeepsClear_ok ?_
  intro avs sg h hn hl
  unfold g_laws_FnKeepsClear at h
  split at h
  · rename_i n
    injection h with h; subst h
    refine ⟨by kernel_rfl, fun b => [], Eq.mp (V_laws_FnKeepsClear n) ?_⟩
    simp only [true_and, and_true, implies_true, and_self, forall_const, true_implies, lenA, lenL, SV.lenOK, Cont.lenOK] at hn hl ⊢
    simp only [ilt_t, ilt_f, ile_t, ile_f, ieq_t, ieq_f, bnot_e, band_e, bite_and, bite_or, NLt_e, NLe_e, NNe_e, NIs_e, imax_e, imin_e, irem_e, Bool.not_eq_true', Bool.not_eq_false', Bool.and_eq_true, Bool.or_eq_true, Bool.or_eq_false_iff, Bool.and_eq_false_iff, Cont.pts.injEq, Cont.ints.injEq, Cont.bools.injEq, Cont.ptss.injEq, Cont.intss.injEq, Cont.boolss.injEq, true_and, and_true, implies_true, bxor_self]
    intro h
    refine ⟨h, fun l x y d hp => ⟨by simp, fun _ => ⟨kc_out, fun hd => ⟨kc_none hd, ?_⟩⟩⟩⟩
    cases hk : kcB l x y d with
    | false => exact .inl (.inl rfl)
    | true =>
      by_cases h0 : d = 0
      · exact .inl (.inr h0)
      · rw [isub_e (by omega) (by omega)]
        exact .inr ⟨kc_less hk (by omega) (by omega), kc_less hk (by omega) (by omega)⟩
  · cases h
theorem fnKeepsClear_walk (w : World) (v0 : Value) (x0 : Nat) (w0 : BytesArg w v0 x0) : Calls Try.prog 10 #[v0] w fun e w' => e = .returned (.bool true) ∧ Bel w w' :=
  walk_of F_laws_FnKeepsClear (avs := [.s (.rdr x0)]) rfl trivial ⟨bytes_reads w0, trivial⟩
set_option maxRecDepth 100000 in
theorem fnKeepsClear_lifted (os : Os) (started : os.Started) (H : Type) (enc : TypeId × Value → H) :
    ReturnsInHanded {} Try.checked os 10 .any (Rows.fnKeepsClearSpec.pre6 enc Try.prog Try.f10 Rows.fnKeepsClearRow.domain false) (Rows.fnKeepsClearSpec.post enc Try.prog Try.f10 false true false false) := by
  have own : ownKnob Try.prog.godebug = none := by kernel_rfl
  have laidOut : laidOutB Try.prog = true := by kernel_rfl
  refine returnsInHanded_of_change (C := Try.checked) own started (by kernel_rfl) Try.func10
    (ChangeSpec.witness6 (enc := enc) (C := Try.checked) false ⟨#[], #[.slice none 0 0], []⟩ 8 (by kernel_rfl) (by kernel_rfl) (by kernel_rfl) (by kernel_rfl)) ?_
  intro W base args ds gs before hval0 hW hcnd _
  have hval : ∀ (j : Nat) t v, Try.f10.params[j]? = some t → args[j]? = some v → Value.okWide Try.prog W .any base t v := hval0
  have hW' := hW
  obtain ⟨p, q, hA0, hV, rfl, hfz, hnd⟩ := hW
  have hA : DataW.TrodAll enc Try.prog W 0 (fun _ => true) true Try.f10.params.toList args.toList ds p := hA0
  rw [Try.params10] at hA hval
  obtain ⟨v0, vs0, d0, ds0, p0, q0, hargs, rfl, rfl, h0, r0⟩ := trodAll_cons hA
  obtain ⟨rfl, rfl, rfl⟩ := trodAll_nil r0
  obtain rfl : args = #[v0] := by cases args; simp_all
  obtain ⟨rfl, rfl⟩ := trodVars_none hV
  have k0 := h0
  have lt0 : ∀ x ∈ p0, x.block < W.heap.size := by obtain ⟨m, hm⟩ := k0; exact DataW.trod_lt m _ _ _ hm
  obtain ⟨x0, w0⟩ := opn_bytes (hval 0 22 v0 rfl rfl) h0
  clear hA0 hval0
  refine (fnKeepsClear_walk W v0 x0 w0).mono fun e W' ⟨he, bel⟩ => ?_
  subst he
  exact ⟨_, rfl, _, _, _, [], _, [], hW', trodAll_mk1 (shut_bool Try.underlying4 _), (trodAll_cons_mk (Below.trod laidOut (by kernel_rfl) (of_decide_eq_true (by kernel_rfl)) k0 bel lt0) trodAll_mk0), rfl, Below.frame bel _, fun h => by cases h⟩
theorem fnKeepsClear_over : Rows.fnKeepsClearRow.holds Try.pinned (OpenSpec.ofChange Rows.fnKeepsClearSpec) :=
  OpenClaim.holds_of_wide 10 Try.f10 rfl rfl rfl rfl rfl rfl rfl ⟨rfl, rfl, rfl, rfl, rfl⟩ rfl rfl rfl rfl rfl (by kernel_rfl) Try.func10 (by kernel_rfl)
    (of_decide_eq_true (by kernel_rfl)) (by unfold Func.isWrapper; first | (rw [if_pos (by decide +kernel)]; kernel_rfl) | (rw [if_neg (by decide +kernel)]; exact ⟨rfl, rfl⟩))
    (fun os started H enc _ => fnKeepsClear_lifted os started H enc)
theorem fnKeepsClear_proved : Rows.FnKeepsClearSaid := fnKeepsClear_over
#print axioms fnKeepsClear_proved
end Go.Proofs.Ytlngpnmenmdlmaa

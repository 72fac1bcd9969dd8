/- 'FnExactHullOf': for all arguments the program's HullOf returns what the reference's returns and leaves its arguments alone. Conditions: none. -/
import Derived.Test.YtdpokkegkedlfaaFnExactHullOfP1
namespace Go.Proofs.Ytdpokkegkedlfaa
open Go.ChangeShapes Go.WideShapes Go.ChangeAt Go.RowKit
set_option maxRecDepth 100000
set_option linter.unusedSimpArgs false
set_option linter.unusedVariables false
def s_laws_markPointS (l : List Pt) (k : Int) : SgX := ⟨0 ≤ k ∧ k ≤ 10000000000000 ∧ ilen l ≤ 1000000000, [.pts, .int], (fun | [.pts m, .int q] => ilen m = ilen l ∧ mkd m k (ilen l) ∧ q = k + 2 * ilen l | _ => False), (fun | [.pts m, .int q] => [.s (.int (q))] | _ => []), (fun | [.pts m, .int q] => .row 74 (.pts (m)) | _ => .box [])⟩
def g_laws_markPointS : Bx → List AV → Option SgX
  | .row 74 (.pts l), [.s (.int k)] => some (s_laws_markPointS l k)
  | _, _ => none
def sig_laws_markPointS : FuncId → List AV → Option Sg := sigL []
def xs_laws_markPointS : XS := ⟨xsigL [], ysigL []⟩
theorem sig_laws_markPointS_ok : SigOK sig_laws_markPointS := sigL_nil
theorem xs_laws_markPointS_ok : XSigOK xs_laws_markPointS := ⟨xsigL_nil, ysigL_nil⟩
def L_laws_markPointS_0 (l : List Pt) (k : Int) (i1_1 : Int) (l1_2 : List Pt) : Prop := ∃ m : List Pt, ∃ q : Int, ((ilen m = ilen l ∧ mkd m k (ilen l) ∧ q = k + 2 * ilen l) ∧ (((i1_1 : Int) = (q)) ∧ True) ∧ ((true = true) ∧ ((Cont.pts l1_2) = (Cont.pts (m)))))
theorem V_laws_markPointS (l : List Pt) (k : Int) : ((true = true) ∧ ((True) ∧ True) ∧ (true = true) ∧ ((True) ∧ True) ∧ ∃ (I1 : List GV → Prop) (μ1 : List GV → Nat), (((true = true) ∧ (((k : Int) = k) ∧ (((0 : Int) : Int) = (0 : Int)) ∧ (((0 : Int) : Int) = (0 : Int)) ∧ (true = true) ∧ True) ∧ (((true = true) ∧ ((Cont.pts l) = (Cont.pts l))) ∧ True)) ∧ (([GK.int, GK.int, GK.pts] : List GK) = ([GK.int, GK.int, GK.pts] : List GK)) ∧ I1 [GV.int (0 : Int), GV.int k, GV.pts l]) ∧ (∀ i1_0 : Int, ∀ i1_1 : Int, ∀ l1_2 : List Pt, I1 [GV.int i1_0, GV.int i1_1, GV.pts l1_2] → ((true = true) ∧ ((True) ∧ (True) ∧ (True) ∧ (True) ∧ True) ∧ ((ilt i1_0 (ilen l1_2)) = true → ((true = true) ∧ ((True) ∧ (True) ∧ (True) ∧ (NLe 0 i1_0 ∧ NLt i1_0 (ilen l1_2)) ∧ (NLt i1_0 (ilen l1_2)) ∧ True) ∧ (NLt i1_0 (ilen l1_2)) ∧ (true = true) ∧ ((True) ∧ (True) ∧ (True) ∧ True) ∧ (true = true) ∧ ((True) ∧ (True) ∧ (True) ∧ (NLe 0 i1_0 ∧ NLt i1_0 (ilen (setx l1_2 i1_0 i1_1))) ∧ (NLt i1_0 (ilen (setx l1_2 i1_0 i1_1))) ∧ True) ∧ (NLt i1_0 (ilen (setx l1_2 i1_0 i1_1))) ∧ (true = true) ∧ ((True) ∧ (True) ∧ (True) ∧ True) ∧ (true = true) ∧ ((True) ∧ (True) ∧ (True) ∧ True) ∧ ((true = true) ∧ ((((iadd (iadd i1_1 (1 : Int)) (1 : Int)) : Int) = (iadd (iadd i1_1 (1 : Int)) (1 : Int))) ∧ (((iadd i1_0 (1 : Int)) : Int) = (iadd i1_0 (1 : Int))) ∧ (((0 : Int) : Int) = (0 : Int)) ∧ (true = true) ∧ True) ∧ (((true = true) ∧ ((Cont.pts (sety (setx l1_2 i1_0 i1_1) i1_0 (iadd i1_1 (1 : Int)))) = (Cont.pts (sety (setx l1_2 i1_0 i1_1) i1_0 (iadd i1_1 (1 : Int)))))) ∧ True)) ∧ ((([GK.int, GK.int, GK.pts] : List GK) = ([GK.int, GK.int, GK.pts] : List GK)) ∧ I1 [GV.int (iadd i1_0 (1 : Int)), GV.int (iadd (iadd i1_1 (1 : Int)) (1 : Int)), GV.pts (sety (setx l1_2 i1_0 i1_1) i1_0 (iadd i1_1 (1 : Int)))] ∧ μ1 [GV.int (iadd i1_0 (1 : Int)), GV.int (iadd (iadd i1_1 (1 : Int)) (1 : Int)), GV.pts (sety (setx l1_2 i1_0 i1_1) i1_0 (iadd i1_1 (1 : Int)))] < μ1 [GV.int i1_0, GV.int i1_1, GV.pts l1_2]))) ∧ ((ilt i1_0 (ilen l1_2)) = false → ((true = true) ∧ ((True) ∧ (True) ∧ True) ∧ L_laws_markPointS_0 l k i1_1 l1_2))))) = (fun sg => ev sig_laws_markPointS xs_laws_markPointS Try.f48.ntmps (fun b => if b == 0 then [.v 5, .v 1, .b 0] else []) (codeOf Try.f48) 0 (initX (.row 74 (.pts l)) [.s (.int k)]) (retX Try.f48.results.toList sg.kinds sg.post sg.ret sg.out)) (s_laws_markPointS l k) := by kernel_rfl
set_option maxHeartbeats 400000 in
theorem F_laws_markPointS : FunX 48 g_laws_markPointS := by
  refine fun_X (by kernel_rfl) Try.func48 rfl (by kernel_rfl) sig_laws_markPointS_ok xs_laws_markPointS_ok ?_
  intro bx avs sg h hn hl hlb
  unfold g_laws_markPointS at h
  split at h
  · rename_i l k
    injection h with h; subst h
    refine ⟨by kernel_rfl, fun b => if b == 0 then [.v 5, .v 1, .b 0] else [], Eq.mp (V_laws_markPointS l k) ?_⟩
    simp only [true_and, and_true, implies_true, and_self, forall_const, true_implies, lenA, lenL, SV.lenOK, Cont.lenOK, lenB, s_laws_markPointS, L_laws_markPointS_0] at hn hl hlb ⊢
    have h0 := ilen_0 l
    obtain ⟨n1, n2, n3⟩ := hn
    simp only [ilt_t, ilt_f, ile_t, ile_f, ieq_t, ieq_f, bnot_e, band_e, bite_and, bite_or, NLt_e, NLe_e, NNe_e, NIs_e, imax_e, imin_e, irem_e, Bool.not_eq_true', Bool.not_eq_false', Bool.and_eq_true, Bool.or_eq_true, Bool.or_eq_false_iff, Bool.and_eq_false_iff, Cont.pts.injEq, Cont.ints.injEq, Cont.bools.injEq, Cont.ptss.injEq, Cont.intss.injEq, Cont.boolss.injEq, true_and, and_true, implies_true]
    refine ⟨fun | [.int i, .int k', .pts m] => 0 ≤ i ∧ i ≤ ilen l ∧ k' = k + 2 * i ∧ ilen m = ilen l ∧ mkd m k i | _ => False, fun | .int i :: _ => (ilen l - i).toNat | _ => 0, ?_, ?_⟩
    · exact ⟨Int.le_refl 0, h0, by omega, rfl, fun j h0 h1 => absurd h1 (by omega)⟩
    · rintro i k' m ⟨hi0, hi1, hk, hm, hmk⟩
      simp only [ilt_t, ilt_f, ile_t, ile_f, ieq_t, ieq_f, bnot_e, band_e, bite_and, bite_or, NLt_e, NLe_e, NNe_e, NIs_e, imax_e, imin_e, irem_e, Bool.not_eq_true', Bool.not_eq_false', Bool.and_eq_true, Bool.or_eq_true, Bool.or_eq_false_iff, Bool.and_eq_false_iff, Cont.pts.injEq, Cont.ints.injEq, Cont.bools.injEq, Cont.ptss.injEq, Cont.intss.injEq, Cont.boolss.injEq, true_and, and_true, implies_true, ilen_setx, ilen_sety]
      refine ⟨fun hc => ?_, fun hc => ⟨m, k', ⟨hm, fun j j0 j1 => hmk j j0 (by omega), by omega⟩, rfl, rfl⟩⟩
      have hi : i < ilen l := by omega
      rw [iadd_1 hi0 hi (by omega), iadd_e (a := k') (by omega) (by omega), iadd_e (by omega) (by omega)]
      refine ⟨⟨⟨hi0, hc⟩, hc⟩, hc, ⟨⟨hi0, hc⟩, hc⟩, hc, ⟨by omega, by omega, by omega, hm, ?_⟩, by omega⟩
      intro j j0 j1
      obtain ⟨g1, g2⟩ := get_set2 (x := k') (y := k' + 1) hi0 hc j0
      rw [g1, g2]
      by_cases hj : j = i
      · rw [if_pos hj, if_pos hj]; omega
      · rw [if_neg hj, if_neg hj]; exact hmk j j0 (by omega)
  · cases h
def g_laws_heldPointS : List AV → Option Sg
  | [.s (.view (.pts l)), .s (.int k)] => some ⟨0 ≤ k ∧ k ≤ 1000000000 ∧ ilen l ≤ 1000000000, [.s (.int (heldF l k))]⟩
  | _ => none
def sig_laws_heldPointS : FuncId → List AV → Option Sg := sigL []
def xs_laws_heldPointS : XS := ⟨xsigL [], ysigL []⟩
theorem sig_laws_heldPointS_ok : SigOK sig_laws_heldPointS := sigL_nil
theorem xs_laws_heldPointS_ok : XSigOK xs_laws_heldPointS := ⟨xsigL_nil, ysigL_nil⟩
theorem V_laws_heldPointS (l : List Pt) (k : Int) : ((true = true) ∧ ((True) ∧ True) ∧ (true = true) ∧ ((True) ∧ True) ∧ ∃ (I1 : List GV → Prop) (μ1 : List GV → Nat), (((true = true) ∧ (((k : Int) = k) ∧ (((0 : Int) : Int) = (0 : Int)) ∧ (((0 : Int) : Int) = (0 : Int)) ∧ ((Cont.pts l) = (Cont.pts l)) ∧ True) ∧ (True)) ∧ (([GK.int, GK.int, GK.int] : List GK) = ([GK.int, GK.int, GK.int] : List GK)) ∧ I1 [GV.int (0 : Int), GV.int (0 : Int), GV.int k]) ∧ (∀ i1_0 : Int, ∀ i1_1 : Int, ∀ i1_2 : Int, I1 [GV.int i1_0, GV.int i1_1, GV.int i1_2] → ((true = true) ∧ ((True) ∧ (True) ∧ (True) ∧ (True) ∧ True) ∧ ((ilt i1_0 (ilen l)) = true → ((true = true) ∧ ((True) ∧ (True) ∧ (NLe 0 i1_0 ∧ NLt i1_0 (ilen l)) ∧ (True) ∧ (True) ∧ (True) ∧ (True) ∧ True) ∧ ((bnot (ieq (getx l i1_0) i1_2)) = true → ((true = true) ∧ ((True) ∧ True) ∧ (((-1 : Int) : Int) = (heldF l k)) ∧ True)) ∧ ((bnot (ieq (getx l i1_0) i1_2)) = false → ((true = true) ∧ ((True) ∧ (True) ∧ (True) ∧ True) ∧ (true = true) ∧ ((True) ∧ (True) ∧ (NLe 0 i1_0 ∧ NLt i1_0 (ilen l)) ∧ (True) ∧ (True) ∧ (True) ∧ (True) ∧ True) ∧ ((bnot (ieq (gety l i1_0) (iadd i1_2 (1 : Int)))) = true → ((true = true) ∧ ((True) ∧ True) ∧ (((-1 : Int) : Int) = (heldF l k)) ∧ True)) ∧ ((bnot (ieq (gety l i1_0) (iadd i1_2 (1 : Int)))) = false → ((true = true) ∧ ((True) ∧ (True) ∧ (True) ∧ True) ∧ (true = true) ∧ ((True) ∧ (True) ∧ (True) ∧ True) ∧ ((true = true) ∧ ((((iadd (iadd i1_2 (1 : Int)) (1 : Int)) : Int) = (iadd (iadd i1_2 (1 : Int)) (1 : Int))) ∧ ((i1_1 : Int) = i1_1) ∧ (((iadd i1_0 (1 : Int)) : Int) = (iadd i1_0 (1 : Int))) ∧ ((Cont.pts l) = (Cont.pts l)) ∧ True) ∧ (True)) ∧ ((([GK.int, GK.int, GK.int] : List GK) = ([GK.int, GK.int, GK.int] : List GK)) ∧ I1 [GV.int (iadd i1_0 (1 : Int)), GV.int i1_1, GV.int (iadd (iadd i1_2 (1 : Int)) (1 : Int))] ∧ μ1 [GV.int (iadd i1_0 (1 : Int)), GV.int i1_1, GV.int (iadd (iadd i1_2 (1 : Int)) (1 : Int))] < μ1 [GV.int i1_0, GV.int i1_1, GV.int i1_2]))))))) ∧ ((ilt i1_0 (ilen l)) = false → ((true = true) ∧ ((True) ∧ (True) ∧ True) ∧ ((i1_2 : Int) = (heldF l k)) ∧ True))))) = ev sig_laws_heldPointS xs_laws_heldPointS Try.f49.ntmps (fun b => if b == 0 then [.v 5, .v 4, .v 1] else []) (codeOf Try.f49) 0 (initS [.s (.view (.pts l)), .s (.int k)]) (retK Try.f49.results.toList [.s (.int (heldF l k))]) := by kernel_rfl
set_option maxHeartbeats 400000 in
theorem F_laws_heldPointS : FunOK 49 g_laws_heldPointS := by
  refine fun_F (by kernel_rfl) Try.func49 rfl (by kernel_rfl) sig_laws_heldPointS_ok xs_laws_heldPointS_ok ?_
  intro avs sg h hn hl
  unfold g_laws_heldPointS at h
  split at h
  · rename_i l k
    injection h with h; subst h
    refine ⟨by kernel_rfl, fun b => if b == 0 then [.v 5, .v 4, .v 1] else [], Eq.mp (V_laws_heldPointS l k) ?_⟩
    simp only [true_and, and_true, implies_true, and_self, forall_const, true_implies, lenA, lenL, SV.lenOK, Cont.lenOK] at hn hl ⊢
    have h0 := ilen_0 l
    obtain ⟨n1, n2, n3⟩ := hn
    simp only [ilt_t, ilt_f, ile_t, ile_f, ieq_t, ieq_f, bnot_e, band_e, bite_and, bite_or, NLt_e, NLe_e, NNe_e, NIs_e, imax_e, imin_e, irem_e, Bool.not_eq_true', Bool.not_eq_false', Bool.and_eq_true, Bool.or_eq_true, Bool.or_eq_false_iff, Bool.and_eq_false_iff, Cont.pts.injEq, Cont.ints.injEq, Cont.bools.injEq, Cont.ptss.injEq, Cont.intss.injEq, Cont.boolss.injEq, true_and, and_true, implies_true]
    refine ⟨fun | [.int i, .int _, .int k'] => 0 ≤ i ∧ i ≤ ilen l ∧ k' = k + 2 * i ∧ (∀ j, 0 ≤ j → j < i → heldE l k j = true) | _ => False, fun | .int i :: _ => (ilen l - i).toNat | _ => 0, ?_, ?_⟩
    · exact ⟨Int.le_refl 0, h0, by omega, fun j h0 h1 => absurd h1 (by omega)⟩
    · rintro i _ k' ⟨hi0, hi1, hk, hmk⟩
      simp only [ilt_t, ilt_f, ile_t, ile_f, ieq_t, ieq_f, bnot_e, band_e, bite_and, bite_or, NLt_e, NLe_e, NNe_e, NIs_e, imax_e, imin_e, irem_e, Bool.not_eq_true', Bool.not_eq_false', Bool.and_eq_true, Bool.or_eq_true, Bool.or_eq_false_iff, Bool.and_eq_false_iff, Cont.pts.injEq, Cont.ints.injEq, Cont.bools.injEq, Cont.ptss.injEq, Cont.intss.injEq, Cont.boolss.injEq, true_and, and_true, implies_true]
      have e2 : iadd k' 1 = k' + 1 := iadd_e (by omega) (by omega)
      have e3 : iadd (k' + 1) 1 = k' + 1 + 1 := iadd_e (by omega) (by omega)
      simp only [e2, e3]
      refine ⟨fun hc => ⟨⟨hi0, hc⟩, fun hx => ?_, fun hx => ⟨⟨hi0, hc⟩, fun hy => ?_, fun hy => ?_⟩⟩, fun hc => ?_⟩
      · have hE : heldE l k i = false := by unfold heldE; simp; omega
        unfold heldF; rw [allN_no i hi0 hc hE]; rfl
      · have hE : heldE l k i = false := by unfold heldE; simp; omega
        unfold heldF; rw [allN_no i hi0 hc hE]; rfl
      · have hE : heldE l k i = true := by unfold heldE; simp; omega
        rw [iadd_1 hi0 hc hl]
        exact ⟨⟨by omega, by omega, by omega, upTo hmk hE⟩, by omega⟩
      · unfold heldF; rw [allN_mk fun j j0 j1 => hmk j j0 (by omega)]
        rw [if_pos rfl]; omega
  · cases h
theorem bxor_self (a : Bool) : bxor a a = false := by cases a <;> simp [bxor]
def g_laws_FnExactHullOf : List AV → Option Sg
  | [.s (.view (.pts l))] => some ⟨True, [.s (.bool (true))]⟩
  | _ => none
def sig_laws_FnExactHullOf : FuncId → List AV → Option Sg := sigL [(43, g_laws_szPointS), (45, g_laws_toPointS), (44, g_spec_HullOf), (46, g_impl_HullOf), (47, g_laws_eqPointS), (49, g_laws_heldPointS)]
def xs_laws_FnExactHullOf : XS := ⟨xsigL [(48, g_laws_markPointS)], ysigL []⟩
theorem sig_laws_FnExactHullOf_ok : SigOK sig_laws_FnExactHullOf := sigL_cons F_laws_szPointS (sigL_cons F_laws_toPointS (sigL_cons F_spec_HullOf (sigL_cons F_impl_HullOf (sigL_cons F_laws_eqPointS (sigL_cons F_laws_heldPointS sigL_nil)))))
theorem xs_laws_FnExactHullOf_ok : XSigOK xs_laws_FnExactHullOf := ⟨xsigL_cons F_laws_markPointS xsigL_nil, ysigL_nil⟩
theorem V_laws_FnExactHullOf (l : List Pt) : ((true = true) ∧ ((True) ∧ True) ∧ (true = true) ∧ ((True) ∧ True) ∧ (true = true) ∧ ((True) ∧ (True) ∧ ((0 ≤ (1048576 : Int) ∧ (1048576 : Int) ≤ 1048576)) ∧ (True) ∧ True) ∧ (true = true) ∧ ((True) ∧ (True) ∧ True) ∧ ((ilt (szI (ilen l) (1048576 : Int)) (0 : Int)) = true → ((true = true) ∧ ((True) ∧ True) ∧ ((true : Bool) = (true)) ∧ True)) ∧ ((ilt (szI (ilen l) (1048576 : Int)) (0 : Int)) = false → ((true = true) ∧ ((True) ∧ ((ilen l ≤ 100000000)) ∧ ((True)) ∧ (True) ∧ True) ∧ (true = true) ∧ ((True) ∧ ((ilen l ≤ 100000000)) ∧ (True) ∧ True) ∧ (true = true) ∧ ((True) ∧ ((True)) ∧ (True) ∧ True) ∧ (true = true) ∧ ((True) ∧ (True) ∧ ((True)) ∧ (True) ∧ True) ∧ ((bnot (eqL (hulF (l)) (hulF (l)))) = true → ((true = true) ∧ ((True) ∧ True) ∧ ((false : Bool) = (true)) ∧ True)) ∧ ((bnot (eqL (hulF (l)) (hulF (l)))) = false → ((true = true) ∧ ((True) ∧ (True) ∧ ((ilen l ≤ 100000000)) ∧ ((True)) ∧ (True) ∧ True) ∧ ((bnot (eqL (l) (l))) = true → ((true = true) ∧ ((True) ∧ True) ∧ ((false : Bool) = (true)) ∧ True)) ∧ ((bnot (eqL (l) (l))) = false → ((true = true) ∧ ((True) ∧ True) ∧ (true = true) ∧ ((True) ∧ (True) ∧ True) ∧ (true = true) ∧ ((0 ≤ (1 : Int) ∧ (1 : Int) ≤ 10000000000000 ∧ ilen (l) ≤ 1000000000)) ∧ (∀ m_1 : List Pt, ∀ q_2 : Int, ((ilen m_1 = ilen (l) ∧ mkd m_1 (1 : Int) (ilen (l)) ∧ q_2 = (1 : Int) + 2 * ilen (l)) → ((True) ∧ (true = true) ∧ ((True) ∧ (True) ∧ (True) ∧ (NIs (ilt (q_2) (0 : Int)) false → True) ∧ (NIs (ilt (q_2) (0 : Int)) false → True) ∧ (NIs (ilt (q_2) (0 : Int)) false → (True)) ∧ (NIs (ilt (q_2) (0 : Int)) false → True) ∧ (True) ∧ True) ∧ ((bite (ilt (q_2) (0 : Int)) true (bnot (eqL (hulF (l)) (hulF (l))))) = true → ((true = true) ∧ ((True) ∧ True) ∧ ((false : Bool) = (true)) ∧ True)) ∧ ((bite (ilt (q_2) (0 : Int)) true (bnot (eqL (hulF (l)) (hulF (l))))) = false → ((true = true) ∧ ((True) ∧ True) ∧ (true = true) ∧ ((True) ∧ (True) ∧ True) ∧ (true = true) ∧ ((0 ≤ (1 : Int) ∧ (1 : Int) ≤ 10000000000000 ∧ ilen (hulF (l)) ≤ 1000000000)) ∧ (∀ m_3 : List Pt, ∀ q_4 : Int, ((ilen m_3 = ilen (hulF (l)) ∧ mkd m_3 (1 : Int) (ilen (hulF (l))) ∧ q_4 = (1 : Int) + 2 * ilen (hulF (l))) → ((True) ∧ (true = true) ∧ ((True) ∧ True) ∧ (true = true) ∧ ((True) ∧ (True) ∧ ((0 ≤ (1 : Int) ∧ (1 : Int) ≤ 1000000000 ∧ ilen (m_3) ≤ 1000000000)) ∧ (True) ∧ True) ∧ (true = true) ∧ ((True) ∧ (True) ∧ True) ∧ ((ilt (heldF (m_3) (1 : Int)) (0 : Int)) = true → ((true = true) ∧ ((True) ∧ True) ∧ ((false : Bool) = (true)) ∧ True)) ∧ ((ilt (heldF (m_3) (1 : Int)) (0 : Int)) = false → ((true = true) ∧ ((True) ∧ (True) ∧ (True) ∧ True) ∧ ((bnot (ieq (heldF (m_3) (1 : Int)) (q_4))) = true → ((true = true) ∧ ((True) ∧ True) ∧ ((false : Bool) = (true)) ∧ True)) ∧ ((bnot (ieq (heldF (m_3) (1 : Int)) (q_4))) = false → ((true = true) ∧ ((True) ∧ ((ilen l ≤ 100000000)) ∧ ((True)) ∧ (True) ∧ True) ∧ (true = true) ∧ ((True) ∧ (True) ∧ ((True)) ∧ (True) ∧ True) ∧ ((bnot (eqL (hulF (l)) (hulF (l)))) = true → ((true = true) ∧ ((True) ∧ True) ∧ ((false : Bool) = (true)) ∧ True)) ∧ ((bnot (eqL (hulF (l)) (hulF (l)))) = false → ((true = true) ∧ ((True) ∧ True) ∧ (true = true) ∧ ((True) ∧ (True) ∧ ((0 ≤ (1 : Int) ∧ (1 : Int) ≤ 1000000000 ∧ ilen (m_3) ≤ 1000000000)) ∧ (True) ∧ True) ∧ (true = true) ∧ ((True) ∧ (True) ∧ True) ∧ ((ilt (heldF (m_3) (1 : Int)) (0 : Int)) = true → ((true = true) ∧ ((True) ∧ True) ∧ ((false : Bool) = (true)) ∧ True)) ∧ ((ilt (heldF (m_3) (1 : Int)) (0 : Int)) = false → ((true = true) ∧ ((True) ∧ (True) ∧ (True) ∧ True) ∧ ((bnot (ieq (heldF (m_3) (1 : Int)) (q_4))) = true → ((true = true) ∧ ((True) ∧ True) ∧ ((false : Bool) = (true)) ∧ True)) ∧ ((bnot (ieq (heldF (m_3) (1 : Int)) (q_4))) = false → ((true = true) ∧ ((True) ∧ True) ∧ ((true : Bool) = (true)) ∧ True))))))))))))))))))))))))) = ev sig_laws_FnExactHullOf xs_laws_FnExactHullOf Try.f9.ntmps (fun b => []) (codeOf Try.f9) 0 (initS [.s (.view (.pts l))]) (retK Try.f9.results.toList [.s (.bool (true))]) := by kernel_rfl
set_option maxHeartbeats 400000 in
theorem F_laws_FnExactHullOf : FunOK 9 g_laws_FnExactHullOf := by
  refine fun_F (by kernel_rfl) Try.func9 rfl (by kernel_rfl) sig_laws_FnExactHullOf_ok xs_laws_FnExactHullOf_ok ?_
  intro avs sg h hn hl
  unfold g_laws_FnExactHullOf at h
  split at h
  · rename_i l
    injection h with h; subst h
    refine ⟨by kernel_rfl, fun b => [], Eq.mp (V_laws_FnExactHullOf l) ?_⟩
    simp only [true_and, and_true, implies_true, and_self, forall_const, true_implies, lenA, lenL, SV.lenOK, Cont.lenOK] at hn hl ⊢
    have h0 := ilen_0 l
    simp only [ilt_t, ilt_f, ile_t, ile_f, ieq_t, ieq_f, bnot_e, band_e, bite_and, bite_or, NLt_e, NLe_e, NNe_e, NIs_e, imax_e, imin_e, irem_e, Bool.not_eq_true', Bool.not_eq_false', Bool.and_eq_true, Bool.or_eq_true, Bool.or_eq_false_iff, Bool.and_eq_false_iff, Cont.pts.injEq, Cont.ints.injEq, Cont.bools.injEq, Cont.ptss.injEq, Cont.intss.injEq, Cont.boolss.injEq, true_and, and_true, implies_true, eqPt_same, eqL_same, bxor_self]
    refine ⟨by omega, fun hz => ?_⟩
    have hb : ilen l ≤ 100000000 := by unfold szI at hz; split at hz <;> omega
    have hp := hul_len l
    have hp0 := ilen_0 (hulF l)
    refine ⟨hb, hb, by simp, fun _ => ⟨hb, by simp, fun _ => ⟨by omega, fun m1 q2 hm => ⟨(by intro h; rcases h with h | h; exact absurd h (by omega); cases h), fun _ => ⟨by omega, fun m3 q4 hm3 => ?_⟩⟩⟩⟩⟩
    have hh : heldF m3 1 = 1 + 2 * ilen m3 := heldF_e (by rw [hm3.1]; exact hm3.2.1)
    rw [hh]
    refine ⟨by omega, fun h => by omega, fun _ => ⟨fun h => by omega, fun _ => ⟨hb, by simp, fun _ => ⟨by omega, fun h => by omega, fun _ h => by omega⟩⟩⟩⟩
  · cases h
theorem fnExactHullOf_walk (w : World) (v0 : Value) (x0 : List Pt) (w0 : PointsArg w v0 x0) : Calls Try.prog 9 #[v0] w fun e w' => e = .returned (.bool true) ∧ Bel w w' :=
  walk_of F_laws_FnExactHullOf (avs := [.s (.view (.pts x0))]) rfl trivial ⟨pts_reads w0.1, trivial⟩
set_option maxRecDepth 100000 in
theorem fnExactHullOf_lifted (os : Os) (started : os.Started) (H : Type) (enc : TypeId × Value → H) :
    ReturnsInHanded {} Try.checked os 9 .any (Rows.fnExactHullOfSpec.pre6 enc Try.prog Try.f9 Rows.fnExactHullOfRow.domain false) (Rows.fnExactHullOfSpec.post enc Try.prog Try.f9 false true false false) := by
  have own : ownKnob Try.prog.godebug = none := by kernel_rfl
  have laidOut : laidOutB Try.prog = true := by kernel_rfl
  refine returnsInHanded_of_change (C := Try.checked) own started (by kernel_rfl) Try.func9
    (ChangeSpec.witness6 (enc := enc) (C := Try.checked) false ⟨#[], #[.slice none 0 0], []⟩ 8 (by kernel_rfl) (by kernel_rfl) (by kernel_rfl) (by kernel_rfl)) ?_
  intro W base args ds gs before hval0 hW hcnd _
  have hval : ∀ (j : Nat) t v, Try.f9.params[j]? = some t → args[j]? = some v → Value.okWide Try.prog W .any base t v := hval0
  have hW' := hW
  obtain ⟨p, q, hA0, hV, rfl, hfz, hnd⟩ := hW
  have hA : DataW.TrodAll enc Try.prog W 0 (fun _ => true) true Try.f9.params.toList args.toList ds p := hA0
  rw [Try.params9] at hA hval
  obtain ⟨v0, vs0, d0, ds0, p0, q0, hargs, rfl, rfl, h0, r0⟩ := trodAll_cons hA
  obtain ⟨rfl, rfl, rfl⟩ := trodAll_nil r0
  obtain rfl : args = #[v0] := by cases args; simp_all
  obtain ⟨rfl, rfl⟩ := trodVars_none hV
  have k0 := h0
  have lt0 : ∀ x ∈ p0, x.block < W.heap.size := by obtain ⟨m, hm⟩ := k0; exact DataW.trod_lt m _ _ _ hm
  obtain ⟨x0, w0⟩ := opn_Points (hval 0 63 v0 rfl rfl) h0
  clear hA0 hval0
  refine (fnExactHullOf_walk W v0 x0 w0).mono fun e W' ⟨he, bel⟩ => ?_
  subst he
  exact ⟨_, rfl, _, _, _, [], _, [], hW', trodAll_mk1 (shut_bool Try.underlying4 _), (trodAll_cons_mk (Below.trod laidOut (by kernel_rfl) (of_decide_eq_true (by kernel_rfl)) k0 bel lt0) trodAll_mk0), rfl, Below.frame bel _, fun h => by cases h⟩
theorem fnExactHullOf_over : Rows.fnExactHullOfRow.holds Try.pinned (OpenSpec.ofChange Rows.fnExactHullOfSpec) :=
  OpenClaim.holds_of_wide 9 Try.f9 rfl rfl rfl rfl rfl rfl rfl ⟨rfl, rfl, rfl, rfl, rfl⟩ rfl rfl rfl rfl rfl (by kernel_rfl) Try.func9 (by kernel_rfl)
    (of_decide_eq_true (by kernel_rfl)) (by unfold Func.isWrapper; first | (rw [if_pos (by decide +kernel)]; kernel_rfl) | (rw [if_neg (by decide +kernel)]; exact ⟨rfl, rfl⟩))
    (fun os started H enc _ => fnExactHullOf_lifted os started H enc)
theorem fnExactHullOf_proved : Rows.FnExactHullOfSaid := fnExactHullOf_over
#print axioms fnExactHullOf_proved
end Go.Proofs.Ytdpokkegkedlfaa

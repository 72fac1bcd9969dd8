/- 'FnSegmentHits': for every code both sides tell the same of the drawn segment, and its ends may be exchanged; for a convex polygon and valid ends it hits exactly if an end is inside or it meets an edge. Conditions: none. -/
import Derived.Test.YtlngpnmenmdlmaaFnSegmentHitsP1
namespace Go.Proofs.Ytlngpnmenmdlmaa
open Go.ChangeShapes Go.WideShapes Go.ChangeAt Go.RowKit
set_option maxRecDepth 100000
set_option linter.unusedSimpArgs false
set_option linter.unusedVariables false
def g_impl_ConvexValid : List AV → Option Sg
  | [.s (.view (.pts l))] => some ⟨True, [.s (.bool (convB l))]⟩
  | _ => none
def sig_impl_ConvexValid : FuncId → List AV → Option Sg := sigL [(51, g_impl_within), (52, g_impl_allPoints), (53, g_impl_cross)]
def xs_impl_ConvexValid : XS := ⟨xsigL [], ysigL []⟩
theorem sig_impl_ConvexValid_ok : SigOK sig_impl_ConvexValid := sigL_cons F_impl_within (sigL_cons F_impl_allPoints (sigL_cons F_impl_cross sigL_nil))
theorem xs_impl_ConvexValid_ok : XSigOK xs_impl_ConvexValid := ⟨xsigL_nil, ysigL_nil⟩
theorem V_impl_ConvexValid (l : List Pt) : ((true = true) ∧ ((True) ∧ True) ∧ (true = true) ∧ ((True) ∧ (True) ∧ ((True)) ∧ (True) ∧ (True) ∧ (NIs (bnot (inB (ilen l) (3 : Int) (8 : Int))) false → True) ∧ (NIs (bnot (inB (ilen l) (3 : Int) (8 : Int))) false → (True)) ∧ (NIs (bnot (inB (ilen l) (3 : Int) (8 : Int))) false → True) ∧ (True) ∧ True) ∧ ((bite (bnot (inB (ilen l) (3 : Int) (8 : Int))) true (bnot (allB l))) = true → ((true = true) ∧ ((True) ∧ True) ∧ ((false : Bool) = (convB l)) ∧ True)) ∧ ((bite (bnot (inB (ilen l) (3 : Int) (8 : Int))) true (bnot (allB l))) = false → ((true = true) ∧ ((True) ∧ (True) ∧ (True) ∧ True) ∧ ∃ (I1 : List GV → Prop) (μ1 : List GV → Nat), (((true = true) ∧ (((false : Bool) = false) ∧ (((0 : Int) : Int) = (0 : Int)) ∧ ((Cont.pts l) = (Cont.pts l)) ∧ (((ilen l) : Int) = (ilen l)) ∧ ((Cont.pts l) = (Cont.pts l)) ∧ (((ilen l) : Int) = (ilen l)) ∧ (((inB (ilen l) (3 : Int) (8 : Int)) : Bool) = (inB (ilen l) (3 : Int) (8 : Int))) ∧ (((bnot (inB (ilen l) (3 : Int) (8 : Int))) : Bool) = (bnot (inB (ilen l) (3 : Int) (8 : Int)))) ∧ (((bnot (inB (ilen l) (3 : Int) (8 : Int))) : Bool) = (bnot (inB (ilen l) (3 : Int) (8 : Int)))) ∧ (((bite (bnot (inB (ilen l) (3 : Int) (8 : Int))) true (bnot (allB l))) : Bool) = (bite (bnot (inB (ilen l) (3 : Int) (8 : Int))) true (bnot (allB l)))) ∧ ((Cont.pts l) = (Cont.pts l)) ∧ True) ∧ (True)) ∧ (([GK.int, GK.bool] : List GK) = ([GK.int, GK.bool] : List GK)) ∧ I1 [GV.int (0 : Int), GV.bool false]) ∧ (∀ i1_0 : Int, ∀ b1_1 : Bool, I1 [GV.int i1_0, GV.bool b1_1] → ((true = true) ∧ ((True) ∧ True) ∧ ((ilt i1_0 (ilen l)) = true → ((true = true) ∧ ((True) ∧ (NLe 0 i1_0 ∧ NLt i1_0 (ilen l)) ∧ (True) ∧ (True) ∧ (True) ∧ True) ∧ (True) ∧ (true = true) ∧ ((True) ∧ (True) ∧ (True) ∧ (True) ∧ (NNe (ilen l) 0) ∧ (True) ∧ True) ∧ (true = true) ∧ ((True) ∧ (True) ∧ (True) ∧ True) ∧ ∃ (I2 : List GV → Prop) (μ2 : List GV → Nat), (((true = true) ∧ (((b1_1 : Bool) = b1_1) ∧ (((0 : Int) : Int) = (0 : Int)) ∧ ((Cont.pts l) = (Cont.pts l)) ∧ (((ilen l) : Int) = (ilen l)) ∧ ((i1_0 : Int) = i1_0) ∧ (((iadd i1_0 (1 : Int)) : Int) = (iadd i1_0 (1 : Int))) ∧ ((Cont.pts l) = (Cont.pts l)) ∧ (((ilen l) : Int) = (ilen l)) ∧ (((irem (iadd i1_0 (1 : Int)) (ilen l)) : Int) = (irem (iadd i1_0 (1 : Int)) (ilen l))) ∧ (((irem (iadd i1_0 (1 : Int)) (ilen l)) : Int) = (irem (iadd i1_0 (1 : Int)) (ilen l))) ∧ ((i1_0 : Int) = i1_0) ∧ ((((getx l i1_0) : Int) = (getx l i1_0)) ∧ (((gety l i1_0) : Int) = (gety l i1_0)) ∧ True) ∧ (true = true) ∧ ((i1_0 : Int) = i1_0) ∧ (((ilt i1_0 (ilen l)) : Bool) = (ilt i1_0 (ilen l))) ∧ ((i1_0 : Int) = i1_0) ∧ ((Cont.pts l) = (Cont.pts l)) ∧ (((ilen l) : Int) = (ilen l)) ∧ ((Cont.pts l) = (Cont.pts l)) ∧ (((ilen l) : Int) = (ilen l)) ∧ (((inB (ilen l) (3 : Int) (8 : Int)) : Bool) = (inB (ilen l) (3 : Int) (8 : Int))) ∧ (((bnot (inB (ilen l) (3 : Int) (8 : Int))) : Bool) = (bnot (inB (ilen l) (3 : Int) (8 : Int)))) ∧ (((bnot (inB (ilen l) (3 : Int) (8 : Int))) : Bool) = (bnot (inB (ilen l) (3 : Int) (8 : Int)))) ∧ (((bite (bnot (inB (ilen l) (3 : Int) (8 : Int))) true (bnot (allB l))) : Bool) = (bite (bnot (inB (ilen l) (3 : Int) (8 : Int))) true (bnot (allB l)))) ∧ ((Cont.pts l) = (Cont.pts l)) ∧ True) ∧ (((((getx l i1_0) : Int) = (getx l i1_0)) ∧ (((gety l i1_0) : Int) = (gety l i1_0)) ∧ True) ∧ True)) ∧ (([GK.int, GK.bool] : List GK) = ([GK.int, GK.bool] : List GK)) ∧ I2 [GV.int (0 : Int), GV.bool b1_1]) ∧ (∀ i2_0 : Int, ∀ b2_1 : Bool, I2 [GV.int i2_0, GV.bool b2_1] → ((true = true) ∧ ((True) ∧ True) ∧ ((ilt i2_0 (ilen l)) = true → ((true = true) ∧ ((True) ∧ (NLe 0 i2_0 ∧ NLt i2_0 (ilen l)) ∧ (True) ∧ (True) ∧ (True) ∧ True) ∧ (True) ∧ (true = true) ∧ ((True) ∧ (True) ∧ (True) ∧ (True) ∧ (NIs (bnot (ieq i2_0 i1_0)) true → True) ∧ (NIs (bnot (ieq i2_0 i1_0)) true → True) ∧ (NIs (bnot (ieq i2_0 i1_0)) true → True) ∧ (True) ∧ (True) ∧ (NIs (bite (bnot (ieq i2_0 i1_0)) (bnot (ieq i2_0 (irem (iadd i1_0 (1 : Int)) (ilen l)))) false) true → True) ∧ (NIs (bite (bnot (ieq i2_0 i1_0)) (bnot (ieq i2_0 (irem (iadd i1_0 (1 : Int)) (ilen l)))) false) true → True) ∧ (NIs (bite (bnot (ieq i2_0 i1_0)) (bnot (ieq i2_0 (irem (iadd i1_0 (1 : Int)) (ilen l)))) false) true → True) ∧ (NIs (bite (bnot (ieq i2_0 i1_0)) (bnot (ieq i2_0 (irem (iadd i1_0 (1 : Int)) (ilen l)))) false) true → (NLe 0 (irem (iadd i1_0 (1 : Int)) (ilen l)) ∧ NLt (irem (iadd i1_0 (1 : Int)) (ilen l)) (ilen l))) ∧ (NIs (bite (bnot (ieq i2_0 i1_0)) (bnot (ieq i2_0 (irem (iadd i1_0 (1 : Int)) (ilen l)))) false) true → True) ∧ (NIs (bite (bnot (ieq i2_0 i1_0)) (bnot (ieq i2_0 (irem (iadd i1_0 (1 : Int)) (ilen l)))) false) true → True) ∧ (NIs (bite (bnot (ieq i2_0 i1_0)) (bnot (ieq i2_0 (irem (iadd i1_0 (1 : Int)) (ilen l)))) false) true → (True)) ∧ (NIs (bite (bnot (ieq i2_0 i1_0)) (bnot (ieq i2_0 (irem (iadd i1_0 (1 : Int)) (ilen l)))) false) true → True) ∧ (True) ∧ True) ∧ ((bite (bite (bnot (ieq i2_0 i1_0)) (bnot (ieq i2_0 (irem (iadd i1_0 (1 : Int)) (ilen l)))) false) (ile (crW (getx l i1_0) (gety l i1_0) (getx l (irem (iadd i1_0 (1 : Int)) (ilen l))) (gety l (irem (iadd i1_0 (1 : Int)) (ilen l))) (getx l i2_0) (gety l i2_0)) (0 : Int)) false) = true → ((true = true) ∧ ((True) ∧ True) ∧ ((false : Bool) = (convB l)) ∧ True)) ∧ ((bite (bite (bnot (ieq i2_0 i1_0)) (bnot (ieq i2_0 (irem (iadd i1_0 (1 : Int)) (ilen l)))) false) (ile (crW (getx l i1_0) (gety l i1_0) (getx l (irem (iadd i1_0 (1 : Int)) (ilen l))) (gety l (irem (iadd i1_0 (1 : Int)) (ilen l))) (getx l i2_0) (gety l i2_0)) (0 : Int)) false) = false → ((true = true) ∧ ((True) ∧ (True) ∧ True) ∧ ((true = true) ∧ (((b2_1 : Bool) = b2_1) ∧ (((iadd i2_0 (1 : Int)) : Int) = (iadd i2_0 (1 : Int))) ∧ ((Cont.pts l) = (Cont.pts l)) ∧ (((ilen l) : Int) = (ilen l)) ∧ ((i1_0 : Int) = i1_0) ∧ (((iadd i1_0 (1 : Int)) : Int) = (iadd i1_0 (1 : Int))) ∧ ((Cont.pts l) = (Cont.pts l)) ∧ (((ilen l) : Int) = (ilen l)) ∧ (((irem (iadd i1_0 (1 : Int)) (ilen l)) : Int) = (irem (iadd i1_0 (1 : Int)) (ilen l))) ∧ (((irem (iadd i1_0 (1 : Int)) (ilen l)) : Int) = (irem (iadd i1_0 (1 : Int)) (ilen l))) ∧ ((i1_0 : Int) = i1_0) ∧ ((((getx l i1_0) : Int) = (getx l i1_0)) ∧ (((gety l i1_0) : Int) = (gety l i1_0)) ∧ True) ∧ (true = true) ∧ ((i1_0 : Int) = i1_0) ∧ (((ilt i1_0 (ilen l)) : Bool) = (ilt i1_0 (ilen l))) ∧ ((i1_0 : Int) = i1_0) ∧ ((Cont.pts l) = (Cont.pts l)) ∧ (((ilen l) : Int) = (ilen l)) ∧ ((Cont.pts l) = (Cont.pts l)) ∧ (((ilen l) : Int) = (ilen l)) ∧ (((inB (ilen l) (3 : Int) (8 : Int)) : Bool) = (inB (ilen l) (3 : Int) (8 : Int))) ∧ (((bnot (inB (ilen l) (3 : Int) (8 : Int))) : Bool) = (bnot (inB (ilen l) (3 : Int) (8 : Int)))) ∧ (((bnot (inB (ilen l) (3 : Int) (8 : Int))) : Bool) = (bnot (inB (ilen l) (3 : Int) (8 : Int)))) ∧ (((bite (bnot (inB (ilen l) (3 : Int) (8 : Int))) true (bnot (allB l))) : Bool) = (bite (bnot (inB (ilen l) (3 : Int) (8 : Int))) true (bnot (allB l)))) ∧ ((Cont.pts l) = (Cont.pts l)) ∧ True) ∧ (((((getx l i1_0) : Int) = (getx l i1_0)) ∧ (((gety l i1_0) : Int) = (gety l i1_0)) ∧ True) ∧ True)) ∧ ((([GK.int, GK.bool] : List GK) = ([GK.int, GK.bool] : List GK)) ∧ I2 [GV.int (iadd i2_0 (1 : Int)), GV.bool b2_1] ∧ μ2 [GV.int (iadd i2_0 (1 : Int)), GV.bool b2_1] < μ2 [GV.int i2_0, GV.bool b2_1]))))) ∧ ((ilt i2_0 (ilen l)) = false → ((true = true) ∧ ((True) ∧ (True) ∧ True) ∧ ((true = true) ∧ (((b2_1 : Bool) = b2_1) ∧ (((iadd i1_0 (1 : Int)) : Int) = (iadd i1_0 (1 : Int))) ∧ ((Cont.pts l) = (Cont.pts l)) ∧ (((ilen l) : Int) = (ilen l)) ∧ ((Cont.pts l) = (Cont.pts l)) ∧ (((ilen l) : Int) = (ilen l)) ∧ (((inB (ilen l) (3 : Int) (8 : Int)) : Bool) = (inB (ilen l) (3 : Int) (8 : Int))) ∧ (((bnot (inB (ilen l) (3 : Int) (8 : Int))) : Bool) = (bnot (inB (ilen l) (3 : Int) (8 : Int)))) ∧ (((bnot (inB (ilen l) (3 : Int) (8 : Int))) : Bool) = (bnot (inB (ilen l) (3 : Int) (8 : Int)))) ∧ (((bite (bnot (inB (ilen l) (3 : Int) (8 : Int))) true (bnot (allB l))) : Bool) = (bite (bnot (inB (ilen l) (3 : Int) (8 : Int))) true (bnot (allB l)))) ∧ ((Cont.pts l) = (Cont.pts l)) ∧ True) ∧ (True)) ∧ ((([GK.int, GK.bool] : List GK) = ([GK.int, GK.bool] : List GK)) ∧ I1 [GV.int (iadd i1_0 (1 : Int)), GV.bool b2_1] ∧ μ1 [GV.int (iadd i1_0 (1 : Int)), GV.bool b2_1] < μ1 [GV.int i1_0, GV.bool b1_1]))))))) ∧ ((ilt i1_0 (ilen l)) = false → ((true = true) ∧ ((True) ∧ True) ∧ ((true : Bool) = (convB l)) ∧ True))))))) = ev sig_impl_ConvexValid xs_impl_ConvexValid Try.f15.ntmps (fun b => if b == 0 then [.v 19, .v 2] else if b == 2 then [.v 31, .v 2] else []) (codeOf Try.f15) 0 (initS [.s (.view (.pts l))]) (retK Try.f15.results.toList [.s (.bool (convB l))]) := by kernel_rfl
set_option maxHeartbeats 400000 in
theorem F_impl_ConvexValid : FunOK 15 g_impl_ConvexValid := by
  refine fun_F (by kernel_rfl) Try.func15 rfl (by kernel_rfl) sig_impl_ConvexValid_ok xs_impl_ConvexValid_ok ?_
  intro avs sg h hn hl
  unfold g_impl_ConvexValid at h
  split at h
  · rename_i l
    injection h with h; subst h
    refine ⟨by kernel_rfl, fun b => if b == 0 then [.v 19, .v 2] else if b == 2 then [.v 31, .v 2] else [], Eq.mp (V_impl_ConvexValid l) ?_⟩
    simp only [true_and, and_true, implies_true, and_self, forall_const, true_implies, lenA, lenL, SV.lenOK, Cont.lenOK] at hn hl ⊢
    have h0 := ilen_0 l
    simp only [ilt_t, ilt_f, ile_t, ile_f, ieq_t, ieq_f, bnot_e, band_e, bite_and, bite_or, NLt_e, NLe_e, NNe_e, NIs_e, imax_e, imin_e, irem_e, Bool.not_eq_true', Bool.not_eq_false', Bool.and_eq_true, Bool.or_eq_true, Bool.or_eq_false_iff, Bool.and_eq_false_iff, Cont.pts.injEq, Cont.ints.injEq, Cont.bools.injEq, Cont.ptss.injEq, Cont.intss.injEq, Cont.boolss.injEq, true_and, and_true, implies_true]
    refine ⟨?_, fun hc => ?_⟩
    · rintro (h | h) <;> simp [convB, h]
    · obtain ⟨hv1, hv2⟩ : inB (ilen l) 3 8 = true ∧ allB l = true := by simpa using hc
      have hlen := inB_true hv1
      refine ⟨fun | [.int k, .bool _] => 0 ≤ k ∧ k ≤ ilen l ∧ (∀ i, 0 ≤ i → i < k → allN (ilen l) (convE l i) = true) | _ => False, fun | [.int k, .bool _] => (ilen l - k).toNat | _ => 0, ?_, ?_⟩
      · exact ⟨Int.le_refl 0, h0, fun j h0 h1 => absurd h1 (by omega)⟩
      · rintro k b ⟨hk0, hk1, hk⟩
        simp only [ilt_t, ilt_f, ile_t, ile_f, ieq_t, ieq_f, bnot_e, band_e, bite_and, bite_or, NLt_e, NLe_e, NNe_e, NIs_e, imax_e, imin_e, irem_e, Bool.not_eq_true', Bool.not_eq_false', Bool.and_eq_true, Bool.or_eq_true, Bool.or_eq_false_iff, Bool.and_eq_false_iff, Cont.pts.injEq, Cont.ints.injEq, Cont.bools.injEq, Cont.ptss.injEq, Cont.intss.injEq, Cont.boolss.injEq, true_and, and_true, implies_true]
        refine ⟨fun hkn => ⟨⟨hk0, hkn⟩, by omega, ?_⟩, fun hkn => ?_⟩
        · have e1 := iadd_1 hk0 hkn hl
          obtain ⟨n0, n1, _⟩ := nx_in hk0 hkn
          have e2 : (k + 1).tmod (ilen l) = nx l k := rfl
          simp only [e1, e2]
          refine ⟨fun | [.int j, .bool _] => 0 ≤ j ∧ j ≤ ilen l ∧ (∀ i, 0 ≤ i → i < j → convE l k i = true) | _ => False, fun | [.int j, .bool _] => (ilen l - j).toNat | _ => 0, ?_, ?_⟩
          · exact ⟨Int.le_refl 0, h0, fun j h0 h1 => absurd h1 (by omega)⟩
          · rintro j b ⟨hj0, hj1, hj⟩
            simp only [ilt_t, ilt_f, ile_t, ile_f, ieq_t, ieq_f, bnot_e, band_e, bite_and, bite_or, NLt_e, NLe_e, NNe_e, NIs_e, imax_e, imin_e, irem_e, Bool.not_eq_true', Bool.not_eq_false', Bool.and_eq_true, Bool.or_eq_true, Bool.or_eq_false_iff, Bool.and_eq_false_iff, Cont.pts.injEq, Cont.ints.injEq, Cont.bools.injEq, Cont.ptss.injEq, Cont.intss.injEq, Cont.boolss.injEq, true_and, and_true, implies_true]
            refine ⟨fun hjn => ⟨⟨hj0, hjn⟩, fun _ => ⟨n0, n1⟩, fun hx => ?_, fun hx => ?_⟩, fun hjn => ?_⟩
            · have hE : convE l k j = false := by
                unfold convE cr
                simp only [decide_eq_false_iff_not]
                omega
              unfold convB
              rw [allN_no k hk0 hkn (allN_no j hj0 hjn hE)]
              simp
            · have hE : convE l k j = true := by
                unfold convE cr
                simp only [decide_eq_true_eq]
                omega
              rw [iadd_1 hj0 hjn hl]
              exact ⟨⟨by omega, by omega, allN_up hj hE⟩, by omega⟩
            · exact ⟨⟨by omega, by omega, allN_up hk (allN_mk fun i h0 h1 => hj i h0 (by omega))⟩, by omega⟩
        · unfold convB
          rw [hv1, hv2, allN_mk fun i h0 h1 => hk i h0 (by omega)]
          rfl
  · cases h
def insE (l : List Pt) (p1 p2 i : Int) : Bool := decide (0 ≤ crW (getx l i) (gety l i) (getx l (nx l i)) (gety l (nx l i)) p1 p2)
def insB (l : List Pt) (p1 p2 : Int) : Bool := allN (ilen l) (insE l p1 p2)
def g_impl_inside : List AV → Option Sg
  | [.s (.view (.pts l)), .agg [.int p1, .int p2]] => some ⟨True, [.s (.bool (insB l p1 p2))]⟩
  | _ => none
def sig_impl_inside : FuncId → List AV → Option Sg := sigL [(53, g_impl_cross)]
def xs_impl_inside : XS := ⟨xsigL [], ysigL []⟩
theorem sig_impl_inside_ok : SigOK sig_impl_inside := sigL_cons F_impl_cross sigL_nil
theorem xs_impl_inside_ok : XSigOK xs_impl_inside := ⟨xsigL_nil, ysigL_nil⟩
theorem V_impl_inside (l : List Pt) (p1 : Int) (p2 : Int) : ((true = true) ∧ ((True) ∧ (True) ∧ True) ∧ (true = true) ∧ ((True) ∧ (True) ∧ (True) ∧ True) ∧ ∃ (I1 : List GV → Prop) (μ1 : List GV → Nat), (((true = true) ∧ (((false : Bool) = false) ∧ (((0 : Int) : Int) = (0 : Int)) ∧ ((Cont.pts l) = (Cont.pts l)) ∧ (((ilen l) : Int) = (ilen l)) ∧ (true = true) ∧ ((Cont.pts l) = (Cont.pts l)) ∧ (((p1 : Int) = p1) ∧ ((p2 : Int) = p2) ∧ True) ∧ True) ∧ ((((p1 : Int) = p1) ∧ ((p2 : Int) = p2) ∧ True) ∧ True)) ∧ (([GK.int, GK.bool] : List GK) = ([GK.int, GK.bool] : List GK)) ∧ I1 [GV.int (0 : Int), GV.bool false]) ∧ (∀ i1_0 : Int, ∀ b1_1 : Bool, I1 [GV.int i1_0, GV.bool b1_1] → ((true = true) ∧ ((True) ∧ True) ∧ ((ilt i1_0 (ilen l)) = true → ((true = true) ∧ ((True) ∧ (NLe 0 i1_0 ∧ NLt i1_0 (ilen l)) ∧ (True) ∧ (True) ∧ (True) ∧ True) ∧ (True) ∧ (true = true) ∧ ((True) ∧ (True) ∧ (True) ∧ (True) ∧ (True) ∧ (True) ∧ (NNe (ilen l) 0) ∧ (NLe 0 (irem (iadd i1_0 (1 : Int)) (ilen l)) ∧ NLt (irem (iadd i1_0 (1 : Int)) (ilen l)) (ilen l)) ∧ (True) ∧ (True) ∧ ((True)) ∧ (True) ∧ True) ∧ ((ilt (crW (getx l i1_0) (gety l i1_0) (getx l (irem (iadd i1_0 (1 : Int)) (ilen l))) (gety l (irem (iadd i1_0 (1 : Int)) (ilen l))) p1 p2) (0 : Int)) = true → ((true = true) ∧ ((True) ∧ True) ∧ ((false : Bool) = (insB l p1 p2)) ∧ True)) ∧ ((ilt (crW (getx l i1_0) (gety l i1_0) (getx l (irem (iadd i1_0 (1 : Int)) (ilen l))) (gety l (irem (iadd i1_0 (1 : Int)) (ilen l))) p1 p2) (0 : Int)) = false → ((true = true) ∧ ((True) ∧ (True) ∧ True) ∧ ((true = true) ∧ (((b1_1 : Bool) = b1_1) ∧ (((iadd i1_0 (1 : Int)) : Int) = (iadd i1_0 (1 : Int))) ∧ ((Cont.pts l) = (Cont.pts l)) ∧ (((ilen l) : Int) = (ilen l)) ∧ (true = true) ∧ ((Cont.pts l) = (Cont.pts l)) ∧ (((p1 : Int) = p1) ∧ ((p2 : Int) = p2) ∧ True) ∧ True) ∧ ((((p1 : Int) = p1) ∧ ((p2 : Int) = p2) ∧ True) ∧ True)) ∧ ((([GK.int, GK.bool] : List GK) = ([GK.int, GK.bool] : List GK)) ∧ I1 [GV.int (iadd i1_0 (1 : Int)), GV.bool b1_1] ∧ μ1 [GV.int (iadd i1_0 (1 : Int)), GV.bool b1_1] < μ1 [GV.int i1_0, GV.bool b1_1]))))) ∧ ((ilt i1_0 (ilen l)) = false → ((true = true) ∧ ((True) ∧ True) ∧ ((true : Bool) = (insB l p1 p2)) ∧ True))))) = ev sig_impl_inside xs_impl_inside Try.f63.ntmps (fun b => if b == 0 then [.v 9, .v 4] else []) (codeOf Try.f63) 0 (initS [.s (.view (.pts l)), .agg [.int p1, .int p2]]) (retK Try.f63.results.toList [.s (.bool (insB l p1 p2))]) := by kernel_rfl
set_option maxHeartbeats 400000 in
theorem F_impl_inside : FunOK 63 g_impl_inside := by
  refine fun_F (by kernel_rfl) Try.func63 rfl (by kernel_rfl) sig_impl_inside_ok xs_impl_inside_ok ?_
  intro avs sg h hn hl
  unfold g_impl_inside at h
  split at h
  · rename_i l p1 p2
    injection h with h; subst h
    refine ⟨by kernel_rfl, fun b => if b == 0 then [.v 9, .v 4] else [], Eq.mp (V_impl_inside l p1 p2) ?_⟩
    simp only [true_and, and_true, implies_true, and_self, forall_const, true_implies, lenA, lenL, SV.lenOK, Cont.lenOK] at hn hl ⊢
    have h0 := ilen_0 l
    simp only [ilt_t, ilt_f, ile_t, ile_f, ieq_t, ieq_f, bnot_e, band_e, bite_and, bite_or, NLt_e, NLe_e, NNe_e, NIs_e, imax_e, imin_e, irem_e, Bool.not_eq_true', Bool.not_eq_false', Bool.and_eq_true, Bool.or_eq_true, Bool.or_eq_false_iff, Bool.and_eq_false_iff, Cont.pts.injEq, Cont.ints.injEq, Cont.bools.injEq, Cont.ptss.injEq, Cont.intss.injEq, Cont.boolss.injEq, true_and, and_true, implies_true]
    refine ⟨fun | .int k :: _ => 0 ≤ k ∧ k ≤ ilen l ∧ (∀ i, 0 ≤ i → i < k → insE l p1 p2 i = true) | _ => False, fun | .int k :: _ => (ilen l - k).toNat | _ => 0, ?_, ?_⟩
    · exact ⟨Int.le_refl 0, h0, fun j h0 h1 => absurd h1 (by omega)⟩
    · rintro k _ ⟨hk0, hk1, hk⟩
      simp only [ilt_t, ilt_f, ile_t, ile_f, ieq_t, ieq_f, bnot_e, band_e, bite_and, bite_or, NLt_e, NLe_e, NNe_e, NIs_e, imax_e, imin_e, irem_e, Bool.not_eq_true', Bool.not_eq_false', Bool.and_eq_true, Bool.or_eq_true, Bool.or_eq_false_iff, Bool.and_eq_false_iff, Cont.pts.injEq, Cont.ints.injEq, Cont.bools.injEq, Cont.ptss.injEq, Cont.intss.injEq, Cont.boolss.injEq, true_and, and_true, implies_true]
      refine ⟨fun hkn => ?_, fun hkn => ?_⟩
      · have e1 := iadd_1 hk0 hkn hl
        obtain ⟨n0, n1, _⟩ := nx_in hk0 hkn
        have e2 : (k + 1).tmod (ilen l) = nx l k := rfl
        simp only [e1, e2]
        have hne : ilen l ≠ 0 := by omega
        refine ⟨⟨hk0, hkn⟩, ⟨hne, ⟨n0, n1⟩⟩, fun hx => ?_, fun hx => ?_⟩
        · have hE : insE l p1 p2 k = false := by
            unfold insE
            simp only [decide_eq_false_iff_not]
            omega
          unfold insB
          rw [allN_no k hk0 hkn hE]
        · have hE : insE l p1 p2 k = true := by
            unfold insE
            simp only [decide_eq_true_eq]
            omega
          exact ⟨⟨by omega, by omega, allN_up hk hE⟩, by omega⟩
      · unfold insB
        rw [allN_mk fun i h0 h1 => hk i h0 (by omega)]
  · cases h
def g_cmp_isNaN_int : List AV → Option Sg
  | [.s (.int n)] => some ⟨True, [.s (.bool (false))]⟩
  | _ => none
def sig_cmp_isNaN_int : FuncId → List AV → Option Sg := sigL []
def xs_cmp_isNaN_int : XS := ⟨xsigL [], ysigL []⟩
theorem sig_cmp_isNaN_int_ok : SigOK sig_cmp_isNaN_int := sigL_nil
theorem xs_cmp_isNaN_int_ok : XSigOK xs_cmp_isNaN_int := ⟨xsigL_nil, ysigL_nil⟩
theorem V_cmp_isNaN_int (n : Int) : ((true = true) ∧ ((True) ∧ True) ∧ (true = true) ∧ ((True) ∧ (True) ∧ (True) ∧ (True) ∧ True) ∧ (((bnot (ieq n n)) : Bool) = (false)) ∧ True) = ev sig_cmp_isNaN_int xs_cmp_isNaN_int Try.f100.ntmps (fun b => []) (codeOf Try.f100) 0 (initS [.s (.int n)]) (retK Try.f100.results.toList [.s (.bool (false))]) := by kernel_rfl
set_option maxHeartbeats 400000 in
theorem F_cmp_isNaN_int : FunOK 100 g_cmp_isNaN_int := by
  refine fun_F (by kernel_rfl) Try.func100 rfl (by kernel_rfl) sig_cmp_isNaN_int_ok xs_cmp_isNaN_int_ok ?_
  intro avs sg h hn hl
  unfold g_cmp_isNaN_int at h
  split at h
  · rename_i n
    injection h with h; subst h
    refine ⟨by kernel_rfl, fun b => [], Eq.mp (V_cmp_isNaN_int n) ?_⟩
    simp only [true_and, and_true, implies_true, and_self, forall_const, true_implies, lenA, lenL, SV.lenOK, Cont.lenOK] at hn hl ⊢
    simp [bnot, ieq]
  · cases h
def g_cmp_Compare_int : List AV → Option Sg
  | [.s (.int a), .s (.int b)] => some ⟨True, [.s (.int (sgn (a - b)))]⟩
  | _ => none
def sig_cmp_Compare_int : FuncId → List AV → Option Sg := sigL [(100, g_cmp_isNaN_int)]
def xs_cmp_Compare_int : XS := ⟨xsigL [], ysigL []⟩
theorem sig_cmp_Compare_int_ok : SigOK sig_cmp_Compare_int := sigL_cons F_cmp_isNaN_int sigL_nil
theorem xs_cmp_Compare_int_ok : XSigOK xs_cmp_Compare_int := ⟨xsigL_nil, ysigL_nil⟩
theorem V_cmp_Compare_int (a : Int) (b : Int) : ((true = true) ∧ ((True) ∧ True) ∧ (true = true) ∧ ((True) ∧ ((True)) ∧ (True) ∧ True) ∧ (true = true) ∧ ((True) ∧ ((True)) ∧ (True) ∧ True) ∧ (true = true) ∧ ((True) ∧ True) ∧ ((false) = true → ((true = true) ∧ ((True) ∧ True) ∧ ((false) = true → ((true = true) ∧ ((True) ∧ True) ∧ (((0 : Int) : Int) = (sgn (a - b))) ∧ True)) ∧ ((false) = false → ((true = true) ∧ ((True) ∧ True) ∧ (((-1 : Int) : Int) = (sgn (a - b))) ∧ True)))) ∧ ((false) = false → ((true = true) ∧ ((True) ∧ True) ∧ ((false) = true → ((true = true) ∧ ((True) ∧ True) ∧ (((1 : Int) : Int) = (sgn (a - b))) ∧ True)) ∧ ((false) = false → ((true = true) ∧ ((True) ∧ (True) ∧ (True) ∧ True) ∧ ((ilt a b) = true → ((true = true) ∧ ((True) ∧ True) ∧ (((-1 : Int) : Int) = (sgn (a - b))) ∧ True)) ∧ ((ilt a b) = false → ((true = true) ∧ ((True) ∧ (True) ∧ (True) ∧ True) ∧ ((ilt b a) = true → ((true = true) ∧ ((True) ∧ True) ∧ (((1 : Int) : Int) = (sgn (a - b))) ∧ True)) ∧ ((ilt b a) = false → ((true = true) ∧ ((True) ∧ True) ∧ (((0 : Int) : Int) = (sgn (a - b))) ∧ True))))))))) = ev sig_cmp_Compare_int xs_cmp_Compare_int Try.f82.ntmps (fun b => []) (codeOf Try.f82) 0 (initS [.s (.int a), .s (.int b)]) (retK Try.f82.results.toList [.s (.int (sgn (a - b)))]) := by kernel_rfl
set_option maxHeartbeats 400000 in
theorem F_cmp_Compare_int : FunOK 82 g_cmp_Compare_int := by
  refine fun_F (by kernel_rfl) Try.func82 rfl (by kernel_rfl) sig_cmp_Compare_int_ok xs_cmp_Compare_int_ok ?_
  intro avs sg h hn hl
  unfold g_cmp_Compare_int at h
  split at h
  · rename_i a b
    injection h with h; subst h
    refine ⟨by kernel_rfl, fun b => [], Eq.mp (V_cmp_Compare_int a b) ?_⟩
    simp only [true_and, and_true, implies_true, and_self, forall_const, true_implies, lenA, lenL, SV.lenOK, Cont.lenOK] at hn hl ⊢
    simp only [ilt_t, ilt_f, ile_t, ile_f, ieq_t, ieq_f, bnot_e, band_e, bite_and, bite_or, NLt_e, NLe_e, NNe_e, NIs_e, imax_e, imin_e, irem_e, Bool.not_eq_true', Bool.not_eq_false', Bool.and_eq_true, Bool.or_eq_true, Bool.or_eq_false_iff, Bool.and_eq_false_iff, Cont.pts.injEq, Cont.ints.injEq, Cont.bools.injEq, Cont.ptss.injEq, Cont.intss.injEq, Cont.boolss.injEq, true_and, and_true, implies_true, Bool.false_eq_true, false_implies, true_implies, true_and, forall_const]
    unfold sgn
    by_cases h1 : a < b
    · rw [if_neg (show ¬ 0 < a - b by omega), if_pos (show a - b < 0 by omega)]
      simp [h1]; try omega
    · by_cases h2 : b < a
      · rw [if_pos (show 0 < a - b by omega)]
        simp [h1, h2]; try omega
      · rw [if_neg (show ¬ 0 < a - b by omega), if_neg (show ¬ a - b < 0 by omega)]
        simp [h1, h2]; try omega
  · cases h
def g_impl_between : List AV → Option Sg
  | [.agg [.int a1, .int a2], .agg [.int b1, .int b2], .agg [.int p1, .int p2]] => some ⟨True, [.s (.bool (btW a1 a2 b1 b2 p1 p2))]⟩
  | _ => none
def sig_impl_between : FuncId → List AV → Option Sg := sigL [(51, g_impl_within)]
def xs_impl_between : XS := ⟨xsigL [], ysigL []⟩
theorem sig_impl_between_ok : SigOK sig_impl_between := sigL_cons F_impl_within sigL_nil
theorem xs_impl_between_ok : XSigOK xs_impl_between := ⟨xsigL_nil, ysigL_nil⟩
theorem V_impl_between (a1 : Int) (a2 : Int) (b1 : Int) (b2 : Int) (p1 : Int) (p2 : Int) : ((true = true) ∧ ((True) ∧ (True) ∧ (True) ∧ (True) ∧ True) ∧ (true = true) ∧ ((True) ∧ (True) ∧ (True) ∧ (True) ∧ (True) ∧ (True) ∧ (True) ∧ (True) ∧ (True) ∧ (True) ∧ (True) ∧ (True) ∧ ((True)) ∧ (True) ∧ (NIs (inB p1 (imin a1 b1) (imax a1 b1)) true → True) ∧ (NIs (inB p1 (imin a1 b1) (imax a1 b1)) true → True) ∧ (NIs (inB p1 (imin a1 b1) (imax a1 b1)) true → True) ∧ (NIs (inB p1 (imin a1 b1) (imax a1 b1)) true → True) ∧ (NIs (inB p1 (imin a1 b1) (imax a1 b1)) true → True) ∧ (NIs (inB p1 (imin a1 b1) (imax a1 b1)) true → True) ∧ (NIs (inB p1 (imin a1 b1) (imax a1 b1)) true → True) ∧ (NIs (inB p1 (imin a1 b1) (imax a1 b1)) true → True) ∧ (NIs (inB p1 (imin a1 b1) (imax a1 b1)) true → True) ∧ (NIs (inB p1 (imin a1 b1) (imax a1 b1)) true → True) ∧ (NIs (inB p1 (imin a1 b1) (imax a1 b1)) true → True) ∧ (NIs (inB p1 (imin a1 b1) (imax a1 b1)) true → True) ∧ (NIs (inB p1 (imin a1 b1) (imax a1 b1)) true → (True)) ∧ (True) ∧ (True) ∧ True) ∧ (((bite (inB p1 (imin a1 b1) (imax a1 b1)) (inB p2 (imin a2 b2) (imax a2 b2)) false) : Bool) = (btW a1 a2 b1 b2 p1 p2)) ∧ True) = ev sig_impl_between xs_impl_between Try.f93.ntmps (fun b => []) (codeOf Try.f93) 0 (initS [.agg [.int a1, .int a2], .agg [.int b1, .int b2], .agg [.int p1, .int p2]]) (retK Try.f93.results.toList [.s (.bool (btW a1 a2 b1 b2 p1 p2))]) := by kernel_rfl
set_option maxHeartbeats 400000 in
theorem F_impl_between : FunOK 93 g_impl_between := by
  refine fun_F (by kernel_rfl) Try.func93 rfl (by kernel_rfl) sig_impl_between_ok xs_impl_between_ok ?_
  intro avs sg h hn hl
  unfold g_impl_between at h
  split at h
  · rename_i a1 a2 b1 b2 p1 p2
    injection h with h; subst h
    refine ⟨by kernel_rfl, fun b => [], Eq.mp (V_impl_between a1 a2 b1 b2 p1 p2) ?_⟩
    simp only [true_and, and_true, implies_true, and_self, forall_const, true_implies, lenA, lenL, SV.lenOK, Cont.lenOK] at hn hl ⊢
    simp only [ilt_t, ilt_f, ile_t, ile_f, ieq_t, ieq_f, bnot_e, band_e, bite_and, bite_or, NLt_e, NLe_e, NNe_e, NIs_e, imax_e, imin_e, irem_e, Bool.not_eq_true', Bool.not_eq_false', Bool.and_eq_true, Bool.or_eq_true, Bool.or_eq_false_iff, Bool.and_eq_false_iff, Cont.pts.injEq, Cont.ints.injEq, Cont.bools.injEq, Cont.ptss.injEq, Cont.intss.injEq, Cont.boolss.injEq, true_and, and_true, implies_true]
    rfl
  · cases h
def g_impl_meet : List AV → Option Sg
  | [.agg [.int a1, .int a2], .agg [.int b1, .int b2], .agg [.int c1, .int c2], .agg [.int d1, .int d2]] => some ⟨vB a1 a2 = true ∧ vB b1 b2 = true ∧ vB c1 c2 = true ∧ vB d1 d2 = true, [.s (.bool (meetB (a1, a2) (b1, b2) (c1, c2) (d1, d2)))]⟩
  | _ => none
def sig_impl_meet : FuncId → List AV → Option Sg := sigL [(53, g_impl_cross), (82, g_cmp_Compare_int), (93, g_impl_between)]
def xs_impl_meet : XS := ⟨xsigL [], ysigL []⟩
theorem sig_impl_meet_ok : SigOK sig_impl_meet := sigL_cons F_impl_cross (sigL_cons F_cmp_Compare_int (sigL_cons F_impl_between sigL_nil))
theorem xs_impl_meet_ok : XSigOK xs_impl_meet := ⟨xsigL_nil, ysigL_nil⟩
theorem V_impl_meet (a1 : Int) (a2 : Int) (b1 : Int) (b2 : Int) (c1 : Int) (c2 : Int) (d1 : Int) (d2 : Int) : ((true = true) ∧ ((True) ∧ (True) ∧ (True) ∧ (True) ∧ (True) ∧ True) ∧ (true = true) ∧ ((True) ∧ (True) ∧ (True) ∧ ((True)) ∧ ((True)) ∧ (True) ∧ (True) ∧ (True) ∧ ((True)) ∧ ((True)) ∧ (True) ∧ (True) ∧ True) ∧ (true = true) ∧ ((True) ∧ (True) ∧ (True) ∧ ((True)) ∧ ((True)) ∧ (True) ∧ (True) ∧ (True) ∧ ((True)) ∧ ((True)) ∧ (True) ∧ (True) ∧ True) ∧ (true = true) ∧ ((True) ∧ (True) ∧ (True) ∧ (True) ∧ (True) ∧ (NIs (ilt (imul (sgn ((crW a1 a2 b1 b2 c1 c2) - (0 : Int))) (sgn ((crW a1 a2 b1 b2 d1 d2) - (0 : Int)))) (0 : Int)) true → True) ∧ (NIs (ilt (imul (sgn ((crW a1 a2 b1 b2 c1 c2) - (0 : Int))) (sgn ((crW a1 a2 b1 b2 d1 d2) - (0 : Int)))) (0 : Int)) true → True) ∧ (NIs (ilt (imul (sgn ((crW a1 a2 b1 b2 c1 c2) - (0 : Int))) (sgn ((crW a1 a2 b1 b2 d1 d2) - (0 : Int)))) (0 : Int)) true → True) ∧ (NIs (ilt (imul (sgn ((crW a1 a2 b1 b2 c1 c2) - (0 : Int))) (sgn ((crW a1 a2 b1 b2 d1 d2) - (0 : Int)))) (0 : Int)) true → True) ∧ (True) ∧ True) ∧ ((bite (ilt (imul (sgn ((crW a1 a2 b1 b2 c1 c2) - (0 : Int))) (sgn ((crW a1 a2 b1 b2 d1 d2) - (0 : Int)))) (0 : Int)) (ilt (imul (sgn ((crW c1 c2 d1 d2 a1 a2) - (0 : Int))) (sgn ((crW c1 c2 d1 d2 b1 b2) - (0 : Int)))) (0 : Int)) false) = true → ((true = true) ∧ ((True) ∧ True) ∧ ((true : Bool) = (meetB (a1, a2) (b1, b2) (c1, c2) (d1, d2))) ∧ True)) ∧ ((bite (ilt (imul (sgn ((crW a1 a2 b1 b2 c1 c2) - (0 : Int))) (sgn ((crW a1 a2 b1 b2 d1 d2) - (0 : Int)))) (0 : Int)) (ilt (imul (sgn ((crW c1 c2 d1 d2 a1 a2) - (0 : Int))) (sgn ((crW c1 c2 d1 d2 b1 b2) - (0 : Int)))) (0 : Int)) false) = false → ((true = true) ∧ ((True) ∧ (True) ∧ (True) ∧ (NIs (ieq (sgn ((crW a1 a2 b1 b2 c1 c2) - (0 : Int))) (0 : Int)) true → True) ∧ (NIs (ieq (sgn ((crW a1 a2 b1 b2 c1 c2) - (0 : Int))) (0 : Int)) true → True) ∧ (NIs (ieq (sgn ((crW a1 a2 b1 b2 c1 c2) - (0 : Int))) (0 : Int)) true → True) ∧ (NIs (ieq (sgn ((crW a1 a2 b1 b2 c1 c2) - (0 : Int))) (0 : Int)) true → (True)) ∧ (True) ∧ (True) ∧ (NIs (bite (ieq (sgn ((crW a1 a2 b1 b2 c1 c2) - (0 : Int))) (0 : Int)) (btW a1 a2 b1 b2 c1 c2) false) false → True) ∧ (NIs (bite (ieq (sgn ((crW a1 a2 b1 b2 c1 c2) - (0 : Int))) (0 : Int)) (btW a1 a2 b1 b2 c1 c2) false) false → True) ∧ (NIs (bite (ieq (sgn ((crW a1 a2 b1 b2 c1 c2) - (0 : Int))) (0 : Int)) (btW a1 a2 b1 b2 c1 c2) false) false → True) ∧ (NIs (bite (ieq (sgn ((crW a1 a2 b1 b2 c1 c2) - (0 : Int))) (0 : Int)) (btW a1 a2 b1 b2 c1 c2) false) false → (NIs (ieq (sgn ((crW a1 a2 b1 b2 d1 d2) - (0 : Int))) (0 : Int)) true → True)) ∧ (NIs (bite (ieq (sgn ((crW a1 a2 b1 b2 c1 c2) - (0 : Int))) (0 : Int)) (btW a1 a2 b1 b2 c1 c2) false) false → (NIs (ieq (sgn ((crW a1 a2 b1 b2 d1 d2) - (0 : Int))) (0 : Int)) true → True)) ∧ (NIs (bite (ieq (sgn ((crW a1 a2 b1 b2 c1 c2) - (0 : Int))) (0 : Int)) (btW a1 a2 b1 b2 c1 c2) false) false → (NIs (ieq (sgn ((crW a1 a2 b1 b2 d1 d2) - (0 : Int))) (0 : Int)) true → True)) ∧ (NIs (bite (ieq (sgn ((crW a1 a2 b1 b2 c1 c2) - (0 : Int))) (0 : Int)) (btW a1 a2 b1 b2 c1 c2) false) false → (NIs (ieq (sgn ((crW a1 a2 b1 b2 d1 d2) - (0 : Int))) (0 : Int)) true → (True))) ∧ (NIs (bite (ieq (sgn ((crW a1 a2 b1 b2 c1 c2) - (0 : Int))) (0 : Int)) (btW a1 a2 b1 b2 c1 c2) false) false → True) ∧ (True) ∧ (True) ∧ (NIs (bite (bite (ieq (sgn ((crW a1 a2 b1 b2 c1 c2) - (0 : Int))) (0 : Int)) (btW a1 a2 b1 b2 c1 c2) false) true (bite (ieq (sgn ((crW a1 a2 b1 b2 d1 d2) - (0 : Int))) (0 : Int)) (btW a1 a2 b1 b2 d1 d2) false)) false → True) ∧ (NIs (bite (bite (ieq (sgn ((crW a1 a2 b1 b2 c1 c2) - (0 : Int))) (0 : Int)) (btW a1 a2 b1 b2 c1 c2) false) true (bite (ieq (sgn ((crW a1 a2 b1 b2 d1 d2) - (0 : Int))) (0 : Int)) (btW a1 a2 b1 b2 d1 d2) false)) false → True) ∧ (NIs (bite (bite (ieq (sgn ((crW a1 a2 b1 b2 c1 c2) - (0 : Int))) (0 : Int)) (btW a1 a2 b1 b2 c1 c2) false) true (bite (ieq (sgn ((crW a1 a2 b1 b2 d1 d2) - (0 : Int))) (0 : Int)) (btW a1 a2 b1 b2 d1 d2) false)) false → True) ∧ (NIs (bite (bite (ieq (sgn ((crW a1 a2 b1 b2 c1 c2) - (0 : Int))) (0 : Int)) (btW a1 a2 b1 b2 c1 c2) false) true (bite (ieq (sgn ((crW a1 a2 b1 b2 d1 d2) - (0 : Int))) (0 : Int)) (btW a1 a2 b1 b2 d1 d2) false)) false → (NIs (ieq (sgn ((crW c1 c2 d1 d2 a1 a2) - (0 : Int))) (0 : Int)) true → True)) ∧ (NIs (bite (bite (ieq (sgn ((crW a1 a2 b1 b2 c1 c2) - (0 : Int))) (0 : Int)) (btW a1 a2 b1 b2 c1 c2) false) true (bite (ieq (sgn ((crW a1 a2 b1 b2 d1 d2) - (0 : Int))) (0 : Int)) (btW a1 a2 b1 b2 d1 d2) false)) false → (NIs (ieq (sgn ((crW c1 c2 d1 d2 a1 a2) - (0 : Int))) (0 : Int)) true → True)) ∧ (NIs (bite (bite (ieq (sgn ((crW a1 a2 b1 b2 c1 c2) - (0 : Int))) (0 : Int)) (btW a1 a2 b1 b2 c1 c2) false) true (bite (ieq (sgn ((crW a1 a2 b1 b2 d1 d2) - (0 : Int))) (0 : Int)) (btW a1 a2 b1 b2 d1 d2) false)) false → (NIs (ieq (sgn ((crW c1 c2 d1 d2 a1 a2) - (0 : Int))) (0 : Int)) true → True)) ∧ (NIs (bite (bite (ieq (sgn ((crW a1 a2 b1 b2 c1 c2) - (0 : Int))) (0 : Int)) (btW a1 a2 b1 b2 c1 c2) false) true (bite (ieq (sgn ((crW a1 a2 b1 b2 d1 d2) - (0 : Int))) (0 : Int)) (btW a1 a2 b1 b2 d1 d2) false)) false → (NIs (ieq (sgn ((crW c1 c2 d1 d2 a1 a2) - (0 : Int))) (0 : Int)) true → (True))) ∧ (NIs (bite (bite (ieq (sgn ((crW a1 a2 b1 b2 c1 c2) - (0 : Int))) (0 : Int)) (btW a1 a2 b1 b2 c1 c2) false) true (bite (ieq (sgn ((crW a1 a2 b1 b2 d1 d2) - (0 : Int))) (0 : Int)) (btW a1 a2 b1 b2 d1 d2) false)) false → True) ∧ (True) ∧ (True) ∧ (NIs (bite (bite (bite (ieq (sgn ((crW a1 a2 b1 b2 c1 c2) - (0 : Int))) (0 : Int)) (btW a1 a2 b1 b2 c1 c2) false) true (bite (ieq (sgn ((crW a1 a2 b1 b2 d1 d2) - (0 : Int))) (0 : Int)) (btW a1 a2 b1 b2 d1 d2) false)) true (bite (ieq (sgn ((crW c1 c2 d1 d2 a1 a2) - (0 : Int))) (0 : Int)) (btW c1 c2 d1 d2 a1 a2) false)) false → True) ∧ (NIs (bite (bite (bite (ieq (sgn ((crW a1 a2 b1 b2 c1 c2) - (0 : Int))) (0 : Int)) (btW a1 a2 b1 b2 c1 c2) false) true (bite (ieq (sgn ((crW a1 a2 b1 b2 d1 d2) - (0 : Int))) (0 : Int)) (btW a1 a2 b1 b2 d1 d2) false)) true (bite (ieq (sgn ((crW c1 c2 d1 d2 a1 a2) - (0 : Int))) (0 : Int)) (btW c1 c2 d1 d2 a1 a2) false)) false → True) ∧ (NIs (bite (bite (bite (ieq (sgn ((crW a1 a2 b1 b2 c1 c2) - (0 : Int))) (0 : Int)) (btW a1 a2 b1 b2 c1 c2) false) true (bite (ieq (sgn ((crW a1 a2 b1 b2 d1 d2) - (0 : Int))) (0 : Int)) (btW a1 a2 b1 b2 d1 d2) false)) true (bite (ieq (sgn ((crW c1 c2 d1 d2 a1 a2) - (0 : Int))) (0 : Int)) (btW c1 c2 d1 d2 a1 a2) false)) false → True) ∧ (NIs (bite (bite (bite (ieq (sgn ((crW a1 a2 b1 b2 c1 c2) - (0 : Int))) (0 : Int)) (btW a1 a2 b1 b2 c1 c2) false) true (bite (ieq (sgn ((crW a1 a2 b1 b2 d1 d2) - (0 : Int))) (0 : Int)) (btW a1 a2 b1 b2 d1 d2) false)) true (bite (ieq (sgn ((crW c1 c2 d1 d2 a1 a2) - (0 : Int))) (0 : Int)) (btW c1 c2 d1 d2 a1 a2) false)) false → (NIs (ieq (sgn ((crW c1 c2 d1 d2 b1 b2) - (0 : Int))) (0 : Int)) true → True)) ∧ (NIs (bite (bite (bite (ieq (sgn ((crW a1 a2 b1 b2 c1 c2) - (0 : Int))) (0 : Int)) (btW a1 a2 b1 b2 c1 c2) false) true (bite (ieq (sgn ((crW a1 a2 b1 b2 d1 d2) - (0 : Int))) (0 : Int)) (btW a1 a2 b1 b2 d1 d2) false)) true (bite (ieq (sgn ((crW c1 c2 d1 d2 a1 a2) - (0 : Int))) (0 : Int)) (btW c1 c2 d1 d2 a1 a2) false)) false → (NIs (ieq (sgn ((crW c1 c2 d1 d2 b1 b2) - (0 : Int))) (0 : Int)) true → True)) ∧ (NIs (bite (bite (bite (ieq (sgn ((crW a1 a2 b1 b2 c1 c2) - (0 : Int))) (0 : Int)) (btW a1 a2 b1 b2 c1 c2) false) true (bite (ieq (sgn ((crW a1 a2 b1 b2 d1 d2) - (0 : Int))) (0 : Int)) (btW a1 a2 b1 b2 d1 d2) false)) true (bite (ieq (sgn ((crW c1 c2 d1 d2 a1 a2) - (0 : Int))) (0 : Int)) (btW c1 c2 d1 d2 a1 a2) false)) false → (NIs (ieq (sgn ((crW c1 c2 d1 d2 b1 b2) - (0 : Int))) (0 : Int)) true → True)) ∧ (NIs (bite (bite (bite (ieq (sgn ((crW a1 a2 b1 b2 c1 c2) - (0 : Int))) (0 : Int)) (btW a1 a2 b1 b2 c1 c2) false) true (bite (ieq (sgn ((crW a1 a2 b1 b2 d1 d2) - (0 : Int))) (0 : Int)) (btW a1 a2 b1 b2 d1 d2) false)) true (bite (ieq (sgn ((crW c1 c2 d1 d2 a1 a2) - (0 : Int))) (0 : Int)) (btW c1 c2 d1 d2 a1 a2) false)) false → (NIs (ieq (sgn ((crW c1 c2 d1 d2 b1 b2) - (0 : Int))) (0 : Int)) true → (True))) ∧ (NIs (bite (bite (bite (ieq (sgn ((crW a1 a2 b1 b2 c1 c2) - (0 : Int))) (0 : Int)) (btW a1 a2 b1 b2 c1 c2) false) true (bite (ieq (sgn ((crW a1 a2 b1 b2 d1 d2) - (0 : Int))) (0 : Int)) (btW a1 a2 b1 b2 d1 d2) false)) true (bite (ieq (sgn ((crW c1 c2 d1 d2 a1 a2) - (0 : Int))) (0 : Int)) (btW c1 c2 d1 d2 a1 a2) false)) false → True) ∧ (True) ∧ (True) ∧ True) ∧ (((bite (bite (bite (bite (ieq (sgn ((crW a1 a2 b1 b2 c1 c2) - (0 : Int))) (0 : Int)) (btW a1 a2 b1 b2 c1 c2) false) true (bite (ieq (sgn ((crW a1 a2 b1 b2 d1 d2) - (0 : Int))) (0 : Int)) (btW a1 a2 b1 b2 d1 d2) false)) true (bite (ieq (sgn ((crW c1 c2 d1 d2 a1 a2) - (0 : Int))) (0 : Int)) (btW c1 c2 d1 d2 a1 a2) false)) true (bite (ieq (sgn ((crW c1 c2 d1 d2 b1 b2) - (0 : Int))) (0 : Int)) (btW c1 c2 d1 d2 b1 b2) false)) : Bool) = (meetB (a1, a2) (b1, b2) (c1, c2) (d1, d2))) ∧ True))) = ev sig_impl_meet xs_impl_meet Try.f69.ntmps (fun b => []) (codeOf Try.f69) 0 (initS [.agg [.int a1, .int a2], .agg [.int b1, .int b2], .agg [.int c1, .int c2], .agg [.int d1, .int d2]]) (retK Try.f69.results.toList [.s (.bool (meetB (a1, a2) (b1, b2) (c1, c2) (d1, d2)))]) := by kernel_rfl
set_option maxHeartbeats 400000 in
theorem F_impl_meet : FunOK 69 g_impl_meet := by
  refine fun_F (by kernel_rfl) Try.func69 rfl (by kernel_rfl) sig_impl_meet_ok xs_impl_meet_ok ?_
  intro avs sg h hn hl
  unfold g_impl_meet at h
  split at h
  · rename_i a1 a2 b1 b2 c1 c2 d1 d2
    injection h with h; subst h
    refine ⟨by kernel_rfl, fun b => [], Eq.mp (V_impl_meet a1 a2 b1 b2 c1 c2 d1 d2) ?_⟩
    simp only [true_and, and_true, implies_true, and_self, forall_const, true_implies, lenA, lenL, SV.lenOK, Cont.lenOK] at hn hl ⊢
    obtain ⟨va, vb, vc, vd⟩ := hn
    simp only [ilt_t, ilt_f, ile_t, ile_f, ieq_t, ieq_f, bnot_e, band_e, bite_and, bite_or, NLt_e, NLe_e, NNe_e, NIs_e, imax_e, imin_e, irem_e, Bool.not_eq_true', Bool.not_eq_false', Bool.and_eq_true, Bool.or_eq_true, Bool.or_eq_false_iff, Bool.and_eq_false_iff, Cont.pts.injEq, Cont.ints.injEq, Cont.bools.injEq, Cont.ptss.injEq, Cont.intss.injEq, Cont.boolss.injEq, true_and, and_true, implies_true, crW_e va vb vc, crW_e va vb vd, crW_e vc vd va, crW_e vc vd vb, btW_e, Int.sub_zero, imul_sgn, ieq_sgn]
    unfold meetB
    generalize crs (a1, a2) (b1, b2) (c1, c2) = x1 at *
    generalize crs (a1, a2) (b1, b2) (d1, d2) = x2 at *
    generalize crs (c1, c2) (d1, d2) (a1, a2) = x3 at *
    generalize crs (c1, c2) (d1, d2) (b1, b2) = x4 at *
    refine ⟨fun h => by simp [h.1, h.2], fun h => ?_⟩
    have e : (decide (sgn x1 * sgn x2 < 0) && decide (sgn x3 * sgn x4 < 0)) = false := by
      rcases h with h | h <;> simp [h] <;> omega
    rw [e, Bool.false_or]
  · cases h
def hitE (l : List Pt) (a1 a2 b1 b2 i : Int) : Bool := meetB (a1, a2) (b1, b2) (getx l i, gety l i) (getx l (nx l i), gety l (nx l i))
def hitB (l : List Pt) (a1 a2 b1 b2 : Int) : Bool := insB l a1 a2 || insB l b1 b2 || anyN (ilen l) (hitE l a1 a2 b1 b2)
theorem allB_at {l : List Pt} (h : allB l = true) {i : Int} (h0 : 0 ≤ i) (h1 : i < ilen l) : vB (getx l i) (gety l i) = true := by
  rw [allB_N] at h; exact allN_iff.1 h i h0 h1
theorem convB_all {l : List Pt} (h : convB l = true) : 3 ≤ ilen l ∧ ilen l ≤ 8 ∧ allB l = true := by
  unfold convB at h
  simp only [Bool.and_eq_true] at h
  exact ⟨(inB_true h.1.1).1, (inB_true h.1.1).2, h.1.2⟩
theorem allB_2 (a1 a2 b1 b2 : Int) : allB [(a1, a2), (b1, b2)] = (vB a1 a2 && vB b1 b2) := by simp [allB]
def g_impl_hits : List AV → Option Sg
  | [.s (.view (.pts l)), .agg [.int a1, .int a2], .agg [.int b1, .int b2]] => some ⟨allB l = true ∧ vB a1 a2 = true ∧ vB b1 b2 = true, [.s (.bool (hitB l a1 a2 b1 b2))]⟩
  | _ => none
def sig_impl_hits : FuncId → List AV → Option Sg := sigL [(63, g_impl_inside), (69, g_impl_meet)]
def xs_impl_hits : XS := ⟨xsigL [], ysigL []⟩
theorem sig_impl_hits_ok : SigOK sig_impl_hits := sigL_cons F_impl_inside (sigL_cons F_impl_meet sigL_nil)
theorem xs_impl_hits_ok : XSigOK xs_impl_hits := ⟨xsigL_nil, ysigL_nil⟩
theorem V_impl_hits (l : List Pt) (a1 : Int) (a2 : Int) (b1 : Int) (b2 : Int) : ((true = true) ∧ ((True) ∧ (True) ∧ (True) ∧ True) ∧ (true = true) ∧ ((True) ∧ (True) ∧ ((True)) ∧ (True) ∧ (NIs (insB l a1 a2) false → True) ∧ (NIs (insB l a1 a2) false → True) ∧ (NIs (insB l a1 a2) false → (True)) ∧ (True) ∧ True) ∧ ((bite (insB l a1 a2) true (insB l b1 b2)) = true → ((true = true) ∧ ((True) ∧ True) ∧ ((true : Bool) = (hitB l a1 a2 b1 b2)) ∧ True)) ∧ ((bite (insB l a1 a2) true (insB l b1 b2)) = false → ((true = true) ∧ ((True) ∧ (True) ∧ (True) ∧ True) ∧ ∃ (I1 : List GV → Prop) (μ1 : List GV → Nat), (((true = true) ∧ (((false : Bool) = false) ∧ (((0 : Int) : Int) = (0 : Int)) ∧ ((Cont.pts l) = (Cont.pts l)) ∧ (((ilen l) : Int) = (ilen l)) ∧ ((Cont.pts l) = (Cont.pts l)) ∧ (((a1 : Int) = a1) ∧ ((a2 : Int) = a2) ∧ True) ∧ (((insB l a1 a2) : Bool) = (insB l a1 a2)) ∧ (((insB l a1 a2) : Bool) = (insB l a1 a2)) ∧ (((bite (insB l a1 a2) true (insB l b1 b2)) : Bool) = (bite (insB l a1 a2) true (insB l b1 b2))) ∧ (true = true) ∧ (true = true) ∧ ((Cont.pts l) = (Cont.pts l)) ∧ (((a1 : Int) = a1) ∧ ((a2 : Int) = a2) ∧ True) ∧ (((b1 : Int) = b1) ∧ ((b2 : Int) = b2) ∧ True) ∧ True) ∧ ((((a1 : Int) = a1) ∧ ((a2 : Int) = a2) ∧ True) ∧ (((b1 : Int) = b1) ∧ ((b2 : Int) = b2) ∧ True) ∧ True)) ∧ (([GK.int, GK.bool] : List GK) = ([GK.int, GK.bool] : List GK)) ∧ I1 [GV.int (0 : Int), GV.bool false]) ∧ (∀ i1_0 : Int, ∀ b1_1 : Bool, I1 [GV.int i1_0, GV.bool b1_1] → ((true = true) ∧ ((True) ∧ True) ∧ ((ilt i1_0 (ilen l)) = true → ((true = true) ∧ ((True) ∧ (NLe 0 i1_0 ∧ NLt i1_0 (ilen l)) ∧ (True) ∧ (True) ∧ (True) ∧ True) ∧ (True) ∧ (true = true) ∧ ((True) ∧ (True) ∧ (True) ∧ (True) ∧ (True) ∧ (True) ∧ (True) ∧ (True) ∧ (NNe (ilen l) 0) ∧ (NLe 0 (irem (iadd i1_0 (1 : Int)) (ilen l)) ∧ NLt (irem (iadd i1_0 (1 : Int)) (ilen l)) (ilen l)) ∧ (True) ∧ ((vB a1 a2 = true ∧ vB b1 b2 = true ∧ vB (getx l i1_0) (gety l i1_0) = true ∧ vB (getx l (irem (iadd i1_0 (1 : Int)) (ilen l))) (gety l (irem (iadd i1_0 (1 : Int)) (ilen l))) = true)) ∧ True) ∧ ((meetB (a1, a2) (b1, b2) ((getx l i1_0), (gety l i1_0)) ((getx l (irem (iadd i1_0 (1 : Int)) (ilen l))), (gety l (irem (iadd i1_0 (1 : Int)) (ilen l))))) = true → ((true = true) ∧ ((True) ∧ True) ∧ ((true : Bool) = (hitB l a1 a2 b1 b2)) ∧ True)) ∧ ((meetB (a1, a2) (b1, b2) ((getx l i1_0), (gety l i1_0)) ((getx l (irem (iadd i1_0 (1 : Int)) (ilen l))), (gety l (irem (iadd i1_0 (1 : Int)) (ilen l))))) = false → ((true = true) ∧ ((True) ∧ (True) ∧ True) ∧ ((true = true) ∧ (((b1_1 : Bool) = b1_1) ∧ (((iadd i1_0 (1 : Int)) : Int) = (iadd i1_0 (1 : Int))) ∧ ((Cont.pts l) = (Cont.pts l)) ∧ (((ilen l) : Int) = (ilen l)) ∧ ((Cont.pts l) = (Cont.pts l)) ∧ (((a1 : Int) = a1) ∧ ((a2 : Int) = a2) ∧ True) ∧ (((insB l a1 a2) : Bool) = (insB l a1 a2)) ∧ (((insB l a1 a2) : Bool) = (insB l a1 a2)) ∧ (((bite (insB l a1 a2) true (insB l b1 b2)) : Bool) = (bite (insB l a1 a2) true (insB l b1 b2))) ∧ (true = true) ∧ (true = true) ∧ ((Cont.pts l) = (Cont.pts l)) ∧ (((a1 : Int) = a1) ∧ ((a2 : Int) = a2) ∧ True) ∧ (((b1 : Int) = b1) ∧ ((b2 : Int) = b2) ∧ True) ∧ True) ∧ ((((a1 : Int) = a1) ∧ ((a2 : Int) = a2) ∧ True) ∧ (((b1 : Int) = b1) ∧ ((b2 : Int) = b2) ∧ True) ∧ True)) ∧ ((([GK.int, GK.bool] : List GK) = ([GK.int, GK.bool] : List GK)) ∧ I1 [GV.int (iadd i1_0 (1 : Int)), GV.bool b1_1] ∧ μ1 [GV.int (iadd i1_0 (1 : Int)), GV.bool b1_1] < μ1 [GV.int i1_0, GV.bool b1_1]))))) ∧ ((ilt i1_0 (ilen l)) = false → ((true = true) ∧ ((True) ∧ True) ∧ ((false : Bool) = (hitB l a1 a2 b1 b2)) ∧ True))))))) = ev sig_impl_hits xs_impl_hits Try.f66.ntmps (fun b => if b == 0 then [.v 19, .v 6] else []) (codeOf Try.f66) 0 (initS [.s (.view (.pts l)), .agg [.int a1, .int a2], .agg [.int b1, .int b2]]) (retK Try.f66.results.toList [.s (.bool (hitB l a1 a2 b1 b2))]) := by kernel_rfl
set_option maxHeartbeats 400000 in
theorem F_impl_hits : FunOK 66 g_impl_hits := by
  refine fun_F (by kernel_rfl) Try.func66 rfl (by kernel_rfl) sig_impl_hits_ok xs_impl_hits_ok ?_
  intro avs sg h hn hl
  unfold g_impl_hits at h
  split at h
  · rename_i l a1 a2 b1 b2
    injection h with h; subst h
    refine ⟨by kernel_rfl, fun b => if b == 0 then [.v 19, .v 6] else [], Eq.mp (V_impl_hits l a1 a2 b1 b2) ?_⟩
    simp only [true_and, and_true, implies_true, and_self, forall_const, true_implies, lenA, lenL, SV.lenOK, Cont.lenOK] at hn hl ⊢
    have h0 := ilen_0 l
    obtain ⟨ha, va, vb⟩ := hn
    simp only [ilt_t, ilt_f, ile_t, ile_f, ieq_t, ieq_f, bnot_e, band_e, bite_and, bite_or, NLt_e, NLe_e, NNe_e, NIs_e, imax_e, imin_e, irem_e, Bool.not_eq_true', Bool.not_eq_false', Bool.and_eq_true, Bool.or_eq_true, Bool.or_eq_false_iff, Bool.and_eq_false_iff, Cont.pts.injEq, Cont.ints.injEq, Cont.bools.injEq, Cont.ptss.injEq, Cont.intss.injEq, Cont.boolss.injEq, true_and, and_true, implies_true]
    refine ⟨?_, fun hi => ?_⟩
    · rintro (h | h) <;> simp [hitB, h]
    · refine ⟨fun | .int k :: _ => 0 ≤ k ∧ k ≤ ilen l ∧ (∀ i, 0 ≤ i → i < k → hitE l a1 a2 b1 b2 i = false) | _ => False, fun | .int k :: _ => (ilen l - k).toNat | _ => 0, ?_, ?_⟩
      · exact ⟨Int.le_refl 0, h0, fun j h0 h1 => absurd h1 (by omega)⟩
      · rintro k _ ⟨hk0, hk1, hk⟩
        simp only [ilt_t, ilt_f, ile_t, ile_f, ieq_t, ieq_f, bnot_e, band_e, bite_and, bite_or, NLt_e, NLe_e, NNe_e, NIs_e, imax_e, imin_e, irem_e, Bool.not_eq_true', Bool.not_eq_false', Bool.and_eq_true, Bool.or_eq_true, Bool.or_eq_false_iff, Bool.and_eq_false_iff, Cont.pts.injEq, Cont.ints.injEq, Cont.bools.injEq, Cont.ptss.injEq, Cont.intss.injEq, Cont.boolss.injEq, true_and, and_true, implies_true]
        refine ⟨fun hkn => ?_, fun hkn => ?_⟩
        · have e1 := iadd_1 hk0 hkn hl
          obtain ⟨n0, n1, _⟩ := nx_in hk0 hkn
          have e2 : (k + 1).tmod (ilen l) = nx l k := rfl
          simp only [e1, e2]
          have hne : ilen l ≠ 0 := by omega
          have v1 := allB_at ha hk0 hkn
          have v2 := allB_at ha n0 n1
          refine ⟨⟨hk0, hkn⟩, ⟨hne, ⟨n0, n1⟩, va, vb, v1, v2⟩, fun hx => ?_, fun hx => ?_⟩
          · have hE : hitE l a1 a2 b1 b2 k = true := hx
            simp [hitB, anyN_mk k hk0 hkn hE]
          · have hE : hitE l a1 a2 b1 b2 k = false := hx
            exact ⟨⟨by omega, by omega, upTo hk hE⟩, by omega⟩
        · have : anyN (ilen l) (hitE l a1 a2 b1 b2) = false := anyN_no fun j j0 j1 => hk j j0 (by omega)
          simp [hitB, hi.1, hi.2, this]
  · cases h
def g_impl_SegmentHits : List AV → Option Sg
  | [.s (.view (.pts l)), .agg [.int a1, .int a2], .agg [.int b1, .int b2]] => some ⟨True, [.s (.bool (convB l && (vB a1 a2 && vB b1 b2) && hitB l a1 a2 b1 b2))]⟩
  | _ => none
def sig_impl_SegmentHits : FuncId → List AV → Option Sg := sigL [(15, g_impl_ConvexValid), (52, g_impl_allPoints), (66, g_impl_hits)]
def xs_impl_SegmentHits : XS := ⟨xsigL [], ysigL []⟩
theorem sig_impl_SegmentHits_ok : SigOK sig_impl_SegmentHits := sigL_cons F_impl_ConvexValid (sigL_cons F_impl_allPoints (sigL_cons F_impl_hits sigL_nil))
theorem xs_impl_SegmentHits_ok : XSigOK xs_impl_SegmentHits := ⟨xsigL_nil, ysigL_nil⟩
theorem V_impl_SegmentHits (l : List Pt) (a1 : Int) (a2 : Int) (b1 : Int) (b2 : Int) : ((true = true) ∧ ((True) ∧ (True) ∧ (True) ∧ True) ∧ (true = true) ∧ ((True) ∧ ((True)) ∧ (True) ∧ (NIs (convB l) true → True) ∧ (NIs (convB l) true → True) ∧ (NIs (convB l) true → True) ∧ (NIs (convB l) true → (True)) ∧ (True) ∧ (True) ∧ (NIs (bite (convB l) (allB [(a1, a2), (b1, b2)]) false) true → True) ∧ (NIs (bite (convB l) (allB [(a1, a2), (b1, b2)]) false) true → True) ∧ (NIs (bite (convB l) (allB [(a1, a2), (b1, b2)]) false) true → True) ∧ (NIs (bite (convB l) (allB [(a1, a2), (b1, b2)]) false) true → ((allB l = true ∧ vB a1 a2 = true ∧ vB b1 b2 = true))) ∧ (True) ∧ (True) ∧ True) ∧ (((bite (bite (convB l) (allB [(a1, a2), (b1, b2)]) false) (hitB l a1 a2 b1 b2) false) : Bool) = (convB l && (vB a1 a2 && vB b1 b2) && hitB l a1 a2 b1 b2)) ∧ True) = ev sig_impl_SegmentHits xs_impl_SegmentHits Try.f34.ntmps (fun b => []) (codeOf Try.f34) 0 (initS [.s (.view (.pts l)), .agg [.int a1, .int a2], .agg [.int b1, .int b2]]) (retK Try.f34.results.toList [.s (.bool (convB l && (vB a1 a2 && vB b1 b2) && hitB l a1 a2 b1 b2))]) := by kernel_rfl
set_option maxHeartbeats 400000 in
theorem F_impl_SegmentHits : FunOK 34 g_impl_SegmentHits := by
  refine fun_F (by kernel_rfl) Try.func34 rfl (by kernel_rfl) sig_impl_SegmentHits_ok xs_impl_SegmentHits_ok ?_
  intro avs sg h hn hl
  unfold g_impl_SegmentHits at h
  split at h
  · rename_i l a1 a2 b1 b2
    injection h with h; subst h
    refine ⟨by kernel_rfl, fun b => [], Eq.mp (V_impl_SegmentHits l a1 a2 b1 b2) ?_⟩
    simp only [true_and, and_true, implies_true, and_self, forall_const, true_implies, lenA, lenL, SV.lenOK, Cont.lenOK] at hn hl ⊢
    simp only [ilt_t, ilt_f, ile_t, ile_f, ieq_t, ieq_f, bnot_e, band_e, bite_and, bite_or, NLt_e, NLe_e, NNe_e, NIs_e, imax_e, imin_e, irem_e, Bool.not_eq_true', Bool.not_eq_false', Bool.and_eq_true, Bool.or_eq_true, Bool.or_eq_false_iff, Bool.and_eq_false_iff, Cont.pts.injEq, Cont.ints.injEq, Cont.bools.injEq, Cont.ptss.injEq, Cont.intss.injEq, Cont.boolss.injEq, true_and, and_true, implies_true, allB_2]
    rintro ⟨h1, h2, h3⟩
    exact ⟨(convB_all h1).2.2, h2, h3⟩
  · cases h
def g_spec_l2Sign : List AV → Option Sg
  | [.s (.int n)] => some ⟨True, [.s (.int (sgn n))]⟩
  | _ => none
def sig_spec_l2Sign : FuncId → List AV → Option Sg := sigL []
def xs_spec_l2Sign : XS := ⟨xsigL [], ysigL []⟩
theorem sig_spec_l2Sign_ok : SigOK sig_spec_l2Sign := sigL_nil
theorem xs_spec_l2Sign_ok : XSigOK xs_spec_l2Sign := ⟨xsigL_nil, ysigL_nil⟩
theorem V_spec_l2Sign (n : Int) : ((true = true) ∧ ((True) ∧ True) ∧ (true = true) ∧ ((True) ∧ (True) ∧ (True) ∧ True) ∧ ((ilt (0 : Int) n) = true → ((true = true) ∧ ((True) ∧ True) ∧ (((1 : Int) : Int) = (sgn n)) ∧ True)) ∧ ((ilt (0 : Int) n) = false → ((true = true) ∧ ((True) ∧ (True) ∧ (True) ∧ True) ∧ ((ilt n (0 : Int)) = true → ((true = true) ∧ ((True) ∧ True) ∧ (((-1 : Int) : Int) = (sgn n)) ∧ True)) ∧ ((ilt n (0 : Int)) = false → ((true = true) ∧ ((True) ∧ True) ∧ (((0 : Int) : Int) = (sgn n)) ∧ True))))) = ev sig_spec_l2Sign xs_spec_l2Sign Try.f89.ntmps (fun b => []) (codeOf Try.f89) 0 (initS [.s (.int n)]) (retK Try.f89.results.toList [.s (.int (sgn n))]) := by kernel_rfl
set_option maxHeartbeats 400000 in
theorem F_spec_l2Sign : FunOK 89 g_spec_l2Sign := by
  refine fun_F (by kernel_rfl) Try.func89 rfl (by kernel_rfl) sig_spec_l2Sign_ok xs_spec_l2Sign_ok ?_
  intro avs sg h hn hl
  unfold g_spec_l2Sign at h
  split at h
  · rename_i n
    injection h with h; subst h
    refine ⟨by kernel_rfl, fun b => [], Eq.mp (V_spec_l2Sign n) ?_⟩
    simp only [true_and, and_true, implies_true, and_self, forall_const, true_implies, lenA, lenL, SV.lenOK, Cont.lenOK] at hn hl ⊢
    simp only [ilt_t, ilt_f, ile_t, ile_f, ieq_t, ieq_f, bnot_e, band_e, bite_and, bite_or, NLt_e, NLe_e, NNe_e, NIs_e, imax_e, imin_e, irem_e, Bool.not_eq_true', Bool.not_eq_false', Bool.and_eq_true, Bool.or_eq_true, Bool.or_eq_false_iff, Bool.and_eq_false_iff, Cont.pts.injEq, Cont.ints.injEq, Cont.bools.injEq, Cont.ptss.injEq, Cont.intss.injEq, Cont.boolss.injEq, true_and, and_true, implies_true]
    unfold sgn
    refine ⟨fun h => by rw [if_pos h], fun h => ⟨fun h2 => by rw [if_neg (by omega), if_pos h2], fun h2 => by rw [if_neg (by omega), if_neg (by omega)]⟩⟩
  · cases h
def orB (a1 a2 b1 b2 c1 c2 : Int) : Int := if vB a1 a2 && vB b1 b2 && vB c1 c2 then sgn (crW a1 a2 b1 b2 c1 c2) else 0
def orI (l : List Pt) (i j : Int) : Int := orB (getx l i) (gety l i) (getx l (nx l i)) (gety l (nx l i)) (getx l j) (gety l j)
def convF (l : List Pt) (i j : Int) : Bool := decide (j = i ∨ j = nx l i ∨ orI l i j = 1)
def convS (l : List Pt) : Bool := inB (ilen l) 3 8 && allN (ilen l) fun i => allN (ilen l) fun j => convF l i j
theorem convS_eq (l : List Pt) : convS l = convB l := by
  unfold convS convB
  cases h1 : inB (ilen l) 3 8 with
  | false => rfl
  | true =>
    have hl := inB_true h1
    simp only [Bool.true_and]
    cases h2 : allB l with
    | true =>
      simp only [Bool.true_and]
      refine allN_congr fun i i0 i1 => allN_congr fun j j0 j1 => ?_
      rw [allB_N] at h2
      have hv := allN_iff.1 h2
      obtain ⟨n0, n1, _⟩ := nx_in i0 i1
      have e : orI l i j = sgn (cr l i (nx l i) j) := by unfold orI orB cr; rw [hv i i0 i1, hv _ n0 n1, hv j j0 j1]; rfl
      unfold convF convE
      rw [e]
      have : (sgn (cr l i (nx l i) j) = 1) ↔ 0 < cr l i (nx l i) j := by unfold sgn; split <;> (try split) <;> omega
      simp only [this]
    | false =>
      simp only [Bool.false_and]
      rw [allB_N] at h2
      obtain ⟨j, j0, j1, hj⟩ : ∃ j, 0 ≤ j ∧ j < ilen l ∧ vB (getx l j) (gety l j) = false := by
        apply Classical.byContradiction
        intro hn
        rw [allN_mk fun j j0 j1 => by cases e : vB (getx l j) (gety l j) with | true => rfl | false => exact absurd ⟨j, j0, j1, e⟩ hn] at h2
        cases h2
      obtain ⟨n0, n1, n2⟩ := nx_in j0 j1
      obtain ⟨m0, m1, m2⟩ := nx_in n0 n1
      refine allN_no (nx l j) n0 n1 (allN_no j j0 j1 ?_)
      have e : orI l (nx l j) j = 0 := by unfold orI orB; rw [hj]; simp
      unfold convF
      rw [e]
      simp only [decide_eq_false_iff_not]
      omega
def g_spec_Orientation : List AV → Option Sg
  | [.agg [.int a1, .int a2], .agg [.int b1, .int b2], .agg [.int c1, .int c2]] => some ⟨True, [.s (.int (orB a1 a2 b1 b2 c1 c2))]⟩
  | _ => none
def sig_spec_Orientation : FuncId → List AV → Option Sg := sigL [(28, g_spec_PointValid), (57, g_spec_l2Cross), (89, g_spec_l2Sign)]
def xs_spec_Orientation : XS := ⟨xsigL [], ysigL []⟩
theorem sig_spec_Orientation_ok : SigOK sig_spec_Orientation := sigL_cons F_spec_PointValid (sigL_cons F_spec_l2Cross (sigL_cons F_spec_l2Sign sigL_nil))
theorem xs_spec_Orientation_ok : XSigOK xs_spec_Orientation := ⟨xsigL_nil, ysigL_nil⟩
theorem V_spec_Orientation (a1 : Int) (a2 : Int) (b1 : Int) (b2 : Int) (c1 : Int) (c2 : Int) : ((true = true) ∧ ((True) ∧ (True) ∧ (True) ∧ (True) ∧ True) ∧ (true = true) ∧ ((True) ∧ ((True)) ∧ (True) ∧ (True) ∧ (NIs (bnot (vB a1 a2)) false → True) ∧ (NIs (bnot (vB a1 a2)) false → (True)) ∧ (NIs (bnot (vB a1 a2)) false → True) ∧ (True) ∧ (True) ∧ (NIs (bite (bnot (vB a1 a2)) true (bnot (vB b1 b2))) false → True) ∧ (NIs (bite (bnot (vB a1 a2)) true (bnot (vB b1 b2))) false → (True)) ∧ (NIs (bite (bnot (vB a1 a2)) true (bnot (vB b1 b2))) false → True) ∧ (True) ∧ True) ∧ ((bite (bite (bnot (vB a1 a2)) true (bnot (vB b1 b2))) true (bnot (vB c1 c2))) = true → ((true = true) ∧ ((True) ∧ True) ∧ (((0 : Int) : Int) = (orB a1 a2 b1 b2 c1 c2)) ∧ True)) ∧ ((bite (bite (bnot (vB a1 a2)) true (bnot (vB b1 b2))) true (bnot (vB c1 c2))) = false → ((true = true) ∧ ((True) ∧ (True) ∧ (True) ∧ ((True)) ∧ ((True)) ∧ (True) ∧ True) ∧ (((sgn (crW a1 a2 b1 b2 c1 c2)) : Int) = (orB a1 a2 b1 b2 c1 c2)) ∧ True))) = ev sig_spec_Orientation xs_spec_Orientation Try.f55.ntmps (fun b => []) (codeOf Try.f55) 0 (initS [.agg [.int a1, .int a2], .agg [.int b1, .int b2], .agg [.int c1, .int c2]]) (retK Try.f55.results.toList [.s (.int (orB a1 a2 b1 b2 c1 c2))]) := by kernel_rfl
set_option maxHeartbeats 400000 in
theorem F_spec_Orientation : FunOK 55 g_spec_Orientation := by
  refine fun_F (by kernel_rfl) Try.func55 rfl (by kernel_rfl) sig_spec_Orientation_ok xs_spec_Orientation_ok ?_
  intro avs sg h hn hl
  unfold g_spec_Orientation at h
  split at h
  · rename_i a1 a2 b1 b2 c1 c2
    injection h with h; subst h
    refine ⟨by kernel_rfl, fun b => [], Eq.mp (V_spec_Orientation a1 a2 b1 b2 c1 c2) ?_⟩
    simp only [true_and, and_true, implies_true, and_self, forall_const, true_implies, lenA, lenL, SV.lenOK, Cont.lenOK] at hn hl ⊢
    simp only [ilt_t, ilt_f, ile_t, ile_f, ieq_t, ieq_f, bnot_e, band_e, bite_and, bite_or, NLt_e, NLe_e, NNe_e, NIs_e, imax_e, imin_e, irem_e, Bool.not_eq_true', Bool.not_eq_false', Bool.and_eq_true, Bool.or_eq_true, Bool.or_eq_false_iff, Bool.and_eq_false_iff, Cont.pts.injEq, Cont.ints.injEq, Cont.bools.injEq, Cont.ptss.injEq, Cont.intss.injEq, Cont.boolss.injEq, true_and, and_true, implies_true]
    unfold orB
    cases vB a1 a2 <;> cases vB b1 b2 <;> cases vB c1 c2 <;> simp
  · cases h
def g_spec_ConvexValid : List AV → Option Sg
  | [.s (.view (.pts l))] => some ⟨True, [.s (.bool (convB l))]⟩
  | _ => none
def sig_spec_ConvexValid : FuncId → List AV → Option Sg := sigL [(54, g_spec_l1In), (55, g_spec_Orientation)]
def xs_spec_ConvexValid : XS := ⟨xsigL [], ysigL []⟩
theorem sig_spec_ConvexValid_ok : SigOK sig_spec_ConvexValid := sigL_cons F_spec_l1In (sigL_cons F_spec_Orientation sigL_nil)
theorem xs_spec_ConvexValid_ok : XSigOK xs_spec_ConvexValid := ⟨xsigL_nil, ysigL_nil⟩
theorem V_spec_ConvexValid (l : List Pt) : ((true = true) ∧ ((True) ∧ True) ∧ (true = true) ∧ ((True) ∧ (True) ∧ (True) ∧ True) ∧ (true = true) ∧ ((True) ∧ ((True)) ∧ (True) ∧ True) ∧ ((bnot (inB (ilen l) (3 : Int) (8 : Int))) = true → ((true = true) ∧ ((True) ∧ True) ∧ ((false : Bool) = (convB l)) ∧ True)) ∧ ((bnot (inB (ilen l) (3 : Int) (8 : Int))) = false → ((true = true) ∧ ((True) ∧ True) ∧ ∃ (I1 : List GV → Prop) (μ1 : List GV → Nat), (((true = true) ∧ (((false : Bool) = false) ∧ (((0 : Int) : Int) = (0 : Int)) ∧ (((ilen l) : Int) = (ilen l)) ∧ (((inB (ilen l) (3 : Int) (8 : Int)) : Bool) = (inB (ilen l) (3 : Int) (8 : Int))) ∧ (((bnot (inB (ilen l) (3 : Int) (8 : Int))) : Bool) = (bnot (inB (ilen l) (3 : Int) (8 : Int)))) ∧ ((Cont.pts l) = (Cont.pts l)) ∧ (((ilen l) : Int) = (ilen l)) ∧ (((ilen l) : Int) = (ilen l)) ∧ ((Cont.pts l) = (Cont.pts l)) ∧ True) ∧ (True)) ∧ (([GK.int, GK.bool] : List GK) = ([GK.int, GK.bool] : List GK)) ∧ I1 [GV.int (0 : Int), GV.bool false]) ∧ (∀ i1_0 : Int, ∀ b1_1 : Bool, I1 [GV.int i1_0, GV.bool b1_1] → ((true = true) ∧ ((True) ∧ (True) ∧ (True) ∧ True) ∧ ((ilt i1_0 (ilen l)) = true → ((true = true) ∧ ((True) ∧ True) ∧ ∃ (I2 : List GV → Prop) (μ2 : List GV → Nat), (((true = true) ∧ (((b1_1 : Bool) = b1_1) ∧ (((0 : Int) : Int) = (0 : Int)) ∧ ((i1_0 : Int) = i1_0) ∧ (((ilen l) : Int) = (ilen l)) ∧ (((ilt i1_0 (ilen l)) : Bool) = (ilt i1_0 (ilen l))) ∧ ((i1_0 : Int) = i1_0) ∧ (((ilen l) : Int) = (ilen l)) ∧ (((inB (ilen l) (3 : Int) (8 : Int)) : Bool) = (inB (ilen l) (3 : Int) (8 : Int))) ∧ (((bnot (inB (ilen l) (3 : Int) (8 : Int))) : Bool) = (bnot (inB (ilen l) (3 : Int) (8 : Int)))) ∧ ((Cont.pts l) = (Cont.pts l)) ∧ (((ilen l) : Int) = (ilen l)) ∧ (((ilen l) : Int) = (ilen l)) ∧ ((Cont.pts l) = (Cont.pts l)) ∧ True) ∧ (True)) ∧ (([GK.int, GK.bool] : List GK) = ([GK.int, GK.bool] : List GK)) ∧ I2 [GV.int (0 : Int), GV.bool b1_1]) ∧ (∀ i2_0 : Int, ∀ b2_1 : Bool, I2 [GV.int i2_0, GV.bool b2_1] → ((true = true) ∧ ((True) ∧ (True) ∧ (True) ∧ True) ∧ ((ilt i2_0 (ilen l)) = true → ((true = true) ∧ ((True) ∧ (True) ∧ (True) ∧ (True) ∧ (NIs (bnot (ieq i2_0 i1_0)) true → True) ∧ (NIs (bnot (ieq i2_0 i1_0)) true → True) ∧ (NIs (bnot (ieq i2_0 i1_0)) true → True) ∧ (NIs (bnot (ieq i2_0 i1_0)) true → True) ∧ (NIs (bnot (ieq i2_0 i1_0)) true → NNe (ilen l) 0) ∧ (NIs (bnot (ieq i2_0 i1_0)) true → True) ∧ (True) ∧ (True) ∧ (NIs (bite (bnot (ieq i2_0 i1_0)) (bnot (ieq i2_0 (irem (iadd i1_0 (1 : Int)) (ilen l)))) false) true → True) ∧ (NIs (bite (bnot (ieq i2_0 i1_0)) (bnot (ieq i2_0 (irem (iadd i1_0 (1 : Int)) (ilen l)))) false) true → True) ∧ (NIs (bite (bnot (ieq i2_0 i1_0)) (bnot (ieq i2_0 (irem (iadd i1_0 (1 : Int)) (ilen l)))) false) true → (NLe 0 i1_0 ∧ NLt i1_0 (ilen l))) ∧ (NIs (bite (bnot (ieq i2_0 i1_0)) (bnot (ieq i2_0 (irem (iadd i1_0 (1 : Int)) (ilen l)))) false) true → True) ∧ (NIs (bite (bnot (ieq i2_0 i1_0)) (bnot (ieq i2_0 (irem (iadd i1_0 (1 : Int)) (ilen l)))) false) true → True) ∧ (NIs (bite (bnot (ieq i2_0 i1_0)) (bnot (ieq i2_0 (irem (iadd i1_0 (1 : Int)) (ilen l)))) false) true → True) ∧ (NIs (bite (bnot (ieq i2_0 i1_0)) (bnot (ieq i2_0 (irem (iadd i1_0 (1 : Int)) (ilen l)))) false) true → True) ∧ (NIs (bite (bnot (ieq i2_0 i1_0)) (bnot (ieq i2_0 (irem (iadd i1_0 (1 : Int)) (ilen l)))) false) true → True) ∧ (NIs (bite (bnot (ieq i2_0 i1_0)) (bnot (ieq i2_0 (irem (iadd i1_0 (1 : Int)) (ilen l)))) false) true → NNe (ilen l) 0) ∧ (NIs (bite (bnot (ieq i2_0 i1_0)) (bnot (ieq i2_0 (irem (iadd i1_0 (1 : Int)) (ilen l)))) false) true → (NLe 0 (irem (iadd i1_0 (1 : Int)) (ilen l)) ∧ NLt (irem (iadd i1_0 (1 : Int)) (ilen l)) (ilen l))) ∧ (NIs (bite (bnot (ieq i2_0 i1_0)) (bnot (ieq i2_0 (irem (iadd i1_0 (1 : Int)) (ilen l)))) false) true → True) ∧ (NIs (bite (bnot (ieq i2_0 i1_0)) (bnot (ieq i2_0 (irem (iadd i1_0 (1 : Int)) (ilen l)))) false) true → True) ∧ (NIs (bite (bnot (ieq i2_0 i1_0)) (bnot (ieq i2_0 (irem (iadd i1_0 (1 : Int)) (ilen l)))) false) true → True) ∧ (NIs (bite (bnot (ieq i2_0 i1_0)) (bnot (ieq i2_0 (irem (iadd i1_0 (1 : Int)) (ilen l)))) false) true → (NLe 0 i2_0 ∧ NLt i2_0 (ilen l))) ∧ (NIs (bite (bnot (ieq i2_0 i1_0)) (bnot (ieq i2_0 (irem (iadd i1_0 (1 : Int)) (ilen l)))) false) true → True) ∧ (NIs (bite (bnot (ieq i2_0 i1_0)) (bnot (ieq i2_0 (irem (iadd i1_0 (1 : Int)) (ilen l)))) false) true → (True)) ∧ (NIs (bite (bnot (ieq i2_0 i1_0)) (bnot (ieq i2_0 (irem (iadd i1_0 (1 : Int)) (ilen l)))) false) true → True) ∧ (True) ∧ True) ∧ ((bite (bite (bnot (ieq i2_0 i1_0)) (bnot (ieq i2_0 (irem (iadd i1_0 (1 : Int)) (ilen l)))) false) (bnot (ieq (orB (getx l i1_0) (gety l i1_0) (getx l (irem (iadd i1_0 (1 : Int)) (ilen l))) (gety l (irem (iadd i1_0 (1 : Int)) (ilen l))) (getx l i2_0) (gety l i2_0)) (1 : Int))) false) = true → ((true = true) ∧ ((True) ∧ True) ∧ ((false : Bool) = (convB l)) ∧ True)) ∧ ((bite (bite (bnot (ieq i2_0 i1_0)) (bnot (ieq i2_0 (irem (iadd i1_0 (1 : Int)) (ilen l)))) false) (bnot (ieq (orB (getx l i1_0) (gety l i1_0) (getx l (irem (iadd i1_0 (1 : Int)) (ilen l))) (gety l (irem (iadd i1_0 (1 : Int)) (ilen l))) (getx l i2_0) (gety l i2_0)) (1 : Int))) false) = false → ((true = true) ∧ ((True) ∧ (True) ∧ (True) ∧ True) ∧ ((true = true) ∧ (((b2_1 : Bool) = b2_1) ∧ (((iadd i2_0 (1 : Int)) : Int) = (iadd i2_0 (1 : Int))) ∧ ((i1_0 : Int) = i1_0) ∧ (((ilen l) : Int) = (ilen l)) ∧ (((ilt i1_0 (ilen l)) : Bool) = (ilt i1_0 (ilen l))) ∧ ((i1_0 : Int) = i1_0) ∧ (((ilen l) : Int) = (ilen l)) ∧ (((inB (ilen l) (3 : Int) (8 : Int)) : Bool) = (inB (ilen l) (3 : Int) (8 : Int))) ∧ (((bnot (inB (ilen l) (3 : Int) (8 : Int))) : Bool) = (bnot (inB (ilen l) (3 : Int) (8 : Int)))) ∧ ((Cont.pts l) = (Cont.pts l)) ∧ (((ilen l) : Int) = (ilen l)) ∧ (((ilen l) : Int) = (ilen l)) ∧ ((Cont.pts l) = (Cont.pts l)) ∧ True) ∧ (True)) ∧ ((([GK.int, GK.bool] : List GK) = ([GK.int, GK.bool] : List GK)) ∧ I2 [GV.int (iadd i2_0 (1 : Int)), GV.bool b2_1] ∧ μ2 [GV.int (iadd i2_0 (1 : Int)), GV.bool b2_1] < μ2 [GV.int i2_0, GV.bool b2_1]))))) ∧ ((ilt i2_0 (ilen l)) = false → ((true = true) ∧ ((True) ∧ (True) ∧ (True) ∧ True) ∧ ((true = true) ∧ (((b2_1 : Bool) = b2_1) ∧ (((iadd i1_0 (1 : Int)) : Int) = (iadd i1_0 (1 : Int))) ∧ (((ilen l) : Int) = (ilen l)) ∧ (((inB (ilen l) (3 : Int) (8 : Int)) : Bool) = (inB (ilen l) (3 : Int) (8 : Int))) ∧ (((bnot (inB (ilen l) (3 : Int) (8 : Int))) : Bool) = (bnot (inB (ilen l) (3 : Int) (8 : Int)))) ∧ ((Cont.pts l) = (Cont.pts l)) ∧ (((ilen l) : Int) = (ilen l)) ∧ (((ilen l) : Int) = (ilen l)) ∧ ((Cont.pts l) = (Cont.pts l)) ∧ True) ∧ (True)) ∧ ((([GK.int, GK.bool] : List GK) = ([GK.int, GK.bool] : List GK)) ∧ I1 [GV.int (iadd i1_0 (1 : Int)), GV.bool b2_1] ∧ μ1 [GV.int (iadd i1_0 (1 : Int)), GV.bool b2_1] < μ1 [GV.int i1_0, GV.bool b1_1]))))))) ∧ ((ilt i1_0 (ilen l)) = false → ((true = true) ∧ ((True) ∧ True) ∧ ((true : Bool) = (convB l)) ∧ True))))))) = ev sig_spec_ConvexValid xs_spec_ConvexValid Try.f16.ntmps (fun b => if b == 0 then [.v 4, .v 2] else if b == 2 then [.v 5, .v 2] else []) (codeOf Try.f16) 0 (initS [.s (.view (.pts l))]) (retK Try.f16.results.toList [.s (.bool (convB l))]) := by kernel_rfl
set_option maxHeartbeats 400000 in
theorem F_spec_ConvexValid : FunOK 16 g_spec_ConvexValid := by
  refine fun_F (by kernel_rfl) Try.func16 rfl (by kernel_rfl) sig_spec_ConvexValid_ok xs_spec_ConvexValid_ok ?_
  intro avs sg h hn hl
  unfold g_spec_ConvexValid at h
  split at h
  · rename_i l
    injection h with h; subst h
    refine ⟨by kernel_rfl, fun b => if b == 0 then [.v 4, .v 2] else if b == 2 then [.v 5, .v 2] else [], Eq.mp (V_spec_ConvexValid l) ?_⟩
    simp only [true_and, and_true, implies_true, and_self, forall_const, true_implies, lenA, lenL, SV.lenOK, Cont.lenOK] at hn hl ⊢
    simp only [← convS_eq]
    have h0 := ilen_0 l
    simp only [ilt_t, ilt_f, ile_t, ile_f, ieq_t, ieq_f, bnot_e, band_e, bite_and, bite_or, NLt_e, NLe_e, NNe_e, NIs_e, imax_e, imin_e, irem_e, Bool.not_eq_true', Bool.not_eq_false', Bool.and_eq_true, Bool.or_eq_true, Bool.or_eq_false_iff, Bool.and_eq_false_iff, Cont.pts.injEq, Cont.ints.injEq, Cont.bools.injEq, Cont.ptss.injEq, Cont.intss.injEq, Cont.boolss.injEq, true_and, and_true, implies_true]
    refine ⟨?_, fun hv1 => ?_⟩
    · intro h; simp [convS, h]
    · have hlen := inB_true hv1
      refine ⟨fun | [.int k, .bool _] => 0 ≤ k ∧ k ≤ ilen l ∧ (∀ i, 0 ≤ i → i < k → allN (ilen l) (convF l i) = true) | _ => False, fun | [.int k, .bool _] => (ilen l - k).toNat | _ => 0, ?_, ?_⟩
      · exact ⟨Int.le_refl 0, h0, fun j h0 h1 => absurd h1 (by omega)⟩
      · rintro k b ⟨hk0, hk1, hk⟩
        simp only [ilt_t, ilt_f, ile_t, ile_f, ieq_t, ieq_f, bnot_e, band_e, bite_and, bite_or, NLt_e, NLe_e, NNe_e, NIs_e, imax_e, imin_e, irem_e, Bool.not_eq_true', Bool.not_eq_false', Bool.and_eq_true, Bool.or_eq_true, Bool.or_eq_false_iff, Bool.and_eq_false_iff, Cont.pts.injEq, Cont.ints.injEq, Cont.bools.injEq, Cont.ptss.injEq, Cont.intss.injEq, Cont.boolss.injEq, true_and, and_true, implies_true]
        refine ⟨fun hkn => ?_, fun hkn => ?_⟩
        · have e1 := iadd_1 hk0 hkn hl
          obtain ⟨n0, n1, _⟩ := nx_in hk0 hkn
          have e2 : (k + 1).tmod (ilen l) = nx l k := rfl
          simp only [e1, e2]
          refine ⟨fun | [.int j, .bool _] => 0 ≤ j ∧ j ≤ ilen l ∧ (∀ i, 0 ≤ i → i < j → convF l k i = true) | _ => False, fun | [.int j, .bool _] => (ilen l - j).toNat | _ => 0, ?_, ?_⟩
          · exact ⟨Int.le_refl 0, h0, fun j h0 h1 => absurd h1 (by omega)⟩
          · rintro j b ⟨hj0, hj1, hj⟩
            simp only [ilt_t, ilt_f, ile_t, ile_f, ieq_t, ieq_f, bnot_e, band_e, bite_and, bite_or, NLt_e, NLe_e, NNe_e, NIs_e, imax_e, imin_e, irem_e, Bool.not_eq_true', Bool.not_eq_false', Bool.and_eq_true, Bool.or_eq_true, Bool.or_eq_false_iff, Bool.and_eq_false_iff, Cont.pts.injEq, Cont.ints.injEq, Cont.bools.injEq, Cont.ptss.injEq, Cont.intss.injEq, Cont.boolss.injEq, true_and, and_true, implies_true]
            refine ⟨fun hjn => ⟨?_, fun hx => ?_, fun hx => ?_⟩, fun hjn => ?_⟩
            · exact ⟨fun _ => by omega, fun _ => ⟨hk0, hkn⟩, fun _ => by omega, fun _ => ⟨n0, n1⟩, fun _ => ⟨hj0, hjn⟩⟩
            · have hE : convF l k j = false := by
                unfold convF orI
                simp only [decide_eq_false_iff_not]
                omega
              unfold convS
              rw [allN_no k hk0 hkn (allN_no j hj0 hjn hE)]
              simp
            · have hE : convF l k j = true := by
                unfold convF orI
                simp only [decide_eq_true_eq]
                omega
              rw [iadd_1 hj0 hjn hl]
              exact ⟨⟨by omega, by omega, allN_up hj hE⟩, by omega⟩
            · exact ⟨⟨by omega, by omega, allN_up hk (allN_mk fun i h0 h1 => hj i h0 (by omega))⟩, by omega⟩
        · unfold convS
          rw [hv1, allN_mk fun i h0 h1 => hk i h0 (by omega)]
          rfl
  · cases h
def g_spec_l8Inside : List AV → Option Sg
  | [.s (.view (.pts l)), .agg [.int p1, .int p2]] => some ⟨True, [.s (.bool (insB l p1 p2))]⟩
  | _ => none
def sig_spec_l8Inside : FuncId → List AV → Option Sg := sigL [(57, g_spec_l2Cross)]
def xs_spec_l8Inside : XS := ⟨xsigL [], ysigL []⟩
theorem sig_spec_l8Inside_ok : SigOK sig_spec_l8Inside := sigL_cons F_spec_l2Cross sigL_nil
theorem xs_spec_l8Inside_ok : XSigOK xs_spec_l8Inside := ⟨xsigL_nil, ysigL_nil⟩
theorem V_spec_l8Inside (l : List Pt) (p1 : Int) (p2 : Int) : ((true = true) ∧ ((True) ∧ (True) ∧ True) ∧ (true = true) ∧ ((True) ∧ True) ∧ ∃ (I1 : List GV → Prop) (μ1 : List GV → Nat), (((true = true) ∧ (((false : Bool) = false) ∧ (((0 : Int) : Int) = (0 : Int)) ∧ (true = true) ∧ ((Cont.pts l) = (Cont.pts l)) ∧ (((p1 : Int) = p1) ∧ ((p2 : Int) = p2) ∧ True) ∧ True) ∧ ((((p1 : Int) = p1) ∧ ((p2 : Int) = p2) ∧ True) ∧ True)) ∧ (([GK.int, GK.bool] : List GK) = ([GK.int, GK.bool] : List GK)) ∧ I1 [GV.int (0 : Int), GV.bool false]) ∧ (∀ i1_0 : Int, ∀ b1_1 : Bool, I1 [GV.int i1_0, GV.bool b1_1] → ((true = true) ∧ ((True) ∧ (True) ∧ (True) ∧ (True) ∧ True) ∧ ((ilt i1_0 (ilen l)) = true → ((true = true) ∧ ((True) ∧ (True) ∧ (NLe 0 i1_0 ∧ NLt i1_0 (ilen l)) ∧ (True) ∧ (True) ∧ (True) ∧ (True) ∧ (True) ∧ (True) ∧ (NNe (ilen l) 0) ∧ (NLe 0 (irem (iadd i1_0 (1 : Int)) (ilen l)) ∧ NLt (irem (iadd i1_0 (1 : Int)) (ilen l)) (ilen l)) ∧ (True) ∧ (True) ∧ ((True)) ∧ (True) ∧ True) ∧ ((ilt (crW (getx l i1_0) (gety l i1_0) (getx l (irem (iadd i1_0 (1 : Int)) (ilen l))) (gety l (irem (iadd i1_0 (1 : Int)) (ilen l))) p1 p2) (0 : Int)) = true → ((true = true) ∧ ((True) ∧ True) ∧ ((false : Bool) = (insB l p1 p2)) ∧ True)) ∧ ((ilt (crW (getx l i1_0) (gety l i1_0) (getx l (irem (iadd i1_0 (1 : Int)) (ilen l))) (gety l (irem (iadd i1_0 (1 : Int)) (ilen l))) p1 p2) (0 : Int)) = false → ((true = true) ∧ ((True) ∧ (True) ∧ (True) ∧ True) ∧ ((true = true) ∧ (((b1_1 : Bool) = b1_1) ∧ (((iadd i1_0 (1 : Int)) : Int) = (iadd i1_0 (1 : Int))) ∧ (true = true) ∧ ((Cont.pts l) = (Cont.pts l)) ∧ (((p1 : Int) = p1) ∧ ((p2 : Int) = p2) ∧ True) ∧ True) ∧ ((((p1 : Int) = p1) ∧ ((p2 : Int) = p2) ∧ True) ∧ True)) ∧ ((([GK.int, GK.bool] : List GK) = ([GK.int, GK.bool] : List GK)) ∧ I1 [GV.int (iadd i1_0 (1 : Int)), GV.bool b1_1] ∧ μ1 [GV.int (iadd i1_0 (1 : Int)), GV.bool b1_1] < μ1 [GV.int i1_0, GV.bool b1_1]))))) ∧ ((ilt i1_0 (ilen l)) = false → ((true = true) ∧ ((True) ∧ True) ∧ ((true : Bool) = (insB l p1 p2)) ∧ True))))) = ev sig_spec_l8Inside xs_spec_l8Inside Try.f64.ntmps (fun b => if b == 0 then [.v 5, .v 4] else []) (codeOf Try.f64) 0 (initS [.s (.view (.pts l)), .agg [.int p1, .int p2]]) (retK Try.f64.results.toList [.s (.bool (insB l p1 p2))]) := by kernel_rfl
set_option maxHeartbeats 400000 in
theorem F_spec_l8Inside : FunOK 64 g_spec_l8Inside := by
  refine fun_F (by kernel_rfl) Try.func64 rfl (by kernel_rfl) sig_spec_l8Inside_ok xs_spec_l8Inside_ok ?_
  intro avs sg h hn hl
  unfold g_spec_l8Inside at h
  split at h
  · rename_i l p1 p2
    injection h with h; subst h
    refine ⟨by kernel_rfl, fun b => if b == 0 then [.v 5, .v 4] else [], Eq.mp (V_spec_l8Inside l p1 p2) ?_⟩
    simp only [true_and, and_true, implies_true, and_self, forall_const, true_implies, lenA, lenL, SV.lenOK, Cont.lenOK] at hn hl ⊢
    have h0 := ilen_0 l
    simp only [ilt_t, ilt_f, ile_t, ile_f, ieq_t, ieq_f, bnot_e, band_e, bite_and, bite_or, NLt_e, NLe_e, NNe_e, NIs_e, imax_e, imin_e, irem_e, Bool.not_eq_true', Bool.not_eq_false', Bool.and_eq_true, Bool.or_eq_true, Bool.or_eq_false_iff, Bool.and_eq_false_iff, Cont.pts.injEq, Cont.ints.injEq, Cont.bools.injEq, Cont.ptss.injEq, Cont.intss.injEq, Cont.boolss.injEq, true_and, and_true, implies_true]
    refine ⟨fun | .int k :: _ => 0 ≤ k ∧ k ≤ ilen l ∧ (∀ i, 0 ≤ i → i < k → insE l p1 p2 i = true) | _ => False, fun | .int k :: _ => (ilen l - k).toNat | _ => 0, ?_, ?_⟩
    · exact ⟨Int.le_refl 0, h0, fun j h0 h1 => absurd h1 (by omega)⟩
    · rintro k _ ⟨hk0, hk1, hk⟩
      simp only [ilt_t, ilt_f, ile_t, ile_f, ieq_t, ieq_f, bnot_e, band_e, bite_and, bite_or, NLt_e, NLe_e, NNe_e, NIs_e, imax_e, imin_e, irem_e, Bool.not_eq_true', Bool.not_eq_false', Bool.and_eq_true, Bool.or_eq_true, Bool.or_eq_false_iff, Bool.and_eq_false_iff, Cont.pts.injEq, Cont.ints.injEq, Cont.bools.injEq, Cont.ptss.injEq, Cont.intss.injEq, Cont.boolss.injEq, true_and, and_true, implies_true]
      refine ⟨fun hkn => ?_, fun hkn => ?_⟩
      · have e1 := iadd_1 hk0 hkn hl
        obtain ⟨n0, n1, _⟩ := nx_in hk0 hkn
        have e2 : (k + 1).tmod (ilen l) = nx l k := rfl
        simp only [e1, e2]
        have hne : ilen l ≠ 0 := by omega
        refine ⟨⟨⟨hk0, hkn⟩, hne, ⟨n0, n1⟩⟩, fun hx => ?_, fun hx => ?_⟩
        · have hE : insE l p1 p2 k = false := by
            unfold insE
            simp only [decide_eq_false_iff_not]
            omega
          unfold insB
          rw [allN_no k hk0 hkn hE]
        · have hE : insE l p1 p2 k = true := by
            unfold insE
            simp only [decide_eq_true_eq]
            omega
          exact ⟨⟨by omega, by omega, allN_up hk hE⟩, by omega⟩
      · unfold insB
        rw [allN_mk fun i h0 h1 => hk i h0 (by omega)]
  · cases h
def g_spec_l8On : List AV → Option Sg
  | [.agg [.int a1, .int a2], .agg [.int b1, .int b2], .agg [.int p1, .int p2]] => some ⟨True, [.s (.bool (btW a1 a2 b1 b2 p1 p2))]⟩
  | _ => none
def sig_spec_l8On : FuncId → List AV → Option Sg := sigL [(54, g_spec_l1In)]
def xs_spec_l8On : XS := ⟨xsigL [], ysigL []⟩
theorem sig_spec_l8On_ok : SigOK sig_spec_l8On := sigL_cons F_spec_l1In sigL_nil
theorem xs_spec_l8On_ok : XSigOK xs_spec_l8On := ⟨xsigL_nil, ysigL_nil⟩
theorem V_spec_l8On (a1 : Int) (a2 : Int) (b1 : Int) (b2 : Int) (p1 : Int) (p2 : Int) : ((true = true) ∧ ((True) ∧ (True) ∧ (True) ∧ (True) ∧ True) ∧ (true = true) ∧ ((True) ∧ (True) ∧ (True) ∧ (True) ∧ (True) ∧ (True) ∧ (True) ∧ (True) ∧ (True) ∧ (True) ∧ (True) ∧ (True) ∧ ((True)) ∧ (True) ∧ (NIs (inB p1 (imin a1 b1) (imax a1 b1)) true → True) ∧ (NIs (inB p1 (imin a1 b1) (imax a1 b1)) true → True) ∧ (NIs (inB p1 (imin a1 b1) (imax a1 b1)) true → True) ∧ (NIs (inB p1 (imin a1 b1) (imax a1 b1)) true → True) ∧ (NIs (inB p1 (imin a1 b1) (imax a1 b1)) true → True) ∧ (NIs (inB p1 (imin a1 b1) (imax a1 b1)) true → True) ∧ (NIs (inB p1 (imin a1 b1) (imax a1 b1)) true → True) ∧ (NIs (inB p1 (imin a1 b1) (imax a1 b1)) true → True) ∧ (NIs (inB p1 (imin a1 b1) (imax a1 b1)) true → True) ∧ (NIs (inB p1 (imin a1 b1) (imax a1 b1)) true → True) ∧ (NIs (inB p1 (imin a1 b1) (imax a1 b1)) true → True) ∧ (NIs (inB p1 (imin a1 b1) (imax a1 b1)) true → True) ∧ (NIs (inB p1 (imin a1 b1) (imax a1 b1)) true → (True)) ∧ (True) ∧ (True) ∧ True) ∧ (((bite (inB p1 (imin a1 b1) (imax a1 b1)) (inB p2 (imin a2 b2) (imax a2 b2)) false) : Bool) = (btW a1 a2 b1 b2 p1 p2)) ∧ True) = ev sig_spec_l8On xs_spec_l8On Try.f102.ntmps (fun b => []) (codeOf Try.f102) 0 (initS [.agg [.int a1, .int a2], .agg [.int b1, .int b2], .agg [.int p1, .int p2]]) (retK Try.f102.results.toList [.s (.bool (btW a1 a2 b1 b2 p1 p2))]) := by kernel_rfl
set_option maxHeartbeats 400000 in
theorem F_spec_l8On : FunOK 102 g_spec_l8On := by
  refine fun_F (by kernel_rfl) Try.func102 rfl (by kernel_rfl) sig_spec_l8On_ok xs_spec_l8On_ok ?_
  intro avs sg h hn hl
  unfold g_spec_l8On at h
  split at h
  · rename_i a1 a2 b1 b2 p1 p2
    injection h with h; subst h
    refine ⟨by kernel_rfl, fun b => [], Eq.mp (V_spec_l8On a1 a2 b1 b2 p1 p2) ?_⟩
    simp only [true_and, and_true, implies_true, and_self, forall_const, true_implies, lenA, lenL, SV.lenOK, Cont.lenOK] at hn hl ⊢
    simp only [ilt_t, ilt_f, ile_t, ile_f, ieq_t, ieq_f, bnot_e, band_e, bite_and, bite_or, NLt_e, NLe_e, NNe_e, NIs_e, imax_e, imin_e, irem_e, Bool.not_eq_true', Bool.not_eq_false', Bool.and_eq_true, Bool.or_eq_true, Bool.or_eq_false_iff, Bool.and_eq_false_iff, Cont.pts.injEq, Cont.ints.injEq, Cont.bools.injEq, Cont.ptss.injEq, Cont.intss.injEq, Cont.boolss.injEq, true_and, and_true, implies_true]
    rfl
  · cases h
def g_spec_l8Meet : List AV → Option Sg
  | [.agg [.int a1, .int a2], .agg [.int b1, .int b2], .agg [.int c1, .int c2], .agg [.int d1, .int d2]] => some ⟨vB a1 a2 = true ∧ vB b1 b2 = true ∧ vB c1 c2 = true ∧ vB d1 d2 = true, [.s (.bool (meetB (a1, a2) (b1, b2) (c1, c2) (d1, d2)))]⟩
  | _ => none
def sig_spec_l8Meet : FuncId → List AV → Option Sg := sigL [(57, g_spec_l2Cross), (89, g_spec_l2Sign), (102, g_spec_l8On)]
def xs_spec_l8Meet : XS := ⟨xsigL [], ysigL []⟩
theorem sig_spec_l8Meet_ok : SigOK sig_spec_l8Meet := sigL_cons F_spec_l2Cross (sigL_cons F_spec_l2Sign (sigL_cons F_spec_l8On sigL_nil))
theorem xs_spec_l8Meet_ok : XSigOK xs_spec_l8Meet := ⟨xsigL_nil, ysigL_nil⟩
theorem V_spec_l8Meet (a1 : Int) (a2 : Int) (b1 : Int) (b2 : Int) (c1 : Int) (c2 : Int) (d1 : Int) (d2 : Int) : ((true = true) ∧ ((True) ∧ (True) ∧ (True) ∧ (True) ∧ (True) ∧ True) ∧ (true = true) ∧ ((True) ∧ (True) ∧ (True) ∧ ((True)) ∧ ((True)) ∧ (True) ∧ True) ∧ (true = true) ∧ ((True) ∧ (True) ∧ (True) ∧ ((True)) ∧ ((True)) ∧ (True) ∧ True) ∧ (true = true) ∧ ((True) ∧ (True) ∧ (True) ∧ ((True)) ∧ ((True)) ∧ (True) ∧ True) ∧ (true = true) ∧ ((True) ∧ (True) ∧ (True) ∧ ((True)) ∧ ((True)) ∧ (True) ∧ True) ∧ (true = true) ∧ ((True) ∧ (True) ∧ (True) ∧ (True) ∧ (NIs (bnot (ieq (sgn (crW a1 a2 b1 b2 c1 c2)) (sgn (crW a1 a2 b1 b2 d1 d2)))) true → True) ∧ (NIs (bnot (ieq (sgn (crW a1 a2 b1 b2 c1 c2)) (sgn (crW a1 a2 b1 b2 d1 d2)))) true → True) ∧ (NIs (bnot (ieq (sgn (crW a1 a2 b1 b2 c1 c2)) (sgn (crW a1 a2 b1 b2 d1 d2)))) true → True) ∧ (True) ∧ True) ∧ ((bite (bnot (ieq (sgn (crW a1 a2 b1 b2 c1 c2)) (sgn (crW a1 a2 b1 b2 d1 d2)))) (bnot (ieq (sgn (crW c1 c2 d1 d2 a1 a2)) (sgn (crW c1 c2 d1 d2 b1 b2)))) false) = true → ((true = true) ∧ ((True) ∧ True) ∧ ((true : Bool) = (meetB (a1, a2) (b1, b2) (c1, c2) (d1, d2))) ∧ True)) ∧ ((bite (bnot (ieq (sgn (crW a1 a2 b1 b2 c1 c2)) (sgn (crW a1 a2 b1 b2 d1 d2)))) (bnot (ieq (sgn (crW c1 c2 d1 d2 a1 a2)) (sgn (crW c1 c2 d1 d2 b1 b2)))) false) = false → ((true = true) ∧ ((True) ∧ (True) ∧ (True) ∧ (NIs (ieq (sgn (crW a1 a2 b1 b2 c1 c2)) (0 : Int)) true → True) ∧ (NIs (ieq (sgn (crW a1 a2 b1 b2 c1 c2)) (0 : Int)) true → True) ∧ (NIs (ieq (sgn (crW a1 a2 b1 b2 c1 c2)) (0 : Int)) true → True) ∧ (NIs (ieq (sgn (crW a1 a2 b1 b2 c1 c2)) (0 : Int)) true → (True)) ∧ (True) ∧ (True) ∧ (NIs (bite (ieq (sgn (crW a1 a2 b1 b2 c1 c2)) (0 : Int)) (btW a1 a2 b1 b2 c1 c2) false) false → True) ∧ (NIs (bite (ieq (sgn (crW a1 a2 b1 b2 c1 c2)) (0 : Int)) (btW a1 a2 b1 b2 c1 c2) false) false → True) ∧ (NIs (bite (ieq (sgn (crW a1 a2 b1 b2 c1 c2)) (0 : Int)) (btW a1 a2 b1 b2 c1 c2) false) false → True) ∧ (NIs (bite (ieq (sgn (crW a1 a2 b1 b2 c1 c2)) (0 : Int)) (btW a1 a2 b1 b2 c1 c2) false) false → (NIs (ieq (sgn (crW a1 a2 b1 b2 d1 d2)) (0 : Int)) true → True)) ∧ (NIs (bite (ieq (sgn (crW a1 a2 b1 b2 c1 c2)) (0 : Int)) (btW a1 a2 b1 b2 c1 c2) false) false → (NIs (ieq (sgn (crW a1 a2 b1 b2 d1 d2)) (0 : Int)) true → True)) ∧ (NIs (bite (ieq (sgn (crW a1 a2 b1 b2 c1 c2)) (0 : Int)) (btW a1 a2 b1 b2 c1 c2) false) false → (NIs (ieq (sgn (crW a1 a2 b1 b2 d1 d2)) (0 : Int)) true → True)) ∧ (NIs (bite (ieq (sgn (crW a1 a2 b1 b2 c1 c2)) (0 : Int)) (btW a1 a2 b1 b2 c1 c2) false) false → (NIs (ieq (sgn (crW a1 a2 b1 b2 d1 d2)) (0 : Int)) true → (True))) ∧ (NIs (bite (ieq (sgn (crW a1 a2 b1 b2 c1 c2)) (0 : Int)) (btW a1 a2 b1 b2 c1 c2) false) false → True) ∧ (True) ∧ (True) ∧ (NIs (bite (bite (ieq (sgn (crW a1 a2 b1 b2 c1 c2)) (0 : Int)) (btW a1 a2 b1 b2 c1 c2) false) true (bite (ieq (sgn (crW a1 a2 b1 b2 d1 d2)) (0 : Int)) (btW a1 a2 b1 b2 d1 d2) false)) false → True) ∧ (NIs (bite (bite (ieq (sgn (crW a1 a2 b1 b2 c1 c2)) (0 : Int)) (btW a1 a2 b1 b2 c1 c2) false) true (bite (ieq (sgn (crW a1 a2 b1 b2 d1 d2)) (0 : Int)) (btW a1 a2 b1 b2 d1 d2) false)) false → True) ∧ (NIs (bite (bite (ieq (sgn (crW a1 a2 b1 b2 c1 c2)) (0 : Int)) (btW a1 a2 b1 b2 c1 c2) false) true (bite (ieq (sgn (crW a1 a2 b1 b2 d1 d2)) (0 : Int)) (btW a1 a2 b1 b2 d1 d2) false)) false → True) ∧ (NIs (bite (bite (ieq (sgn (crW a1 a2 b1 b2 c1 c2)) (0 : Int)) (btW a1 a2 b1 b2 c1 c2) false) true (bite (ieq (sgn (crW a1 a2 b1 b2 d1 d2)) (0 : Int)) (btW a1 a2 b1 b2 d1 d2) false)) false → (NIs (ieq (sgn (crW c1 c2 d1 d2 a1 a2)) (0 : Int)) true → True)) ∧ (NIs (bite (bite (ieq (sgn (crW a1 a2 b1 b2 c1 c2)) (0 : Int)) (btW a1 a2 b1 b2 c1 c2) false) true (bite (ieq (sgn (crW a1 a2 b1 b2 d1 d2)) (0 : Int)) (btW a1 a2 b1 b2 d1 d2) false)) false → (NIs (ieq (sgn (crW c1 c2 d1 d2 a1 a2)) (0 : Int)) true → True)) ∧ (NIs (bite (bite (ieq (sgn (crW a1 a2 b1 b2 c1 c2)) (0 : Int)) (btW a1 a2 b1 b2 c1 c2) false) true (bite (ieq (sgn (crW a1 a2 b1 b2 d1 d2)) (0 : Int)) (btW a1 a2 b1 b2 d1 d2) false)) false → (NIs (ieq (sgn (crW c1 c2 d1 d2 a1 a2)) (0 : Int)) true → True)) ∧ (NIs (bite (bite (ieq (sgn (crW a1 a2 b1 b2 c1 c2)) (0 : Int)) (btW a1 a2 b1 b2 c1 c2) false) true (bite (ieq (sgn (crW a1 a2 b1 b2 d1 d2)) (0 : Int)) (btW a1 a2 b1 b2 d1 d2) false)) false → (NIs (ieq (sgn (crW c1 c2 d1 d2 a1 a2)) (0 : Int)) true → (True))) ∧ (NIs (bite (bite (ieq (sgn (crW a1 a2 b1 b2 c1 c2)) (0 : Int)) (btW a1 a2 b1 b2 c1 c2) false) true (bite (ieq (sgn (crW a1 a2 b1 b2 d1 d2)) (0 : Int)) (btW a1 a2 b1 b2 d1 d2) false)) false → True) ∧ (True) ∧ (True) ∧ (NIs (bite (bite (bite (ieq (sgn (crW a1 a2 b1 b2 c1 c2)) (0 : Int)) (btW a1 a2 b1 b2 c1 c2) false) true (bite (ieq (sgn (crW a1 a2 b1 b2 d1 d2)) (0 : Int)) (btW a1 a2 b1 b2 d1 d2) false)) true (bite (ieq (sgn (crW c1 c2 d1 d2 a1 a2)) (0 : Int)) (btW c1 c2 d1 d2 a1 a2) false)) false → True) ∧ (NIs (bite (bite (bite (ieq (sgn (crW a1 a2 b1 b2 c1 c2)) (0 : Int)) (btW a1 a2 b1 b2 c1 c2) false) true (bite (ieq (sgn (crW a1 a2 b1 b2 d1 d2)) (0 : Int)) (btW a1 a2 b1 b2 d1 d2) false)) true (bite (ieq (sgn (crW c1 c2 d1 d2 a1 a2)) (0 : Int)) (btW c1 c2 d1 d2 a1 a2) false)) false → True) ∧ (NIs (bite (bite (bite (ieq (sgn (crW a1 a2 b1 b2 c1 c2)) (0 : Int)) (btW a1 a2 b1 b2 c1 c2) false) true (bite (ieq (sgn (crW a1 a2 b1 b2 d1 d2)) (0 : Int)) (btW a1 a2 b1 b2 d1 d2) false)) true (bite (ieq (sgn (crW c1 c2 d1 d2 a1 a2)) (0 : Int)) (btW c1 c2 d1 d2 a1 a2) false)) false → True) ∧ (NIs (bite (bite (bite (ieq (sgn (crW a1 a2 b1 b2 c1 c2)) (0 : Int)) (btW a1 a2 b1 b2 c1 c2) false) true (bite (ieq (sgn (crW a1 a2 b1 b2 d1 d2)) (0 : Int)) (btW a1 a2 b1 b2 d1 d2) false)) true (bite (ieq (sgn (crW c1 c2 d1 d2 a1 a2)) (0 : Int)) (btW c1 c2 d1 d2 a1 a2) false)) false → (NIs (ieq (sgn (crW c1 c2 d1 d2 b1 b2)) (0 : Int)) true → True)) ∧ (NIs (bite (bite (bite (ieq (sgn (crW a1 a2 b1 b2 c1 c2)) (0 : Int)) (btW a1 a2 b1 b2 c1 c2) false) true (bite (ieq (sgn (crW a1 a2 b1 b2 d1 d2)) (0 : Int)) (btW a1 a2 b1 b2 d1 d2) false)) true (bite (ieq (sgn (crW c1 c2 d1 d2 a1 a2)) (0 : Int)) (btW c1 c2 d1 d2 a1 a2) false)) false → (NIs (ieq (sgn (crW c1 c2 d1 d2 b1 b2)) (0 : Int)) true → True)) ∧ (NIs (bite (bite (bite (ieq (sgn (crW a1 a2 b1 b2 c1 c2)) (0 : Int)) (btW a1 a2 b1 b2 c1 c2) false) true (bite (ieq (sgn (crW a1 a2 b1 b2 d1 d2)) (0 : Int)) (btW a1 a2 b1 b2 d1 d2) false)) true (bite (ieq (sgn (crW c1 c2 d1 d2 a1 a2)) (0 : Int)) (btW c1 c2 d1 d2 a1 a2) false)) false → (NIs (ieq (sgn (crW c1 c2 d1 d2 b1 b2)) (0 : Int)) true → True)) ∧ (NIs (bite (bite (bite (ieq (sgn (crW a1 a2 b1 b2 c1 c2)) (0 : Int)) (btW a1 a2 b1 b2 c1 c2) false) true (bite (ieq (sgn (crW a1 a2 b1 b2 d1 d2)) (0 : Int)) (btW a1 a2 b1 b2 d1 d2) false)) true (bite (ieq (sgn (crW c1 c2 d1 d2 a1 a2)) (0 : Int)) (btW c1 c2 d1 d2 a1 a2) false)) false → (NIs (ieq (sgn (crW c1 c2 d1 d2 b1 b2)) (0 : Int)) true → (True))) ∧ (NIs (bite (bite (bite (ieq (sgn (crW a1 a2 b1 b2 c1 c2)) (0 : Int)) (btW a1 a2 b1 b2 c1 c2) false) true (bite (ieq (sgn (crW a1 a2 b1 b2 d1 d2)) (0 : Int)) (btW a1 a2 b1 b2 d1 d2) false)) true (bite (ieq (sgn (crW c1 c2 d1 d2 a1 a2)) (0 : Int)) (btW c1 c2 d1 d2 a1 a2) false)) false → True) ∧ (True) ∧ (True) ∧ True) ∧ (((bite (bite (bite (bite (ieq (sgn (crW a1 a2 b1 b2 c1 c2)) (0 : Int)) (btW a1 a2 b1 b2 c1 c2) false) true (bite (ieq (sgn (crW a1 a2 b1 b2 d1 d2)) (0 : Int)) (btW a1 a2 b1 b2 d1 d2) false)) true (bite (ieq (sgn (crW c1 c2 d1 d2 a1 a2)) (0 : Int)) (btW c1 c2 d1 d2 a1 a2) false)) true (bite (ieq (sgn (crW c1 c2 d1 d2 b1 b2)) (0 : Int)) (btW c1 c2 d1 d2 b1 b2) false)) : Bool) = (meetB (a1, a2) (b1, b2) (c1, c2) (d1, d2))) ∧ True))) = ev sig_spec_l8Meet xs_spec_l8Meet Try.f92.ntmps (fun b => []) (codeOf Try.f92) 0 (initS [.agg [.int a1, .int a2], .agg [.int b1, .int b2], .agg [.int c1, .int c2], .agg [.int d1, .int d2]]) (retK Try.f92.results.toList [.s (.bool (meetB (a1, a2) (b1, b2) (c1, c2) (d1, d2)))]) := by kernel_rfl
set_option maxHeartbeats 400000 in
theorem F_spec_l8Meet : FunOK 92 g_spec_l8Meet := by
  refine fun_F (by kernel_rfl) Try.func92 rfl (by kernel_rfl) sig_spec_l8Meet_ok xs_spec_l8Meet_ok ?_
  intro avs sg h hn hl
  unfold g_spec_l8Meet at h
  split at h
  · rename_i a1 a2 b1 b2 c1 c2 d1 d2
    injection h with h; subst h
    refine ⟨by kernel_rfl, fun b => [], Eq.mp (V_spec_l8Meet a1 a2 b1 b2 c1 c2 d1 d2) ?_⟩
    simp only [true_and, and_true, implies_true, and_self, forall_const, true_implies, lenA, lenL, SV.lenOK, Cont.lenOK] at hn hl ⊢
    obtain ⟨va, vb, vc, vd⟩ := hn
    simp only [ilt_t, ilt_f, ile_t, ile_f, ieq_t, ieq_f, bnot_e, band_e, bite_and, bite_or, NLt_e, NLe_e, NNe_e, NIs_e, imax_e, imin_e, irem_e, Bool.not_eq_true', Bool.not_eq_false', Bool.and_eq_true, Bool.or_eq_true, Bool.or_eq_false_iff, Bool.and_eq_false_iff, Cont.pts.injEq, Cont.ints.injEq, Cont.bools.injEq, Cont.ptss.injEq, Cont.intss.injEq, Cont.boolss.injEq, true_and, and_true, implies_true, crW_e va vb vc, crW_e va vb vd, crW_e vc vd va, crW_e vc vd vb, btW_e, Int.sub_zero, imul_sgn, ieq_sgn]
    rw [← meetS_eq]; unfold meetS
    generalize crs (a1, a2) (b1, b2) (c1, c2) = x1 at *
    generalize crs (a1, a2) (b1, b2) (d1, d2) = x2 at *
    generalize crs (c1, c2) (d1, d2) (a1, a2) = x3 at *
    generalize crs (c1, c2) (d1, d2) (b1, b2) = x4 at *
    refine ⟨fun h => by simp [h.1, h.2], fun h => ?_⟩
    have e : (decide (sgn x1 ≠ sgn x2) && decide (sgn x3 ≠ sgn x4)) = false := by
      rcases h with h | h <;> simp [h] <;> omega
    rw [e, Bool.false_or]
  · cases h
def g_spec_l8Hit : List AV → Option Sg
  | [.s (.view (.pts l)), .agg [.int a1, .int a2], .agg [.int b1, .int b2]] => some ⟨allB l = true ∧ vB a1 a2 = true ∧ vB b1 b2 = true, [.s (.bool (hitB l a1 a2 b1 b2))]⟩
  | _ => none
def sig_spec_l8Hit : FuncId → List AV → Option Sg := sigL [(64, g_spec_l8Inside), (92, g_spec_l8Meet)]
def xs_spec_l8Hit : XS := ⟨xsigL [], ysigL []⟩
theorem sig_spec_l8Hit_ok : SigOK sig_spec_l8Hit := sigL_cons F_spec_l8Inside (sigL_cons F_spec_l8Meet sigL_nil)
theorem xs_spec_l8Hit_ok : XSigOK xs_spec_l8Hit := ⟨xsigL_nil, ysigL_nil⟩
theorem V_spec_l8Hit (l : List Pt) (a1 : Int) (a2 : Int) (b1 : Int) (b2 : Int) : ((true = true) ∧ ((True) ∧ (True) ∧ (True) ∧ True) ∧ (true = true) ∧ ((True) ∧ (True) ∧ ((True)) ∧ (True) ∧ (NIs (insB l a1 a2) false → True) ∧ (NIs (insB l a1 a2) false → True) ∧ (NIs (insB l a1 a2) false → (True)) ∧ (True) ∧ True) ∧ ((bite (insB l a1 a2) true (insB l b1 b2)) = true → ((true = true) ∧ ((True) ∧ True) ∧ ((true : Bool) = (hitB l a1 a2 b1 b2)) ∧ True)) ∧ ((bite (insB l a1 a2) true (insB l b1 b2)) = false → ((true = true) ∧ ((True) ∧ True) ∧ ∃ (I1 : List GV → Prop) (μ1 : List GV → Nat), (((true = true) ∧ (((false : Bool) = false) ∧ (((0 : Int) : Int) = (0 : Int)) ∧ ((Cont.pts l) = (Cont.pts l)) ∧ (((a1 : Int) = a1) ∧ ((a2 : Int) = a2) ∧ True) ∧ (((insB l a1 a2) : Bool) = (insB l a1 a2)) ∧ (((insB l a1 a2) : Bool) = (insB l a1 a2)) ∧ (((bite (insB l a1 a2) true (insB l b1 b2)) : Bool) = (bite (insB l a1 a2) true (insB l b1 b2))) ∧ (true = true) ∧ (true = true) ∧ ((Cont.pts l) = (Cont.pts l)) ∧ (((a1 : Int) = a1) ∧ ((a2 : Int) = a2) ∧ True) ∧ (((b1 : Int) = b1) ∧ ((b2 : Int) = b2) ∧ True) ∧ True) ∧ ((((a1 : Int) = a1) ∧ ((a2 : Int) = a2) ∧ True) ∧ (((b1 : Int) = b1) ∧ ((b2 : Int) = b2) ∧ True) ∧ True)) ∧ (([GK.int, GK.bool] : List GK) = ([GK.int, GK.bool] : List GK)) ∧ I1 [GV.int (0 : Int), GV.bool false]) ∧ (∀ i1_0 : Int, ∀ b1_1 : Bool, I1 [GV.int i1_0, GV.bool b1_1] → ((true = true) ∧ ((True) ∧ (True) ∧ (True) ∧ (True) ∧ True) ∧ ((ilt i1_0 (ilen l)) = true → ((true = true) ∧ ((True) ∧ (True) ∧ (True) ∧ (True) ∧ (NLe 0 i1_0 ∧ NLt i1_0 (ilen l)) ∧ (True) ∧ (True) ∧ (True) ∧ (True) ∧ (True) ∧ (True) ∧ (NNe (ilen l) 0) ∧ (NLe 0 (irem (iadd i1_0 (1 : Int)) (ilen l)) ∧ NLt (irem (iadd i1_0 (1 : Int)) (ilen l)) (ilen l)) ∧ (True) ∧ ((vB a1 a2 = true ∧ vB b1 b2 = true ∧ vB (getx l i1_0) (gety l i1_0) = true ∧ vB (getx l (irem (iadd i1_0 (1 : Int)) (ilen l))) (gety l (irem (iadd i1_0 (1 : Int)) (ilen l))) = true)) ∧ True) ∧ ((meetB (a1, a2) (b1, b2) ((getx l i1_0), (gety l i1_0)) ((getx l (irem (iadd i1_0 (1 : Int)) (ilen l))), (gety l (irem (iadd i1_0 (1 : Int)) (ilen l))))) = true → ((true = true) ∧ ((True) ∧ True) ∧ ((true : Bool) = (hitB l a1 a2 b1 b2)) ∧ True)) ∧ ((meetB (a1, a2) (b1, b2) ((getx l i1_0), (gety l i1_0)) ((getx l (irem (iadd i1_0 (1 : Int)) (ilen l))), (gety l (irem (iadd i1_0 (1 : Int)) (ilen l))))) = false → ((true = true) ∧ ((True) ∧ (True) ∧ (True) ∧ True) ∧ ((true = true) ∧ (((b1_1 : Bool) = b1_1) ∧ (((iadd i1_0 (1 : Int)) : Int) = (iadd i1_0 (1 : Int))) ∧ ((Cont.pts l) = (Cont.pts l)) ∧ (((a1 : Int) = a1) ∧ ((a2 : Int) = a2) ∧ True) ∧ (((insB l a1 a2) : Bool) = (insB l a1 a2)) ∧ (((insB l a1 a2) : Bool) = (insB l a1 a2)) ∧ (((bite (insB l a1 a2) true (insB l b1 b2)) : Bool) = (bite (insB l a1 a2) true (insB l b1 b2))) ∧ (true = true) ∧ (true = true) ∧ ((Cont.pts l) = (Cont.pts l)) ∧ (((a1 : Int) = a1) ∧ ((a2 : Int) = a2) ∧ True) ∧ (((b1 : Int) = b1) ∧ ((b2 : Int) = b2) ∧ True) ∧ True) ∧ ((((a1 : Int) = a1) ∧ ((a2 : Int) = a2) ∧ True) ∧ (((b1 : Int) = b1) ∧ ((b2 : Int) = b2) ∧ True) ∧ True)) ∧ ((([GK.int, GK.bool] : List GK) = ([GK.int, GK.bool] : List GK)) ∧ I1 [GV.int (iadd i1_0 (1 : Int)), GV.bool b1_1] ∧ μ1 [GV.int (iadd i1_0 (1 : Int)), GV.bool b1_1] < μ1 [GV.int i1_0, GV.bool b1_1]))))) ∧ ((ilt i1_0 (ilen l)) = false → ((true = true) ∧ ((True) ∧ True) ∧ ((false : Bool) = (hitB l a1 a2 b1 b2)) ∧ True))))))) = ev sig_spec_l8Hit xs_spec_l8Hit Try.f67.ntmps (fun b => if b == 0 then [.v 7, .v 6] else []) (codeOf Try.f67) 0 (initS [.s (.view (.pts l)), .agg [.int a1, .int a2], .agg [.int b1, .int b2]]) (retK Try.f67.results.toList [.s (.bool (hitB l a1 a2 b1 b2))]) := by kernel_rfl
set_option maxHeartbeats 400000 in
theorem F_spec_l8Hit : FunOK 67 g_spec_l8Hit := by
  refine fun_F (by kernel_rfl) Try.func67 rfl (by kernel_rfl) sig_spec_l8Hit_ok xs_spec_l8Hit_ok ?_
  intro avs sg h hn hl
  unfold g_spec_l8Hit at h
  split at h
  · rename_i l a1 a2 b1 b2
    injection h with h; subst h
    refine ⟨by kernel_rfl, fun b => if b == 0 then [.v 7, .v 6] else [], Eq.mp (V_spec_l8Hit l a1 a2 b1 b2) ?_⟩
    simp only [true_and, and_true, implies_true, and_self, forall_const, true_implies, lenA, lenL, SV.lenOK, Cont.lenOK] at hn hl ⊢
    have h0 := ilen_0 l
    obtain ⟨ha, va, vb⟩ := hn
    simp only [ilt_t, ilt_f, ile_t, ile_f, ieq_t, ieq_f, bnot_e, band_e, bite_and, bite_or, NLt_e, NLe_e, NNe_e, NIs_e, imax_e, imin_e, irem_e, Bool.not_eq_true', Bool.not_eq_false', Bool.and_eq_true, Bool.or_eq_true, Bool.or_eq_false_iff, Bool.and_eq_false_iff, Cont.pts.injEq, Cont.ints.injEq, Cont.bools.injEq, Cont.ptss.injEq, Cont.intss.injEq, Cont.boolss.injEq, true_and, and_true, implies_true]
    refine ⟨?_, fun hi => ?_⟩
    · rintro (h | h) <;> simp [hitB, h]
    · refine ⟨fun | .int k :: _ => 0 ≤ k ∧ k ≤ ilen l ∧ (∀ i, 0 ≤ i → i < k → hitE l a1 a2 b1 b2 i = false) | _ => False, fun | .int k :: _ => (ilen l - k).toNat | _ => 0, ?_, ?_⟩
      · exact ⟨Int.le_refl 0, h0, fun j h0 h1 => absurd h1 (by omega)⟩
      · rintro k _ ⟨hk0, hk1, hk⟩
        simp only [ilt_t, ilt_f, ile_t, ile_f, ieq_t, ieq_f, bnot_e, band_e, bite_and, bite_or, NLt_e, NLe_e, NNe_e, NIs_e, imax_e, imin_e, irem_e, Bool.not_eq_true', Bool.not_eq_false', Bool.and_eq_true, Bool.or_eq_true, Bool.or_eq_false_iff, Bool.and_eq_false_iff, Cont.pts.injEq, Cont.ints.injEq, Cont.bools.injEq, Cont.ptss.injEq, Cont.intss.injEq, Cont.boolss.injEq, true_and, and_true, implies_true]
        refine ⟨fun hkn => ?_, fun hkn => ?_⟩
        · have e1 := iadd_1 hk0 hkn hl
          obtain ⟨n0, n1, _⟩ := nx_in hk0 hkn
          have e2 : (k + 1).tmod (ilen l) = nx l k := rfl
          simp only [e1, e2]
          have hne : ilen l ≠ 0 := by omega
          have v1 := allB_at ha hk0 hkn
          have v2 := allB_at ha n0 n1
          refine ⟨⟨⟨hk0, hkn⟩, hne, ⟨n0, n1⟩, va, vb, v1, v2⟩, fun hx => ?_, fun hx => ?_⟩
          · have hE : hitE l a1 a2 b1 b2 k = true := hx
            simp [hitB, anyN_mk k hk0 hkn hE]
          · have hE : hitE l a1 a2 b1 b2 k = false := hx
            exact ⟨⟨by omega, by omega, upTo hk hE⟩, by omega⟩
        · have : anyN (ilen l) (hitE l a1 a2 b1 b2) = false := anyN_no fun j j0 j1 => hk j j0 (by omega)
          simp [hitB, hi.1, hi.2, this]
  · cases h
def g_spec_SegmentHits : List AV → Option Sg
  | [.s (.view (.pts l)), .agg [.int a1, .int a2], .agg [.int b1, .int b2]] => some ⟨True, [.s (.bool (convB l && (vB a1 a2 && vB b1 b2) && hitB l a1 a2 b1 b2))]⟩
  | _ => none
def sig_spec_SegmentHits : FuncId → List AV → Option Sg := sigL [(16, g_spec_ConvexValid), (28, g_spec_PointValid), (67, g_spec_l8Hit)]
def xs_spec_SegmentHits : XS := ⟨xsigL [], ysigL []⟩
theorem sig_spec_SegmentHits_ok : SigOK sig_spec_SegmentHits := sigL_cons F_spec_ConvexValid (sigL_cons F_spec_PointValid (sigL_cons F_spec_l8Hit sigL_nil))
theorem xs_spec_SegmentHits_ok : XSigOK xs_spec_SegmentHits := ⟨xsigL_nil, ysigL_nil⟩
theorem V_spec_SegmentHits (l : List Pt) (a1 : Int) (a2 : Int) (b1 : Int) (b2 : Int) : ((true = true) ∧ ((True) ∧ (True) ∧ (True) ∧ True) ∧ (true = true) ∧ ((True) ∧ ((True)) ∧ (True) ∧ (NIs (convB l) true → True) ∧ (NIs (convB l) true → (True)) ∧ (True) ∧ (True) ∧ (NIs (bite (convB l) (vB a1 a2) false) true → True) ∧ (NIs (bite (convB l) (vB a1 a2) false) true → (True)) ∧ (True) ∧ (True) ∧ (NIs (bite (bite (convB l) (vB a1 a2) false) (vB b1 b2) false) true → True) ∧ (NIs (bite (bite (convB l) (vB a1 a2) false) (vB b1 b2) false) true → True) ∧ (NIs (bite (bite (convB l) (vB a1 a2) false) (vB b1 b2) false) true → True) ∧ (NIs (bite (bite (convB l) (vB a1 a2) false) (vB b1 b2) false) true → ((allB l = true ∧ vB a1 a2 = true ∧ vB b1 b2 = true))) ∧ (True) ∧ (True) ∧ True) ∧ (((bite (bite (bite (convB l) (vB a1 a2) false) (vB b1 b2) false) (hitB l a1 a2 b1 b2) false) : Bool) = (convB l && (vB a1 a2 && vB b1 b2) && hitB l a1 a2 b1 b2)) ∧ True) = ev sig_spec_SegmentHits xs_spec_SegmentHits Try.f35.ntmps (fun b => []) (codeOf Try.f35) 0 (initS [.s (.view (.pts l)), .agg [.int a1, .int a2], .agg [.int b1, .int b2]]) (retK Try.f35.results.toList [.s (.bool (convB l && (vB a1 a2 && vB b1 b2) && hitB l a1 a2 b1 b2))]) := by kernel_rfl
set_option maxHeartbeats 400000 in
theorem F_spec_SegmentHits : FunOK 35 g_spec_SegmentHits := by
  refine fun_F (by kernel_rfl) Try.func35 rfl (by kernel_rfl) sig_spec_SegmentHits_ok xs_spec_SegmentHits_ok ?_
  intro avs sg h hn hl
  unfold g_spec_SegmentHits at h
  split at h
  · rename_i l a1 a2 b1 b2
    injection h with h; subst h
    refine ⟨by kernel_rfl, fun b => [], Eq.mp (V_spec_SegmentHits l a1 a2 b1 b2) ?_⟩
    simp only [true_and, and_true, implies_true, and_self, forall_const, true_implies, lenA, lenL, SV.lenOK, Cont.lenOK] at hn hl ⊢
    simp only [ilt_t, ilt_f, ile_t, ile_f, ieq_t, ieq_f, bnot_e, band_e, bite_and, bite_or, NLt_e, NLe_e, NNe_e, NIs_e, imax_e, imin_e, irem_e, Bool.not_eq_true', Bool.not_eq_false', Bool.and_eq_true, Bool.or_eq_true, Bool.or_eq_false_iff, Bool.and_eq_false_iff, Cont.pts.injEq, Cont.ints.injEq, Cont.bools.injEq, Cont.ptss.injEq, Cont.intss.injEq, Cont.boolss.injEq, true_and, and_true, implies_true, Bool.and_assoc]
    try (rintro ⟨h1, h2, h3⟩; exact ⟨(convB_all h1).2.2, h2, h3⟩)
    trace_state
  · cases h
def degW (d : Int) : Int := irem (iadd (irem d 360) 360) 360
def g_impl_Degrees : List AV → Option Sg
  | [.s (.int d)] => some ⟨True, [.s (.int (degW d))]⟩
  | _ => none
def sig_impl_Degrees : FuncId → List AV → Option Sg := sigL []
def xs_impl_Degrees : XS := ⟨xsigL [], ysigL []⟩
theorem sig_impl_Degrees_ok : SigOK sig_impl_Degrees := sigL_nil
theorem xs_impl_Degrees_ok : XSigOK xs_impl_Degrees := ⟨xsigL_nil, ysigL_nil⟩
theorem V_impl_Degrees (d : Int) : ((true = true) ∧ ((True) ∧ True) ∧ (true = true) ∧ ((True) ∧ (NNe (360 : Int) 0) ∧ (True) ∧ (NNe (360 : Int) 0) ∧ (True) ∧ True) ∧ (((irem (iadd (irem d (360 : Int)) (360 : Int)) (360 : Int)) : Int) = (degW d)) ∧ True) = ev sig_impl_Degrees xs_impl_Degrees Try.f56.ntmps (fun b => []) (codeOf Try.f56) 0 (initS [.s (.int d)]) (retK Try.f56.results.toList [.s (.int (degW d))]) := by kernel_rfl
set_option maxHeartbeats 400000 in
theorem F_impl_Degrees : FunOK 56 g_impl_Degrees := by
  refine fun_F (by kernel_rfl) Try.func56 rfl (by kernel_rfl) sig_impl_Degrees_ok xs_impl_Degrees_ok ?_
  intro avs sg h hn hl
  unfold g_impl_Degrees at h
  split at h
  · rename_i d
    injection h with h; subst h
    refine ⟨by kernel_rfl, fun b => [], Eq.mp (V_impl_Degrees d) ?_⟩
    simp only [true_and, and_true, implies_true, and_self, forall_const, true_implies, lenA, lenL, SV.lenOK, Cont.lenOK] at hn hl ⊢
    simp only [ilt_t, ilt_f, ile_t, ile_f, ieq_t, ieq_f, bnot_e, band_e, bite_and, bite_or, NLt_e, NLe_e, NNe_e, NIs_e, imax_e, imin_e, irem_e, Bool.not_eq_true', Bool.not_eq_false', Bool.and_eq_true, Bool.or_eq_true, Bool.or_eq_false_iff, Bool.and_eq_false_iff, Cont.pts.injEq, Cont.ints.injEq, Cont.bools.injEq, Cont.ptss.injEq, Cont.intss.injEq, Cont.boolss.injEq, true_and, and_true, implies_true]
    exact ⟨by decide, by simp [degW, irem_e]⟩
  · cases h
def g_laws_alive : List AV → Option Sg
  | [] => some ⟨True, [.s (.bool (true))]⟩
  | _ => none
def sig_laws_alive : FuncId → List AV → Option Sg := sigL [(56, g_impl_Degrees)]
def xs_laws_alive : XS := ⟨xsigL [], ysigL []⟩
theorem sig_laws_alive_ok : SigOK sig_laws_alive := sigL_cons F_impl_Degrees sigL_nil
theorem xs_laws_alive_ok : XSigOK xs_laws_alive := ⟨xsigL_nil, ysigL_nil⟩
theorem V_laws_alive  : ((true = true) ∧ ((True) ∧ True) ∧ (true = true) ∧ (((True)) ∧ (True) ∧ (True) ∧ True) ∧ (((ieq (degW (-1 : Int)) (359 : Int)) : Bool) = (true)) ∧ True) = ev sig_laws_alive xs_laws_alive Try.f17.ntmps (fun b => []) (codeOf Try.f17) 0 (initS []) (retK Try.f17.results.toList [.s (.bool (true))]) := by kernel_rfl
set_option maxHeartbeats 400000 in
theorem F_laws_alive : FunOK 17 g_laws_alive := by
  refine fun_F (by kernel_rfl) Try.func17 rfl (by kernel_rfl) sig_laws_alive_ok xs_laws_alive_ok ?_
  intro avs sg h hn hl
  unfold g_laws_alive at h
  split at h
  ·
    injection h with h; subst h
    refine ⟨by kernel_rfl, fun b => [], Eq.mp (V_laws_alive ) ?_⟩
    simp only [true_and, and_true, implies_true, and_self, forall_const, true_implies, lenA, lenL, SV.lenOK, Cont.lenOK] at hn hl ⊢
    unfold ieq degW
    rw [irem_e, irem_e, iadd_e (by decide) (by decide)]
    decide
  · cases h
def g_impl_InsideConvex : List AV → Option Sg
  | [.s (.view (.pts l)), .agg [.int p1, .int p2]] => some ⟨True, [.s (.bool (convB l && vB p1 p2 && insB l p1 p2))]⟩
  | _ => none
def sig_impl_InsideConvex : FuncId → List AV → Option Sg := sigL [(15, g_impl_ConvexValid), (62, g_impl_PointValid), (63, g_impl_inside)]
def xs_impl_InsideConvex : XS := ⟨xsigL [], ysigL []⟩
theorem sig_impl_InsideConvex_ok : SigOK sig_impl_InsideConvex := sigL_cons F_impl_ConvexValid (sigL_cons F_impl_PointValid (sigL_cons F_impl_inside sigL_nil))
theorem xs_impl_InsideConvex_ok : XSigOK xs_impl_InsideConvex := ⟨xsigL_nil, ysigL_nil⟩
theorem V_impl_InsideConvex (l : List Pt) (p1 : Int) (p2 : Int) : ((true = true) ∧ ((True) ∧ (True) ∧ True) ∧ (true = true) ∧ ((True) ∧ ((True)) ∧ (True) ∧ (NIs (convB l) true → True) ∧ (NIs (convB l) true → (True)) ∧ (True) ∧ (True) ∧ (NIs (bite (convB l) (vB p1 p2) false) true → True) ∧ (NIs (bite (convB l) (vB p1 p2) false) true → True) ∧ (NIs (bite (convB l) (vB p1 p2) false) true → (True)) ∧ (True) ∧ (True) ∧ True) ∧ (((bite (bite (convB l) (vB p1 p2) false) (insB l p1 p2) false) : Bool) = (convB l && vB p1 p2 && insB l p1 p2)) ∧ True) = ev sig_impl_InsideConvex xs_impl_InsideConvex Try.f26.ntmps (fun b => []) (codeOf Try.f26) 0 (initS [.s (.view (.pts l)), .agg [.int p1, .int p2]]) (retK Try.f26.results.toList [.s (.bool (convB l && vB p1 p2 && insB l p1 p2))]) := by kernel_rfl
set_option maxHeartbeats 400000 in
theorem F_impl_InsideConvex : FunOK 26 g_impl_InsideConvex := by
  refine fun_F (by kernel_rfl) Try.func26 rfl (by kernel_rfl) sig_impl_InsideConvex_ok xs_impl_InsideConvex_ok ?_
  intro avs sg h hn hl
  unfold g_impl_InsideConvex at h
  split at h
  · rename_i l p1 p2
    injection h with h; subst h
    refine ⟨by kernel_rfl, fun b => [], Eq.mp (V_impl_InsideConvex l p1 p2) ?_⟩
    simp only [true_and, and_true, implies_true, and_self, forall_const, true_implies, lenA, lenL, SV.lenOK, Cont.lenOK] at hn hl ⊢
    simp only [ilt_t, ilt_f, ile_t, ile_f, ieq_t, ieq_f, bnot_e, band_e, bite_and, bite_or, NLt_e, NLe_e, NNe_e, NIs_e, imax_e, imin_e, irem_e, Bool.not_eq_true', Bool.not_eq_false', Bool.and_eq_true, Bool.or_eq_true, Bool.or_eq_false_iff, Bool.and_eq_false_iff, Cont.pts.injEq, Cont.ints.injEq, Cont.bools.injEq, Cont.ptss.injEq, Cont.intss.injEq, Cont.boolss.injEq, true_and, and_true, implies_true]
  · cases h
def smB (a1 a2 b1 b2 c1 c2 d1 d2 : Int) : Bool := vB a1 a2 && vB b1 b2 && vB c1 c2 && vB d1 d2 && meetB (a1, a2) (b1, b2) (c1, c2) (d1, d2)
def g_impl_SegmentsMeet : List AV → Option Sg
  | [.agg [.int a1, .int a2], .agg [.int b1, .int b2], .agg [.int c1, .int c2], .agg [.int d1, .int d2]] => some ⟨True, [.s (.bool (smB a1 a2 b1 b2 c1 c2 d1 d2))]⟩
  | _ => none
def sig_impl_SegmentsMeet : FuncId → List AV → Option Sg := sigL [(52, g_impl_allPoints), (69, g_impl_meet)]
def xs_impl_SegmentsMeet : XS := ⟨xsigL [], ysigL []⟩
theorem sig_impl_SegmentsMeet_ok : SigOK sig_impl_SegmentsMeet := sigL_cons F_impl_allPoints (sigL_cons F_impl_meet sigL_nil)
theorem xs_impl_SegmentsMeet_ok : XSigOK xs_impl_SegmentsMeet := ⟨xsigL_nil, ysigL_nil⟩
theorem V_impl_SegmentsMeet (a1 : Int) (a2 : Int) (b1 : Int) (b2 : Int) (c1 : Int) (c2 : Int) (d1 : Int) (d2 : Int) : ((true = true) ∧ ((True) ∧ (True) ∧ (True) ∧ (True) ∧ (True) ∧ True) ∧ (true = true) ∧ ((True) ∧ (True) ∧ (True) ∧ (True) ∧ (True) ∧ ((True)) ∧ (True) ∧ (NIs (allB [(a1, a2), (b1, b2), (c1, c2), (d1, d2)]) true → True) ∧ (NIs (allB [(a1, a2), (b1, b2), (c1, c2), (d1, d2)]) true → True) ∧ (NIs (allB [(a1, a2), (b1, b2), (c1, c2), (d1, d2)]) true → True) ∧ (NIs (allB [(a1, a2), (b1, b2), (c1, c2), (d1, d2)]) true → True) ∧ (NIs (allB [(a1, a2), (b1, b2), (c1, c2), (d1, d2)]) true → ((vB a1 a2 = true ∧ vB b1 b2 = true ∧ vB c1 c2 = true ∧ vB d1 d2 = true))) ∧ (True) ∧ (True) ∧ True) ∧ (((bite (allB [(a1, a2), (b1, b2), (c1, c2), (d1, d2)]) (meetB (a1, a2) (b1, b2) (c1, c2) (d1, d2)) false) : Bool) = (smB a1 a2 b1 b2 c1 c2 d1 d2)) ∧ True) = ev sig_impl_SegmentsMeet xs_impl_SegmentsMeet Try.f36.ntmps (fun b => []) (codeOf Try.f36) 0 (initS [.agg [.int a1, .int a2], .agg [.int b1, .int b2], .agg [.int c1, .int c2], .agg [.int d1, .int d2]]) (retK Try.f36.results.toList [.s (.bool (smB a1 a2 b1 b2 c1 c2 d1 d2))]) := by kernel_rfl
set_option maxHeartbeats 400000 in
theorem F_impl_SegmentsMeet : FunOK 36 g_impl_SegmentsMeet := by
  refine fun_F (by kernel_rfl) Try.func36 rfl (by kernel_rfl) sig_impl_SegmentsMeet_ok xs_impl_SegmentsMeet_ok ?_
  intro avs sg h hn hl
  unfold g_impl_SegmentsMeet at h
  split at h
  · rename_i a1 a2 b1 b2 c1 c2 d1 d2
    injection h with h; subst h
    refine ⟨by kernel_rfl, fun b => [], Eq.mp (V_impl_SegmentsMeet a1 a2 b1 b2 c1 c2 d1 d2) ?_⟩
    simp only [true_and, and_true, implies_true, and_self, forall_const, true_implies, lenA, lenL, SV.lenOK, Cont.lenOK] at hn hl ⊢
    have e : allB [(a1, a2), (b1, b2), (c1, c2), (d1, d2)] = (vB a1 a2 && vB b1 b2 && vB c1 c2 && vB d1 d2) := by simp [allB, Bool.and_assoc]
    simp only [ilt_t, ilt_f, ile_t, ile_f, ieq_t, ieq_f, bnot_e, band_e, bite_and, bite_or, NLt_e, NLe_e, NNe_e, NIs_e, imax_e, imin_e, irem_e, Bool.not_eq_true', Bool.not_eq_false', Bool.and_eq_true, Bool.or_eq_true, Bool.or_eq_false_iff, Bool.and_eq_false_iff, Cont.pts.injEq, Cont.ints.injEq, Cont.bools.injEq, Cont.ptss.injEq, Cont.intss.injEq, Cont.boolss.injEq, true_and, and_true, implies_true, e]
    exact ⟨fun h => ⟨h.1.1.1, h.1.1.2, h.1.2, h.2⟩, rfl⟩
  · cases h
theorem bxor_self (a : Bool) : bxor a a = false := by cases a <;> simp [bxor]
namespace Pl
def nth (ps : List Pt) (i : Nat) : Pt := ps.getD i (0, 0)
theorem nth_eq {ps : List Pt} {i : Nat} (h : i < ps.length) : nth ps i = ps[i] := by
  unfold nth; rw [List.getD_eq_getElem?_getD, List.getElem?_eq_getElem h]; rfl
theorem nth_mem {ps : List Pt} {i : Nat} (h : i < ps.length) : nth ps i ∈ ps := by rw [nth_eq h]; exact List.getElem_mem h
/-- The corner behind corner i. -/
def nx (ps : List Pt) (i : Nat) : Nat := (i + 1) % ps.length
theorem nx_lt {ps : List Pt} {i : Nat} (h : i < ps.length) : nx ps i < ps.length := Nat.mod_lt _ (by omega)
def Strict (ps : List Pt) : Prop := ∀ i, i < ps.length → ∀ n, n < ps.length → n ≠ i → n ≠ nx ps i → 0 < crs (nth ps i) (nth ps (nx ps i)) (nth ps n)
def insP (ps : List Pt) (p : Pt) : Prop := ∀ i, i < ps.length → 0 ≤ crs (nth ps i) (nth ps (nx ps i)) p
/-- Begin with the second corner. -/
def turn : List Pt → List Pt
  | [] => []
  | a :: l => l ++ [a]
theorem turn_length (ps : List Pt) : (turn ps).length = ps.length := by cases ps <;> simp [turn]
theorem turn_nth {ps : List Pt} {i : Nat} (h : i < ps.length) : nth (turn ps) i = nth ps (nx ps i) := by
  cases ps with
  | nil => simp at h
  | cons a l =>
    unfold turn nx
    simp only [List.length_cons] at h ⊢
    by_cases hi : i < l.length
    · rw [Nat.mod_eq_of_lt (by omega)]
      rw [nth_eq (by simp; omega), nth_eq (by simp; omega)]
      simp [List.getElem_append_left, hi]
    · have : i = l.length := by omega
      subst this
      rw [Nat.mod_self, nth_eq (by simp), nth_eq (by simp)]
      simp
theorem nx_turn (ps : List Pt) (i : Nat) : nx (turn ps) i = nx ps i := by unfold nx; rw [turn_length]
/-- Every corner is the one behind some corner. -/
theorem nx_onto {ps : List Pt} {i : Nat} (h : i < ps.length) : ∃ j, j < ps.length ∧ nx ps j = i := by
  unfold nx
  cases i with
  | zero => exact ⟨ps.length - 1, by omega, by rw [show ps.length - 1 + 1 = ps.length from by omega, Nat.mod_self]⟩
  | succ i => exact ⟨i, by omega, Nat.mod_eq_of_lt h⟩
theorem nx_inj {ps : List Pt} {i j : Nat} (hi : i < ps.length) (hj : j < ps.length) (h : nx ps i = nx ps j) : i = j := by
  unfold nx at h
  by_cases h1 : i + 1 < ps.length
  · by_cases h2 : j + 1 < ps.length
    · rw [Nat.mod_eq_of_lt h1, Nat.mod_eq_of_lt h2] at h; omega
    · have e : j + 1 = ps.length := by omega
      rw [e, Nat.mod_self, Nat.mod_eq_of_lt h1] at h; omega
  · have e1 : i + 1 = ps.length := by omega
    by_cases h2 : j + 1 < ps.length
    · rw [e1, Nat.mod_self, Nat.mod_eq_of_lt h2] at h; omega
    · omega
theorem insP_turn {ps : List Pt} {p : Pt} : insP (turn ps) p ↔ insP ps p := by
  unfold insP
  rw [turn_length]
  constructor
  · intro h i hi
    obtain ⟨j, hj, rfl⟩ := nx_onto hi
    have := h j hj
    rw [turn_nth hj, nx_turn, turn_nth (nx_lt hj)] at this
    exact this
  · intro h i hi
    rw [turn_nth hi, nx_turn, turn_nth (nx_lt hi)]
    exact h _ (nx_lt hi)
theorem strict_turn {ps : List Pt} (h : Strict ps) : Strict (turn ps) := by
  intro i hi n hn h1 h2
  rw [turn_length] at hi hn
  rw [nx_turn] at h2 ⊢
  rw [turn_nth hi, turn_nth (nx_lt hi), turn_nth hn]
  exact h _ (nx_lt hi) _ (nx_lt hn) (fun e => h1 (nx_inj hn hi e)) (fun e => h2 (nx_inj hn (nx_lt hi) e))
/-- A sum over the corners. -/
def sumN (f : Nat → Int) : Nat → Int
  | 0 => 0
  | n + 1 => sumN f n + f n
theorem sumN_congr {f g : Nat → Int} : ∀ n, (∀ i, i < n → f i = g i) → sumN f n = sumN g n
  | 0, _ => rfl
  | n + 1, h => by rw [sumN, sumN, sumN_congr n (fun i hi => h i (by omega)), h n (by omega)]
theorem sumN_add (f g : Nat → Int) : ∀ n, sumN (fun i => f i + g i) n = sumN f n + sumN g n
  | 0 => rfl
  | n + 1 => by simp only [sumN]; rw [sumN_add f g n]; omega
theorem sumN_shift (f : Nat → Int) : ∀ n, sumN (fun i => f (i + 1)) n + f 0 = sumN f (n + 1)
  | 0 => by simp [sumN]
  | n + 1 => by have := sumN_shift f n; simp only [sumN] at *; omega
theorem sumN_nx {ps : List Pt} (f : Nat → Int) (hn : 0 < ps.length) : sumN (fun i => f (nx ps i)) ps.length = sumN f ps.length := by
  obtain ⟨m, hm⟩ : ∃ m, ps.length = m + 1 := ⟨ps.length - 1, by omega⟩
  have e : sumN (fun i => f (nx ps i)) ps.length = sumN (fun i => f (i + 1)) m + f 0 := by
    rw [hm, sumN]
    congr 1
    · refine sumN_congr m fun i hi => ?_
      unfold nx; rw [Nat.mod_eq_of_lt (by omega)]
    · unfold nx; rw [hm, Nat.mod_self]
  rw [e, sumN_shift, ← hm]
theorem sumN_le {f g : Nat → Int} : ∀ n, (∀ i, i < n → f i ≤ g i) → sumN f n ≤ sumN g n
  | 0, _ => Int.le_refl _
  | n + 1, h => by have := sumN_le n (fun i hi => h i (by omega)); have := h n (by omega); simp only [sumN]; omega
theorem sumN_eq_le {f g : Nat → Int} : ∀ n, (∀ i, i < n → f i ≤ g i) → sumN f n = sumN g n → ∀ i, i < n → f i = g i
  | 0, _, _, i, hi => by omega
  | n + 1, h, he, i, hi => by
    have h1 := sumN_le n (fun i hi => h i (by omega))
    have h2 := h n (by omega)
    simp only [sumN] at he
    rcases Nat.lt_or_ge i n with hin | hin
    · exact sumN_eq_le n (fun i hi => h i (by omega)) (by omega) i hin
    · have : i = n := by omega
      subst this; omega
/-- Twice the area, as the program sums it. -/
def area2 (ps : List Pt) : Int := sumN (fun i => (nth ps i).1 * (nth ps (nx ps i)).2 - (nth ps i).2 * (nth ps (nx ps i)).1) ps.length
theorem area_from (ps : List Pt) (o : Pt) (hn : 0 < ps.length) : sumN (fun i => crs o (nth ps i) (nth ps (nx ps i))) ps.length = area2 ps := by
  have e : ∀ i, crs o (nth ps i) (nth ps (nx ps i)) = ((nth ps i).1 * (nth ps (nx ps i)).2 - (nth ps i).2 * (nth ps (nx ps i)).1) + ((o.2 * (nth ps (nx ps i)).1 - o.1 * (nth ps (nx ps i)).2) + (o.1 * (nth ps i).2 - o.2 * (nth ps i).1)) := by
    intro i; unfold crs; grind
  rw [sumN_congr _ (fun i _ => e i), sumN_add, sumN_add]
  have e2 := sumN_nx (ps := ps) (fun j => o.2 * (nth ps j).1 - o.1 * (nth ps j).2) hn
  have e3 : sumN (fun i => o.2 * (nth ps (nx ps i)).1 - o.1 * (nth ps (nx ps i)).2) ps.length + sumN (fun i => o.1 * (nth ps i).2 - o.2 * (nth ps i).1) ps.length = 0 := by
    rw [e2, ← sumN_add]
    have : ∀ n, sumN (fun i => o.2 * (nth ps i).1 - o.1 * (nth ps i).2 + (o.1 * (nth ps i).2 - o.2 * (nth ps i).1)) n = 0 := by
      intro n; induction n with
      | zero => rfl
      | succ n ih => simp only [sumN, ih]; omega
    exact this _
  unfold area2
  omega
theorem area_turn (ps : List Pt) : area2 (turn ps) = area2 ps := by
  by_cases hn : 0 < ps.length
  · unfold area2
    rw [turn_length]
    rw [← sumN_nx (fun i => (nth ps i).1 * (nth ps (nx ps i)).2 - (nth ps i).2 * (nth ps (nx ps i)).1) hn]
    refine sumN_congr _ fun i hi => ?_
    rw [turn_nth hi, nx_turn, turn_nth (nx_lt hi)]
  · cases ps with
    | nil => rfl
    | cons a l => simp at hn
/-- The reference's sum of triangles. -/
def fan (ps : List Pt) (n : Nat) : Int := sumN (fun k => crs (nth ps 0) (nth ps (k + 1)) (nth ps (k + 2))) n
theorem area_fan (ps : List Pt) (hn : 2 ≤ ps.length) : fan ps (ps.length - 2) = area2 ps := by
  rw [← area_from ps (nth ps 0) (by omega)]
  obtain ⟨m, hm⟩ : ∃ m, ps.length = m + 2 := ⟨ps.length - 2, by omega⟩
  rw [hm, show m + 2 - 2 = m from by omega]
  have e := sumN_shift (fun i => crs (nth ps 0) (nth ps i) (nth ps (nx ps i))) (m + 1)
  rw [show m + 2 = m + 1 + 1 from rfl, ← e, sumN]
  have h0 : crs (nth ps 0) (nth ps 0) (nth ps (nx ps 0)) = 0 := by unfold crs; grind
  have hl : crs (nth ps 0) (nth ps (m + 1)) (nth ps (nx ps (m + 1))) = 0 := by
    have : nx ps (m + 1) = 0 := by unfold nx; rw [hm]; exact Nat.mod_self _
    rw [this]; unfold crs; grind
  rw [h0, hl]
  unfold fan
  rw [sumN_congr (f := fun k => crs (nth ps 0) (nth ps (k + 1)) (nth ps (k + 2))) (g := fun i => crs (nth ps 0) (nth ps (i + 1)) (nth ps (nx ps (i + 1)))) m]
  · omega
  · intro i hi
    have : nx ps (i + 1) = i + 2 := by unfold nx; exact Nat.mod_eq_of_lt (by omega)
    rw [this]
theorem crs_rot (a b c : Pt) : crs b c a = crs a b c := by unfold crs; grind
theorem area_pos {ps : List Pt} (h : Strict ps) (hn : 3 ≤ ps.length) : 0 < area2 ps := by
  rw [← area_fan ps (by omega)]
  have key : ∀ n, n + 2 ≤ ps.length → 0 ≤ fan ps n ∧ (0 < n → 0 < fan ps n) := by
    intro n
    induction n with
    | zero => intro _; exact ⟨Int.le_refl _, fun h => by omega⟩
    | succ n ih =>
      intro hle
      have ih := ih (by omega)
      have e : nx ps (n + 1) = n + 2 := by unfold nx; exact Nat.mod_eq_of_lt (by omega)
      have := h (n + 1) (by omega) 0 (by omega) (by omega) (by rw [e]; omega)
      rw [e, ← crs_rot, ← crs_rot, crs_rot] at this
      have e3 : fan ps (n + 1) = fan ps n + crs (nth ps 0) (nth ps (n + 1)) (nth ps (n + 2)) := rfl
      rw [e3]
      have e4 : crs (nth ps (n + 1)) (nth ps (n + 2)) (nth ps 0) = crs (nth ps 0) (nth ps (n + 1)) (nth ps (n + 2)) := by unfold crs; grind
      have e5 := h (n + 1) (by omega) 0 (by omega) (by omega) (by rw [e]; omega)
      rw [e, e4] at e5
      exact ⟨by omega, fun _ => by omega⟩
  exact (key (ps.length - 2) (by omega)).2 (by omega)
/-- Without its first corner a polygon loses a triangle. -/
theorem area_tail (a b : Pt) (l : List Pt) (hl : l ≠ []) : area2 (a :: b :: l) = area2 (b :: l) + crs (nth (a :: b :: l) (l.length + 1)) a b := by
  obtain ⟨m, hm⟩ : ∃ m, l.length = m + 1 := ⟨l.length - 1, by have := List.length_pos_iff.2 hl; omega⟩
  have h1 := area_fan (turn (a :: b :: l)) (by rw [turn_length]; simp)
  have h2 := area_fan (b :: l) (by simp; omega)
  rw [area_turn, turn_length] at h1
  rw [← h1, ← h2]
  have ht : turn (a :: b :: l) = b :: (l ++ [a]) := rfl
  simp only [List.length_cons, hm]
  rw [show m + 1 + 1 + 1 - 2 = m + 1 from by omega, show m + 1 + 1 - 2 = m from by omega]
  unfold fan
  rw [sumN]
  have hsame : ∀ i, i < m + 2 → nth (turn (a :: b :: l)) i = nth (b :: l) i := by
    intro i hi
    rw [ht, nth_eq (by simp; omega), nth_eq (by simp; omega)]
    cases i with
    | zero => rfl
    | succ i => simp [List.getElem_append_left, show i < l.length by omega]
  rw [sumN_congr (f := fun k => crs (nth (turn (a :: b :: l)) 0) (nth (turn (a :: b :: l)) (k + 1)) (nth (turn (a :: b :: l)) (k + 2))) (g := fun k => crs (nth (b :: l) 0) (nth (b :: l) (k + 1)) (nth (b :: l) (k + 2))) m (fun i hi => by rw [hsame 0 (by omega), hsame (i + 1) (by omega), hsame (i + 2) (by omega)])]
  have e0 : nth (turn (a :: b :: l)) 0 = b := rfl
  have e1 : nth (turn (a :: b :: l)) (m + 1) = nth (a :: b :: l) (m + 1 + 1) := by
    rw [turn_nth (by simp; omega)]
    congr 1
    unfold nx
    rw [Nat.mod_eq_of_lt (by simp; omega)]
  have e2 : nth (turn (a :: b :: l)) (m + 2) = a := by
    rw [ht, nth_eq (by simp; omega)]
    simp only [List.getElem_cons_succ]
    rw [List.getElem_append_right (by omega)]
    simp
  rw [e0, e1, e2]
  have : crs b (nth (a :: b :: l) (m + 1 + 1)) a = crs (nth (a :: b :: l) (m + 1 + 1)) a b := by unfold crs; grind
  omega
def absI (x : Int) : Int := max x (-x)
/-- A point is inside exactly if the triangles to the edges make up the area. -/
theorem inside_area {ps : List Pt} (hn : 0 < ps.length) (p : Pt) : insP ps p ↔ sumN (fun i => absI (crs p (nth ps i) (nth ps (nx ps i)))) ps.length = area2 ps := by
  rw [← area_from ps p hn]
  constructor
  · intro h
    refine sumN_congr _ fun i hi => ?_
    have := h i hi
    rw [show crs (nth ps i) (nth ps (nx ps i)) p = crs p (nth ps i) (nth ps (nx ps i)) from by unfold crs; grind] at this
    unfold absI; omega
  · intro h i hi
    have := sumN_eq_le ps.length (f := fun i => crs p (nth ps i) (nth ps (nx ps i))) (g := fun i => absI (crs p (nth ps i) (nth ps (nx ps i)))) (fun i _ => by unfold absI; omega) h.symm i hi
    rw [show crs (nth ps i) (nth ps (nx ps i)) p = crs p (nth ps i) (nth ps (nx ps i)) from by unfold crs; grind]
    unfold absI at this; omega
theorem corner_inside {ps : List Pt} (h : Strict ps) {n : Nat} (hn : n < ps.length) : insP ps (nth ps n) := by
  intro i hi
  by_cases h1 : n = i
  · subst h1
    have : crs (nth ps n) (nth ps (nx ps n)) (nth ps n) = 0 := by unfold crs; grind
    omega
  · by_cases h2 : n = nx ps i
    · rw [← h2]
      have : crs (nth ps i) (nth ps n) (nth ps n) = 0 := by unfold crs; grind
      omega
    · have := h i hi n hn h1 h2; omega
/-- The corners in the opposite order go clockwise. -/
theorem strict_rev {ps : List Pt} (h : Strict ps) (hn : 3 ≤ ps.length) : ¬ Strict ps.reverse := by
  intro hr
  have h1 := hr 0 (by simp; omega) 2 (by simp; omega) (by omega) (by unfold nx; rw [Nat.mod_eq_of_lt (by simp; omega)]; omega)
  have e0 : nth ps.reverse 0 = nth ps (ps.length - 1) := by rw [nth_eq (by simp; omega), nth_eq (by omega)]; simp
  have en : nx ps.reverse 0 = 1 := by unfold nx; exact Nat.mod_eq_of_lt (by simp; omega)
  have e1 : nth ps.reverse 1 = nth ps (ps.length - 2) := by rw [nth_eq (by simp; omega), nth_eq (by omega)]; simp; congr 1
  have e2 : nth ps.reverse 2 = nth ps (ps.length - 3) := by rw [nth_eq (by simp; omega), nth_eq (by omega)]; simp; congr 1
  rw [en, e0, e1, e2] at h1
  have ek : nx ps (ps.length - 2) = ps.length - 1 := by unfold nx; rw [Nat.mod_eq_of_lt (by omega)]; omega
  have h2 := h (ps.length - 2) (by omega) (ps.length - 3) (by omega) (by omega) (by rw [ek]; omega)
  rw [ek] at h2
  have : crs (nth ps (ps.length - 1)) (nth ps (ps.length - 2)) (nth ps (ps.length - 3)) = - crs (nth ps (ps.length - 2)) (nth ps (ps.length - 1)) (nth ps (ps.length - 3)) := by unfold crs; grind
  omega

end Pl
theorem ilen_nat (l : List Pt) : ilen l = (l.length : Int) := by unfold ilen; rfl
theorem nth_get (l : List Pt) (i : Nat) : (getx l i, gety l i) = Pl.nth l i := by unfold getx gety Pl.nth; simp
theorem nx_nat {l : List Pt} {i : Nat} (h : i < l.length) : nx l i = (Pl.nx l i : Int) := by
  unfold nx Pl.nx
  rw [ilen_nat, Int.tmod_eq_emod_of_nonneg (by omega), show ((i : Int) + 1) = ((i + 1 : Nat) : Int) by omega]
  exact (Int.natCast_emod _ _).symm
theorem cr_nat {l : List Pt} (h : allB l = true) {a b c : Nat} (ha : a < l.length) (hb : b < l.length) (hc : c < l.length) : cr l a b c = crs (Pl.nth l a) (Pl.nth l b) (Pl.nth l c) := by
  rw [allB_N] at h
  have hv := allN_iff.1 h
  rw [ilen_nat] at hv
  unfold cr
  rw [crW_e (hv a (by omega) (by omega)) (hv b (by omega) (by omega)) (hv c (by omega) (by omega)), nth_get, nth_get, nth_get]
theorem conv_iff (l : List Pt) : convB l = true ↔ (3 ≤ l.length ∧ l.length ≤ 8 ∧ allB l = true ∧ Pl.Strict l) := by
  constructor
  · intro h
    have hh := h
    unfold convB at hh
    simp only [Bool.and_eq_true] at hh
    obtain ⟨⟨h1, h2⟩, h3⟩ := hh
    have h4 := inB_true h1
    rw [ilen_nat] at h4
    refine ⟨by omega, by omega, h2, fun i hi n hn n1 n2 => ?_⟩
    have h5 := allN_iff.1 (allN_iff.1 h3 i (by omega) (by rw [ilen_nat]; omega)) n (by omega) (by rw [ilen_nat]; omega)
    unfold convE at h5
    rw [nx_nat hi, cr_nat h2 hi (Pl.nx_lt hi) hn] at h5
    simp only [decide_eq_true_eq] at h5
    omega
  · rintro ⟨h1, h2, h3, h4⟩
    unfold convB
    rw [h3]
    simp only [Bool.and_true, Bool.and_eq_true]
    refine ⟨by unfold inB; rw [ilen_nat]; simp; omega, allN_iff.2 fun i i0 i1 => allN_iff.2 fun j j0 j1 => ?_⟩
    obtain ⟨i, rfl⟩ := Int.eq_ofNat_of_zero_le i0
    obtain ⟨j, rfl⟩ := Int.eq_ofNat_of_zero_le j0
    rw [ilen_nat] at i1 j1
    have hi : i < l.length := by omega
    have hj : j < l.length := by omega
    unfold convE
    rw [nx_nat hi, cr_nat h3 hi (Pl.nx_lt hi) hj]
    simp only [decide_eq_true_eq]
    by_cases e1 : j = i
    · exact .inl (by omega)
    · by_cases e2 : j = Pl.nx l i
      · exact .inr (.inl (by omega))
      · exact .inr (.inr (h4 i hi j hj e1 e2))
theorem allB_turn {l : List Pt} (h : allB l = true) : allB (Pl.turn l) = true := by
  cases l with
  | nil => exact h
  | cons a l =>
    simp only [allB, Pl.turn, List.all_append, List.all_cons, List.all_nil, Bool.and_true, Bool.and_eq_true] at h ⊢
    exact ⟨h.2, h.1⟩
theorem conv_turn {l : List Pt} (h : convB l = true) : convB (Pl.turn l) = true := by
  obtain ⟨h1, h2, h3, h4⟩ := (conv_iff l).1 h
  exact (conv_iff _).2 ⟨by rw [Pl.turn_length]; exact h1, by rw [Pl.turn_length]; exact h2, allB_turn h3, Pl.strict_turn h4⟩
theorem conv_rev {l : List Pt} (h : convB l = true) : convB l.reverse = false := by
  obtain ⟨h1, _, _, h4⟩ := (conv_iff l).1 h
  cases hc : convB l.reverse with
  | false => rfl
  | true => exact absurd ((conv_iff _).1 hc).2.2.2 (Pl.strict_rev h4 h1)
theorem rev_step {l : List Pt} {k : Int} (h0 : 0 ≤ k) (h1 : k < ilen l) : iapp (l.drop (k + 1).toNat).reverse [(getx l k, gety l k)] = (l.drop k.toNat).reverse := by
  obtain ⟨k, rfl⟩ := Int.eq_ofNat_of_zero_le h0
  rw [ilen_nat] at h1
  have hk : k < l.length := by omega
  rw [nth_get, Pl.nth_eq hk, show ((k : Int) + 1).toNat = k + 1 by omega, show ((k : Int)).toNat = k by omega]
  unfold iapp
  rw [show l.drop k = l[k] :: l.drop (k + 1) from List.drop_eq_getElem_cons hk, List.reverse_cons]
namespace Pl
theorem min_exists {al be : Nat → Int} : ∀ n, (∃ i, i < n ∧ be i < 0) → ∃ i, i < n ∧ be i < 0 ∧ ∀ j, j < n → be j < 0 → al i * (-be j) ≤ al j * (-be i)
  | 0, h => by obtain ⟨i, hi, _⟩ := h; omega
  | n + 1, h => by
    by_cases hn : ∃ i, i < n ∧ be i < 0
    · obtain ⟨i, hi, hb, hm⟩ := min_exists n hn
      by_cases hbn : be n < 0
      · by_cases hc : al i * (-be n) ≤ al n * (-be i)
        · exact ⟨i, by omega, hb, fun j hj hbj => by
            rcases Nat.lt_or_ge j n with h | h
            · exact hm j h hbj
            · have : j = n := by omega
              subst this; exact hc⟩
        · refine ⟨n, by omega, hbn, fun j hj hbj => ?_⟩
          rcases Nat.lt_or_ge j n with h | h
          · have h1 := hm j h hbj
            have p1 : al n * (-be i) * (-be j) ≤ al i * (-be n) * (-be j) := Int.mul_le_mul_of_nonneg_right (by omega) (by omega)
            have p2 : al i * (-be j) * (-be n) ≤ al j * (-be i) * (-be n) := Int.mul_le_mul_of_nonneg_right h1 (by omega)
            have p3 : (-be i) * (al n * (-be j)) ≤ (-be i) * (al j * (-be n)) := by
              have e1 : (-be i) * (al n * (-be j)) = al n * (-be i) * (-be j) := by grind
              have e2 : al i * (-be n) * (-be j) = al i * (-be j) * (-be n) := by grind
              have e3 : (-be i) * (al j * (-be n)) = al j * (-be i) * (-be n) := by grind
              omega
            exact Int.le_of_mul_le_mul_left p3 (by omega)
          · have : j = n := by omega
            subst this; exact Int.le_refl _
      · exact ⟨i, by omega, hb, fun j hj hbj => by
          rcases Nat.lt_or_ge j n with h | h
          · exact hm j h hbj
          · have : j = n := by omega
            subst this; omega⟩
    · obtain ⟨i, hi, hb⟩ := h
      have : i = n := by
        rcases Nat.lt_or_ge i n with h | h
        · exact absurd ⟨i, h, hb⟩ hn
        · omega
      subst this
      refine ⟨i, hi, hb, fun j hj hbj => ?_⟩
      rcases Nat.lt_or_ge j i with h | h
      · exact absurd ⟨j, h, hbj⟩ hn
      · have : j = i := by omega
        subst this; exact Int.le_refl _
theorem crs_lin (a b p q : Pt) (s t : Int) : s * crs a b p + t * crs a b q = (b.1 - a.1) * ((s * p.2 + t * q.2) - (s + t) * a.2) - (b.2 - a.2) * ((s * p.1 + t * q.1) - (s + t) * a.1) := by unfold crs; grind
/-- Where a segment leaves a convex polygon it meets an edge. -/
theorem exit_edge {ps : List Pt} (hs : Strict ps) (hn : 3 ≤ ps.length) {p q : Pt} (hp : insP ps p) (hq : ¬ insP ps q) :
    ∃ i, i < ps.length ∧ Com p q (nth ps i) (nth ps (nx ps i)) := by
  have hex : ∃ i, i < ps.length ∧ crs (nth ps i) (nth ps (nx ps i)) q < 0 := by
    apply Classical.byContradiction
    intro h
    apply hq
    intro i hi
    apply Int.not_lt.1
    intro hlt
    exact h ⟨i, hi, hlt⟩
  obtain ⟨i, hi, hb, hm⟩ := min_exists (al := fun i => crs (nth ps i) (nth ps (nx ps i)) p) (be := fun i => crs (nth ps i) (nth ps (nx ps i)) q) ps.length hex
  refine ⟨i, hi, ?_⟩
  obtain ⟨h0, hh0, hhi⟩ := nx_onto hi
  have ha := hp i hi
  -- the point where it leaves is on the left of every edge
  have hall : ∀ j, j < ps.length → 0 ≤ (- crs (nth ps i) (nth ps (nx ps i)) q) * crs (nth ps j) (nth ps (nx ps j)) p + crs (nth ps i) (nth ps (nx ps i)) p * crs (nth ps j) (nth ps (nx ps j)) q := by
    intro j hj
    have hpj := hp j hj
    rcases (show crs (nth ps j) (nth ps (nx ps j)) q < 0 ∨ 0 ≤ crs (nth ps j) (nth ps (nx ps j)) q by omega) with hq' | hq'
    · have := hm j hj hq'
      rw [Int.mul_neg] at this
      have e : (- crs (nth ps i) (nth ps (nx ps i)) q) * crs (nth ps j) (nth ps (nx ps j)) p = crs (nth ps j) (nth ps (nx ps j)) p * (- crs (nth ps i) (nth ps (nx ps i)) q) := Int.mul_comm _ _
      omega
    · have p1 := Int.mul_nonneg (show 0 ≤ - crs (nth ps i) (nth ps (nx ps i)) q by omega) hpj
      have p2 := Int.mul_nonneg ha hq'
      omega
  have hk := hall (nx ps i) (nx_lt hi)
  have hz := hall h0 hh0
  rw [hhi] at hz
  -- the edge before and the edge behind
  have hnn : nx ps (nx ps i) ≠ i := by
    intro e
    unfold nx at e
    by_cases h1 : i + 1 < ps.length
    · rw [Nat.mod_eq_of_lt h1] at e
      by_cases h2 : i + 1 + 1 < ps.length
      · rw [Nat.mod_eq_of_lt h2] at e; omega
      · rw [show i + 1 + 1 = ps.length by omega, Nat.mod_self] at e; omega
    · rw [show i + 1 = ps.length by omega, Nat.mod_self, Nat.zero_add, Nat.mod_eq_of_lt (by omega)] at e; omega
  have hni : nx ps i ≠ i := by
    intro e
    unfold nx at e
    by_cases h1 : i + 1 < ps.length
    · rw [Nat.mod_eq_of_lt h1] at e; omega
    · rw [show i + 1 = ps.length by omega, Nat.mod_self] at e; omega
  have hC0 := hs (nx ps i) (nx_lt hi) i hi (fun e => hni e.symm) (fun e => hnn e.symm)
  have hE0 := hs h0 hh0 (nx ps i) (nx_lt hi) (by
    intro e
    have : nx ps (nx ps i) = i := by rw [e, hhi]
    exact hnn this) (by rw [hhi]; exact hni)
  rw [hhi] at hE0
  generalize nth ps i = a at *
  generalize nth ps (nx ps i) = b at *
  generalize nth ps (nx ps (nx ps i)) = c at *
  generalize nth ps h0 = z at *
  clear hm hall hex
  generalize hal : crs a b p = al at *
  generalize hbe : crs a b q = be at *
  generalize hC1 : (-be) * crs b c p + al * crs b c q = C1 at *
  generalize hE1 : (-be) * crs z a p + al * crs z a q = E1 at *
  generalize hC0' : crs b c a = C0 at *
  generalize hE0' : crs z a b = E0 at *
  have key : E0 * ((al - be) * C0 - C1) = C0 * E1 := by
    subst hC1 hE1 hC0' hE0'
    rw [← hal, ← hbe]
    unfold crs; grind
  have hv : 0 ≤ (al - be) * C0 - C1 := by
    have := Int.mul_nonneg (show 0 ≤ C0 by omega) hz
    rw [← key] at this
    apply Int.not_lt.1
    intro hlt
    have h1 := Int.mul_pos hE0 (show 0 < -((al - be) * C0 - C1) by omega)
    rw [Int.mul_neg] at h1
    omega
  refine ⟨(-be) * C0, al * C0, C1, (al - be) * C0 - C1, Int.mul_nonneg (by omega) (by omega), Int.mul_nonneg ha (by omega), hk, hv, ?_, ?_, ?_, ?_⟩
  · have e : (-be) * C0 + al * C0 = (al - be) * C0 := by grind
    rw [e]; exact Int.mul_pos (by omega) hC0
  · grind
  · subst hC1 hC0'
    rw [← hal, ← hbe]
    unfold crs; grind
  · subst hC1 hC0'
    rw [← hal, ← hbe]
    unfold crs; grind
/-- A segment and a convex polygon. -/
def hitsP (ps : List Pt) (a b : Pt) : Prop := insP ps a ∨ insP ps b ∨ ∃ i, i < ps.length ∧ meetB a b (nth ps i) (nth ps (nx ps i)) = true
def cmeetP (a b : List Pt) : Prop := (∃ i, i < a.length ∧ hitsP b (nth a i) (nth a (nx a i))) ∨ insP a (nth b 0)
theorem hitsP_flip {ps : List Pt} {a b : Pt} : hitsP ps a b ↔ hitsP ps b a := by
  unfold hitsP
  constructor
  · rintro (h | h | ⟨i, hi, h⟩)
    · exact .inr (.inl h)
    · exact .inl h
    · exact .inr (.inr ⟨i, hi, by rw [meetB_flip]; exact h⟩)
  · rintro (h | h | ⟨i, hi, h⟩)
    · exact .inr (.inl h)
    · exact .inl h
    · exact .inr (.inr ⟨i, hi, by rw [meetB_flip]; exact h⟩)
/-- Going round from a corner with a property to one without, some edge leads out. -/
theorem leaves {ps : List Pt} {P : Pt → Prop} {m : Nat} (hm : m < ps.length) (hP : P (nth ps m)) {k : Nat} (hk : k < ps.length) (hn : ¬ P (nth ps k)) : ∃ i, i < ps.length ∧ P (nth ps i) ∧ ¬ P (nth ps (nx ps i)) := by
  apply Classical.byContradiction
  intro hno
  have step : ∀ i, i < ps.length → P (nth ps i) → P (nth ps (nx ps i)) := by
    intro i hi h
    apply Classical.byContradiction
    intro h2
    exact hno ⟨i, hi, h, h2⟩
  have all : ∀ n, P (nth ps ((m + n) % ps.length)) := by
    intro n
    induction n with
    | zero => rw [Nat.add_zero, Nat.mod_eq_of_lt hm]; exact hP
    | succ n ih =>
      have := step _ (Nat.mod_lt _ (by omega)) ih
      unfold nx at this
      rw [Nat.mod_add_mod] at this
      exact this
  apply hn
  have := all (ps.length - m + k)
  rw [show m + (ps.length - m + k) = ps.length + k by omega, Nat.add_mod_left, Nat.mod_eq_of_lt hk] at this
  exact this
theorem cmeet_half {a b : List Pt} (hb : Strict b) (hbn : 3 ≤ b.length) (han : 0 < a.length) (h : cmeetP a b) : cmeetP b a := by
  rcases h with ⟨i, hi, h⟩ | h
  · have hcor : (∃ m, m < a.length ∧ insP b (nth a m)) → cmeetP b a := by
      rintro ⟨m, hm, hin⟩
      by_cases h0 : insP b (nth a 0)
      · exact .inr h0
      · obtain ⟨k, hk, h1, h2⟩ := leaves (P := insP b) hm hin han h0
        obtain ⟨j, hj, hc⟩ := exit_edge hb hbn h1 h2
        exact .inl ⟨j, hj, .inr (.inr ⟨k, hk, meetB_iff.2 (com_swap hc)⟩)⟩
    rcases h with h | h | ⟨j, hj, h⟩
    · exact hcor ⟨i, hi, h⟩
    · exact hcor ⟨nx a i, nx_lt hi, h⟩
    · exact .inl ⟨j, hj, .inr (.inr ⟨i, hi, by rw [← meetB_swap]; exact h⟩)⟩
  · exact .inl ⟨0, by omega, .inl h⟩
theorem cmeet_symm {a b : List Pt} (ha : Strict a) (han : 3 ≤ a.length) (hb : Strict b) (hbn : 3 ≤ b.length) : cmeetP a b ↔ cmeetP b a :=
  ⟨cmeet_half hb hbn (by omega), cmeet_half ha han (by omega)⟩

end Pl
theorem vat {l : List Pt} (h : allB l = true) {i : Nat} (hi : i < l.length) : vB (getx l i) (gety l i) = true := by
  rw [allB_N] at h; exact allN_iff.1 h i (by omega) (by rw [ilen_nat]; omega)
theorem ins_iff {l : List Pt} (hA : allB l = true) {p1 p2 : Int} (hp : vB p1 p2 = true) : insB l p1 p2 = true ↔ Pl.insP l (p1, p2) := by
  have e : ∀ i : Nat, i < l.length → (insE l p1 p2 i = true ↔ 0 ≤ crs (Pl.nth l i) (Pl.nth l (Pl.nx l i)) (p1, p2)) := by
    intro i hi
    unfold insE
    rw [nx_nat hi, crW_e (vat hA hi) (vat hA (Pl.nx_lt hi)) hp, nth_get, nth_get, decide_eq_true_eq]
  unfold insB
  rw [allN_iff, ilen_nat]
  constructor
  · intro h i hi
    exact (e i hi).1 (h i (by omega) (by omega))
  · intro h j j0 j1
    obtain ⟨j, rfl⟩ := Int.eq_ofNat_of_zero_le j0
    exact (e j (by omega)).2 (h j (by omega))
theorem hit_iff {l : List Pt} (hA : allB l = true) {a1 a2 b1 b2 : Int} (ha : vB a1 a2 = true) (hb : vB b1 b2 = true) : hitB l a1 a2 b1 b2 = true ↔ Pl.hitsP l (a1, a2) (b1, b2) := by
  unfold hitB Pl.hitsP
  simp only [Bool.or_eq_true, ins_iff hA ha, ins_iff hA hb, or_assoc]
  have e : ∀ i : Nat, i < l.length → hitE l a1 a2 b1 b2 i = meetB (a1, a2) (b1, b2) (Pl.nth l i) (Pl.nth l (Pl.nx l i)) := by
    intro i hi
    unfold hitE
    rw [nx_nat hi, nth_get, nth_get]
  have e2 : anyN (ilen l) (hitE l a1 a2 b1 b2) = true ↔ ∃ i, i < l.length ∧ meetB (a1, a2) (b1, b2) (Pl.nth l i) (Pl.nth l (Pl.nx l i)) = true := by
    rw [anyN_iff, ilen_nat]
    constructor
    · rintro ⟨j, j0, j1, h⟩
      obtain ⟨j, rfl⟩ := Int.eq_ofNat_of_zero_le j0
      exact ⟨j, by omega, by rw [← e j (by omega)]; exact h⟩
    · rintro ⟨i, hi, h⟩
      exact ⟨i, by omega, by omega, by rw [e i hi]; exact h⟩
  rw [e2]
theorem hit_flip (l : List Pt) (a1 a2 b1 b2 : Int) : hitB l b1 b2 a1 a2 = hitB l a1 a2 b1 b2 := by
  unfold hitB
  have : hitE l b1 b2 a1 a2 = hitE l a1 a2 b1 b2 := by funext i; unfold hitE; exact meetB_flip _ _ _ _
  rw [this, Bool.or_comm (insB l b1 b2)]
theorem anyN_1 {k : Int} (f : Int → Bool) (h : 0 ≤ k) : anyN (k + 1) f = (anyN k f || f k) := by
  obtain ⟨k, rfl⟩ := Int.eq_ofNat_of_zero_le h
  unfold anyN
  rw [show ((k : Int) + 1).toNat = k + 1 by omega, show (k : Int).toNat = k by omega, List.range_succ, List.any_append]
  simp
def g_laws_FnSegmentHits : List AV → Option Sg
  | [.s (.rdr n)] => some ⟨True, [.s (.bool (true))]⟩
  | _ => none
def sig_laws_FnSegmentHits : FuncId → List AV → Option Sg := sigL [(34, g_impl_SegmentHits), (35, g_spec_SegmentHits), (16, g_spec_ConvexValid), (28, g_spec_PointValid), (17, g_laws_alive), (26, g_impl_InsideConvex), (36, g_impl_SegmentsMeet)]
def xs_laws_FnSegmentHits : XS := ⟨xsigL [], ysigL [(33, g_spec_DrawSegmentHits)]⟩
theorem sig_laws_FnSegmentHits_ok : SigOK sig_laws_FnSegmentHits := sigL_cons F_impl_SegmentHits (sigL_cons F_spec_SegmentHits (sigL_cons F_spec_ConvexValid (sigL_cons F_spec_PointValid (sigL_cons F_laws_alive (sigL_cons F_impl_InsideConvex (sigL_cons F_impl_SegmentsMeet sigL_nil))))))
theorem xs_laws_FnSegmentHits_ok : XSigOK xs_laws_FnSegmentHits := ⟨xsigL_nil, ysigL_cons F_spec_DrawSegmentHits ysigL_nil⟩
theorem V_laws_FnSegmentHits (n : Int) : ((true = true) ∧ ((True) ∧ True) ∧ (true = true) ∧ ((True) ∧ (True) ∧ (True) ∧ True) ∧ ((ilt (1048576 : Int) n) = true → ((true = true) ∧ ((True) ∧ True) ∧ ((true : Bool) = (true)) ∧ True)) ∧ ((ilt (1048576 : Int) n) = false → ((true = true) ∧ ((True) ∧ True) ∧ (true = true) ∧ ((n ≤ 1048576)) ∧ (∀ l_129 : List Pt, ∀ x_130 : Int, ∀ y_131 : Int, ∀ z_132 : Int, ∀ w_133 : Int, ((ilen l_129 ≤ 40 ∧ -30000 ≤ x_130 ∧ x_130 ≤ 30000 ∧ -30000 ≤ y_131 ∧ y_131 ≤ 30000 ∧ -30000 ≤ z_132 ∧ z_132 ≤ 30000 ∧ -30000 ≤ w_133 ∧ w_133 ≤ 30000) → ((true = true) ∧ ((true = true) ∧ ((true = true) ∧ ((true = true) ∧ ((True) ∧ (True) ∧ (True) ∧ (True) ∧ (True) ∧ (true = true) ∧ ((True) ∧ (True) ∧ (True) ∧ ((True)) ∧ (True) ∧ True) ∧ (true = true) ∧ ((True) ∧ (True) ∧ (True) ∧ (True) ∧ ((True)) ∧ (True) ∧ (True) ∧ (NIs (bxor (convB (l_129) && (vB (x_130) (y_131) && vB (z_132) (w_133)) && hitB (l_129) (x_130) (y_131) (z_132) (w_133)) (convB (l_129) && (vB (x_130) (y_131) && vB (z_132) (w_133)) && hitB (l_129) (x_130) (y_131) (z_132) (w_133))) false → True) ∧ (NIs (bxor (convB (l_129) && (vB (x_130) (y_131) && vB (z_132) (w_133)) && hitB (l_129) (x_130) (y_131) (z_132) (w_133)) (convB (l_129) && (vB (x_130) (y_131) && vB (z_132) (w_133)) && hitB (l_129) (x_130) (y_131) (z_132) (w_133))) false → True) ∧ (NIs (bxor (convB (l_129) && (vB (x_130) (y_131) && vB (z_132) (w_133)) && hitB (l_129) (x_130) (y_131) (z_132) (w_133)) (convB (l_129) && (vB (x_130) (y_131) && vB (z_132) (w_133)) && hitB (l_129) (x_130) (y_131) (z_132) (w_133))) false → True) ∧ (NIs (bxor (convB (l_129) && (vB (x_130) (y_131) && vB (z_132) (w_133)) && hitB (l_129) (x_130) (y_131) (z_132) (w_133)) (convB (l_129) && (vB (x_130) (y_131) && vB (z_132) (w_133)) && hitB (l_129) (x_130) (y_131) (z_132) (w_133))) false → True) ∧ (NIs (bxor (convB (l_129) && (vB (x_130) (y_131) && vB (z_132) (w_133)) && hitB (l_129) (x_130) (y_131) (z_132) (w_133)) (convB (l_129) && (vB (x_130) (y_131) && vB (z_132) (w_133)) && hitB (l_129) (x_130) (y_131) (z_132) (w_133))) false → (True)) ∧ (NIs (bxor (convB (l_129) && (vB (x_130) (y_131) && vB (z_132) (w_133)) && hitB (l_129) (x_130) (y_131) (z_132) (w_133)) (convB (l_129) && (vB (x_130) (y_131) && vB (z_132) (w_133)) && hitB (l_129) (x_130) (y_131) (z_132) (w_133))) false → True) ∧ (True) ∧ True) ∧ ((bite (bxor (convB (l_129) && (vB (x_130) (y_131) && vB (z_132) (w_133)) && hitB (l_129) (x_130) (y_131) (z_132) (w_133)) (convB (l_129) && (vB (x_130) (y_131) && vB (z_132) (w_133)) && hitB (l_129) (x_130) (y_131) (z_132) (w_133))) true (bxor (convB (l_129) && (vB (x_130) (y_131) && vB (z_132) (w_133)) && hitB (l_129) (x_130) (y_131) (z_132) (w_133)) (convB (l_129) && (vB (z_132) (w_133) && vB (x_130) (y_131)) && hitB (l_129) (z_132) (w_133) (x_130) (y_131)))) = true → ((true = true) ∧ ((True) ∧ True) ∧ ((false : Bool) = (true)) ∧ True)) ∧ ((bite (bxor (convB (l_129) && (vB (x_130) (y_131) && vB (z_132) (w_133)) && hitB (l_129) (x_130) (y_131) (z_132) (w_133)) (convB (l_129) && (vB (x_130) (y_131) && vB (z_132) (w_133)) && hitB (l_129) (x_130) (y_131) (z_132) (w_133))) true (bxor (convB (l_129) && (vB (x_130) (y_131) && vB (z_132) (w_133)) && hitB (l_129) (x_130) (y_131) (z_132) (w_133)) (convB (l_129) && (vB (z_132) (w_133) && vB (x_130) (y_131)) && hitB (l_129) (z_132) (w_133) (x_130) (y_131)))) = false → ((true = true) ∧ ((True) ∧ ((True)) ∧ (True) ∧ (True) ∧ (NIs (bnot (convB (l_129))) false → True) ∧ (NIs (bnot (convB (l_129))) false → (True)) ∧ (NIs (bnot (convB (l_129))) false → True) ∧ (True) ∧ (True) ∧ (NIs (bite (bnot (convB (l_129))) true (bnot (vB (x_130) (y_131)))) false → True) ∧ (NIs (bite (bnot (convB (l_129))) true (bnot (vB (x_130) (y_131)))) false → (True)) ∧ (NIs (bite (bnot (convB (l_129))) true (bnot (vB (x_130) (y_131)))) false → True) ∧ (True) ∧ True) ∧ ((bite (bite (bnot (convB (l_129))) true (bnot (vB (x_130) (y_131)))) true (bnot (vB (z_132) (w_133)))) = true → ((true = true) ∧ ((True) ∧ (True) ∧ (True) ∧ (NIs (bnot (convB (l_129) && (vB (x_130) (y_131) && vB (z_132) (w_133)) && hitB (l_129) (x_130) (y_131) (z_132) (w_133))) true → (True)) ∧ (True) ∧ (True) ∧ True) ∧ (((bite (bnot (convB (l_129) && (vB (x_130) (y_131) && vB (z_132) (w_133)) && hitB (l_129) (x_130) (y_131) (z_132) (w_133))) (true) false) : Bool) = (true)) ∧ True)) ∧ ((bite (bite (bnot (convB (l_129))) true (bnot (vB (x_130) (y_131)))) true (bnot (vB (z_132) (w_133)))) = false → ((true = true) ∧ ((True) ∧ (True) ∧ ((True)) ∧ (True) ∧ (NIs (convB (l_129) && vB (x_130) (y_131) && insB (l_129) (x_130) (y_131)) false → True) ∧ (NIs (convB (l_129) && vB (x_130) (y_131) && insB (l_129) (x_130) (y_131)) false → True) ∧ (NIs (convB (l_129) && vB (x_130) (y_131) && insB (l_129) (x_130) (y_131)) false → (True)) ∧ (True) ∧ (True) ∧ True) ∧ (true = true) ∧ ((True) ∧ True) ∧ ∃ (I1 : List GV → Prop) (μ1 : List GV → Nat), (((true = true) ∧ ((((bite (convB (l_129) && vB (x_130) (y_131) && insB (l_129) (x_130) (y_131)) true (convB (l_129) && vB (z_132) (w_133) && insB (l_129) (z_132) (w_133))) : Bool) = (bite (convB (l_129) && vB (x_130) (y_131) && insB (l_129) (x_130) (y_131)) true (convB (l_129) && vB (z_132) (w_133) && insB (l_129) (z_132) (w_133)))) ∧ (((0 : Int) : Int) = (0 : Int)) ∧ ((Cont.pts (l_129)) = (Cont.pts (l_129))) ∧ ((((x_130) : Int) = (x_130)) ∧ (((y_131) : Int) = (y_131)) ∧ True) ∧ (((convB (l_129) && vB (x_130) (y_131) && insB (l_129) (x_130) (y_131)) : Bool) = (convB (l_129) && vB (x_130) (y_131) && insB (l_129) (x_130) (y_131))) ∧ (((convB (l_129) && vB (x_130) (y_131) && insB (l_129) (x_130) (y_131)) : Bool) = (convB (l_129) && vB (x_130) (y_131) && insB (l_129) (x_130) (y_131))) ∧ (((bite (convB (l_129) && vB (x_130) (y_131) && insB (l_129) (x_130) (y_131)) true (convB (l_129) && vB (z_132) (w_133) && insB (l_129) (z_132) (w_133))) : Bool) = (bite (convB (l_129) && vB (x_130) (y_131) && insB (l_129) (x_130) (y_131)) true (convB (l_129) && vB (z_132) (w_133) && insB (l_129) (z_132) (w_133)))) ∧ ((Cont.pts (l_129)) = (Cont.pts (l_129))) ∧ (((convB (l_129)) : Bool) = (convB (l_129))) ∧ (((bnot (convB (l_129))) : Bool) = (bnot (convB (l_129)))) ∧ (((bnot (convB (l_129))) : Bool) = (bnot (convB (l_129)))) ∧ (((bite (bnot (convB (l_129))) true (bnot (vB (x_130) (y_131)))) : Bool) = (bite (bnot (convB (l_129))) true (bnot (vB (x_130) (y_131))))) ∧ (((bite (bnot (convB (l_129))) true (bnot (vB (x_130) (y_131)))) : Bool) = (bite (bnot (convB (l_129))) true (bnot (vB (x_130) (y_131))))) ∧ (((bite (bite (bnot (convB (l_129))) true (bnot (vB (x_130) (y_131)))) true (bnot (vB (z_132) (w_133)))) : Bool) = (bite (bite (bnot (convB (l_129))) true (bnot (vB (x_130) (y_131)))) true (bnot (vB (z_132) (w_133))))) ∧ (((convB (l_129) && (vB (x_130) (y_131) && vB (z_132) (w_133)) && hitB (l_129) (x_130) (y_131) (z_132) (w_133)) : Bool) = (convB (l_129) && (vB (x_130) (y_131) && vB (z_132) (w_133)) && hitB (l_129) (x_130) (y_131) (z_132) (w_133))) ∧ ((Cont.pts (l_129)) = (Cont.pts (l_129))) ∧ ((((x_130) : Int) = (x_130)) ∧ (((y_131) : Int) = (y_131)) ∧ True) ∧ ((((z_132) : Int) = (z_132)) ∧ (((w_133) : Int) = (w_133)) ∧ True) ∧ (((convB (l_129) && (vB (x_130) (y_131) && vB (z_132) (w_133)) && hitB (l_129) (x_130) (y_131) (z_132) (w_133)) : Bool) = (convB (l_129) && (vB (x_130) (y_131) && vB (z_132) (w_133)) && hitB (l_129) (x_130) (y_131) (z_132) (w_133))) ∧ (((bxor (convB (l_129) && (vB (x_130) (y_131) && vB (z_132) (w_133)) && hitB (l_129) (x_130) (y_131) (z_132) (w_133)) (convB (l_129) && (vB (x_130) (y_131) && vB (z_132) (w_133)) && hitB (l_129) (x_130) (y_131) (z_132) (w_133))) : Bool) = (bxor (convB (l_129) && (vB (x_130) (y_131) && vB (z_132) (w_133)) && hitB (l_129) (x_130) (y_131) (z_132) (w_133)) (convB (l_129) && (vB (x_130) (y_131) && vB (z_132) (w_133)) && hitB (l_129) (x_130) (y_131) (z_132) (w_133)))) ∧ (((bxor (convB (l_129) && (vB (x_130) (y_131) && vB (z_132) (w_133)) && hitB (l_129) (x_130) (y_131) (z_132) (w_133)) (convB (l_129) && (vB (x_130) (y_131) && vB (z_132) (w_133)) && hitB (l_129) (x_130) (y_131) (z_132) (w_133))) : Bool) = (bxor (convB (l_129) && (vB (x_130) (y_131) && vB (z_132) (w_133)) && hitB (l_129) (x_130) (y_131) (z_132) (w_133)) (convB (l_129) && (vB (x_130) (y_131) && vB (z_132) (w_133)) && hitB (l_129) (x_130) (y_131) (z_132) (w_133)))) ∧ (((bite (bxor (convB (l_129) && (vB (x_130) (y_131) && vB (z_132) (w_133)) && hitB (l_129) (x_130) (y_131) (z_132) (w_133)) (convB (l_129) && (vB (x_130) (y_131) && vB (z_132) (w_133)) && hitB (l_129) (x_130) (y_131) (z_132) (w_133))) true (bxor (convB (l_129) && (vB (x_130) (y_131) && vB (z_132) (w_133)) && hitB (l_129) (x_130) (y_131) (z_132) (w_133)) (convB (l_129) && (vB (z_132) (w_133) && vB (x_130) (y_131)) && hitB (l_129) (z_132) (w_133) (x_130) (y_131)))) : Bool) = (bite (bxor (convB (l_129) && (vB (x_130) (y_131) && vB (z_132) (w_133)) && hitB (l_129) (x_130) (y_131) (z_132) (w_133)) (convB (l_129) && (vB (x_130) (y_131) && vB (z_132) (w_133)) && hitB (l_129) (x_130) (y_131) (z_132) (w_133))) true (bxor (convB (l_129) && (vB (x_130) (y_131) && vB (z_132) (w_133)) && hitB (l_129) (x_130) (y_131) (z_132) (w_133)) (convB (l_129) && (vB (z_132) (w_133) && vB (x_130) (y_131)) && hitB (l_129) (z_132) (w_133) (x_130) (y_131))))) ∧ ((Cont.pts (l_129)) = (Cont.pts (l_129))) ∧ ((((x_130) : Int) = (x_130)) ∧ (((y_131) : Int) = (y_131)) ∧ True) ∧ ((((z_132) : Int) = (z_132)) ∧ (((w_133) : Int) = (w_133)) ∧ True) ∧ (((convB (l_129) && (vB (x_130) (y_131) && vB (z_132) (w_133)) && hitB (l_129) (x_130) (y_131) (z_132) (w_133)) : Bool) = (convB (l_129) && (vB (x_130) (y_131) && vB (z_132) (w_133)) && hitB (l_129) (x_130) (y_131) (z_132) (w_133))) ∧ (((convB (l_129) && (vB (x_130) (y_131) && vB (z_132) (w_133)) && hitB (l_129) (x_130) (y_131) (z_132) (w_133)) : Bool) = (convB (l_129) && (vB (x_130) (y_131) && vB (z_132) (w_133)) && hitB (l_129) (x_130) (y_131) (z_132) (w_133))) ∧ ((Cont.pts (l_129)) = (Cont.pts (l_129))) ∧ (true = true) ∧ (true = true) ∧ ((((z_132) : Int) = (z_132)) ∧ (((w_133) : Int) = (w_133)) ∧ True) ∧ ((((x_130) : Int) = (x_130)) ∧ (((y_131) : Int) = (y_131)) ∧ True) ∧ ((Cont.pts (l_129)) = (Cont.pts (l_129))) ∧ ((n : Int) = n) ∧ ((n : Int) = n) ∧ ((n : Int) = n) ∧ (((ilt (1048576 : Int) n) : Bool) = (ilt (1048576 : Int) n)) ∧ ((false : Bool) = false) ∧ ((n : Int) = n) ∧ True) ∧ (((((z_132) : Int) = (z_132)) ∧ (((w_133) : Int) = (w_133)) ∧ True) ∧ ((((x_130) : Int) = (x_130)) ∧ (((y_131) : Int) = (y_131)) ∧ True) ∧ True)) ∧ (([GK.int, GK.bool] : List GK) = ([GK.int, GK.bool] : List GK)) ∧ I1 [GV.int (0 : Int), GV.bool (bite (convB (l_129) && vB (x_130) (y_131) && insB (l_129) (x_130) (y_131)) true (convB (l_129) && vB (z_132) (w_133) && insB (l_129) (z_132) (w_133)))]) ∧ (∀ i1_0 : Int, ∀ b1_1 : Bool, I1 [GV.int i1_0, GV.bool b1_1] → ((true = true) ∧ ((True) ∧ (True) ∧ (True) ∧ (True) ∧ True) ∧ ((ilt i1_0 (ilen (l_129))) = true → ((true = true) ∧ ((True) ∧ (True) ∧ (NIs b1_1 false → True) ∧ (NIs b1_1 false → True) ∧ (NIs b1_1 false → True) ∧ (NIs b1_1 false → True) ∧ (NIs b1_1 false → (NLe 0 i1_0 ∧ NLt i1_0 (ilen (l_129)))) ∧ (NIs b1_1 false → True) ∧ (NIs b1_1 false → True) ∧ (NIs b1_1 false → True) ∧ (NIs b1_1 false → True) ∧ (NIs b1_1 false → True) ∧ (NIs b1_1 false → True) ∧ (NIs b1_1 false → NNe (ilen (l_129)) 0) ∧ (NIs b1_1 false → (NLe 0 (irem (iadd i1_0 (1 : Int)) (ilen (l_129))) ∧ NLt (irem (iadd i1_0 (1 : Int)) (ilen (l_129))) (ilen (l_129)))) ∧ (NIs b1_1 false → True) ∧ (NIs b1_1 false → (True)) ∧ (True) ∧ (True) ∧ True) ∧ (true = true) ∧ ((True) ∧ (True) ∧ (True) ∧ True) ∧ ((true = true) ∧ ((((bite b1_1 true (smB (x_130) (y_131) (z_132) (w_133) (getx (l_129) i1_0) (gety (l_129) i1_0) (getx (l_129) (irem (iadd i1_0 (1 : Int)) (ilen (l_129)))) (gety (l_129) (irem (iadd i1_0 (1 : Int)) (ilen (l_129)))))) : Bool) = (bite b1_1 true (smB (x_130) (y_131) (z_132) (w_133) (getx (l_129) i1_0) (gety (l_129) i1_0) (getx (l_129) (irem (iadd i1_0 (1 : Int)) (ilen (l_129)))) (gety (l_129) (irem (iadd i1_0 (1 : Int)) (ilen (l_129))))))) ∧ (((iadd i1_0 (1 : Int)) : Int) = (iadd i1_0 (1 : Int))) ∧ ((Cont.pts (l_129)) = (Cont.pts (l_129))) ∧ ((((x_130) : Int) = (x_130)) ∧ (((y_131) : Int) = (y_131)) ∧ True) ∧ (((convB (l_129) && vB (x_130) (y_131) && insB (l_129) (x_130) (y_131)) : Bool) = (convB (l_129) && vB (x_130) (y_131) && insB (l_129) (x_130) (y_131))) ∧ (((convB (l_129) && vB (x_130) (y_131) && insB (l_129) (x_130) (y_131)) : Bool) = (convB (l_129) && vB (x_130) (y_131) && insB (l_129) (x_130) (y_131))) ∧ (((bite (convB (l_129) && vB (x_130) (y_131) && insB (l_129) (x_130) (y_131)) true (convB (l_129) && vB (z_132) (w_133) && insB (l_129) (z_132) (w_133))) : Bool) = (bite (convB (l_129) && vB (x_130) (y_131) && insB (l_129) (x_130) (y_131)) true (convB (l_129) && vB (z_132) (w_133) && insB (l_129) (z_132) (w_133)))) ∧ ((Cont.pts (l_129)) = (Cont.pts (l_129))) ∧ (((convB (l_129)) : Bool) = (convB (l_129))) ∧ (((bnot (convB (l_129))) : Bool) = (bnot (convB (l_129)))) ∧ (((bnot (convB (l_129))) : Bool) = (bnot (convB (l_129)))) ∧ (((bite (bnot (convB (l_129))) true (bnot (vB (x_130) (y_131)))) : Bool) = (bite (bnot (convB (l_129))) true (bnot (vB (x_130) (y_131))))) ∧ (((bite (bnot (convB (l_129))) true (bnot (vB (x_130) (y_131)))) : Bool) = (bite (bnot (convB (l_129))) true (bnot (vB (x_130) (y_131))))) ∧ (((bite (bite (bnot (convB (l_129))) true (bnot (vB (x_130) (y_131)))) true (bnot (vB (z_132) (w_133)))) : Bool) = (bite (bite (bnot (convB (l_129))) true (bnot (vB (x_130) (y_131)))) true (bnot (vB (z_132) (w_133))))) ∧ (((convB (l_129) && (vB (x_130) (y_131) && vB (z_132) (w_133)) && hitB (l_129) (x_130) (y_131) (z_132) (w_133)) : Bool) = (convB (l_129) && (vB (x_130) (y_131) && vB (z_132) (w_133)) && hitB (l_129) (x_130) (y_131) (z_132) (w_133))) ∧ ((Cont.pts (l_129)) = (Cont.pts (l_129))) ∧ ((((x_130) : Int) = (x_130)) ∧ (((y_131) : Int) = (y_131)) ∧ True) ∧ ((((z_132) : Int) = (z_132)) ∧ (((w_133) : Int) = (w_133)) ∧ True) ∧ (((convB (l_129) && (vB (x_130) (y_131) && vB (z_132) (w_133)) && hitB (l_129) (x_130) (y_131) (z_132) (w_133)) : Bool) = (convB (l_129) && (vB (x_130) (y_131) && vB (z_132) (w_133)) && hitB (l_129) (x_130) (y_131) (z_132) (w_133))) ∧ (((bxor (convB (l_129) && (vB (x_130) (y_131) && vB (z_132) (w_133)) && hitB (l_129) (x_130) (y_131) (z_132) (w_133)) (convB (l_129) && (vB (x_130) (y_131) && vB (z_132) (w_133)) && hitB (l_129) (x_130) (y_131) (z_132) (w_133))) : Bool) = (bxor (convB (l_129) && (vB (x_130) (y_131) && vB (z_132) (w_133)) && hitB (l_129) (x_130) (y_131) (z_132) (w_133)) (convB (l_129) && (vB (x_130) (y_131) && vB (z_132) (w_133)) && hitB (l_129) (x_130) (y_131) (z_132) (w_133)))) ∧ (((bxor (convB (l_129) && (vB (x_130) (y_131) && vB (z_132) (w_133)) && hitB (l_129) (x_130) (y_131) (z_132) (w_133)) (convB (l_129) && (vB (x_130) (y_131) && vB (z_132) (w_133)) && hitB (l_129) (x_130) (y_131) (z_132) (w_133))) : Bool) = (bxor (convB (l_129) && (vB (x_130) (y_131) && vB (z_132) (w_133)) && hitB (l_129) (x_130) (y_131) (z_132) (w_133)) (convB (l_129) && (vB (x_130) (y_131) && vB (z_132) (w_133)) && hitB (l_129) (x_130) (y_131) (z_132) (w_133)))) ∧ (((bite (bxor (convB (l_129) && (vB (x_130) (y_131) && vB (z_132) (w_133)) && hitB (l_129) (x_130) (y_131) (z_132) (w_133)) (convB (l_129) && (vB (x_130) (y_131) && vB (z_132) (w_133)) && hitB (l_129) (x_130) (y_131) (z_132) (w_133))) true (bxor (convB (l_129) && (vB (x_130) (y_131) && vB (z_132) (w_133)) && hitB (l_129) (x_130) (y_131) (z_132) (w_133)) (convB (l_129) && (vB (z_132) (w_133) && vB (x_130) (y_131)) && hitB (l_129) (z_132) (w_133) (x_130) (y_131)))) : Bool) = (bite (bxor (convB (l_129) && (vB (x_130) (y_131) && vB (z_132) (w_133)) && hitB (l_129) (x_130) (y_131) (z_132) (w_133)) (convB (l_129) && (vB (x_130) (y_131) && vB (z_132) (w_133)) && hitB (l_129) (x_130) (y_131) (z_132) (w_133))) true (bxor (convB (l_129) && (vB (x_130) (y_131) && vB (z_132) (w_133)) && hitB (l_129) (x_130) (y_131) (z_132) (w_133)) (convB (l_129) && (vB (z_132) (w_133) && vB (x_130) (y_131)) && hitB (l_129) (z_132) (w_133) (x_130) (y_131))))) ∧ ((Cont.pts (l_129)) = (Cont.pts (l_129))) ∧ ((((x_130) : Int) = (x_130)) ∧ (((y_131) : Int) = (y_131)) ∧ True) ∧ ((((z_132) : Int) = (z_132)) ∧ (((w_133) : Int) = (w_133)) ∧ True) ∧ (((convB (l_129) && (vB (x_130) (y_131) && vB (z_132) (w_133)) && hitB (l_129) (x_130) (y_131) (z_132) (w_133)) : Bool) = (convB (l_129) && (vB (x_130) (y_131) && vB (z_132) (w_133)) && hitB (l_129) (x_130) (y_131) (z_132) (w_133))) ∧ (((convB (l_129) && (vB (x_130) (y_131) && vB (z_132) (w_133)) && hitB (l_129) (x_130) (y_131) (z_132) (w_133)) : Bool) = (convB (l_129) && (vB (x_130) (y_131) && vB (z_132) (w_133)) && hitB (l_129) (x_130) (y_131) (z_132) (w_133))) ∧ ((Cont.pts (l_129)) = (Cont.pts (l_129))) ∧ (true = true) ∧ (true = true) ∧ ((((z_132) : Int) = (z_132)) ∧ (((w_133) : Int) = (w_133)) ∧ True) ∧ ((((x_130) : Int) = (x_130)) ∧ (((y_131) : Int) = (y_131)) ∧ True) ∧ ((Cont.pts (l_129)) = (Cont.pts (l_129))) ∧ ((n : Int) = n) ∧ ((n : Int) = n) ∧ ((n : Int) = n) ∧ (((ilt (1048576 : Int) n) : Bool) = (ilt (1048576 : Int) n)) ∧ ((false : Bool) = false) ∧ ((n : Int) = n) ∧ True) ∧ (((((z_132) : Int) = (z_132)) ∧ (((w_133) : Int) = (w_133)) ∧ True) ∧ ((((x_130) : Int) = (x_130)) ∧ (((y_131) : Int) = (y_131)) ∧ True) ∧ True)) ∧ ((([GK.int, GK.bool] : List GK) = ([GK.int, GK.bool] : List GK)) ∧ I1 [GV.int (iadd i1_0 (1 : Int)), GV.bool (bite b1_1 true (smB (x_130) (y_131) (z_132) (w_133) (getx (l_129) i1_0) (gety (l_129) i1_0) (getx (l_129) (irem (iadd i1_0 (1 : Int)) (ilen (l_129)))) (gety (l_129) (irem (iadd i1_0 (1 : Int)) (ilen (l_129))))))] ∧ μ1 [GV.int (iadd i1_0 (1 : Int)), GV.bool (bite b1_1 true (smB (x_130) (y_131) (z_132) (w_133) (getx (l_129) i1_0) (gety (l_129) i1_0) (getx (l_129) (irem (iadd i1_0 (1 : Int)) (ilen (l_129)))) (gety (l_129) (irem (iadd i1_0 (1 : Int)) (ilen (l_129))))))] < μ1 [GV.int i1_0, GV.bool b1_1]))) ∧ ((ilt i1_0 (ilen (l_129))) = false → ((true = true) ∧ ((True) ∧ (True) ∧ (True) ∧ (True) ∧ True) ∧ (((bnot (bxor (convB (l_129) && (vB (x_130) (y_131) && vB (z_132) (w_133)) && hitB (l_129) (x_130) (y_131) (z_132) (w_133)) b1_1)) : Bool) = (true)) ∧ True)))))))))))))))))) = ev sig_laws_FnSegmentHits xs_laws_FnSegmentHits Try.f8.ntmps (fun b => if b == 0 then [.v 8, .v 7] else []) (codeOf Try.f8) 0 (initS [.s (.rdr n)]) (retK Try.f8.results.toList [.s (.bool (true))]) := by kernel_rfl
set_option maxHeartbeats 400000 in
theorem F_laws_FnSegmentHits : FunOK 8 g_laws_FnSegmentHits := by
  refine fun_F (by kernel_rfl) Try.func8 rfl (by kernel_rfl) sig_laws_FnSegmentHits_ok xs_laws_FnSegmentHits_ok ?_
  intro avs sg h hn hl
  unfold g_laws_FnSegmentHits at h
  split at h
  · rename_i n
    injection h with h; subst h
    refine ⟨by kernel_rfl, fun b => if b == 0 then [.v 8, .v 7] else [], Eq.mp (V_laws_FnSegmentHits n) ?_⟩
    simp only [true_and, and_true, implies_true, and_self, forall_const, true_implies, lenA, lenL, SV.lenOK, Cont.lenOK] at hn hl ⊢
    simp only [ilt_t, ilt_f, ile_t, ile_f, ieq_t, ieq_f, bnot_e, band_e, bite_and, bite_or, NLt_e, NLe_e, NNe_e, NIs_e, imax_e, imin_e, irem_e, Bool.not_eq_true', Bool.not_eq_false', Bool.and_eq_true, Bool.or_eq_true, Bool.or_eq_false_iff, Bool.and_eq_false_iff, Cont.pts.injEq, Cont.ints.injEq, Cont.bools.injEq, Cont.ptss.injEq, Cont.intss.injEq, Cont.boolss.injEq, true_and, and_true, implies_true, bxor_self]
    intro h
    refine ⟨h, fun l x y z w hp => ?_⟩
    rw [hit_flip l x y z w, Bool.and_comm (vB z w) (vB x y), bxor_self]
    refine ⟨by simp, fun _ => ⟨fun hh => by rcases hh with (h | h) | h <;> simp [h], fun hh => ?_⟩⟩
    obtain ⟨⟨hc, hv1⟩, hv2⟩ := hh
    obtain ⟨c1, c2, c3⟩ := convB_all hc
    rw [hc, hv1, hv2]
    simp only [Bool.true_and]
    have h0 := ilen_0 l
    refine ⟨fun | [.int k, .bool b] => 0 ≤ k ∧ k ≤ ilen l ∧ b = (insB l x y || insB l z w || anyN k (hitE l x y z w)) | _ => False, fun | .int k :: _ => (ilen l - k).toNat | _ => 0, ⟨by omega, h0, by simp [anyN]⟩, ?_⟩
    rintro k b ⟨k0, k1, rfl⟩
    refine ⟨fun hk => ?_, fun hk => ?_⟩
    · have e1 : iadd k 1 = k + 1 := iadd_e (by omega) (by omega)
      obtain ⟨n0, n1, _⟩ := nx_in k0 hk
      have e2 : (k + 1).tmod (ilen l) = nx l k := rfl
      simp only [e1, e2]
      refine ⟨⟨fun _ => ⟨k0, hk⟩, fun _ => by omega, fun _ => ⟨n0, n1⟩⟩, ⟨by omega, by omega, ?_⟩, by omega⟩
      rw [anyN_1 _ k0]
      have : smB x y z w (getx l k) (gety l k) (getx l (nx l k)) (gety l (nx l k)) = hitE l x y z w k := by
        unfold smB hitE
        rw [hv1, hv2, allB_at c3 k0 hk, allB_at c3 n0 n1]; rfl
      rw [this, Bool.or_assoc]
    · obtain rfl : k = ilen l := by omega
      unfold hitB
      exact bxor_self _
  · cases h
theorem fnSegmentHits_walk (w : World) (v0 : Value) (x0 : Nat) (w0 : BytesArg w v0 x0) : Calls Try.prog 8 #[v0] w fun e w' => e = .returned (.bool true) ∧ Bel w w' :=
  walk_of F_laws_FnSegmentHits (avs := [.s (.rdr x0)]) rfl trivial ⟨bytes_reads w0, trivial⟩
set_option maxRecDepth 100000 in
theorem fnSegmentHits_lifted (os : Os) (started : os.Started) (H : Type) (enc : TypeId × Value → H) :
    ReturnsInHanded {} Try.checked os 8 .any (Rows.fnSegmentHitsSpec.pre6 enc Try.prog Try.f8 Rows.fnSegmentHitsRow.domain false) (Rows.fnSegmentHitsSpec.post enc Try.prog Try.f8 false true false false) := by
  have own : ownKnob Try.prog.godebug = none := by kernel_rfl
  have laidOut : laidOutB Try.prog = true := by kernel_rfl
  refine returnsInHanded_of_change (C := Try.checked) own started (by kernel_rfl) Try.func8
    (ChangeSpec.witness6 (enc := enc) (C := Try.checked) false ⟨#[], #[.slice none 0 0], []⟩ 8 (by kernel_rfl) (by kernel_rfl) (by kernel_rfl) (by kernel_rfl)) ?_
  intro W base args ds gs before hval0 hW hcnd _
  have hval : ∀ (j : Nat) t v, Try.f8.params[j]? = some t → args[j]? = some v → Value.okWide Try.prog W .any base t v := hval0
  have hW' := hW
  obtain ⟨p, q, hA0, hV, rfl, hfz, hnd⟩ := hW
  have hA : DataW.TrodAll enc Try.prog W 0 (fun _ => true) true Try.f8.params.toList args.toList ds p := hA0
  rw [Try.params8] at hA hval
  obtain ⟨v0, vs0, d0, ds0, p0, q0, hargs, rfl, rfl, h0, r0⟩ := trodAll_cons hA
  obtain ⟨rfl, rfl, rfl⟩ := trodAll_nil r0
  obtain rfl : args = #[v0] := by cases args; simp_all
  obtain ⟨rfl, rfl⟩ := trodVars_none hV
  have k0 := h0
  have lt0 : ∀ x ∈ p0, x.block < W.heap.size := by obtain ⟨m, hm⟩ := k0; exact DataW.trod_lt m _ _ _ hm
  obtain ⟨x0, w0⟩ := opn_bytes (hval 0 22 v0 rfl rfl) h0
  clear hA0 hval0
  refine (fnSegmentHits_walk W v0 x0 w0).mono fun e W' ⟨he, bel⟩ => ?_
  subst he
  exact ⟨_, rfl, _, _, _, [], _, [], hW', trodAll_mk1 (shut_bool Try.underlying4 _), (trodAll_cons_mk (Below.trod laidOut (by kernel_rfl) (of_decide_eq_true (by kernel_rfl)) k0 bel lt0) trodAll_mk0), rfl, Below.frame bel _, fun h => by cases h⟩
theorem fnSegmentHits_over : Rows.fnSegmentHitsRow.holds Try.pinned (OpenSpec.ofChange Rows.fnSegmentHitsSpec) :=
  OpenClaim.holds_of_wide 8 Try.f8 rfl rfl rfl rfl rfl rfl rfl ⟨rfl, rfl, rfl, rfl, rfl⟩ rfl rfl rfl rfl rfl (by kernel_rfl) Try.func8 (by kernel_rfl)
    (of_decide_eq_true (by kernel_rfl)) (by unfold Func.isWrapper; first | (rw [if_pos (by decide +kernel)]; kernel_rfl) | (rw [if_neg (by decide +kernel)]; exact ⟨rfl, rfl⟩))
    (fun os started H enc _ => fnSegmentHits_lifted os started H enc)
theorem fnSegmentHits_proved : Rows.FnSegmentHitsSaid := fnSegmentHits_over
#print axioms fnSegmentHits_proved
end Go.Proofs.Ytlngpnmenmdlmaa

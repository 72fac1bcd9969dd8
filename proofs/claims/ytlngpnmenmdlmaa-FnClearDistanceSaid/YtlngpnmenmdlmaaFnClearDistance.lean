/- 'FnClearDistance': for every code both sides tell the same square of the distance of a drawn polygon and point; with its whole root the polygon keeps clear of the point, and with one more it does not (up to the greatest distance). Conditions: none. -/
import Derived.Test.YtlngpnmenmdlmaaFnClearDistanceP1
import Derived.Laws.FloatArith
namespace Go.Proofs.Ytlngpnmenmdlmaa
open Go.ChangeShapes Go.WideShapes Go.ChangeAt Go.RowKit
set_option maxRecDepth 100000
set_option linter.unusedSimpArgs false
set_option linter.unusedVariables false
def g_impl_PolygonSquare_1 : List AV → Option Sg
  | [.agg [.int p1, .int p2]] => some ⟨True, [.s (.bool (!nearB p1 p2))]⟩
  | _ => none
def sig_impl_PolygonSquare_1 : FuncId → List AV → Option Sg := sigL [(70, g_impl_near)]
def xs_impl_PolygonSquare_1 : XS := ⟨xsigL [], ysigL []⟩
theorem sig_impl_PolygonSquare_1_ok : SigOK sig_impl_PolygonSquare_1 := sigL_cons F_impl_near sigL_nil
theorem xs_impl_PolygonSquare_1_ok : XSigOK xs_impl_PolygonSquare_1 := ⟨xsigL_nil, ysigL_nil⟩
theorem V_impl_PolygonSquare_1 (p1 : Int) (p2 : Int) : ((true = true) ∧ ((True) ∧ (True) ∧ True) ∧ (true = true) ∧ ((True) ∧ ((True)) ∧ (True) ∧ (True) ∧ True) ∧ (((bnot (nearB p1 p2)) : Bool) = (!nearB p1 p2)) ∧ True) = ev sig_impl_PolygonSquare_1 xs_impl_PolygonSquare_1 Try.f72.ntmps (fun b => []) (codeOf Try.f72) 0 (initS [.agg [.int p1, .int p2]]) (retK Try.f72.results.toList [.s (.bool (!nearB p1 p2))]) := by kernel_rfl
set_option maxHeartbeats 400000 in
theorem F_impl_PolygonSquare_1 : FunOK 72 g_impl_PolygonSquare_1 := by
  refine fun_F (by kernel_rfl) Try.func72 rfl (by kernel_rfl) sig_impl_PolygonSquare_1_ok xs_impl_PolygonSquare_1_ok ?_
  intro avs sg h hn hl
  unfold g_impl_PolygonSquare_1 at h
  split at h
  · rename_i p1 p2
    injection h with h; subst h
    refine ⟨by kernel_rfl, fun b => [], Eq.mp (V_impl_PolygonSquare_1 p1 p2) ?_⟩
    simp only [true_and, and_true, implies_true, and_self, forall_const, true_implies, lenA, lenL, SV.lenOK, Cont.lenOK] at hn hl ⊢
    simp only [ilt_t, ilt_f, ile_t, ile_f, ieq_t, ieq_f, bnot_e, band_e, bite_and, bite_or, NLt_e, NLe_e, NNe_e, NIs_e, imax_e, imin_e, irem_e, Bool.not_eq_true', Bool.not_eq_false', Bool.and_eq_true, Bool.or_eq_true, Bool.or_eq_false_iff, Bool.and_eq_false_iff, Cont.pts.injEq, Cont.ints.injEq, Cont.bools.injEq, Cont.ptss.injEq, Cont.intss.injEq, Cont.boolss.injEq, true_and, and_true, implies_true]
  · cases h
def g_slices_IndexFunc_Simpl_Point_impl_Point : List AV → Option Sg
  | [.s (.view (.pts l)), .s (.x (.func (.func 72) ⟨[]⟩ ⟨[]⟩))] => some ⟨True, [.s (.int (idxN (ilen l) fun i => !nearB (getx l i) (gety l i)))]⟩
  | _ => none
def sig_slices_IndexFunc_Simpl_Point_impl_Point : FuncId → List AV → Option Sg := sigL [(72, g_impl_PolygonSquare_1)]
def xs_slices_IndexFunc_Simpl_Point_impl_Point : XS := ⟨xsigL [], ysigL []⟩
theorem sig_slices_IndexFunc_Simpl_Point_impl_Point_ok : SigOK sig_slices_IndexFunc_Simpl_Point_impl_Point := sigL_cons F_impl_PolygonSquare_1 sigL_nil
theorem xs_slices_IndexFunc_Simpl_Point_impl_Point_ok : XSigOK xs_slices_IndexFunc_Simpl_Point_impl_Point := ⟨xsigL_nil, ysigL_nil⟩
theorem V_slices_IndexFunc_Simpl_Point_impl_Point (l : List Pt) : ((true = true) ∧ ((True) ∧ True) ∧ (true = true) ∧ ((True) ∧ (True) ∧ (True) ∧ True) ∧ ∃ (I1 : List GV → Prop) (μ1 : List GV → Nat), (((true = true) ∧ ((((0 : Int) : Int) = (0 : Int)) ∧ (((0 : Int) : Int) = (0 : Int)) ∧ ((Cont.pts l) = (Cont.pts l)) ∧ (((ilen l) : Int) = (ilen l)) ∧ ((Cont.pts l) = (Cont.pts l)) ∧ (((.func (.func 72) #[] #[]) : Value) = (.func (.func 72) #[] #[])) ∧ True) ∧ (True)) ∧ (([GK.int, GK.int] : List GK) = ([GK.int, GK.int] : List GK)) ∧ I1 [GV.int (0 : Int), GV.int (0 : Int)]) ∧ (∀ i1_0 : Int, ∀ i1_1 : Int, I1 [GV.int i1_0, GV.int i1_1] → ((true = true) ∧ ((True) ∧ True) ∧ ((ilt i1_0 (ilen l)) = true → ((true = true) ∧ ((True) ∧ (True) ∧ True) ∧ (true = true) ∧ ((True) ∧ (True) ∧ (True) ∧ (NLe 0 i1_0 ∧ NLt i1_0 (ilen l)) ∧ (True) ∧ ((True)) ∧ True) ∧ ((!nearB (getx l i1_0) (gety l i1_0)) = true → ((true = true) ∧ ((True) ∧ (True) ∧ True) ∧ ((i1_0 : Int) = (idxN (ilen l) fun i => !nearB (getx l i) (gety l i))) ∧ True)) ∧ ((!nearB (getx l i1_0) (gety l i1_0)) = false → ((true = true) ∧ ((True) ∧ (True) ∧ True) ∧ ((true = true) ∧ (((i1_1 : Int) = i1_1) ∧ (((iadd i1_0 (1 : Int)) : Int) = (iadd i1_0 (1 : Int))) ∧ ((Cont.pts l) = (Cont.pts l)) ∧ (((ilen l) : Int) = (ilen l)) ∧ ((Cont.pts l) = (Cont.pts l)) ∧ (((.func (.func 72) #[] #[]) : Value) = (.func (.func 72) #[] #[])) ∧ True) ∧ (True)) ∧ ((([GK.int, GK.int] : List GK) = ([GK.int, GK.int] : List GK)) ∧ I1 [GV.int (iadd i1_0 (1 : Int)), GV.int i1_1] ∧ μ1 [GV.int (iadd i1_0 (1 : Int)), GV.int i1_1] < μ1 [GV.int i1_0, GV.int i1_1]))))) ∧ ((ilt i1_0 (ilen l)) = false → ((true = true) ∧ ((True) ∧ True) ∧ (((-1 : Int) : Int) = (idxN (ilen l) fun i => !nearB (getx l i) (gety l i))) ∧ True))))) = ev sig_slices_IndexFunc_Simpl_Point_impl_Point xs_slices_IndexFunc_Simpl_Point_impl_Point Try.f94.ntmps (fun b => if b == 0 then [.v 8, .v 4] else []) (codeOf Try.f94) 0 (initS [.s (.view (.pts l)), .s (.x (.func (.func 72) ⟨[]⟩ ⟨[]⟩))]) (retK Try.f94.results.toList [.s (.int (idxN (ilen l) fun i => !nearB (getx l i) (gety l i)))]) := by kernel_rfl
set_option maxHeartbeats 400000 in
theorem F_slices_IndexFunc_Simpl_Point_impl_Point : FunOK 94 g_slices_IndexFunc_Simpl_Point_impl_Point := by
  refine fun_F (by kernel_rfl) Try.func94 rfl (by kernel_rfl) sig_slices_IndexFunc_Simpl_Point_impl_Point_ok xs_slices_IndexFunc_Simpl_Point_impl_Point_ok ?_
  intro avs sg h hn hl
  unfold g_slices_IndexFunc_Simpl_Point_impl_Point at h
  split at h
  · rename_i l
    injection h with h; subst h
    refine ⟨by kernel_rfl, fun b => if b == 0 then [.v 8, .v 4] else [], Eq.mp (V_slices_IndexFunc_Simpl_Point_impl_Point l) ?_⟩
    simp only [true_and, and_true, implies_true, and_self, forall_const, true_implies, lenA, lenL, SV.lenOK, Cont.lenOK] at hn hl ⊢
    have h0 := ilen_0 l
    simp only [ilt_t, ilt_f, ile_t, ile_f, ieq_t, ieq_f, bnot_e, band_e, bite_and, bite_or, NLt_e, NLe_e, NNe_e, NIs_e, imax_e, imin_e, irem_e, Bool.not_eq_true', Bool.not_eq_false', Bool.and_eq_true, Bool.or_eq_true, Bool.or_eq_false_iff, Bool.and_eq_false_iff, Cont.pts.injEq, Cont.ints.injEq, Cont.bools.injEq, Cont.ptss.injEq, Cont.intss.injEq, Cont.boolss.injEq, true_and, and_true, implies_true]
    refine ⟨fun | .int k :: _ => 0 ≤ k ∧ k ≤ ilen l ∧ (∀ i, 0 ≤ i → i < k → nearB (getx l i) (gety l i) = true) | _ => False, fun | .int k :: _ => (ilen l - k).toNat | _ => 0, ?_, ?_⟩
    · exact ⟨Int.le_refl 0, h0, fun j h0 h1 => absurd h1 (by omega)⟩
    · rintro k _ ⟨hk0, hk1, hk⟩
      simp only [ilt_t, ilt_f, ile_t, ile_f, ieq_t, ieq_f, bnot_e, band_e, bite_and, bite_or, NLt_e, NLe_e, NNe_e, NIs_e, imax_e, imin_e, irem_e, Bool.not_eq_true', Bool.not_eq_false', Bool.and_eq_true, Bool.or_eq_true, Bool.or_eq_false_iff, Bool.and_eq_false_iff, Cont.pts.injEq, Cont.ints.injEq, Cont.bools.injEq, Cont.ptss.injEq, Cont.intss.injEq, Cont.boolss.injEq, true_and, and_true, implies_true]
      refine ⟨fun hkn => ⟨⟨hk0, hkn⟩, fun hx => ?_, fun hx => ?_⟩, fun hkn => ?_⟩
      · rw [idxN_at hk0 hkn (fun j j0 j1 => by simp [hk j j0 j1]) (by simp [hx])]
      · rw [iadd_1 hk0 hkn hl]
        exact ⟨⟨by omega, by omega, upTo hk hx⟩, by omega⟩
      · have e : k = ilen l := by omega
        subst e
        obtain ⟨a, ha⟩ := Int.eq_ofNat_of_zero_le h0
        rw [ha] at hk ⊢
        rw [idxN_no fun j j0 j1 => by simp [hk j j0 j1]]
  · cases h
def g_slices_ContainsFunc_Simpl_Point_impl_Point : List AV → Option Sg
  | [.s (.view (.pts l)), .s (.x (.func (.func 72) ⟨[]⟩ ⟨[]⟩))] => some ⟨True, [.s (.bool (anyN (ilen l) fun i => !nearB (getx l i) (gety l i)))]⟩
  | _ => none
def sig_slices_ContainsFunc_Simpl_Point_impl_Point : FuncId → List AV → Option Sg := sigL [(94, g_slices_IndexFunc_Simpl_Point_impl_Point)]
def xs_slices_ContainsFunc_Simpl_Point_impl_Point : XS := ⟨xsigL [], ysigL []⟩
theorem sig_slices_ContainsFunc_Simpl_Point_impl_Point_ok : SigOK sig_slices_ContainsFunc_Simpl_Point_impl_Point := sigL_cons F_slices_IndexFunc_Simpl_Point_impl_Point sigL_nil
theorem xs_slices_ContainsFunc_Simpl_Point_impl_Point_ok : XSigOK xs_slices_ContainsFunc_Simpl_Point_impl_Point := ⟨xsigL_nil, ysigL_nil⟩
theorem V_slices_ContainsFunc_Simpl_Point_impl_Point (l : List Pt) : ((true = true) ∧ ((True) ∧ True) ∧ (true = true) ∧ ((True) ∧ (True) ∧ ((True)) ∧ (True) ∧ (True) ∧ True) ∧ (((ile (0 : Int) (idxN (ilen l) fun i => !nearB (getx l i) (gety l i))) : Bool) = (anyN (ilen l) fun i => !nearB (getx l i) (gety l i))) ∧ True) = ev sig_slices_ContainsFunc_Simpl_Point_impl_Point xs_slices_ContainsFunc_Simpl_Point_impl_Point Try.f71.ntmps (fun b => []) (codeOf Try.f71) 0 (initS [.s (.view (.pts l)), .s (.x (.func (.func 72) ⟨[]⟩ ⟨[]⟩))]) (retK Try.f71.results.toList [.s (.bool (anyN (ilen l) fun i => !nearB (getx l i) (gety l i)))]) := by kernel_rfl
set_option maxHeartbeats 400000 in
theorem F_slices_ContainsFunc_Simpl_Point_impl_Point : FunOK 71 g_slices_ContainsFunc_Simpl_Point_impl_Point := by
  refine fun_F (by kernel_rfl) Try.func71 rfl (by kernel_rfl) sig_slices_ContainsFunc_Simpl_Point_impl_Point_ok xs_slices_ContainsFunc_Simpl_Point_impl_Point_ok ?_
  intro avs sg h hn hl
  unfold g_slices_ContainsFunc_Simpl_Point_impl_Point at h
  split at h
  · rename_i l
    injection h with h; subst h
    refine ⟨by kernel_rfl, fun b => [], Eq.mp (V_slices_ContainsFunc_Simpl_Point_impl_Point l) ?_⟩
    simp only [true_and, and_true, implies_true, and_self, forall_const, true_implies, lenA, lenL, SV.lenOK, Cont.lenOK] at hn hl ⊢
    rw [idxN_any (ilen_0 l)]
  · cases h
def insE (l : List Pt) (p1 p2 i : Int) : Bool := decide (0 ≤ crW (getx l i) (gety l i) (getx l (nx l i)) (gety l (nx l i)) p1 p2)
def insB (l : List Pt) (p1 p2 : Int) : Bool := allN (ilen l) (insE l p1 p2)
def g_impl_inside : List AV → Option Sg
  | [.s (.view (.pts l)), .agg [.int p1, .int p2]] => some ⟨True, [.s (.bool (insB l p1 p2))]⟩
  | _ => none
def sig_impl_inside : FuncId → List AV → Option Sg := sigL [(53, g_impl_cross)]
def xs_impl_inside : XS := ⟨xsigL [], ysigL []⟩
theorem sig_impl_inside_ok : SigOK sig_impl_inside := sigL_cons F_impl_cross sigL_nil
theorem xs_impl_inside_ok : XSigOK xs_impl_inside := ⟨xsigL_nil, ysigL_nil⟩
theorem V_impl_inside (l : List Pt) (p1 : Int) (p2 : Int) : ((true = true) ∧ ((True) ∧ (True) ∧ True) ∧ (true = true) ∧ ((True) ∧ (True) ∧ (True) ∧ True) ∧ ∃ (I1 : List GV → Prop) (μ1 : List GV → Nat), (((true = true) ∧ (((false : Bool) = false) ∧ (((0 : Int) : Int) = (0 : Int)) ∧ ((Cont.pts l) = (Cont.pts l)) ∧ (((ilen l) : Int) = (ilen l)) ∧ (true = true) ∧ ((Cont.pts l) = (Cont.pts l)) ∧ (((p1 : Int) = p1) ∧ ((p2 : Int) = p2) ∧ True) ∧ True) ∧ ((((p1 : Int) = p1) ∧ ((p2 : Int) = p2) ∧ True) ∧ True)) ∧ (([GK.int, GK.bool] : List GK) = ([GK.int, GK.bool] : List GK)) ∧ I1 [GV.int (0 : Int), GV.bool false]) ∧ (∀ i1_0 : Int, ∀ b1_1 : Bool, I1 [GV.int i1_0, GV.bool b1_1] → ((true = true) ∧ ((True) ∧ True) ∧ ((ilt i1_0 (ilen l)) = true → ((true = true) ∧ ((True) ∧ (NLe 0 i1_0 ∧ NLt i1_0 (ilen l)) ∧ (True) ∧ (True) ∧ (True) ∧ True) ∧ (True) ∧ (true = true) ∧ ((True) ∧ (True) ∧ (True) ∧ (True) ∧ (True) ∧ (True) ∧ (NNe (ilen l) 0) ∧ (NLe 0 (irem (iadd i1_0 (1 : Int)) (ilen l)) ∧ NLt (irem (iadd i1_0 (1 : Int)) (ilen l)) (ilen l)) ∧ (True) ∧ (True) ∧ ((True)) ∧ (True) ∧ True) ∧ ((ilt (crW (getx l i1_0) (gety l i1_0) (getx l (irem (iadd i1_0 (1 : Int)) (ilen l))) (gety l (irem (iadd i1_0 (1 : Int)) (ilen l))) p1 p2) (0 : Int)) = true → ((true = true) ∧ ((True) ∧ True) ∧ ((false : Bool) = (insB l p1 p2)) ∧ True)) ∧ ((ilt (crW (getx l i1_0) (gety l i1_0) (getx l (irem (iadd i1_0 (1 : Int)) (ilen l))) (gety l (irem (iadd i1_0 (1 : Int)) (ilen l))) p1 p2) (0 : Int)) = false → ((true = true) ∧ ((True) ∧ (True) ∧ True) ∧ ((true = true) ∧ (((b1_1 : Bool) = b1_1) ∧ (((iadd i1_0 (1 : Int)) : Int) = (iadd i1_0 (1 : Int))) ∧ ((Cont.pts l) = (Cont.pts l)) ∧ (((ilen l) : Int) = (ilen l)) ∧ (true = true) ∧ ((Cont.pts l) = (Cont.pts l)) ∧ (((p1 : Int) = p1) ∧ ((p2 : Int) = p2) ∧ True) ∧ True) ∧ ((((p1 : Int) = p1) ∧ ((p2 : Int) = p2) ∧ True) ∧ True)) ∧ ((([GK.int, GK.bool] : List GK) = ([GK.int, GK.bool] : List GK)) ∧ I1 [GV.int (iadd i1_0 (1 : Int)), GV.bool b1_1] ∧ μ1 [GV.int (iadd i1_0 (1 : Int)), GV.bool b1_1] < μ1 [GV.int i1_0, GV.bool b1_1]))))) ∧ ((ilt i1_0 (ilen l)) = false → ((true = true) ∧ ((True) ∧ True) ∧ ((true : Bool) = (insB l p1 p2)) ∧ True))))) = ev sig_impl_inside xs_impl_inside Try.f63.ntmps (fun b => if b == 0 then [.v 9, .v 4] else []) (codeOf Try.f63) 0 (initS [.s (.view (.pts l)), .agg [.int p1, .int p2]]) (retK Try.f63.results.toList [.s (.bool (insB l p1 p2))]) := by kernel_rfl
set_option maxHeartbeats 400000 in
theorem F_impl_inside : FunOK 63 g_impl_inside := by
  refine fun_F (by kernel_rfl) Try.func63 rfl (by kernel_rfl) sig_impl_inside_ok xs_impl_inside_ok ?_
  intro avs sg h hn hl
  unfold g_impl_inside at h
  split at h
  · rename_i l p1 p2
    injection h with h; subst h
    refine ⟨by kernel_rfl, fun b => if b == 0 then [.v 9, .v 4] else [], Eq.mp (V_impl_inside l p1 p2) ?_⟩
    simp only [true_and, and_true, implies_true, and_self, forall_const, true_implies, lenA, lenL, SV.lenOK, Cont.lenOK] at hn hl ⊢
    have h0 := ilen_0 l
    simp only [ilt_t, ilt_f, ile_t, ile_f, ieq_t, ieq_f, bnot_e, band_e, bite_and, bite_or, NLt_e, NLe_e, NNe_e, NIs_e, imax_e, imin_e, irem_e, Bool.not_eq_true', Bool.not_eq_false', Bool.and_eq_true, Bool.or_eq_true, Bool.or_eq_false_iff, Bool.and_eq_false_iff, Cont.pts.injEq, Cont.ints.injEq, Cont.bools.injEq, Cont.ptss.injEq, Cont.intss.injEq, Cont.boolss.injEq, true_and, and_true, implies_true]
    refine ⟨fun | .int k :: _ => 0 ≤ k ∧ k ≤ ilen l ∧ (∀ i, 0 ≤ i → i < k → insE l p1 p2 i = true) | _ => False, fun | .int k :: _ => (ilen l - k).toNat | _ => 0, ?_, ?_⟩
    · exact ⟨Int.le_refl 0, h0, fun j h0 h1 => absurd h1 (by omega)⟩
    · rintro k _ ⟨hk0, hk1, hk⟩
      simp only [ilt_t, ilt_f, ile_t, ile_f, ieq_t, ieq_f, bnot_e, band_e, bite_and, bite_or, NLt_e, NLe_e, NNe_e, NIs_e, imax_e, imin_e, irem_e, Bool.not_eq_true', Bool.not_eq_false', Bool.and_eq_true, Bool.or_eq_true, Bool.or_eq_false_iff, Bool.and_eq_false_iff, Cont.pts.injEq, Cont.ints.injEq, Cont.bools.injEq, Cont.ptss.injEq, Cont.intss.injEq, Cont.boolss.injEq, true_and, and_true, implies_true]
      refine ⟨fun hkn => ?_, fun hkn => ?_⟩
      · have e1 := iadd_1 hk0 hkn hl
        obtain ⟨n0, n1, _⟩ := nx_in hk0 hkn
        have e2 : (k + 1).tmod (ilen l) = nx l k := rfl
        simp only [e1, e2]
        have hne : ilen l ≠ 0 := by omega
        refine ⟨⟨hk0, hkn⟩, ⟨hne, ⟨n0, n1⟩⟩, fun hx => ?_, fun hx => ?_⟩
        · have hE : insE l p1 p2 k = false := by
            unfold insE
            simp only [decide_eq_false_iff_not]
            omega
          unfold insB
          rw [allN_no k hk0 hkn hE]
        · have hE : insE l p1 p2 k = true := by
            unfold insE
            simp only [decide_eq_true_eq]
            omega
          exact ⟨⟨by omega, by omega, allN_up hk hE⟩, by omega⟩
      · unfold insB
        rw [allN_mk fun i h0 h1 => hk i h0 (by omega)]
  · cases h
def g_impl_square : List AV → Option Sg
  | [.agg [.int a1, .int a2], .agg [.int b1, .int b2]] => some ⟨vB a1 a2 = true ∧ vB b1 b2 = true, [.s (.int (sqE a1 a2 b1 b2))]⟩
  | _ => none
def sig_impl_square : FuncId → List AV → Option Sg := sigL []
def xs_impl_square : XS := ⟨xsigL [], ysigL []⟩
theorem sig_impl_square_ok : SigOK sig_impl_square := sigL_nil
theorem xs_impl_square_ok : XSigOK xs_impl_square := ⟨xsigL_nil, ysigL_nil⟩
theorem V_impl_square (a1 : Int) (a2 : Int) (b1 : Int) (b2 : Int) : ((true = true) ∧ ((True) ∧ (True) ∧ (True) ∧ True) ∧ (true = true) ∧ ((True) ∧ (True) ∧ (True) ∧ (True) ∧ (True) ∧ (True) ∧ (True) ∧ (True) ∧ (True) ∧ (True) ∧ (True) ∧ (True) ∧ (True) ∧ (True) ∧ (True) ∧ (True) ∧ (True) ∧ (True) ∧ (True) ∧ (True) ∧ (True) ∧ (True) ∧ (True) ∧ (True) ∧ True) ∧ (((iadd (imul (isub a1 b1) (isub a1 b1)) (imul (isub a2 b2) (isub a2 b2))) : Int) = (sqE a1 a2 b1 b2)) ∧ True) = ev sig_impl_square xs_impl_square Try.f95.ntmps (fun b => []) (codeOf Try.f95) 0 (initS [.agg [.int a1, .int a2], .agg [.int b1, .int b2]]) (retK Try.f95.results.toList [.s (.int (sqE a1 a2 b1 b2))]) := by kernel_rfl
set_option maxHeartbeats 400000 in
theorem F_impl_square : FunOK 95 g_impl_square := by
  refine fun_F (by kernel_rfl) Try.func95 rfl (by kernel_rfl) sig_impl_square_ok xs_impl_square_ok ?_
  intro avs sg h hn hl
  unfold g_impl_square at h
  split at h
  · rename_i a1 a2 b1 b2
    injection h with h; subst h
    refine ⟨by kernel_rfl, fun b => [], Eq.mp (V_impl_square a1 a2 b1 b2) ?_⟩
    simp only [true_and, and_true, implies_true, and_self, forall_const, true_implies, lenA, lenL, SV.lenOK, Cont.lenOK] at hn hl ⊢
    exact (sq_v hn.1 hn.2).1
  · cases h
def g_impl_segmentSquare : List AV → Option Sg
  | [.agg [.int p1, .int p2], .agg [.int a1, .int a2], .agg [.int b1, .int b2]] => some ⟨nearB p1 p2 = true ∧ nearB a1 a2 = true ∧ nearB b1 b2 = true, [.s (.int (ssqE p1 p2 a1 a2 b1 b2))]⟩
  | _ => none
def sig_impl_segmentSquare : FuncId → List AV → Option Sg := sigL [(95, g_impl_square), (53, g_impl_cross)]
def xs_impl_segmentSquare : XS := ⟨xsigL [], ysigL []⟩
theorem sig_impl_segmentSquare_ok : SigOK sig_impl_segmentSquare := sigL_cons F_impl_square (sigL_cons F_impl_cross sigL_nil)
theorem xs_impl_segmentSquare_ok : XSigOK xs_impl_segmentSquare := ⟨xsigL_nil, ysigL_nil⟩
theorem V_impl_segmentSquare (p1 : Int) (p2 : Int) (a1 : Int) (a2 : Int) (b1 : Int) (b2 : Int) : ((true = true) ∧ ((True) ∧ (True) ∧ (True) ∧ (True) ∧ True) ∧ (true = true) ∧ ((True) ∧ (True) ∧ ((vB a1 a2 = true ∧ vB b1 b2 = true)) ∧ (True) ∧ True) ∧ (true = true) ∧ ((True) ∧ (True) ∧ (True) ∧ (True) ∧ (True) ∧ (True) ∧ (True) ∧ (True) ∧ (True) ∧ (True) ∧ (True) ∧ (True) ∧ (True) ∧ (True) ∧ (True) ∧ (True) ∧ (True) ∧ (True) ∧ (True) ∧ (True) ∧ (True) ∧ (True) ∧ (True) ∧ (True) ∧ True) ∧ (true = true) ∧ ((True) ∧ (True) ∧ (True) ∧ True) ∧ ((ile (iadd (imul (isub p1 a1) (isub b1 a1)) (imul (isub p2 a2) (isub b2 a2))) (0 : Int)) = true → ((true = true) ∧ ((True) ∧ (True) ∧ ((vB p1 p2 = true ∧ vB a1 a2 = true)) ∧ (True) ∧ True) ∧ (((sqE p1 p2 a1 a2) : Int) = (ssqE p1 p2 a1 a2 b1 b2)) ∧ True)) ∧ ((ile (iadd (imul (isub p1 a1) (isub b1 a1)) (imul (isub p2 a2) (isub b2 a2))) (0 : Int)) = false → ((true = true) ∧ ((True) ∧ (True) ∧ (True) ∧ (True) ∧ True) ∧ ((ile (sqE a1 a2 b1 b2) (iadd (imul (isub p1 a1) (isub b1 a1)) (imul (isub p2 a2) (isub b2 a2)))) = true → ((true = true) ∧ ((True) ∧ (True) ∧ ((vB p1 p2 = true ∧ vB b1 b2 = true)) ∧ (True) ∧ True) ∧ (((sqE p1 p2 b1 b2) : Int) = (ssqE p1 p2 a1 a2 b1 b2)) ∧ True)) ∧ ((ile (sqE a1 a2 b1 b2) (iadd (imul (isub p1 a1) (isub b1 a1)) (imul (isub p2 a2) (isub b2 a2)))) = false → ((true = true) ∧ ((True) ∧ (True) ∧ (True) ∧ ((True)) ∧ (True) ∧ True) ∧ (true = true) ∧ ((True) ∧ (True) ∧ (True) ∧ (True) ∧ (NNe (sqE a1 a2 b1 b2) 0) ∧ (True) ∧ True) ∧ (((iquo (imul (crW a1 a2 b1 b2 p1 p2) (crW a1 a2 b1 b2 p1 p2)) (sqE a1 a2 b1 b2)) : Int) = (ssqE p1 p2 a1 a2 b1 b2)) ∧ True))))) = ev sig_impl_segmentSquare xs_impl_segmentSquare Try.f73.ntmps (fun b => []) (codeOf Try.f73) 0 (initS [.agg [.int p1, .int p2], .agg [.int a1, .int a2], .agg [.int b1, .int b2]]) (retK Try.f73.results.toList [.s (.int (ssqE p1 p2 a1 a2 b1 b2))]) := by kernel_rfl
set_option maxHeartbeats 400000 in
theorem F_impl_segmentSquare : FunOK 73 g_impl_segmentSquare := by
  refine fun_F (by kernel_rfl) Try.func73 rfl (by kernel_rfl) sig_impl_segmentSquare_ok xs_impl_segmentSquare_ok ?_
  intro avs sg h hn hl
  unfold g_impl_segmentSquare at h
  split at h
  · rename_i p1 p2 a1 a2 b1 b2
    injection h with h; subst h
    refine ⟨by kernel_rfl, fun b => [], Eq.mp (V_impl_segmentSquare p1 p2 a1 a2 b1 b2) ?_⟩
    simp only [true_and, and_true, implies_true, and_self, forall_const, true_implies, lenA, lenL, SV.lenOK, Cont.lenOK] at hn hl ⊢
    obtain ⟨np, na, nb⟩ := hn
    have hc := crs_bd na nb np
    have hsq := sq_w na nb
    simp only [ilt_t, ilt_f, ile_t, ile_f, ieq_t, ieq_f, bnot_e, band_e, bite_and, bite_or, NLt_e, NLe_e, NNe_e, NIs_e, imax_e, imin_e, irem_e, Bool.not_eq_true', Bool.not_eq_false', Bool.and_eq_true, Bool.or_eq_true, Bool.or_eq_false_iff, Bool.and_eq_false_iff, Cont.pts.injEq, Cont.ints.injEq, Cont.bools.injEq, Cont.ptss.injEq, Cont.intss.injEq, Cont.boolss.injEq, true_and, and_true, implies_true, np, na, nb, near_v np, near_v na, near_v nb, crW_e (near_v na) (near_v nb) (near_v np), al_w np na nb, mul4 hc hc, true_implies, forall_const]
    refine ⟨fun h => by unfold ssqE; rw [if_pos h], fun h => ⟨fun h2 => by unfold ssqE; rw [if_neg (by omega), if_pos h2], fun h2 => ⟨by omega, ?_⟩⟩⟩
    unfold ssqE
    rw [if_neg (by omega), if_neg (by omega)]
    have := mul4b hc hc
    exact iquo_e (by omega) (by omega) (by omega)
  · cases h
def hitE (l : List Pt) (a1 a2 b1 b2 i : Int) : Bool := meetB (a1, a2) (b1, b2) (getx l i, gety l i) (getx l (nx l i), gety l (nx l i))
def hitB (l : List Pt) (a1 a2 b1 b2 : Int) : Bool := insB l a1 a2 || insB l b1 b2 || anyN (ilen l) (hitE l a1 a2 b1 b2)
theorem allB_at {l : List Pt} (h : allB l = true) {i : Int} (h0 : 0 ≤ i) (h1 : i < ilen l) : vB (getx l i) (gety l i) = true := by
  rw [allB_N] at h; exact allN_iff.1 h i h0 h1
theorem convB_all {l : List Pt} (h : convB l = true) : 3 ≤ ilen l ∧ ilen l ≤ 8 ∧ allB l = true := by
  unfold convB at h
  simp only [Bool.and_eq_true] at h
  exact ⟨(inB_true h.1.1).1, (inB_true h.1.1).2, h.1.2⟩
theorem allB_2 (a1 a2 b1 b2 : Int) : allB [(a1, a2), (b1, b2)] = (vB a1 a2 && vB b1 b2) := by simp [allB]
def psqE (l : List Pt) (p1 p2 i : Int) : Int := ssqE p1 p2 (getx l i) (gety l i) (getx l (nx l i)) (gety l (nx l i))
def minF (l : List Pt) (p1 p2 k : Int) : Int := foldN k (fun s i => if s < 0 ∨ psqE l p1 p2 i < s then psqE l p1 p2 i else s) (-1)
def psqB (l : List Pt) (p1 p2 : Int) : Bool := convB l && nearB p1 p2 && allN (ilen l) fun i => nearB (getx l i) (gety l i)
def psq (l : List Pt) (p1 p2 : Int) : Int := if psqB l p1 p2 then (if insB l p1 p2 then 0 else minF l p1 p2 (ilen l)) else -1
theorem minF_1 {l : List Pt} {p1 p2 k : Int} (h : 0 ≤ k) : minF l p1 p2 (k + 1) = if minF l p1 p2 k < 0 ∨ psqE l p1 p2 k < minF l p1 p2 k then psqE l p1 p2 k else minF l p1 p2 k := by unfold minF; rw [foldN_1 h]
def g_impl_PolygonSquare : List AV → Option Sg
  | [.s (.view (.pts l)), .agg [.int p1, .int p2]] => some ⟨True, [.s (.int (psq l p1 p2))]⟩
  | _ => none
def sig_impl_PolygonSquare : FuncId → List AV → Option Sg := sigL [(15, g_impl_ConvexValid), (70, g_impl_near), (71, g_slices_ContainsFunc_Simpl_Point_impl_Point), (63, g_impl_inside), (73, g_impl_segmentSquare)]
def xs_impl_PolygonSquare : XS := ⟨xsigL [], ysigL []⟩
theorem sig_impl_PolygonSquare_ok : SigOK sig_impl_PolygonSquare := sigL_cons F_impl_ConvexValid (sigL_cons F_impl_near (sigL_cons F_slices_ContainsFunc_Simpl_Point_impl_Point (sigL_cons F_impl_inside (sigL_cons F_impl_segmentSquare sigL_nil))))
theorem xs_impl_PolygonSquare_ok : XSigOK xs_impl_PolygonSquare := ⟨xsigL_nil, ysigL_nil⟩
theorem V_impl_PolygonSquare (l : List Pt) (p1 : Int) (p2 : Int) : ((true = true) ∧ ((True) ∧ (True) ∧ True) ∧ (true = true) ∧ ((True) ∧ ((True)) ∧ (True) ∧ (True) ∧ (NIs (bnot (convB l)) false → True) ∧ (NIs (bnot (convB l)) false → (True)) ∧ (NIs (bnot (convB l)) false → True) ∧ (True) ∧ (True) ∧ (NIs (bite (bnot (convB l)) true (bnot (nearB p1 p2))) false → True) ∧ (NIs (bite (bnot (convB l)) true (bnot (nearB p1 p2))) false → (True)) ∧ (True) ∧ True) ∧ ((bite (bite (bnot (convB l)) true (bnot (nearB p1 p2))) true (anyN (ilen l) fun i => !nearB (getx l i) (gety l i))) = true → ((true = true) ∧ ((True) ∧ True) ∧ (((-1 : Int) : Int) = (psq l p1 p2)) ∧ True)) ∧ ((bite (bite (bnot (convB l)) true (bnot (nearB p1 p2))) true (anyN (ilen l) fun i => !nearB (getx l i) (gety l i))) = false → ((true = true) ∧ ((True) ∧ (True) ∧ ((True)) ∧ True) ∧ ((insB l p1 p2) = true → ((true = true) ∧ ((True) ∧ True) ∧ (((0 : Int) : Int) = (psq l p1 p2)) ∧ True)) ∧ ((insB l p1 p2) = false → ((true = true) ∧ ((True) ∧ True) ∧ (true = true) ∧ ((True) ∧ (True) ∧ (True) ∧ True) ∧ ∃ (I1 : List GV → Prop) (μ1 : List GV → Nat), (((true = true) ∧ ((((-1 : Int) : Int) = (-1 : Int)) ∧ (((0 : Int) : Int) = (0 : Int)) ∧ ((Cont.pts l) = (Cont.pts l)) ∧ (((ilen l) : Int) = (ilen l)) ∧ ((Cont.pts l) = (Cont.pts l)) ∧ (((p1 : Int) = p1) ∧ ((p2 : Int) = p2) ∧ True) ∧ (((insB l p1 p2) : Bool) = (insB l p1 p2)) ∧ ((Cont.pts l) = (Cont.pts l)) ∧ (((convB l) : Bool) = (convB l)) ∧ (((bnot (convB l)) : Bool) = (bnot (convB l))) ∧ (((bnot (convB l)) : Bool) = (bnot (convB l))) ∧ (((bite (bnot (convB l)) true (bnot (nearB p1 p2))) : Bool) = (bite (bnot (convB l)) true (bnot (nearB p1 p2)))) ∧ (((bite (bnot (convB l)) true (bnot (nearB p1 p2))) : Bool) = (bite (bnot (convB l)) true (bnot (nearB p1 p2)))) ∧ (((bite (bite (bnot (convB l)) true (bnot (nearB p1 p2))) true (anyN (ilen l) fun i => !nearB (getx l i) (gety l i))) : Bool) = (bite (bite (bnot (convB l)) true (bnot (nearB p1 p2))) true (anyN (ilen l) fun i => !nearB (getx l i) (gety l i)))) ∧ (true = true) ∧ (((0 : Int) : Int) = (0 : Int)) ∧ ((Cont.pts l) = (Cont.pts l)) ∧ (((p1 : Int) = p1) ∧ ((p2 : Int) = p2) ∧ True) ∧ True) ∧ ((((p1 : Int) = p1) ∧ ((p2 : Int) = p2) ∧ True) ∧ True)) ∧ (([GK.int, GK.int] : List GK) = ([GK.int, GK.int] : List GK)) ∧ I1 [GV.int (0 : Int), GV.int (-1 : Int)]) ∧ (∀ i1_0 : Int, ∀ i1_1 : Int, I1 [GV.int i1_0, GV.int i1_1] → ((true = true) ∧ ((True) ∧ True) ∧ ((ilt i1_0 (ilen l)) = true → ((true = true) ∧ ((True) ∧ (NLe 0 i1_0 ∧ NLt i1_0 (ilen l)) ∧ (True) ∧ (True) ∧ (True) ∧ True) ∧ (True) ∧ (true = true) ∧ ((True) ∧ (True) ∧ (True) ∧ (True) ∧ (True) ∧ (True) ∧ (True) ∧ (NNe (ilen l) 0) ∧ (NLe 0 (irem (iadd i1_0 (1 : Int)) (ilen l)) ∧ NLt (irem (iadd i1_0 (1 : Int)) (ilen l)) (ilen l)) ∧ (True) ∧ ((nearB p1 p2 = true ∧ nearB (getx l i1_0) (gety l i1_0) = true ∧ nearB (getx l (irem (iadd i1_0 (1 : Int)) (ilen l))) (gety l (irem (iadd i1_0 (1 : Int)) (ilen l))) = true)) ∧ (True) ∧ True) ∧ (true = true) ∧ ((True) ∧ (True) ∧ (True) ∧ (NIs (ilt i1_1 (0 : Int)) false → True) ∧ (NIs (ilt i1_1 (0 : Int)) false → True) ∧ (NIs (ilt i1_1 (0 : Int)) false → True) ∧ (True) ∧ True) ∧ ((bite (ilt i1_1 (0 : Int)) true (ilt (ssqE p1 p2 (getx l i1_0) (gety l i1_0) (getx l (irem (iadd i1_0 (1 : Int)) (ilen l))) (gety l (irem (iadd i1_0 (1 : Int)) (ilen l)))) i1_1)) = true → ((true = true) ∧ ((True) ∧ (True) ∧ True) ∧ (true = true) ∧ ((True) ∧ (True) ∧ True) ∧ ((true = true) ∧ ((((ssqE p1 p2 (getx l i1_0) (gety l i1_0) (getx l (irem (iadd i1_0 (1 : Int)) (ilen l))) (gety l (irem (iadd i1_0 (1 : Int)) (ilen l)))) : Int) = (ssqE p1 p2 (getx l i1_0) (gety l i1_0) (getx l (irem (iadd i1_0 (1 : Int)) (ilen l))) (gety l (irem (iadd i1_0 (1 : Int)) (ilen l))))) ∧ (((iadd i1_0 (1 : Int)) : Int) = (iadd i1_0 (1 : Int))) ∧ ((Cont.pts l) = (Cont.pts l)) ∧ (((ilen l) : Int) = (ilen l)) ∧ ((Cont.pts l) = (Cont.pts l)) ∧ (((p1 : Int) = p1) ∧ ((p2 : Int) = p2) ∧ True) ∧ (((insB l p1 p2) : Bool) = (insB l p1 p2)) ∧ ((Cont.pts l) = (Cont.pts l)) ∧ (((convB l) : Bool) = (convB l)) ∧ (((bnot (convB l)) : Bool) = (bnot (convB l))) ∧ (((bnot (convB l)) : Bool) = (bnot (convB l))) ∧ (((bite (bnot (convB l)) true (bnot (nearB p1 p2))) : Bool) = (bite (bnot (convB l)) true (bnot (nearB p1 p2)))) ∧ (((bite (bnot (convB l)) true (bnot (nearB p1 p2))) : Bool) = (bite (bnot (convB l)) true (bnot (nearB p1 p2)))) ∧ (((bite (bite (bnot (convB l)) true (bnot (nearB p1 p2))) true (anyN (ilen l) fun i => !nearB (getx l i) (gety l i))) : Bool) = (bite (bite (bnot (convB l)) true (bnot (nearB p1 p2))) true (anyN (ilen l) fun i => !nearB (getx l i) (gety l i)))) ∧ (true = true) ∧ (((0 : Int) : Int) = (0 : Int)) ∧ ((Cont.pts l) = (Cont.pts l)) ∧ (((p1 : Int) = p1) ∧ ((p2 : Int) = p2) ∧ True) ∧ True) ∧ ((((p1 : Int) = p1) ∧ ((p2 : Int) = p2) ∧ True) ∧ True)) ∧ ((([GK.int, GK.int] : List GK) = ([GK.int, GK.int] : List GK)) ∧ I1 [GV.int (iadd i1_0 (1 : Int)), GV.int (ssqE p1 p2 (getx l i1_0) (gety l i1_0) (getx l (irem (iadd i1_0 (1 : Int)) (ilen l))) (gety l (irem (iadd i1_0 (1 : Int)) (ilen l))))] ∧ μ1 [GV.int (iadd i1_0 (1 : Int)), GV.int (ssqE p1 p2 (getx l i1_0) (gety l i1_0) (getx l (irem (iadd i1_0 (1 : Int)) (ilen l))) (gety l (irem (iadd i1_0 (1 : Int)) (ilen l))))] < μ1 [GV.int i1_0, GV.int i1_1]))) ∧ ((bite (ilt i1_1 (0 : Int)) true (ilt (ssqE p1 p2 (getx l i1_0) (gety l i1_0) (getx l (irem (iadd i1_0 (1 : Int)) (ilen l))) (gety l (irem (iadd i1_0 (1 : Int)) (ilen l)))) i1_1)) = false → ((true = true) ∧ ((True) ∧ (True) ∧ True) ∧ ((true = true) ∧ (((i1_1 : Int) = i1_1) ∧ (((iadd i1_0 (1 : Int)) : Int) = (iadd i1_0 (1 : Int))) ∧ ((Cont.pts l) = (Cont.pts l)) ∧ (((ilen l) : Int) = (ilen l)) ∧ ((Cont.pts l) = (Cont.pts l)) ∧ (((p1 : Int) = p1) ∧ ((p2 : Int) = p2) ∧ True) ∧ (((insB l p1 p2) : Bool) = (insB l p1 p2)) ∧ ((Cont.pts l) = (Cont.pts l)) ∧ (((convB l) : Bool) = (convB l)) ∧ (((bnot (convB l)) : Bool) = (bnot (convB l))) ∧ (((bnot (convB l)) : Bool) = (bnot (convB l))) ∧ (((bite (bnot (convB l)) true (bnot (nearB p1 p2))) : Bool) = (bite (bnot (convB l)) true (bnot (nearB p1 p2)))) ∧ (((bite (bnot (convB l)) true (bnot (nearB p1 p2))) : Bool) = (bite (bnot (convB l)) true (bnot (nearB p1 p2)))) ∧ (((bite (bite (bnot (convB l)) true (bnot (nearB p1 p2))) true (anyN (ilen l) fun i => !nearB (getx l i) (gety l i))) : Bool) = (bite (bite (bnot (convB l)) true (bnot (nearB p1 p2))) true (anyN (ilen l) fun i => !nearB (getx l i) (gety l i)))) ∧ (true = true) ∧ (((0 : Int) : Int) = (0 : Int)) ∧ ((Cont.pts l) = (Cont.pts l)) ∧ (((p1 : Int) = p1) ∧ ((p2 : Int) = p2) ∧ True) ∧ True) ∧ ((((p1 : Int) = p1) ∧ ((p2 : Int) = p2) ∧ True) ∧ True)) ∧ ((([GK.int, GK.int] : List GK) = ([GK.int, GK.int] : List GK)) ∧ I1 [GV.int (iadd i1_0 (1 : Int)), GV.int i1_1] ∧ μ1 [GV.int (iadd i1_0 (1 : Int)), GV.int i1_1] < μ1 [GV.int i1_0, GV.int i1_1]))))) ∧ ((ilt i1_0 (ilen l)) = false → ((true = true) ∧ ((True) ∧ (True) ∧ True) ∧ ((i1_1 : Int) = (psq l p1 p2)) ∧ True))))))))) = ev sig_impl_PolygonSquare xs_impl_PolygonSquare Try.f38.ntmps (fun b => if b == 0 then [.v 26, .v 5] else []) (codeOf Try.f38) 0 (initS [.s (.view (.pts l)), .agg [.int p1, .int p2]]) (retK Try.f38.results.toList [.s (.int (psq l p1 p2))]) := by kernel_rfl
set_option maxHeartbeats 400000 in
theorem F_impl_PolygonSquare : FunOK 38 g_impl_PolygonSquare := by
  refine fun_F (by kernel_rfl) Try.func38 rfl (by kernel_rfl) sig_impl_PolygonSquare_ok xs_impl_PolygonSquare_ok ?_
  intro avs sg h hn hl
  unfold g_impl_PolygonSquare at h
  split at h
  · rename_i l p1 p2
    injection h with h; subst h
    refine ⟨by kernel_rfl, fun b => if b == 0 then [.v 26, .v 5] else [], Eq.mp (V_impl_PolygonSquare l p1 p2) ?_⟩
    simp only [true_and, and_true, implies_true, and_self, forall_const, true_implies, lenA, lenL, SV.lenOK, Cont.lenOK] at hn hl ⊢
    have h0 := ilen_0 l
    simp only [ilt_t, ilt_f, ile_t, ile_f, ieq_t, ieq_f, bnot_e, band_e, bite_and, bite_or, NLt_e, NLe_e, NNe_e, NIs_e, imax_e, imin_e, irem_e, Bool.not_eq_true', Bool.not_eq_false', Bool.and_eq_true, Bool.or_eq_true, Bool.or_eq_false_iff, Bool.and_eq_false_iff, Cont.pts.injEq, Cont.ints.injEq, Cont.bools.injEq, Cont.ptss.injEq, Cont.intss.injEq, Cont.boolss.injEq, true_and, and_true, implies_true, anyN_not, Bool.not_not]
    refine ⟨fun h => ?_, fun h => ?_⟩
    · have : psqB l p1 p2 = false := by unfold psqB; rcases h with (h | h) | h <;> simp [h]
      unfold psq; rw [this]; rfl
    · obtain ⟨⟨hc, hp⟩, hN⟩ := h
      have hB : psqB l p1 p2 = true := by unfold psqB; rw [hc, hp, hN]; rfl
      have hNi := allN_iff.1 hN
      obtain ⟨c1, c2, c3⟩ := convB_all hc
      refine ⟨fun hi => by unfold psq; rw [hB, hi]; rfl, fun hi => ?_⟩
      refine ⟨fun | .int k :: .int s :: _ => 0 ≤ k ∧ k ≤ ilen l ∧ s = minF l p1 p2 k | _ => False, fun | .int k :: _ => (ilen l - k).toNat | _ => 0, ?_, ?_⟩
      · exact ⟨Int.le_refl 0, h0, rfl⟩
      · rintro k s ⟨hk0, hk1, hs⟩
        refine ⟨fun hkn => ?_, fun hkn => ?_⟩
        · have e1 := iadd_1 hk0 hkn hl
          obtain ⟨n0, n1, _⟩ := nx_in hk0 hkn
          have e2 : (k + 1).tmod (ilen l) = nx l k := rfl
          simp only [e1, e2]
          have hstep := minF_1 (l := l) (p1 := p1) (p2 := p2) hk0
          have hq : ssqE p1 p2 (getx l k) (gety l k) (getx l (nx l k)) (gety l (nx l k)) = psqE l p1 p2 k := rfl
          simp only [hq]
          refine ⟨⟨hk0, hkn⟩, ⟨by omega, ⟨n0, n1⟩, hp, hNi k hk0 hkn, hNi _ n0 n1⟩, fun hx => ?_, fun hx => ?_⟩
          · rw [← hs, if_pos hx] at hstep
            exact ⟨⟨by omega, by omega, hstep.symm⟩, by omega⟩
          · rw [← hs, if_neg (by omega)] at hstep
            exact ⟨⟨by omega, by omega, hstep.symm⟩, by omega⟩
        · have e : k = ilen l := by omega
          subst e
          unfold psq
          rw [hB, hi, hs]; rfl
  · cases h
def g_spec_l2Sign : List AV → Option Sg
  | [.s (.int n)] => some ⟨True, [.s (.int (sgn n))]⟩
  | _ => none
def sig_spec_l2Sign : FuncId → List AV → Option Sg := sigL []
def xs_spec_l2Sign : XS := ⟨xsigL [], ysigL []⟩
theorem sig_spec_l2Sign_ok : SigOK sig_spec_l2Sign := sigL_nil
theorem xs_spec_l2Sign_ok : XSigOK xs_spec_l2Sign := ⟨xsigL_nil, ysigL_nil⟩
theorem V_spec_l2Sign (n : Int) : ((true = true) ∧ ((True) ∧ True) ∧ (true = true) ∧ ((True) ∧ (True) ∧ (True) ∧ True) ∧ ((ilt (0 : Int) n) = true → ((true = true) ∧ ((True) ∧ True) ∧ (((1 : Int) : Int) = (sgn n)) ∧ True)) ∧ ((ilt (0 : Int) n) = false → ((true = true) ∧ ((True) ∧ (True) ∧ (True) ∧ True) ∧ ((ilt n (0 : Int)) = true → ((true = true) ∧ ((True) ∧ True) ∧ (((-1 : Int) : Int) = (sgn n)) ∧ True)) ∧ ((ilt n (0 : Int)) = false → ((true = true) ∧ ((True) ∧ True) ∧ (((0 : Int) : Int) = (sgn n)) ∧ True))))) = ev sig_spec_l2Sign xs_spec_l2Sign Try.f89.ntmps (fun b => []) (codeOf Try.f89) 0 (initS [.s (.int n)]) (retK Try.f89.results.toList [.s (.int (sgn n))]) := by kernel_rfl
set_option maxHeartbeats 400000 in
theorem F_spec_l2Sign : FunOK 89 g_spec_l2Sign := by
  refine fun_F (by kernel_rfl) Try.func89 rfl (by kernel_rfl) sig_spec_l2Sign_ok xs_spec_l2Sign_ok ?_
  intro avs sg h hn hl
  unfold g_spec_l2Sign at h
  split at h
  · rename_i n
    injection h with h; subst h
    refine ⟨by kernel_rfl, fun b => [], Eq.mp (V_spec_l2Sign n) ?_⟩
    simp only [true_and, and_true, implies_true, and_self, forall_const, true_implies, lenA, lenL, SV.lenOK, Cont.lenOK] at hn hl ⊢
    simp only [ilt_t, ilt_f, ile_t, ile_f, ieq_t, ieq_f, bnot_e, band_e, bite_and, bite_or, NLt_e, NLe_e, NNe_e, NIs_e, imax_e, imin_e, irem_e, Bool.not_eq_true', Bool.not_eq_false', Bool.and_eq_true, Bool.or_eq_true, Bool.or_eq_false_iff, Bool.and_eq_false_iff, Cont.pts.injEq, Cont.ints.injEq, Cont.bools.injEq, Cont.ptss.injEq, Cont.intss.injEq, Cont.boolss.injEq, true_and, and_true, implies_true]
    unfold sgn
    refine ⟨fun h => by rw [if_pos h], fun h => ⟨fun h2 => by rw [if_neg (by omega), if_pos h2], fun h2 => by rw [if_neg (by omega), if_neg (by omega)]⟩⟩
  · cases h
def orB (a1 a2 b1 b2 c1 c2 : Int) : Int := if vB a1 a2 && vB b1 b2 && vB c1 c2 then sgn (crW a1 a2 b1 b2 c1 c2) else 0
def orI (l : List Pt) (i j : Int) : Int := orB (getx l i) (gety l i) (getx l (nx l i)) (gety l (nx l i)) (getx l j) (gety l j)
def convF (l : List Pt) (i j : Int) : Bool := decide (j = i ∨ j = nx l i ∨ orI l i j = 1)
def convS (l : List Pt) : Bool := inB (ilen l) 3 8 && allN (ilen l) fun i => allN (ilen l) fun j => convF l i j
theorem convS_eq (l : List Pt) : convS l = convB l := by
  unfold convS convB
  cases h1 : inB (ilen l) 3 8 with
  | false => rfl
  | true =>
    have hl := inB_true h1
    simp only [Bool.true_and]
    cases h2 : allB l with
    | true =>
      simp only [Bool.true_and]
      refine allN_congr fun i i0 i1 => allN_congr fun j j0 j1 => ?_
      rw [allB_N] at h2
      have hv := allN_iff.1 h2
      obtain ⟨n0, n1, _⟩ := nx_in i0 i1
      have e : orI l i j = sgn (cr l i (nx l i) j) := by unfold orI orB cr; rw [hv i i0 i1, hv _ n0 n1, hv j j0 j1]; rfl
      unfold convF convE
      rw [e]
      have : (sgn (cr l i (nx l i) j) = 1) ↔ 0 < cr l i (nx l i) j := by unfold sgn; split <;> (try split) <;> omega
      simp only [this]
    | false =>
      simp only [Bool.false_and]
      rw [allB_N] at h2
      obtain ⟨j, j0, j1, hj⟩ : ∃ j, 0 ≤ j ∧ j < ilen l ∧ vB (getx l j) (gety l j) = false := by
        apply Classical.byContradiction
        intro hn
        rw [allN_mk fun j j0 j1 => by cases e : vB (getx l j) (gety l j) with | true => rfl | false => exact absurd ⟨j, j0, j1, e⟩ hn] at h2
        cases h2
      obtain ⟨n0, n1, n2⟩ := nx_in j0 j1
      obtain ⟨m0, m1, m2⟩ := nx_in n0 n1
      refine allN_no (nx l j) n0 n1 (allN_no j j0 j1 ?_)
      have e : orI l (nx l j) j = 0 := by unfold orI orB; rw [hj]; simp
      unfold convF
      rw [e]
      simp only [decide_eq_false_iff_not]
      omega
def g_spec_Orientation : List AV → Option Sg
  | [.agg [.int a1, .int a2], .agg [.int b1, .int b2], .agg [.int c1, .int c2]] => some ⟨True, [.s (.int (orB a1 a2 b1 b2 c1 c2))]⟩
  | _ => none
def sig_spec_Orientation : FuncId → List AV → Option Sg := sigL [(28, g_spec_PointValid), (57, g_spec_l2Cross), (89, g_spec_l2Sign)]
def xs_spec_Orientation : XS := ⟨xsigL [], ysigL []⟩
theorem sig_spec_Orientation_ok : SigOK sig_spec_Orientation := sigL_cons F_spec_PointValid (sigL_cons F_spec_l2Cross (sigL_cons F_spec_l2Sign sigL_nil))
theorem xs_spec_Orientation_ok : XSigOK xs_spec_Orientation := ⟨xsigL_nil, ysigL_nil⟩
theorem V_spec_Orientation (a1 : Int) (a2 : Int) (b1 : Int) (b2 : Int) (c1 : Int) (c2 : Int) : ((true = true) ∧ ((True) ∧ (True) ∧ (True) ∧ (True) ∧ True) ∧ (true = true) ∧ ((True) ∧ ((True)) ∧ (True) ∧ (True) ∧ (NIs (bnot (vB a1 a2)) false → True) ∧ (NIs (bnot (vB a1 a2)) false → (True)) ∧ (NIs (bnot (vB a1 a2)) false → True) ∧ (True) ∧ (True) ∧ (NIs (bite (bnot (vB a1 a2)) true (bnot (vB b1 b2))) false → True) ∧ (NIs (bite (bnot (vB a1 a2)) true (bnot (vB b1 b2))) false → (True)) ∧ (NIs (bite (bnot (vB a1 a2)) true (bnot (vB b1 b2))) false → True) ∧ (True) ∧ True) ∧ ((bite (bite (bnot (vB a1 a2)) true (bnot (vB b1 b2))) true (bnot (vB c1 c2))) = true → ((true = true) ∧ ((True) ∧ True) ∧ (((0 : Int) : Int) = (orB a1 a2 b1 b2 c1 c2)) ∧ True)) ∧ ((bite (bite (bnot (vB a1 a2)) true (bnot (vB b1 b2))) true (bnot (vB c1 c2))) = false → ((true = true) ∧ ((True) ∧ (True) ∧ (True) ∧ ((True)) ∧ ((True)) ∧ (True) ∧ True) ∧ (((sgn (crW a1 a2 b1 b2 c1 c2)) : Int) = (orB a1 a2 b1 b2 c1 c2)) ∧ True))) = ev sig_spec_Orientation xs_spec_Orientation Try.f55.ntmps (fun b => []) (codeOf Try.f55) 0 (initS [.agg [.int a1, .int a2], .agg [.int b1, .int b2], .agg [.int c1, .int c2]]) (retK Try.f55.results.toList [.s (.int (orB a1 a2 b1 b2 c1 c2))]) := by kernel_rfl
set_option maxHeartbeats 400000 in
theorem F_spec_Orientation : FunOK 55 g_spec_Orientation := by
  refine fun_F (by kernel_rfl) Try.func55 rfl (by kernel_rfl) sig_spec_Orientation_ok xs_spec_Orientation_ok ?_
  intro avs sg h hn hl
  unfold g_spec_Orientation at h
  split at h
  · rename_i a1 a2 b1 b2 c1 c2
    injection h with h; subst h
    refine ⟨by kernel_rfl, fun b => [], Eq.mp (V_spec_Orientation a1 a2 b1 b2 c1 c2) ?_⟩
    simp only [true_and, and_true, implies_true, and_self, forall_const, true_implies, lenA, lenL, SV.lenOK, Cont.lenOK] at hn hl ⊢
    simp only [ilt_t, ilt_f, ile_t, ile_f, ieq_t, ieq_f, bnot_e, band_e, bite_and, bite_or, NLt_e, NLe_e, NNe_e, NIs_e, imax_e, imin_e, irem_e, Bool.not_eq_true', Bool.not_eq_false', Bool.and_eq_true, Bool.or_eq_true, Bool.or_eq_false_iff, Bool.and_eq_false_iff, Cont.pts.injEq, Cont.ints.injEq, Cont.bools.injEq, Cont.ptss.injEq, Cont.intss.injEq, Cont.boolss.injEq, true_and, and_true, implies_true]
    unfold orB
    cases vB a1 a2 <;> cases vB b1 b2 <;> cases vB c1 c2 <;> simp
  · cases h
def g_spec_ConvexValid : List AV → Option Sg
  | [.s (.view (.pts l))] => some ⟨True, [.s (.bool (convB l))]⟩
  | _ => none
def sig_spec_ConvexValid : FuncId → List AV → Option Sg := sigL [(54, g_spec_l1In), (55, g_spec_Orientation)]
def xs_spec_ConvexValid : XS := ⟨xsigL [], ysigL []⟩
theorem sig_spec_ConvexValid_ok : SigOK sig_spec_ConvexValid := sigL_cons F_spec_l1In (sigL_cons F_spec_Orientation sigL_nil)
theorem xs_spec_ConvexValid_ok : XSigOK xs_spec_ConvexValid := ⟨xsigL_nil, ysigL_nil⟩
theorem V_spec_ConvexValid (l : List Pt) : ((true = true) ∧ ((True) ∧ True) ∧ (true = true) ∧ ((True) ∧ (True) ∧ (True) ∧ True) ∧ (true = true) ∧ ((True) ∧ ((True)) ∧ (True) ∧ True) ∧ ((bnot (inB (ilen l) (3 : Int) (8 : Int))) = true → ((true = true) ∧ ((True) ∧ True) ∧ ((false : Bool) = (convB l)) ∧ True)) ∧ ((bnot (inB (ilen l) (3 : Int) (8 : Int))) = false → ((true = true) ∧ ((True) ∧ True) ∧ ∃ (I1 : List GV → Prop) (μ1 : List GV → Nat), (((true = true) ∧ (((false : Bool) = false) ∧ (((0 : Int) : Int) = (0 : Int)) ∧ (((ilen l) : Int) = (ilen l)) ∧ (((inB (ilen l) (3 : Int) (8 : Int)) : Bool) = (inB (ilen l) (3 : Int) (8 : Int))) ∧ (((bnot (inB (ilen l) (3 : Int) (8 : Int))) : Bool) = (bnot (inB (ilen l) (3 : Int) (8 : Int)))) ∧ ((Cont.pts l) = (Cont.pts l)) ∧ (((ilen l) : Int) = (ilen l)) ∧ (((ilen l) : Int) = (ilen l)) ∧ ((Cont.pts l) = (Cont.pts l)) ∧ True) ∧ (True)) ∧ (([GK.int, GK.bool] : List GK) = ([GK.int, GK.bool] : List GK)) ∧ I1 [GV.int (0 : Int), GV.bool false]) ∧ (∀ i1_0 : Int, ∀ b1_1 : Bool, I1 [GV.int i1_0, GV.bool b1_1] → ((true = true) ∧ ((True) ∧ (True) ∧ (True) ∧ True) ∧ ((ilt i1_0 (ilen l)) = true → ((true = true) ∧ ((True) ∧ True) ∧ ∃ (I2 : List GV → Prop) (μ2 : List GV → Nat), (((true = true) ∧ (((b1_1 : Bool) = b1_1) ∧ (((0 : Int) : Int) = (0 : Int)) ∧ ((i1_0 : Int) = i1_0) ∧ (((ilen l) : Int) = (ilen l)) ∧ (((ilt i1_0 (ilen l)) : Bool) = (ilt i1_0 (ilen l))) ∧ ((i1_0 : Int) = i1_0) ∧ (((ilen l) : Int) = (ilen l)) ∧ (((inB (ilen l) (3 : Int) (8 : Int)) : Bool) = (inB (ilen l) (3 : Int) (8 : Int))) ∧ (((bnot (inB (ilen l) (3 : Int) (8 : Int))) : Bool) = (bnot (inB (ilen l) (3 : Int) (8 : Int)))) ∧ ((Cont.pts l) = (Cont.pts l)) ∧ (((ilen l) : Int) = (ilen l)) ∧ (((ilen l) : Int) = (ilen l)) ∧ ((Cont.pts l) = (Cont.pts l)) ∧ True) ∧ (True)) ∧ (([GK.int, GK.bool] : List GK) = ([GK.int, GK.bool] : List GK)) ∧ I2 [GV.int (0 : Int), GV.bool b1_1]) ∧ (∀ i2_0 : Int, ∀ b2_1 : Bool, I2 [GV.int i2_0, GV.bool b2_1] → ((true = true) ∧ ((True) ∧ (True) ∧ (True) ∧ True) ∧ ((ilt i2_0 (ilen l)) = true → ((true = true) ∧ ((True) ∧ (True) ∧ (True) ∧ (True) ∧ (NIs (bnot (ieq i2_0 i1_0)) true → True) ∧ (NIs (bnot (ieq i2_0 i1_0)) true → True) ∧ (NIs (bnot (ieq i2_0 i1_0)) true → True) ∧ (NIs (bnot (ieq i2_0 i1_0)) true → True) ∧ (NIs (bnot (ieq i2_0 i1_0)) true → NNe (ilen l) 0) ∧ (NIs (bnot (ieq i2_0 i1_0)) true → True) ∧ (True) ∧ (True) ∧ (NIs (bite (bnot (ieq i2_0 i1_0)) (bnot (ieq i2_0 (irem (iadd i1_0 (1 : Int)) (ilen l)))) false) true → True) ∧ (NIs (bite (bnot (ieq i2_0 i1_0)) (bnot (ieq i2_0 (irem (iadd i1_0 (1 : Int)) (ilen l)))) false) true → True) ∧ (NIs (bite (bnot (ieq i2_0 i1_0)) (bnot (ieq i2_0 (irem (iadd i1_0 (1 : Int)) (ilen l)))) false) true → (NLe 0 i1_0 ∧ NLt i1_0 (ilen l))) ∧ (NIs (bite (bnot (ieq i2_0 i1_0)) (bnot (ieq i2_0 (irem (iadd i1_0 (1 : Int)) (ilen l)))) false) true → True) ∧ (NIs (bite (bnot (ieq i2_0 i1_0)) (bnot (ieq i2_0 (irem (iadd i1_0 (1 : Int)) (ilen l)))) false) true → True) ∧ (NIs (bite (bnot (ieq i2_0 i1_0)) (bnot (ieq i2_0 (irem (iadd i1_0 (1 : Int)) (ilen l)))) false) true → True) ∧ (NIs (bite (bnot (ieq i2_0 i1_0)) (bnot (ieq i2_0 (irem (iadd i1_0 (1 : Int)) (ilen l)))) false) true → True) ∧ (NIs (bite (bnot (ieq i2_0 i1_0)) (bnot (ieq i2_0 (irem (iadd i1_0 (1 : Int)) (ilen l)))) false) true → True) ∧ (NIs (bite (bnot (ieq i2_0 i1_0)) (bnot (ieq i2_0 (irem (iadd i1_0 (1 : Int)) (ilen l)))) false) true → NNe (ilen l) 0) ∧ (NIs (bite (bnot (ieq i2_0 i1_0)) (bnot (ieq i2_0 (irem (iadd i1_0 (1 : Int)) (ilen l)))) false) true → (NLe 0 (irem (iadd i1_0 (1 : Int)) (ilen l)) ∧ NLt (irem (iadd i1_0 (1 : Int)) (ilen l)) (ilen l))) ∧ (NIs (bite (bnot (ieq i2_0 i1_0)) (bnot (ieq i2_0 (irem (iadd i1_0 (1 : Int)) (ilen l)))) false) true → True) ∧ (NIs (bite (bnot (ieq i2_0 i1_0)) (bnot (ieq i2_0 (irem (iadd i1_0 (1 : Int)) (ilen l)))) false) true → True) ∧ (NIs (bite (bnot (ieq i2_0 i1_0)) (bnot (ieq i2_0 (irem (iadd i1_0 (1 : Int)) (ilen l)))) false) true → True) ∧ (NIs (bite (bnot (ieq i2_0 i1_0)) (bnot (ieq i2_0 (irem (iadd i1_0 (1 : Int)) (ilen l)))) false) true → (NLe 0 i2_0 ∧ NLt i2_0 (ilen l))) ∧ (NIs (bite (bnot (ieq i2_0 i1_0)) (bnot (ieq i2_0 (irem (iadd i1_0 (1 : Int)) (ilen l)))) false) true → True) ∧ (NIs (bite (bnot (ieq i2_0 i1_0)) (bnot (ieq i2_0 (irem (iadd i1_0 (1 : Int)) (ilen l)))) false) true → (True)) ∧ (NIs (bite (bnot (ieq i2_0 i1_0)) (bnot (ieq i2_0 (irem (iadd i1_0 (1 : Int)) (ilen l)))) false) true → True) ∧ (True) ∧ True) ∧ ((bite (bite (bnot (ieq i2_0 i1_0)) (bnot (ieq i2_0 (irem (iadd i1_0 (1 : Int)) (ilen l)))) false) (bnot (ieq (orB (getx l i1_0) (gety l i1_0) (getx l (irem (iadd i1_0 (1 : Int)) (ilen l))) (gety l (irem (iadd i1_0 (1 : Int)) (ilen l))) (getx l i2_0) (gety l i2_0)) (1 : Int))) false) = true → ((true = true) ∧ ((True) ∧ True) ∧ ((false : Bool) = (convB l)) ∧ True)) ∧ ((bite (bite (bnot (ieq i2_0 i1_0)) (bnot (ieq i2_0 (irem (iadd i1_0 (1 : Int)) (ilen l)))) false) (bnot (ieq (orB (getx l i1_0) (gety l i1_0) (getx l (irem (iadd i1_0 (1 : Int)) (ilen l))) (gety l (irem (iadd i1_0 (1 : Int)) (ilen l))) (getx l i2_0) (gety l i2_0)) (1 : Int))) false) = false → ((true = true) ∧ ((True) ∧ (True) ∧ (True) ∧ True) ∧ ((true = true) ∧ (((b2_1 : Bool) = b2_1) ∧ (((iadd i2_0 (1 : Int)) : Int) = (iadd i2_0 (1 : Int))) ∧ ((i1_0 : Int) = i1_0) ∧ (((ilen l) : Int) = (ilen l)) ∧ (((ilt i1_0 (ilen l)) : Bool) = (ilt i1_0 (ilen l))) ∧ ((i1_0 : Int) = i1_0) ∧ (((ilen l) : Int) = (ilen l)) ∧ (((inB (ilen l) (3 : Int) (8 : Int)) : Bool) = (inB (ilen l) (3 : Int) (8 : Int))) ∧ (((bnot (inB (ilen l) (3 : Int) (8 : Int))) : Bool) = (bnot (inB (ilen l) (3 : Int) (8 : Int)))) ∧ ((Cont.pts l) = (Cont.pts l)) ∧ (((ilen l) : Int) = (ilen l)) ∧ (((ilen l) : Int) = (ilen l)) ∧ ((Cont.pts l) = (Cont.pts l)) ∧ True) ∧ (True)) ∧ ((([GK.int, GK.bool] : List GK) = ([GK.int, GK.bool] : List GK)) ∧ I2 [GV.int (iadd i2_0 (1 : Int)), GV.bool b2_1] ∧ μ2 [GV.int (iadd i2_0 (1 : Int)), GV.bool b2_1] < μ2 [GV.int i2_0, GV.bool b2_1]))))) ∧ ((ilt i2_0 (ilen l)) = false → ((true = true) ∧ ((True) ∧ (True) ∧ (True) ∧ True) ∧ ((true = true) ∧ (((b2_1 : Bool) = b2_1) ∧ (((iadd i1_0 (1 : Int)) : Int) = (iadd i1_0 (1 : Int))) ∧ (((ilen l) : Int) = (ilen l)) ∧ (((inB (ilen l) (3 : Int) (8 : Int)) : Bool) = (inB (ilen l) (3 : Int) (8 : Int))) ∧ (((bnot (inB (ilen l) (3 : Int) (8 : Int))) : Bool) = (bnot (inB (ilen l) (3 : Int) (8 : Int)))) ∧ ((Cont.pts l) = (Cont.pts l)) ∧ (((ilen l) : Int) = (ilen l)) ∧ (((ilen l) : Int) = (ilen l)) ∧ ((Cont.pts l) = (Cont.pts l)) ∧ True) ∧ (True)) ∧ ((([GK.int, GK.bool] : List GK) = ([GK.int, GK.bool] : List GK)) ∧ I1 [GV.int (iadd i1_0 (1 : Int)), GV.bool b2_1] ∧ μ1 [GV.int (iadd i1_0 (1 : Int)), GV.bool b2_1] < μ1 [GV.int i1_0, GV.bool b1_1]))))))) ∧ ((ilt i1_0 (ilen l)) = false → ((true = true) ∧ ((True) ∧ True) ∧ ((true : Bool) = (convB l)) ∧ True))))))) = ev sig_spec_ConvexValid xs_spec_ConvexValid Try.f16.ntmps (fun b => if b == 0 then [.v 4, .v 2] else if b == 2 then [.v 5, .v 2] else []) (codeOf Try.f16) 0 (initS [.s (.view (.pts l))]) (retK Try.f16.results.toList [.s (.bool (convB l))]) := by kernel_rfl
set_option maxHeartbeats 400000 in
theorem F_spec_ConvexValid : FunOK 16 g_spec_ConvexValid := by
  refine fun_F (by kernel_rfl) Try.func16 rfl (by kernel_rfl) sig_spec_ConvexValid_ok xs_spec_ConvexValid_ok ?_
  intro avs sg h hn hl
  unfold g_spec_ConvexValid at h
  split at h
  · rename_i l
    injection h with h; subst h
    refine ⟨by kernel_rfl, fun b => if b == 0 then [.v 4, .v 2] else if b == 2 then [.v 5, .v 2] else [], Eq.mp (V_spec_ConvexValid l) ?_⟩
    simp only [true_and, and_true, implies_true, and_self, forall_const, true_implies, lenA, lenL, SV.lenOK, Cont.lenOK] at hn hl ⊢
    simp only [← convS_eq]
    have h0 := ilen_0 l
    simp only [ilt_t, ilt_f, ile_t, ile_f, ieq_t, ieq_f, bnot_e, band_e, bite_and, bite_or, NLt_e, NLe_e, NNe_e, NIs_e, imax_e, imin_e, irem_e, Bool.not_eq_true', Bool.not_eq_false', Bool.and_eq_true, Bool.or_eq_true, Bool.or_eq_false_iff, Bool.and_eq_false_iff, Cont.pts.injEq, Cont.ints.injEq, Cont.bools.injEq, Cont.ptss.injEq, Cont.intss.injEq, Cont.boolss.injEq, true_and, and_true, implies_true]
    refine ⟨?_, fun hv1 => ?_⟩
    · intro h; simp [convS, h]
    · have hlen := inB_true hv1
      refine ⟨fun | [.int k, .bool _] => 0 ≤ k ∧ k ≤ ilen l ∧ (∀ i, 0 ≤ i → i < k → allN (ilen l) (convF l i) = true) | _ => False, fun | [.int k, .bool _] => (ilen l - k).toNat | _ => 0, ?_, ?_⟩
      · exact ⟨Int.le_refl 0, h0, fun j h0 h1 => absurd h1 (by omega)⟩
      · rintro k b ⟨hk0, hk1, hk⟩
        simp only [ilt_t, ilt_f, ile_t, ile_f, ieq_t, ieq_f, bnot_e, band_e, bite_and, bite_or, NLt_e, NLe_e, NNe_e, NIs_e, imax_e, imin_e, irem_e, Bool.not_eq_true', Bool.not_eq_false', Bool.and_eq_true, Bool.or_eq_true, Bool.or_eq_false_iff, Bool.and_eq_false_iff, Cont.pts.injEq, Cont.ints.injEq, Cont.bools.injEq, Cont.ptss.injEq, Cont.intss.injEq, Cont.boolss.injEq, true_and, and_true, implies_true]
        refine ⟨fun hkn => ?_, fun hkn => ?_⟩
        · have e1 := iadd_1 hk0 hkn hl
          obtain ⟨n0, n1, _⟩ := nx_in hk0 hkn
          have e2 : (k + 1).tmod (ilen l) = nx l k := rfl
          simp only [e1, e2]
          refine ⟨fun | [.int j, .bool _] => 0 ≤ j ∧ j ≤ ilen l ∧ (∀ i, 0 ≤ i → i < j → convF l k i = true) | _ => False, fun | [.int j, .bool _] => (ilen l - j).toNat | _ => 0, ?_, ?_⟩
          · exact ⟨Int.le_refl 0, h0, fun j h0 h1 => absurd h1 (by omega)⟩
          · rintro j b ⟨hj0, hj1, hj⟩
            simp only [ilt_t, ilt_f, ile_t, ile_f, ieq_t, ieq_f, bnot_e, band_e, bite_and, bite_or, NLt_e, NLe_e, NNe_e, NIs_e, imax_e, imin_e, irem_e, Bool.not_eq_true', Bool.not_eq_false', Bool.and_eq_true, Bool.or_eq_true, Bool.or_eq_false_iff, Bool.and_eq_false_iff, Cont.pts.injEq, Cont.ints.injEq, Cont.bools.injEq, Cont.ptss.injEq, Cont.intss.injEq, Cont.boolss.injEq, true_and, and_true, implies_true]
            refine ⟨fun hjn => ⟨?_, fun hx => ?_, fun hx => ?_⟩, fun hjn => ?_⟩
            · exact ⟨fun _ => by omega, fun _ => ⟨hk0, hkn⟩, fun _ => by omega, fun _ => ⟨n0, n1⟩, fun _ => ⟨hj0, hjn⟩⟩
            · have hE : convF l k j = false := by
                unfold convF orI
                simp only [decide_eq_false_iff_not]
                omega
              unfold convS
              rw [allN_no k hk0 hkn (allN_no j hj0 hjn hE)]
              simp
            · have hE : convF l k j = true := by
                unfold convF orI
                simp only [decide_eq_true_eq]
                omega
              rw [iadd_1 hj0 hjn hl]
              exact ⟨⟨by omega, by omega, allN_up hj hE⟩, by omega⟩
            · exact ⟨⟨by omega, by omega, allN_up hk (allN_mk fun i h0 h1 => hj i h0 (by omega))⟩, by omega⟩
        · unfold convS
          rw [hv1, allN_mk fun i h0 h1 => hk i h0 (by omega)]
          rfl
  · cases h
def g_spec_l9Near : List AV → Option Sg
  | [.agg [.int p1, .int p2]] => some ⟨True, [.s (.bool (nearB p1 p2))]⟩
  | _ => none
def sig_spec_l9Near : FuncId → List AV → Option Sg := sigL [(54, g_spec_l1In)]
def xs_spec_l9Near : XS := ⟨xsigL [], ysigL []⟩
theorem sig_spec_l9Near_ok : SigOK sig_spec_l9Near := sigL_cons F_spec_l1In sigL_nil
theorem xs_spec_l9Near_ok : XSigOK xs_spec_l9Near := ⟨xsigL_nil, ysigL_nil⟩
theorem V_spec_l9Near (p1 : Int) (p2 : Int) : ((true = true) ∧ ((True) ∧ (True) ∧ True) ∧ (true = true) ∧ ((True) ∧ (True) ∧ ((True)) ∧ (True) ∧ (NIs (inB p1 (-1000 : Int) (1000 : Int)) true → True) ∧ (NIs (inB p1 (-1000 : Int) (1000 : Int)) true → True) ∧ (NIs (inB p1 (-1000 : Int) (1000 : Int)) true → (True)) ∧ (True) ∧ (True) ∧ True) ∧ (((bite (inB p1 (-1000 : Int) (1000 : Int)) (inB p2 (-1000 : Int) (1000 : Int)) false) : Bool) = (nearB p1 p2)) ∧ True) = ev sig_spec_l9Near xs_spec_l9Near Try.f74.ntmps (fun b => []) (codeOf Try.f74) 0 (initS [.agg [.int p1, .int p2]]) (retK Try.f74.results.toList [.s (.bool (nearB p1 p2))]) := by kernel_rfl
set_option maxHeartbeats 400000 in
theorem F_spec_l9Near : FunOK 74 g_spec_l9Near := by
  refine fun_F (by kernel_rfl) Try.func74 rfl (by kernel_rfl) sig_spec_l9Near_ok xs_spec_l9Near_ok ?_
  intro avs sg h hn hl
  unfold g_spec_l9Near at h
  split at h
  · rename_i p1 p2
    injection h with h; subst h
    refine ⟨by kernel_rfl, fun b => [], Eq.mp (V_spec_l9Near p1 p2) ?_⟩
    simp only [true_and, and_true, implies_true, and_self, forall_const, true_implies, lenA, lenL, SV.lenOK, Cont.lenOK] at hn hl ⊢
    simp only [ilt_t, ilt_f, ile_t, ile_f, ieq_t, ieq_f, bnot_e, band_e, bite_and, bite_or, NLt_e, NLe_e, NNe_e, NIs_e, imax_e, imin_e, irem_e, Bool.not_eq_true', Bool.not_eq_false', Bool.and_eq_true, Bool.or_eq_true, Bool.or_eq_false_iff, Bool.and_eq_false_iff, Cont.pts.injEq, Cont.ints.injEq, Cont.bools.injEq, Cont.ptss.injEq, Cont.intss.injEq, Cont.boolss.injEq, true_and, and_true, implies_true, nearB]
  · cases h
def g_spec_l9Square : List AV → Option Sg
  | [.agg [.int p1, .int p2], .agg [.int a1, .int a2], .agg [.int b1, .int b2]] => some ⟨nearB p1 p2 = true ∧ nearB a1 a2 = true ∧ nearB b1 b2 = true, [.s (.int (ssqE p1 p2 a1 a2 b1 b2))]⟩
  | _ => none
def sig_spec_l9Square : FuncId → List AV → Option Sg := sigL [(87, g_spec_l2Square), (57, g_spec_l2Cross)]
def xs_spec_l9Square : XS := ⟨xsigL [], ysigL []⟩
theorem sig_spec_l9Square_ok : SigOK sig_spec_l9Square := sigL_cons F_spec_l2Square (sigL_cons F_spec_l2Cross sigL_nil)
theorem xs_spec_l9Square_ok : XSigOK xs_spec_l9Square := ⟨xsigL_nil, ysigL_nil⟩
theorem V_spec_l9Square (p1 : Int) (p2 : Int) (a1 : Int) (a2 : Int) (b1 : Int) (b2 : Int) : ((true = true) ∧ ((True) ∧ (True) ∧ (True) ∧ (True) ∧ True) ∧ (true = true) ∧ ((True) ∧ (True) ∧ (True) ∧ (True) ∧ (True) ∧ (True) ∧ True) ∧ (true = true) ∧ ((True) ∧ (True) ∧ (True) ∧ (True) ∧ (True) ∧ (True) ∧ True) ∧ (true = true) ∧ ((True) ∧ (True) ∧ (True) ∧ (True) ∧ (True) ∧ (True) ∧ (True) ∧ (True) ∧ True) ∧ (true = true) ∧ ((True) ∧ (True) ∧ (True) ∧ (True) ∧ (True) ∧ (True) ∧ (True) ∧ (True) ∧ (True) ∧ (True) ∧ (True) ∧ (True) ∧ (True) ∧ (True) ∧ (True) ∧ (True) ∧ True) ∧ (true = true) ∧ ((True) ∧ (True) ∧ True) ∧ ((ile (iadd (imul (isub p1 a1) (isub b1 a1)) (imul (isub p2 a2) (isub b2 a2))) (0 : Int)) = true → ((true = true) ∧ ((True) ∧ (True) ∧ ((vB p1 p2 = true ∧ vB a1 a2 = true)) ∧ (True) ∧ True) ∧ (((sqE p1 p2 a1 a2) : Int) = (ssqE p1 p2 a1 a2 b1 b2)) ∧ True)) ∧ ((ile (iadd (imul (isub p1 a1) (isub b1 a1)) (imul (isub p2 a2) (isub b2 a2))) (0 : Int)) = false → ((true = true) ∧ ((True) ∧ (True) ∧ (True) ∧ True) ∧ ((ile (iadd (imul (isub b1 a1) (isub b1 a1)) (imul (isub b2 a2) (isub b2 a2))) (iadd (imul (isub p1 a1) (isub b1 a1)) (imul (isub p2 a2) (isub b2 a2)))) = true → ((true = true) ∧ ((True) ∧ (True) ∧ ((vB p1 p2 = true ∧ vB b1 b2 = true)) ∧ (True) ∧ True) ∧ (((sqE p1 p2 b1 b2) : Int) = (ssqE p1 p2 a1 a2 b1 b2)) ∧ True)) ∧ ((ile (iadd (imul (isub b1 a1) (isub b1 a1)) (imul (isub b2 a2) (isub b2 a2))) (iadd (imul (isub p1 a1) (isub b1 a1)) (imul (isub p2 a2) (isub b2 a2)))) = false → ((true = true) ∧ ((True) ∧ (True) ∧ (True) ∧ ((True)) ∧ (True) ∧ True) ∧ (true = true) ∧ ((True) ∧ (True) ∧ (True) ∧ (True) ∧ (NNe (iadd (imul (isub b1 a1) (isub b1 a1)) (imul (isub b2 a2) (isub b2 a2))) 0) ∧ (True) ∧ True) ∧ (((iquo (imul (crW a1 a2 b1 b2 p1 p2) (crW a1 a2 b1 b2 p1 p2)) (iadd (imul (isub b1 a1) (isub b1 a1)) (imul (isub b2 a2) (isub b2 a2)))) : Int) = (ssqE p1 p2 a1 a2 b1 b2)) ∧ True))))) = ev sig_spec_l9Square xs_spec_l9Square Try.f96.ntmps (fun b => []) (codeOf Try.f96) 0 (initS [.agg [.int p1, .int p2], .agg [.int a1, .int a2], .agg [.int b1, .int b2]]) (retK Try.f96.results.toList [.s (.int (ssqE p1 p2 a1 a2 b1 b2))]) := by kernel_rfl
set_option maxHeartbeats 400000 in
theorem F_spec_l9Square : FunOK 96 g_spec_l9Square := by
  refine fun_F (by kernel_rfl) Try.func96 rfl (by kernel_rfl) sig_spec_l9Square_ok xs_spec_l9Square_ok ?_
  intro avs sg h hn hl
  unfold g_spec_l9Square at h
  split at h
  · rename_i p1 p2 a1 a2 b1 b2
    injection h with h; subst h
    refine ⟨by kernel_rfl, fun b => [], Eq.mp (V_spec_l9Square p1 p2 a1 a2 b1 b2) ?_⟩
    simp only [true_and, and_true, implies_true, and_self, forall_const, true_implies, lenA, lenL, SV.lenOK, Cont.lenOK] at hn hl ⊢
    obtain ⟨np, na, nb⟩ := hn
    have hc := crs_bd na nb np
    have hsq := sq_w na nb
    have sq := sq_w nb na
    have hcm := sqE_comm b1 b2 a1 a2
    rw [hcm] at sq
    simp only [ilt_t, ilt_f, ile_t, ile_f, ieq_t, ieq_f, bnot_e, band_e, bite_and, bite_or, NLt_e, NLe_e, NNe_e, NIs_e, imax_e, imin_e, irem_e, Bool.not_eq_true', Bool.not_eq_false', Bool.and_eq_true, Bool.or_eq_true, Bool.or_eq_false_iff, Bool.and_eq_false_iff, Cont.pts.injEq, Cont.ints.injEq, Cont.bools.injEq, Cont.ptss.injEq, Cont.intss.injEq, Cont.boolss.injEq, true_and, and_true, implies_true, np, na, nb, near_v np, near_v na, near_v nb, crW_e (near_v na) (near_v nb) (near_v np), al_w np na nb, sq.1, mul4 hc hc, true_implies, forall_const]
    refine ⟨fun h => by unfold ssqE; rw [if_pos h], fun h => ⟨fun h2 => by unfold ssqE; rw [if_neg (by omega), if_pos h2], fun h2 => ⟨by omega, ?_⟩⟩⟩
    unfold ssqE
    rw [if_neg (by omega), if_neg (by omega)]
    have := mul4b hc hc
    exact iquo_e (by omega) (by omega) (by omega)
  · cases h
def g_spec_SegmentSquare : List AV → Option Sg
  | [.agg [.int p1, .int p2], .agg [.int a1, .int a2], .agg [.int b1, .int b2]] => some ⟨True, [.s (.int (ssQ p1 p2 a1 a2 b1 b2))]⟩
  | _ => none
def sig_spec_SegmentSquare : FuncId → List AV → Option Sg := sigL [(74, g_spec_l9Near), (96, g_spec_l9Square)]
def xs_spec_SegmentSquare : XS := ⟨xsigL [], ysigL []⟩
theorem sig_spec_SegmentSquare_ok : SigOK sig_spec_SegmentSquare := sigL_cons F_spec_l9Near (sigL_cons F_spec_l9Square sigL_nil)
theorem xs_spec_SegmentSquare_ok : XSigOK xs_spec_SegmentSquare := ⟨xsigL_nil, ysigL_nil⟩
theorem V_spec_SegmentSquare (p1 : Int) (p2 : Int) (a1 : Int) (a2 : Int) (b1 : Int) (b2 : Int) : ((true = true) ∧ ((True) ∧ (True) ∧ (True) ∧ (True) ∧ True) ∧ (true = true) ∧ ((True) ∧ ((True)) ∧ (True) ∧ (True) ∧ (NIs (bnot (nearB p1 p2)) false → True) ∧ (NIs (bnot (nearB p1 p2)) false → (True)) ∧ (NIs (bnot (nearB p1 p2)) false → True) ∧ (True) ∧ (True) ∧ (NIs (bite (bnot (nearB p1 p2)) true (bnot (nearB a1 a2))) false → True) ∧ (NIs (bite (bnot (nearB p1 p2)) true (bnot (nearB a1 a2))) false → (True)) ∧ (NIs (bite (bnot (nearB p1 p2)) true (bnot (nearB a1 a2))) false → True) ∧ (True) ∧ True) ∧ ((bite (bite (bnot (nearB p1 p2)) true (bnot (nearB a1 a2))) true (bnot (nearB b1 b2))) = true → ((true = true) ∧ ((True) ∧ True) ∧ (((-1 : Int) : Int) = (ssQ p1 p2 a1 a2 b1 b2)) ∧ True)) ∧ ((bite (bite (bnot (nearB p1 p2)) true (bnot (nearB a1 a2))) true (bnot (nearB b1 b2))) = false → ((true = true) ∧ ((True) ∧ (True) ∧ (True) ∧ ((nearB p1 p2 = true ∧ nearB a1 a2 = true ∧ nearB b1 b2 = true)) ∧ (True) ∧ True) ∧ (((ssqE p1 p2 a1 a2 b1 b2) : Int) = (ssQ p1 p2 a1 a2 b1 b2)) ∧ True))) = ev sig_spec_SegmentSquare xs_spec_SegmentSquare Try.f75.ntmps (fun b => []) (codeOf Try.f75) 0 (initS [.agg [.int p1, .int p2], .agg [.int a1, .int a2], .agg [.int b1, .int b2]]) (retK Try.f75.results.toList [.s (.int (ssQ p1 p2 a1 a2 b1 b2))]) := by kernel_rfl
set_option maxHeartbeats 400000 in
theorem F_spec_SegmentSquare : FunOK 75 g_spec_SegmentSquare := by
  refine fun_F (by kernel_rfl) Try.func75 rfl (by kernel_rfl) sig_spec_SegmentSquare_ok xs_spec_SegmentSquare_ok ?_
  intro avs sg h hn hl
  unfold g_spec_SegmentSquare at h
  split at h
  · rename_i p1 p2 a1 a2 b1 b2
    injection h with h; subst h
    refine ⟨by kernel_rfl, fun b => [], Eq.mp (V_spec_SegmentSquare p1 p2 a1 a2 b1 b2) ?_⟩
    simp only [true_and, and_true, implies_true, and_self, forall_const, true_implies, lenA, lenL, SV.lenOK, Cont.lenOK] at hn hl ⊢
    simp only [ilt_t, ilt_f, ile_t, ile_f, ieq_t, ieq_f, bnot_e, band_e, bite_and, bite_or, NLt_e, NLe_e, NNe_e, NIs_e, imax_e, imin_e, irem_e, Bool.not_eq_true', Bool.not_eq_false', Bool.and_eq_true, Bool.or_eq_true, Bool.or_eq_false_iff, Bool.and_eq_false_iff, Cont.pts.injEq, Cont.ints.injEq, Cont.bools.injEq, Cont.ptss.injEq, Cont.intss.injEq, Cont.boolss.injEq, true_and, and_true, implies_true]
    unfold ssQ
    cases h1 : nearB p1 p2 <;> cases h2 : nearB a1 a2 <;> cases h3 : nearB b1 b2 <;> simp
  · cases h
def g_spec_l8Inside : List AV → Option Sg
  | [.s (.view (.pts l)), .agg [.int p1, .int p2]] => some ⟨True, [.s (.bool (insB l p1 p2))]⟩
  | _ => none
def sig_spec_l8Inside : FuncId → List AV → Option Sg := sigL [(57, g_spec_l2Cross)]
def xs_spec_l8Inside : XS := ⟨xsigL [], ysigL []⟩
theorem sig_spec_l8Inside_ok : SigOK sig_spec_l8Inside := sigL_cons F_spec_l2Cross sigL_nil
theorem xs_spec_l8Inside_ok : XSigOK xs_spec_l8Inside := ⟨xsigL_nil, ysigL_nil⟩
theorem V_spec_l8Inside (l : List Pt) (p1 : Int) (p2 : Int) : ((true = true) ∧ ((True) ∧ (True) ∧ True) ∧ (true = true) ∧ ((True) ∧ True) ∧ ∃ (I1 : List GV → Prop) (μ1 : List GV → Nat), (((true = true) ∧ (((false : Bool) = false) ∧ (((0 : Int) : Int) = (0 : Int)) ∧ (true = true) ∧ ((Cont.pts l) = (Cont.pts l)) ∧ (((p1 : Int) = p1) ∧ ((p2 : Int) = p2) ∧ True) ∧ True) ∧ ((((p1 : Int) = p1) ∧ ((p2 : Int) = p2) ∧ True) ∧ True)) ∧ (([GK.int, GK.bool] : List GK) = ([GK.int, GK.bool] : List GK)) ∧ I1 [GV.int (0 : Int), GV.bool false]) ∧ (∀ i1_0 : Int, ∀ b1_1 : Bool, I1 [GV.int i1_0, GV.bool b1_1] → ((true = true) ∧ ((True) ∧ (True) ∧ (True) ∧ (True) ∧ True) ∧ ((ilt i1_0 (ilen l)) = true → ((true = true) ∧ ((True) ∧ (True) ∧ (NLe 0 i1_0 ∧ NLt i1_0 (ilen l)) ∧ (True) ∧ (True) ∧ (True) ∧ (True) ∧ (True) ∧ (True) ∧ (NNe (ilen l) 0) ∧ (NLe 0 (irem (iadd i1_0 (1 : Int)) (ilen l)) ∧ NLt (irem (iadd i1_0 (1 : Int)) (ilen l)) (ilen l)) ∧ (True) ∧ (True) ∧ ((True)) ∧ (True) ∧ True) ∧ ((ilt (crW (getx l i1_0) (gety l i1_0) (getx l (irem (iadd i1_0 (1 : Int)) (ilen l))) (gety l (irem (iadd i1_0 (1 : Int)) (ilen l))) p1 p2) (0 : Int)) = true → ((true = true) ∧ ((True) ∧ True) ∧ ((false : Bool) = (insB l p1 p2)) ∧ True)) ∧ ((ilt (crW (getx l i1_0) (gety l i1_0) (getx l (irem (iadd i1_0 (1 : Int)) (ilen l))) (gety l (irem (iadd i1_0 (1 : Int)) (ilen l))) p1 p2) (0 : Int)) = false → ((true = true) ∧ ((True) ∧ (True) ∧ (True) ∧ True) ∧ ((true = true) ∧ (((b1_1 : Bool) = b1_1) ∧ (((iadd i1_0 (1 : Int)) : Int) = (iadd i1_0 (1 : Int))) ∧ (true = true) ∧ ((Cont.pts l) = (Cont.pts l)) ∧ (((p1 : Int) = p1) ∧ ((p2 : Int) = p2) ∧ True) ∧ True) ∧ ((((p1 : Int) = p1) ∧ ((p2 : Int) = p2) ∧ True) ∧ True)) ∧ ((([GK.int, GK.bool] : List GK) = ([GK.int, GK.bool] : List GK)) ∧ I1 [GV.int (iadd i1_0 (1 : Int)), GV.bool b1_1] ∧ μ1 [GV.int (iadd i1_0 (1 : Int)), GV.bool b1_1] < μ1 [GV.int i1_0, GV.bool b1_1]))))) ∧ ((ilt i1_0 (ilen l)) = false → ((true = true) ∧ ((True) ∧ True) ∧ ((true : Bool) = (insB l p1 p2)) ∧ True))))) = ev sig_spec_l8Inside xs_spec_l8Inside Try.f64.ntmps (fun b => if b == 0 then [.v 5, .v 4] else []) (codeOf Try.f64) 0 (initS [.s (.view (.pts l)), .agg [.int p1, .int p2]]) (retK Try.f64.results.toList [.s (.bool (insB l p1 p2))]) := by kernel_rfl
set_option maxHeartbeats 400000 in
theorem F_spec_l8Inside : FunOK 64 g_spec_l8Inside := by
  refine fun_F (by kernel_rfl) Try.func64 rfl (by kernel_rfl) sig_spec_l8Inside_ok xs_spec_l8Inside_ok ?_
  intro avs sg h hn hl
  unfold g_spec_l8Inside at h
  split at h
  · rename_i l p1 p2
    injection h with h; subst h
    refine ⟨by kernel_rfl, fun b => if b == 0 then [.v 5, .v 4] else [], Eq.mp (V_spec_l8Inside l p1 p2) ?_⟩
    simp only [true_and, and_true, implies_true, and_self, forall_const, true_implies, lenA, lenL, SV.lenOK, Cont.lenOK] at hn hl ⊢
    have h0 := ilen_0 l
    simp only [ilt_t, ilt_f, ile_t, ile_f, ieq_t, ieq_f, bnot_e, band_e, bite_and, bite_or, NLt_e, NLe_e, NNe_e, NIs_e, imax_e, imin_e, irem_e, Bool.not_eq_true', Bool.not_eq_false', Bool.and_eq_true, Bool.or_eq_true, Bool.or_eq_false_iff, Bool.and_eq_false_iff, Cont.pts.injEq, Cont.ints.injEq, Cont.bools.injEq, Cont.ptss.injEq, Cont.intss.injEq, Cont.boolss.injEq, true_and, and_true, implies_true]
    refine ⟨fun | .int k :: _ => 0 ≤ k ∧ k ≤ ilen l ∧ (∀ i, 0 ≤ i → i < k → insE l p1 p2 i = true) | _ => False, fun | .int k :: _ => (ilen l - k).toNat | _ => 0, ?_, ?_⟩
    · exact ⟨Int.le_refl 0, h0, fun j h0 h1 => absurd h1 (by omega)⟩
    · rintro k _ ⟨hk0, hk1, hk⟩
      simp only [ilt_t, ilt_f, ile_t, ile_f, ieq_t, ieq_f, bnot_e, band_e, bite_and, bite_or, NLt_e, NLe_e, NNe_e, NIs_e, imax_e, imin_e, irem_e, Bool.not_eq_true', Bool.not_eq_false', Bool.and_eq_true, Bool.or_eq_true, Bool.or_eq_false_iff, Bool.and_eq_false_iff, Cont.pts.injEq, Cont.ints.injEq, Cont.bools.injEq, Cont.ptss.injEq, Cont.intss.injEq, Cont.boolss.injEq, true_and, and_true, implies_true]
      refine ⟨fun hkn => ?_, fun hkn => ?_⟩
      · have e1 := iadd_1 hk0 hkn hl
        obtain ⟨n0, n1, _⟩ := nx_in hk0 hkn
        have e2 : (k + 1).tmod (ilen l) = nx l k := rfl
        simp only [e1, e2]
        have hne : ilen l ≠ 0 := by omega
        refine ⟨⟨⟨hk0, hkn⟩, hne, ⟨n0, n1⟩⟩, fun hx => ?_, fun hx => ?_⟩
        · have hE : insE l p1 p2 k = false := by
            unfold insE
            simp only [decide_eq_false_iff_not]
            omega
          unfold insB
          rw [allN_no k hk0 hkn hE]
        · have hE : insE l p1 p2 k = true := by
            unfold insE
            simp only [decide_eq_true_eq]
            omega
          exact ⟨⟨by omega, by omega, allN_up hk hE⟩, by omega⟩
      · unfold insB
        rw [allN_mk fun i h0 h1 => hk i h0 (by omega)]
  · cases h
def g_spec_PolygonSquare : List AV → Option Sg
  | [.s (.view (.pts l)), .agg [.int p1, .int p2]] => some ⟨True, [.s (.int (psq l p1 p2))]⟩
  | _ => none
def sig_spec_PolygonSquare : FuncId → List AV → Option Sg := sigL [(16, g_spec_ConvexValid), (74, g_spec_l9Near), (75, g_spec_SegmentSquare), (64, g_spec_l8Inside)]
def xs_spec_PolygonSquare : XS := ⟨xsigL [], ysigL []⟩
theorem sig_spec_PolygonSquare_ok : SigOK sig_spec_PolygonSquare := sigL_cons F_spec_ConvexValid (sigL_cons F_spec_l9Near (sigL_cons F_spec_SegmentSquare (sigL_cons F_spec_l8Inside sigL_nil)))
theorem xs_spec_PolygonSquare_ok : XSigOK xs_spec_PolygonSquare := ⟨xsigL_nil, ysigL_nil⟩
theorem V_spec_PolygonSquare (l : List Pt) (p1 : Int) (p2 : Int) : ((true = true) ∧ ((True) ∧ (True) ∧ True) ∧ (true = true) ∧ ((True) ∧ ((True)) ∧ (True) ∧ (True) ∧ (NIs (bnot (convB l)) false → True) ∧ (NIs (bnot (convB l)) false → (True)) ∧ (NIs (bnot (convB l)) false → True) ∧ (True) ∧ True) ∧ ((bite (bnot (convB l)) true (bnot (nearB p1 p2))) = true → ((true = true) ∧ ((True) ∧ True) ∧ (((-1 : Int) : Int) = (psq l p1 p2)) ∧ True)) ∧ ((bite (bnot (convB l)) true (bnot (nearB p1 p2))) = false → ((true = true) ∧ ((True) ∧ True) ∧ (true = true) ∧ ((True) ∧ True) ∧ ∃ (I1 : List GV → Prop) (μ1 : List GV → Nat), (((true = true) ∧ ((((0 : Int) : Int) = (0 : Int)) ∧ (((-1 : Int) : Int) = (-1 : Int)) ∧ (((0 : Int) : Int) = (0 : Int)) ∧ ((Cont.pts l) = (Cont.pts l)) ∧ (((convB l) : Bool) = (convB l)) ∧ (((bnot (convB l)) : Bool) = (bnot (convB l))) ∧ (((bnot (convB l)) : Bool) = (bnot (convB l))) ∧ (((bite (bnot (convB l)) true (bnot (nearB p1 p2))) : Bool) = (bite (bnot (convB l)) true (bnot (nearB p1 p2)))) ∧ (true = true) ∧ ((Cont.pts l) = (Cont.pts l)) ∧ (((p1 : Int) = p1) ∧ ((p2 : Int) = p2) ∧ True) ∧ True) ∧ ((((p1 : Int) = p1) ∧ ((p2 : Int) = p2) ∧ True) ∧ True)) ∧ (([GK.int, GK.int, GK.int] : List GK) = ([GK.int, GK.int, GK.int] : List GK)) ∧ I1 [GV.int (0 : Int), GV.int (-1 : Int), GV.int (0 : Int)]) ∧ (∀ i1_0 : Int, ∀ i1_1 : Int, ∀ i1_2 : Int, I1 [GV.int i1_0, GV.int i1_1, GV.int i1_2] → ((true = true) ∧ ((True) ∧ (True) ∧ (True) ∧ (True) ∧ True) ∧ ((ilt i1_0 (ilen l)) = true → ((true = true) ∧ ((True) ∧ (True) ∧ (True) ∧ (NLe 0 i1_0 ∧ NLt i1_0 (ilen l)) ∧ (True) ∧ (True) ∧ (True) ∧ (True) ∧ (True) ∧ (True) ∧ (NNe (ilen l) 0) ∧ (NLe 0 (irem (iadd i1_0 (1 : Int)) (ilen l)) ∧ NLt (irem (iadd i1_0 (1 : Int)) (ilen l)) (ilen l)) ∧ (True) ∧ ((True)) ∧ (True) ∧ True) ∧ (true = true) ∧ ((True) ∧ (True) ∧ True) ∧ ((ilt (ssQ p1 p2 (getx l i1_0) (gety l i1_0) (getx l (irem (iadd i1_0 (1 : Int)) (ilen l))) (gety l (irem (iadd i1_0 (1 : Int)) (ilen l)))) (0 : Int)) = true → ((true = true) ∧ ((True) ∧ True) ∧ (((-1 : Int) : Int) = (psq l p1 p2)) ∧ True)) ∧ ((ilt (ssQ p1 p2 (getx l i1_0) (gety l i1_0) (getx l (irem (iadd i1_0 (1 : Int)) (ilen l))) (gety l (irem (iadd i1_0 (1 : Int)) (ilen l)))) (0 : Int)) = false → ((true = true) ∧ ((True) ∧ (True) ∧ (True) ∧ (NIs (ilt i1_1 (0 : Int)) false → True) ∧ (NIs (ilt i1_1 (0 : Int)) false → True) ∧ (NIs (ilt i1_1 (0 : Int)) false → True) ∧ (True) ∧ True) ∧ ((bite (ilt i1_1 (0 : Int)) true (ilt (ssQ p1 p2 (getx l i1_0) (gety l i1_0) (getx l (irem (iadd i1_0 (1 : Int)) (ilen l))) (gety l (irem (iadd i1_0 (1 : Int)) (ilen l)))) i1_1)) = true → ((true = true) ∧ ((True) ∧ (True) ∧ True) ∧ (true = true) ∧ ((True) ∧ (True) ∧ (True) ∧ True) ∧ ((true = true) ∧ (((i1_2 : Int) = i1_2) ∧ (((ssQ p1 p2 (getx l i1_0) (gety l i1_0) (getx l (irem (iadd i1_0 (1 : Int)) (ilen l))) (gety l (irem (iadd i1_0 (1 : Int)) (ilen l)))) : Int) = (ssQ p1 p2 (getx l i1_0) (gety l i1_0) (getx l (irem (iadd i1_0 (1 : Int)) (ilen l))) (gety l (irem (iadd i1_0 (1 : Int)) (ilen l))))) ∧ (((iadd i1_0 (1 : Int)) : Int) = (iadd i1_0 (1 : Int))) ∧ ((Cont.pts l) = (Cont.pts l)) ∧ (((convB l) : Bool) = (convB l)) ∧ (((bnot (convB l)) : Bool) = (bnot (convB l))) ∧ (((bnot (convB l)) : Bool) = (bnot (convB l))) ∧ (((bite (bnot (convB l)) true (bnot (nearB p1 p2))) : Bool) = (bite (bnot (convB l)) true (bnot (nearB p1 p2)))) ∧ (true = true) ∧ ((Cont.pts l) = (Cont.pts l)) ∧ (((p1 : Int) = p1) ∧ ((p2 : Int) = p2) ∧ True) ∧ True) ∧ ((((p1 : Int) = p1) ∧ ((p2 : Int) = p2) ∧ True) ∧ True)) ∧ ((([GK.int, GK.int, GK.int] : List GK) = ([GK.int, GK.int, GK.int] : List GK)) ∧ I1 [GV.int (iadd i1_0 (1 : Int)), GV.int (ssQ p1 p2 (getx l i1_0) (gety l i1_0) (getx l (irem (iadd i1_0 (1 : Int)) (ilen l))) (gety l (irem (iadd i1_0 (1 : Int)) (ilen l)))), GV.int i1_2] ∧ μ1 [GV.int (iadd i1_0 (1 : Int)), GV.int (ssQ p1 p2 (getx l i1_0) (gety l i1_0) (getx l (irem (iadd i1_0 (1 : Int)) (ilen l))) (gety l (irem (iadd i1_0 (1 : Int)) (ilen l)))), GV.int i1_2] < μ1 [GV.int i1_0, GV.int i1_1, GV.int i1_2]))) ∧ ((bite (ilt i1_1 (0 : Int)) true (ilt (ssQ p1 p2 (getx l i1_0) (gety l i1_0) (getx l (irem (iadd i1_0 (1 : Int)) (ilen l))) (gety l (irem (iadd i1_0 (1 : Int)) (ilen l)))) i1_1)) = false → ((true = true) ∧ ((True) ∧ (True) ∧ (True) ∧ True) ∧ ((true = true) ∧ (((i1_2 : Int) = i1_2) ∧ ((i1_1 : Int) = i1_1) ∧ (((iadd i1_0 (1 : Int)) : Int) = (iadd i1_0 (1 : Int))) ∧ ((Cont.pts l) = (Cont.pts l)) ∧ (((convB l) : Bool) = (convB l)) ∧ (((bnot (convB l)) : Bool) = (bnot (convB l))) ∧ (((bnot (convB l)) : Bool) = (bnot (convB l))) ∧ (((bite (bnot (convB l)) true (bnot (nearB p1 p2))) : Bool) = (bite (bnot (convB l)) true (bnot (nearB p1 p2)))) ∧ (true = true) ∧ ((Cont.pts l) = (Cont.pts l)) ∧ (((p1 : Int) = p1) ∧ ((p2 : Int) = p2) ∧ True) ∧ True) ∧ ((((p1 : Int) = p1) ∧ ((p2 : Int) = p2) ∧ True) ∧ True)) ∧ ((([GK.int, GK.int, GK.int] : List GK) = ([GK.int, GK.int, GK.int] : List GK)) ∧ I1 [GV.int (iadd i1_0 (1 : Int)), GV.int i1_1, GV.int i1_2] ∧ μ1 [GV.int (iadd i1_0 (1 : Int)), GV.int i1_1, GV.int i1_2] < μ1 [GV.int i1_0, GV.int i1_1, GV.int i1_2]))))))) ∧ ((ilt i1_0 (ilen l)) = false → ((true = true) ∧ ((True) ∧ (True) ∧ ((True)) ∧ True) ∧ ((insB l p1 p2) = true → ((true = true) ∧ ((True) ∧ True) ∧ (((0 : Int) : Int) = (psq l p1 p2)) ∧ True)) ∧ ((insB l p1 p2) = false → ((true = true) ∧ ((True) ∧ (True) ∧ True) ∧ ((i1_1 : Int) = (psq l p1 p2)) ∧ True))))))))) = ev sig_spec_PolygonSquare xs_spec_PolygonSquare Try.f39.ntmps (fun b => if b == 0 then [.v 6, .v 5, .v 4] else []) (codeOf Try.f39) 0 (initS [.s (.view (.pts l)), .agg [.int p1, .int p2]]) (retK Try.f39.results.toList [.s (.int (psq l p1 p2))]) := by kernel_rfl
set_option maxHeartbeats 400000 in
theorem F_spec_PolygonSquare : FunOK 39 g_spec_PolygonSquare := by
  refine fun_F (by kernel_rfl) Try.func39 rfl (by kernel_rfl) sig_spec_PolygonSquare_ok xs_spec_PolygonSquare_ok ?_
  intro avs sg h hn hl
  unfold g_spec_PolygonSquare at h
  split at h
  · rename_i l p1 p2
    injection h with h; subst h
    refine ⟨by kernel_rfl, fun b => if b == 0 then [.v 6, .v 5, .v 4] else [], Eq.mp (V_spec_PolygonSquare l p1 p2) ?_⟩
    simp only [true_and, and_true, implies_true, and_self, forall_const, true_implies, lenA, lenL, SV.lenOK, Cont.lenOK] at hn hl ⊢
    have h0 := ilen_0 l
    simp only [ilt_t, ilt_f, ile_t, ile_f, ieq_t, ieq_f, bnot_e, band_e, bite_and, bite_or, NLt_e, NLe_e, NNe_e, NIs_e, imax_e, imin_e, irem_e, Bool.not_eq_true', Bool.not_eq_false', Bool.and_eq_true, Bool.or_eq_true, Bool.or_eq_false_iff, Bool.and_eq_false_iff, Cont.pts.injEq, Cont.ints.injEq, Cont.bools.injEq, Cont.ptss.injEq, Cont.intss.injEq, Cont.boolss.injEq, true_and, and_true, implies_true]
    refine ⟨fun h => ?_, fun h => ?_⟩
    · have : psqB l p1 p2 = false := by unfold psqB; rcases h with h | h <;> simp [h]
      unfold psq; rw [this]; rfl
    · obtain ⟨hc, hp⟩ := h
      obtain ⟨c1, c2, c3⟩ := convB_all hc
      refine ⟨fun | .int k :: .int s :: _ => 0 ≤ k ∧ k ≤ ilen l ∧ s = minF l p1 p2 k ∧ (∀ i, 0 ≤ i → i < k → nearB (getx l i) (gety l i) = true) | _ => False, fun | .int k :: _ => (ilen l - k).toNat | _ => 0, ?_, ?_⟩
      · exact ⟨Int.le_refl 0, h0, rfl, fun j h0 h1 => absurd h1 (by omega)⟩
      · rintro k s _ ⟨hk0, hk1, hs, hk⟩
        refine ⟨fun hkn => ?_, fun hkn => ?_⟩
        · have e1 := iadd_1 hk0 hkn hl
          obtain ⟨n0, n1, _⟩ := nx_in hk0 hkn
          have e2 : (k + 1).tmod (ilen l) = nx l k := rfl
          simp only [e1, e2]
          have hstep := minF_1 (l := l) (p1 := p1) (p2 := p2) hk0
          refine ⟨⟨⟨hk0, hkn⟩, by omega, ⟨n0, n1⟩⟩, fun hx => ?_, fun hx => ?_⟩
          · have hN : allN (ilen l) (fun i => nearB (getx l i) (gety l i)) = false := by
              cases a1 : nearB (getx l k) (gety l k) with
              | false => exact allN_no k hk0 hkn a1
              | true =>
                cases a2 : nearB (getx l (nx l k)) (gety l (nx l k)) with
                | false => exact allN_no _ n0 n1 a2
                | true =>
                  rw [ssQ_e hp a1 a2] at hx
                  have := ssqE_0 p1 p2 (getx l k) (gety l k) (getx l (nx l k)) (gety l (nx l k))
                  omega
            have : psqB l p1 p2 = false := by unfold psqB; rw [hN]; simp
            unfold psq; rw [this]; rfl
          · obtain ⟨_, a1, a2⟩ := ssQ_0 hx
            have hq : ssQ p1 p2 (getx l k) (gety l k) (getx l (nx l k)) (gety l (nx l k)) = psqE l p1 p2 k := ssQ_e hp a1 a2
            simp only [hq]
            refine ⟨fun hx => ?_, fun hx => ?_⟩
            · rw [← hs, if_pos hx] at hstep
              exact ⟨⟨by omega, by omega, hstep.symm, upTo hk a1⟩, by omega⟩
            · rw [← hs, if_neg (by omega)] at hstep
              exact ⟨⟨by omega, by omega, hstep.symm, upTo hk a1⟩, by omega⟩
        · have e : k = ilen l := by omega
          subst e
          have hB : psqB l p1 p2 = true := by unfold psqB; rw [hc, hp, allN_mk fun i i0 i1 => hk i i0 i1]; rfl
          refine ⟨fun hi => by unfold psq; rw [hB, hi]; rfl, fun hi => ?_⟩
          unfold psq
          rw [hB, hi, hs]; rfl
  · cases h
def degW (d : Int) : Int := irem (iadd (irem d 360) 360) 360
def g_impl_Degrees : List AV → Option Sg
  | [.s (.int d)] => some ⟨True, [.s (.int (degW d))]⟩
  | _ => none
def sig_impl_Degrees : FuncId → List AV → Option Sg := sigL []
def xs_impl_Degrees : XS := ⟨xsigL [], ysigL []⟩
theorem sig_impl_Degrees_ok : SigOK sig_impl_Degrees := sigL_nil
theorem xs_impl_Degrees_ok : XSigOK xs_impl_Degrees := ⟨xsigL_nil, ysigL_nil⟩
theorem V_impl_Degrees (d : Int) : ((true = true) ∧ ((True) ∧ True) ∧ (true = true) ∧ ((True) ∧ (NNe (360 : Int) 0) ∧ (True) ∧ (NNe (360 : Int) 0) ∧ (True) ∧ True) ∧ (((irem (iadd (irem d (360 : Int)) (360 : Int)) (360 : Int)) : Int) = (degW d)) ∧ True) = ev sig_impl_Degrees xs_impl_Degrees Try.f56.ntmps (fun b => []) (codeOf Try.f56) 0 (initS [.s (.int d)]) (retK Try.f56.results.toList [.s (.int (degW d))]) := by kernel_rfl
set_option maxHeartbeats 400000 in
theorem F_impl_Degrees : FunOK 56 g_impl_Degrees := by
  refine fun_F (by kernel_rfl) Try.func56 rfl (by kernel_rfl) sig_impl_Degrees_ok xs_impl_Degrees_ok ?_
  intro avs sg h hn hl
  unfold g_impl_Degrees at h
  split at h
  · rename_i d
    injection h with h; subst h
    refine ⟨by kernel_rfl, fun b => [], Eq.mp (V_impl_Degrees d) ?_⟩
    simp only [true_and, and_true, implies_true, and_self, forall_const, true_implies, lenA, lenL, SV.lenOK, Cont.lenOK] at hn hl ⊢
    simp only [ilt_t, ilt_f, ile_t, ile_f, ieq_t, ieq_f, bnot_e, band_e, bite_and, bite_or, NLt_e, NLe_e, NNe_e, NIs_e, imax_e, imin_e, irem_e, Bool.not_eq_true', Bool.not_eq_false', Bool.and_eq_true, Bool.or_eq_true, Bool.or_eq_false_iff, Bool.and_eq_false_iff, Cont.pts.injEq, Cont.ints.injEq, Cont.bools.injEq, Cont.ptss.injEq, Cont.intss.injEq, Cont.boolss.injEq, true_and, and_true, implies_true]
    exact ⟨by decide, by simp [degW, irem_e]⟩
  · cases h
def g_laws_alive : List AV → Option Sg
  | [] => some ⟨True, [.s (.bool (true))]⟩
  | _ => none
def sig_laws_alive : FuncId → List AV → Option Sg := sigL [(56, g_impl_Degrees)]
def xs_laws_alive : XS := ⟨xsigL [], ysigL []⟩
theorem sig_laws_alive_ok : SigOK sig_laws_alive := sigL_cons F_impl_Degrees sigL_nil
theorem xs_laws_alive_ok : XSigOK xs_laws_alive := ⟨xsigL_nil, ysigL_nil⟩
theorem V_laws_alive  : ((true = true) ∧ ((True) ∧ True) ∧ (true = true) ∧ (((True)) ∧ (True) ∧ (True) ∧ True) ∧ (((ieq (degW (-1 : Int)) (359 : Int)) : Bool) = (true)) ∧ True) = ev sig_laws_alive xs_laws_alive Try.f17.ntmps (fun b => []) (codeOf Try.f17) 0 (initS []) (retK Try.f17.results.toList [.s (.bool (true))]) := by kernel_rfl
set_option maxHeartbeats 400000 in
theorem F_laws_alive : FunOK 17 g_laws_alive := by
  refine fun_F (by kernel_rfl) Try.func17 rfl (by kernel_rfl) sig_laws_alive_ok xs_laws_alive_ok ?_
  intro avs sg h hn hl
  unfold g_laws_alive at h
  split at h
  ·
    injection h with h; subst h
    refine ⟨by kernel_rfl, fun b => [], Eq.mp (V_laws_alive ) ?_⟩
    simp only [true_and, and_true, implies_true, and_self, forall_const, true_implies, lenA, lenL, SV.lenOK, Cont.lenOK] at hn hl ⊢
    unfold ieq degW
    rw [irem_e, irem_e, iadd_e (by decide) (by decide)]
    decide
  · cases h
def rtN : Nat → Nat
  | 0 => 0
  | n + 1 => if n + 1 < (rtN n + 1) * (rtN n + 1) then rtN n else rtN n + 1
theorem rtN_spec : ∀ n : Nat, rtN n * rtN n ≤ n ∧ n < (rtN n + 1) * (rtN n + 1)
  | 0 => by simp [rtN]
  | n + 1 => by
    obtain ⟨h1, h2⟩ := rtN_spec n
    unfold rtN
    split
    · rename_i g
      exact ⟨by omega, g⟩
    · rename_i g
      refine ⟨by omega, ?_⟩
      have : (rtN n + 1 + 1) * (rtN n + 1 + 1) = (rtN n + 1) * (rtN n + 1) + 2 * rtN n + 3 := by grind
      omega
@[irreducible] def isq (n : Int) : Int := rtN n.toNat
theorem isq_spec {n : Int} (h0 : 0 ≤ n) : 0 ≤ isq n ∧ isq n * isq n ≤ n ∧ n < (isq n + 1) * (isq n + 1) := by
  obtain ⟨k, rfl⟩ := Int.eq_ofNat_of_zero_le h0
  obtain ⟨h1, h2⟩ := rtN_spec k
  have e : isq (k : Int) = (rtN k : Int) := by unfold isq; simp
  rw [e]
  exact ⟨Int.natCast_nonneg _, by exact_mod_cast h1, by exact_mod_cast h2⟩
theorem isq_eq {n t : Int} (h0 : 0 ≤ t) (h1 : t * t ≤ n) (h2 : n < (t + 1) * (t + 1)) : t = isq n := by
  have hn : 0 ≤ n := Int.le_trans (Int.mul_nonneg h0 h0) h1
  obtain ⟨c0, c1, c2⟩ := isq_spec hn
  generalize isq n = u at c0 c1 c2
  rcases Int.lt_trichotomy t u with g | g | g
  · exfalso
    have := Int.mul_le_mul (a := t + 1) (b := t + 1) (c := u) (d := u) (by omega) (by omega) (by omega) (by omega)
    omega
  · exact g
  · exfalso
    have := Int.mul_le_mul (a := u + 1) (b := u + 1) (c := t) (d := t) (by omega) (by omega) (by omega) (by omega)
    omega
def g_impl_SquareRoot : List AV → Option Sg
  | [.s (.int n)] => some ⟨0 ≤ n ∧ n ≤ 1000000000000, [.s (.int (isq n))]⟩
  | _ => none
namespace RootBd
open Ieee
theorem lt_two (n : Nat) : n < 2 ^ (n.log2 + 1) := Nat.lt_log2_self
theorem shl (a b : Nat) : a <<< b = a * 2 ^ b := Nat.shiftLeft_eq a b
/-- What is kept of a number cut. -/
theorem cut_lt (way : Toward) (neg : Bool) (n drop k : Nat) (h : n < 2 ^ (k + drop)) : n / (1 <<< min drop (n.log2 + 2)) < 2 ^ k ∧ way.cut neg n drop ≤ n / (1 <<< min drop (n.log2 + 2)) + 1 := by
  constructor
  · rw [shl, Nat.one_mul]
    refine (Nat.div_lt_iff_lt_mul (Nat.two_pow_pos _)).2 ?_
    rcases Nat.le_total drop (n.log2 + 2) with h1 | h1
    · rw [Nat.min_eq_left h1, ← Nat.pow_add]; exact h
    · rw [Nat.min_eq_right h1]
      refine Nat.lt_of_lt_of_le (lt_two n) ?_
      rw [← Nat.pow_add]
      exact Nat.pow_le_pow_right (by omega) (by omega)
  · unfold Toward.cut
    exact Nat.add_le_add (Nat.le_refl _) (Bool.toNat_le _)
theorem cut_zero (neg : Bool) (n drop : Nat) : Toward.zero.cut neg n drop = n / (1 <<< min drop (n.log2 + 2)) := by
  unfold Toward.cut; simp
theorem binade_d : double.binade = 2 ^ 52 := rfl
theorem least_d : double.leastPlace = -1074 := by decide
theorem near_le (mag : Nat) (place : Int) (e : Nat) (h : place + mag.log2 ≤ e) : double.nearest false mag place ≤ (e + 1024) * 2 ^ 52 := by
  unfold Format.nearest
  split
  · exact Nat.zero_le _
  · have hfb : double.fractionBits = 52 := rfl
    simp only [binade_d, least_d, hfb, Format.word, Bool.false_eq_true, if_false]
    refine Nat.le_trans (Nat.min_le_left ..) ?_
    generalize hl : max (place + (mag.log2 : Int) - ((52 : Nat) : Int)) (-1074) = last
    have hb : mag <<< (place - last).toNat < 2 ^ (53 + (last - place).toNat) := by
      rw [shl]
      refine Nat.lt_of_lt_of_le (Nat.mul_lt_mul_of_pos_right (lt_two mag) (Nat.two_pow_pos _)) ?_
      rw [← Nat.pow_add]
      exact Nat.pow_le_pow_right (by omega) (by omega)
    obtain ⟨c1, c2⟩ := cut_lt .even false (mag <<< (place - last).toNat) (last - place).toNat 53 hb
    generalize Toward.even.cut false (mag <<< (place - last).toNat) (last - place).toNat = C at c2 ⊢
    have c3 : C ≤ 2 ^ 53 := Nat.le_trans c2 c1
    have h2 : (last - -1074).toNat ≤ e + 1022 := by omega
    have h3 : (last - -1074).toNat * 2 ^ 52 ≤ (e + 1022) * 2 ^ 52 := Nat.mul_le_mul_right _ h2
    refine Nat.le_trans (Nat.add_le_add h3 c3) ?_
    rw [show (2 : Nat) ^ 53 = 2 * 2 ^ 52 from rfl, ← Nat.add_mul]
    exact Nat.le_refl _
theorem read_le (r e : Nat) (he : e ≤ 1000) (h : r ≤ (e + 1024) * 2 ^ 52) : ∃ m p, double.read r = .number false m p ∧ m < 2 ^ 53 ∧ p ≤ (e : Int) - 51 := by
  have hs : double.signWeight = 2 ^ 63 := rfl
  have hi : double.infRung = 2047 * 2 ^ 52 := rfl
  unfold Format.read
  simp only [hs, hi, binade_d, least_d]
  have h0 : r < 2 ^ 63 := by omega
  rw [Nat.div_eq_of_lt h0, Nat.mod_eq_of_lt h0]
  split
  · exact ⟨r, _, rfl, by omega, by omega⟩
  · rw [if_pos (by omega)]
    refine ⟨_, _, rfl, by omega, ?_⟩
    have : r / 2 ^ 52 ≤ e + 1024 := by omega
    omega
theorem root_sq (n : Nat) : ∀ (todo root : Nat), root * root ≤ n → Datum.rootFrom n todo root * Datum.rootFrom n todo root ≤ n
  | 0, root, h => h
  | todo + 1, root, h => by
    unfold Datum.rootFrom
    refine root_sq n todo _ ?_
    split
    · assumption
    · exact h
theorem root_le (m : Nat) (p e : Int) (hm : m < 2 ^ 53) (h : p + m.log2 ≤ 2 * e) : ∃ m2 p2, (Datum.number false m p).root 54 = some (.number false m2 p2) ∧ (m2 = 0 ∨ p2 + m2.log2 ≤ e) := by
  unfold Datum.root
  by_cases h0 : m = 0
  · subst h0; exact ⟨0, p, by simp, .inl rfl⟩
  · simp only [if_neg h0, Bool.false_eq_true, if_false]
    refine ⟨_, _, rfl, .inr ?_⟩
    generalize hq : 2 * 54 - m.log2 + ((p - ((2 * 54 - m.log2 : Nat) : Int)) % 2).toNat = more
    generalize hN : m <<< more = N
    have hw := root_sq N (N.log2 / 2 + 1) 0 (Nat.zero_le _)
    generalize Datum.rootFrom N (N.log2 / 2 + 1) 0 = W at hw
    have hNb : N < 2 ^ (m.log2 + 1 + more) := by
      rw [← hN, shl, Nat.pow_add]
      exact Nat.mul_lt_mul_of_pos_right (lt_two m) (Nat.two_pow_pos _)
    have hWb : W < 2 ^ ((m.log2 + more) / 2 + 1) := by
      rcases Nat.lt_or_ge W (2 ^ ((m.log2 + more) / 2 + 1)) with h1 | h1
      · exact h1
      · exfalso
        have h2 := Nat.mul_le_mul h1 h1
        rw [← Nat.pow_add] at h2
        have h3 : 2 ^ (m.log2 + 1 + more) ≤ 2 ^ ((m.log2 + more) / 2 + 1 + ((m.log2 + more) / 2 + 1)) := Nat.pow_le_pow_right (by omega) (by omega)
        omega
    have hb : ∀ b : Bool, (2 * W + b.toNat).log2 ≤ (m.log2 + more) / 2 + 1 := by
      intro b
      by_cases hz : 2 * W + b.toNat = 0
      · rw [hz]; exact Nat.zero_le _
      · have : 2 * W + b.toNat < 2 ^ ((m.log2 + more) / 2 + 1 + 1) := by
          rw [Nat.pow_succ]
          cases b <;> simp <;> omega
        have := (Nat.log2_lt hz).2 this
        omega
    have := hb (W * W != N)
    omega
theorem root_int (n : Int) (h0 : 0 ≤ n) (h1 : n ≤ 1000000000000) : ∃ r t, Go.FloatKind.f64.format.sqrt (Go.FloatKind.f64.nearest n) = some r ∧ Go.floatToIntVal .f64 r .i64 = some t ∧ 0 ≤ t ∧ t ≤ 16777216 := by
  have hf : Go.FloatKind.f64.format = double := rfl
  obtain ⟨k, rfl⟩ := Int.eq_ofNat_of_zero_le h0
  have hw : Go.FloatKind.f64.nearest (k : Int) = double.nearest false k 0 := by
    unfold Go.FloatKind.nearest Go.FloatKind.encode
    rw [hf]
    have : decide ((k : Int) < 0) = false := by simp
    simp only [this, Int.natAbs_natCast]
    rfl
  have hk : k.log2 ≤ 39 := by
    by_cases hz : k = 0
    · subst hz; decide
    · have := (Nat.log2_lt (k := 40) hz).2 (by omega)
      omega
  have a1 := near_le k 0 39 (by omega)
  obtain ⟨m, p, e1, e2, e3⟩ := read_le _ 39 (by omega) a1
  have hm : m.log2 ≤ 52 := by
    by_cases hz : m = 0
    · subst hz; decide
    · have := (Nat.log2_lt (k := 53) hz).2 e2
      omega
  obtain ⟨m2, p2, q1, q2⟩ := root_le m p 20 e2 (by omega)
  have a2 : double.nearest false m2 p2 ≤ (20 + 1024) * 2 ^ 52 := by
    rcases q2 with q2 | q2
    · subst q2; unfold Format.nearest; simp [Format.word]
    · exact near_le m2 p2 20 (by omega)
  obtain ⟨m3, p3, f1, f2, f3⟩ := read_le _ 20 (by omega) a2
  have f4 : p3.toNat = 0 := by omega
  have hlt := (cut_lt .zero false m3 (-p3).toNat 24 (Nat.lt_of_lt_of_le f2 (Nat.pow_le_pow_right (by omega) (by omega)))).1
  have hcz := cut_zero false m3 (-p3).toNat
  generalize m3 / (1 <<< min (-p3).toNat (m3.log2 + 2)) = T at hlt hcz
  refine ⟨double.nearest false m2 p2, (T : Int), ?_, ?_, by omega, by omega⟩
  · rw [hf, hw]
    unfold Format.sqrt
    rw [e1, show double.fractionBits + 2 = 54 from rfl, q1]
    rfl
  · have hti : (Go.FloatKind.f64.decode (double.nearest false m2 p2)).toInt .zero = some (T : Int) := by
      unfold Go.FloatKind.decode
      rw [hf, f1]
      unfold Datum.toInt Datum.integral
      simp only [f4, Nat.shiftLeft_zero, hcz, signed, Bool.false_eq_true, if_false]
    unfold Go.floatToIntVal
    rw [hti]
    have hmin : Go.IntKind.i64.min = -9223372036854775808 := by decide
    have hmax : Go.IntKind.i64.max = 9223372036854775807 := by decide
    simp only [hmin, hmax]
    rw [if_pos (by omega)]
end RootBd
theorem x_sq_find : Extern.find Try.f97 = some Extern.MathSqrt.sqrt := by kernel_rfl
theorem x_sq_findN : Extern.findNext Try.f97 = none := by kernel_rfl
theorem x_sq_n : ¬ Try.f97.name = "runtime.NumGoroutine" := by
  have h : (Try.f97.name == "runtime.NumGoroutine") = false := by kernel_rfl
  simpa using h
theorem x_sq_b : Try.f97.body = none := by kernel_rfl
theorem x_sq_run (w : World) {b r : Nat} (h : FloatKind.f64.format.sqrt b = some r) : (callFunc 97 #[.float .f64 b]).run Try.prog w = .ok (.value (.float .f64 r)) w := by
  have hs : Extern.MathSqrt.sqrt #[.float .f64 b] = pure (.float .f64 r) := by
    show (match FloatKind.f64.format.sqrt b with
      | some r => pure (.float .f64 r)
      | none => do pure (.float .f64 (← choose (.nanBits .f64 b b)))) = (pure (.float .f64 r) : Sem Value)
    rw [h]
  unfold callFunc
  simp [go_sem, x_sq_n, x_sq_b, x_sq_findN, x_sq_find, hs]
theorem x_Sqrt {w : World} {b r : Nat} (h : FloatKind.f64.format.sqrt b = some r) : Calls Try.prog 76 #[.float .f64 b] w fun e w' => e = .returned (.float .f64 r) ∧ Bel w w' := by
  go_enter Try.func76, Try.ntmps76
  go_wp2_with (rw [x_sq_run w h])
  go_ret
  exact ⟨rfl, Bel.refl _⟩
theorem x_sr {w : World} {n : Int} (h0 : 0 ≤ n) (h1 : n ≤ 1000000000000) : Calls Try.prog 44 #[.int .i64 n] w fun e w' => (∃ t : Int, e = .returned (.int .i64 t) ∧ 0 ≤ t ∧ t * t ≤ n ∧ n < (t + 1) * (t + 1)) ∧ Bel w w' := by
  obtain ⟨r, t0, q1, q2, q3, q4⟩ := RootBd.root_int n h0 h1
  have HS := Lib.hid (fun w : World => x_Sqrt (w := w) q1)
  have HI : ∀ w, (convert 63 3 (.float .f64 r)).run Try.prog w = .ok (.int .i64 t0) w := fun w => run_convert_float_int w 63 3 .f64 .i64 r t0 (by kernel_rfl) (by kernel_rfl) q2
  clear q1 q2
  go_enter Try.func44, Try.ntmps44
  go_wp2_with (first | rw [HI] | (go_at_call 76; refine (HS.out _).mono ?_; rintro e w1 ⟨rfl, hb1⟩))
  go_loopw [3] (fun i wr => ∃ t : Int, i = .int .i64 t ∧ 0 ≤ t ∧ t ≤ 16777216 ∧ Bel w wr) (fun i _ => (intOf i).toNat)
  case atStart => exact ⟨t0, rfl, q3, q4, hb1⟩
  case round =>
    obtain ⟨t, rfl, t1, t2, hb⟩ := hrel
    have hm1 : 0 ≤ t * t := Int.mul_nonneg t1 t1
    have hm2 : t * t ≤ 281474976710656 := Int.le_trans (Int.mul_le_mul t2 t2 t1 (by omega)) (by omega)
    clear HS HI hb1 q3 q4
    go_wp2
    · have h : n < t * t := by assumption
      have ht : 1 ≤ t := by
        rcases Int.lt_or_le 0 t with g | g
        · omega
        · exfalso
          obtain rfl : t = 0 := by omega
          simp at h; omega
      exact ⟨⟨t - 1, rfl, by omega, by omega, by assumption⟩, by simp [intOf]; omega⟩
    · have h : t * t ≤ n := by assumption
      clear hm1 hm2
      go_loopw [3] (fun i wr => ∃ t : Int, i = .int .i64 t ∧ 0 ≤ t ∧ t ≤ 16777216 ∧ t * t ≤ n ∧ Bel w wr) (fun i _ => (16777216 - intOf i).toNat)
      case atStart => exact ⟨t, rfl, t1, t2, h, by assumption⟩
      case round =>
        clear h t1 t2 hb
        obtain ⟨u, rfl, t1, t2, h, hb⟩ := hrel
        have hm1 : 0 ≤ (u + 1) * (u + 1) := Int.mul_nonneg (by omega) (by omega)
        have hm2 : (u + 1) * (u + 1) ≤ 16777217 * 16777217 := Int.mul_le_mul (by omega) (by omega) (by omega) (by omega)
        have hm3 : (16777217 : Int) * 16777217 = 281475010265089 := by decide
        rw [hm3] at hm2
        go_wp2
        · have h' : (u + 1) * (u + 1) ≤ n := by assumption
          have hu : u + 1 ≤ 1000000 := by
            rcases Int.lt_or_le 1000000 (u + 1) with g | g
            · exfalso
              have := Int.mul_le_mul (a := 1000001) (b := 1000001) (c := u + 1) (d := u + 1) (by omega) (by omega) (by omega) (by omega)
              omega
            · exact g
          exact ⟨⟨u + 1, rfl, by omega, by omega, h', by assumption⟩, by simp [intOf]; omega⟩
        · have h' : n < (u + 1) * (u + 1) := by assumption
          go_ret
          exact ⟨⟨u, rfl, t1, h, h'⟩, by assumption⟩
theorem F_impl_SquareRoot : FunOK 44 g_impl_SquareRoot := by
  intro avs sg hg hn L0 args w hL hA
  refine ⟨callFunc_enter Try.func44 (by kernel_rfl) (by kernel_rfl) _ w, ?_⟩
  unfold g_impl_SquareRoot at hg
  split at hg
  · rename_i n
    injection hg with hg; subst hg
    have hn' : 0 ≤ n ∧ n ≤ 1000000000000 := hn
    obtain ⟨al⟩ := args
    match al, hA with
    | [v], hA =>
      obtain ⟨h1, _⟩ := hA
      obtain rfl : v = .int .i64 n := h1
      refine (x_sr hn'.1 hn'.2).mono ?_
      rintro e w' ⟨⟨t, rfl, t0, t1, t2⟩, hb⟩
      obtain rfl := isq_eq t0 t1 t2
      exact ⟨_, rfl, rfl, hb⟩
  · cases hg
def kcE (l : List (List Pt)) (p1 p2 d i : Int) : Bool := decide (0 ≤ psq (getl l i) p1 p2 ∧ d * d ≤ psq (getl l i) p1 p2)
def kcB (l : List (List Pt)) (p1 p2 d : Int) : Bool := inB d 0 1000 && ile (ilen l) 8 && allN (ilen l) (kcE l p1 p2 d)
theorem dd_w {d : Int} (h : 0 ≤ d ∧ d ≤ 1000) : imul d d = d * d := mul4 (by omega) (by omega)
def g_impl_KeepsClear : List AV → Option Sg
  | [.s (.view (.ptss l)), .agg [.int p1, .int p2], .s (.int d)] => some ⟨True, [.s (.bool (kcB l p1 p2 d))]⟩
  | _ => none
def sig_impl_KeepsClear : FuncId → List AV → Option Sg := sigL [(51, g_impl_within), (38, g_impl_PolygonSquare)]
def xs_impl_KeepsClear : XS := ⟨xsigL [], ysigL []⟩
theorem sig_impl_KeepsClear_ok : SigOK sig_impl_KeepsClear := sigL_cons F_impl_within (sigL_cons F_impl_PolygonSquare sigL_nil)
theorem xs_impl_KeepsClear_ok : XSigOK xs_impl_KeepsClear := ⟨xsigL_nil, ysigL_nil⟩
theorem V_impl_KeepsClear (l : List (List Pt)) (p1 : Int) (p2 : Int) (d : Int) : ((true = true) ∧ ((True) ∧ (True) ∧ True) ∧ (true = true) ∧ ((True) ∧ ((True)) ∧ (True) ∧ (True) ∧ (NIs (bnot (inB d (0 : Int) (1000 : Int))) false → True) ∧ (NIs (bnot (inB d (0 : Int) (1000 : Int))) false → True) ∧ (NIs (bnot (inB d (0 : Int) (1000 : Int))) false → True) ∧ (True) ∧ True) ∧ ((bite (bnot (inB d (0 : Int) (1000 : Int))) true (ilt (8 : Int) (ilen l))) = true → ((true = true) ∧ ((True) ∧ True) ∧ ((false : Bool) = (kcB l p1 p2 d)) ∧ True)) ∧ ((bite (bnot (inB d (0 : Int) (1000 : Int))) true (ilt (8 : Int) (ilen l))) = false → ((true = true) ∧ ((True) ∧ (True) ∧ (True) ∧ True) ∧ ∃ (I1 : List GV → Prop) (μ1 : List GV → Nat), (((true = true) ∧ (((false : Bool) = false) ∧ (((0 : Int) : Int) = (0 : Int)) ∧ ((Cont.ptss l) = (Cont.ptss l)) ∧ (((ilen l) : Int) = (ilen l)) ∧ ((d : Int) = d) ∧ (((inB d (0 : Int) (1000 : Int)) : Bool) = (inB d (0 : Int) (1000 : Int))) ∧ (((bnot (inB d (0 : Int) (1000 : Int))) : Bool) = (bnot (inB d (0 : Int) (1000 : Int)))) ∧ (((bnot (inB d (0 : Int) (1000 : Int))) : Bool) = (bnot (inB d (0 : Int) (1000 : Int)))) ∧ (((bite (bnot (inB d (0 : Int) (1000 : Int))) true (ilt (8 : Int) (ilen l))) : Bool) = (bite (bnot (inB d (0 : Int) (1000 : Int))) true (ilt (8 : Int) (ilen l)))) ∧ (true = true) ∧ ((Cont.ptss l) = (Cont.ptss l)) ∧ (((p1 : Int) = p1) ∧ ((p2 : Int) = p2) ∧ True) ∧ ((d : Int) = d) ∧ True) ∧ ((((p1 : Int) = p1) ∧ ((p2 : Int) = p2) ∧ True) ∧ True)) ∧ (([GK.int, GK.bool] : List GK) = ([GK.int, GK.bool] : List GK)) ∧ I1 [GV.int (0 : Int), GV.bool false]) ∧ (∀ i1_0 : Int, ∀ b1_1 : Bool, I1 [GV.int i1_0, GV.bool b1_1] → ((true = true) ∧ ((True) ∧ True) ∧ ((ilt i1_0 (ilen l)) = true → ((true = true) ∧ ((NLe 0 i1_0 ∧ NLt i1_0 (ilen l)) ∧ (True) ∧ (True) ∧ True) ∧ (true = true) ∧ ((True) ∧ (True) ∧ ((True)) ∧ (True) ∧ True) ∧ (true = true) ∧ ((True) ∧ (True) ∧ (True) ∧ (NIs (ilt (psq (getl l i1_0) p1 p2) (0 : Int)) false → True) ∧ (NIs (ilt (psq (getl l i1_0) p1 p2) (0 : Int)) false → True) ∧ (NIs (ilt (psq (getl l i1_0) p1 p2) (0 : Int)) false → True) ∧ (NIs (ilt (psq (getl l i1_0) p1 p2) (0 : Int)) false → True) ∧ (NIs (ilt (psq (getl l i1_0) p1 p2) (0 : Int)) false → True) ∧ (True) ∧ True) ∧ ((bite (ilt (psq (getl l i1_0) p1 p2) (0 : Int)) true (ilt (psq (getl l i1_0) p1 p2) (imul d d))) = true → ((true = true) ∧ ((True) ∧ True) ∧ ((false : Bool) = (kcB l p1 p2 d)) ∧ True)) ∧ ((bite (ilt (psq (getl l i1_0) p1 p2) (0 : Int)) true (ilt (psq (getl l i1_0) p1 p2) (imul d d))) = false → ((true = true) ∧ ((True) ∧ (True) ∧ True) ∧ ((true = true) ∧ (((b1_1 : Bool) = b1_1) ∧ (((iadd i1_0 (1 : Int)) : Int) = (iadd i1_0 (1 : Int))) ∧ ((Cont.ptss l) = (Cont.ptss l)) ∧ (((ilen l) : Int) = (ilen l)) ∧ ((d : Int) = d) ∧ (((inB d (0 : Int) (1000 : Int)) : Bool) = (inB d (0 : Int) (1000 : Int))) ∧ (((bnot (inB d (0 : Int) (1000 : Int))) : Bool) = (bnot (inB d (0 : Int) (1000 : Int)))) ∧ (((bnot (inB d (0 : Int) (1000 : Int))) : Bool) = (bnot (inB d (0 : Int) (1000 : Int)))) ∧ (((bite (bnot (inB d (0 : Int) (1000 : Int))) true (ilt (8 : Int) (ilen l))) : Bool) = (bite (bnot (inB d (0 : Int) (1000 : Int))) true (ilt (8 : Int) (ilen l)))) ∧ (true = true) ∧ ((Cont.ptss l) = (Cont.ptss l)) ∧ (((p1 : Int) = p1) ∧ ((p2 : Int) = p2) ∧ True) ∧ ((d : Int) = d) ∧ True) ∧ ((((p1 : Int) = p1) ∧ ((p2 : Int) = p2) ∧ True) ∧ True)) ∧ ((([GK.int, GK.bool] : List GK) = ([GK.int, GK.bool] : List GK)) ∧ I1 [GV.int (iadd i1_0 (1 : Int)), GV.bool b1_1] ∧ μ1 [GV.int (iadd i1_0 (1 : Int)), GV.bool b1_1] < μ1 [GV.int i1_0, GV.bool b1_1]))))) ∧ ((ilt i1_0 (ilen l)) = false → ((true = true) ∧ ((True) ∧ True) ∧ ((true : Bool) = (kcB l p1 p2 d)) ∧ True))))))) = ev sig_impl_KeepsClear xs_impl_KeepsClear Try.f42.ntmps (fun b => if b == 0 then [.v 20, .v 6] else []) (codeOf Try.f42) 0 (initS [.s (.view (.ptss l)), .agg [.int p1, .int p2], .s (.int d)]) (retK Try.f42.results.toList [.s (.bool (kcB l p1 p2 d))]) := by kernel_rfl
set_option maxHeartbeats 400000 in
theorem F_impl_KeepsClear : FunOK 42 g_impl_KeepsClear := by
  refine fun_F (by kernel_rfl) Try.func42 rfl (by kernel_rfl) sig_impl_KeepsClear_ok xs_impl_KeepsClear_ok ?_
  intro avs sg h hn hl
  unfold g_impl_KeepsClear at h
  split at h
  · rename_i l p1 p2 d
    injection h with h; subst h
    refine ⟨by kernel_rfl, fun b => if b == 0 then [.v 20, .v 6] else [], Eq.mp (V_impl_KeepsClear l p1 p2 d) ?_⟩
    simp only [true_and, and_true, implies_true, and_self, forall_const, true_implies, lenA, lenL, SV.lenOK, Cont.lenOK] at hn hl ⊢
    have h0 := ilen_0 l
    simp only [ilt_t, ilt_f, ile_t, ile_f, ieq_t, ieq_f, bnot_e, band_e, bite_and, bite_or, NLt_e, NLe_e, NNe_e, NIs_e, imax_e, imin_e, irem_e, Bool.not_eq_true', Bool.not_eq_false', Bool.and_eq_true, Bool.or_eq_true, Bool.or_eq_false_iff, Bool.and_eq_false_iff, Cont.pts.injEq, Cont.ints.injEq, Cont.bools.injEq, Cont.ptss.injEq, Cont.intss.injEq, Cont.boolss.injEq, true_and, and_true, implies_true]
    refine ⟨fun h => ?_, fun h => ?_⟩
    · unfold kcB ile
      rcases h with h | h <;> simp [h] <;> omega
    · obtain ⟨hc, hp⟩ := h
      have hd := inB_true hc
      simp only [dd_w hd]
      refine ⟨fun | .int k :: _ => 0 ≤ k ∧ k ≤ ilen l ∧ (∀ i, 0 ≤ i → i < k → kcE l p1 p2 d i = true) | _ => False, fun | .int k :: _ => (ilen l - k).toNat | _ => 0, ?_, ?_⟩
      · exact ⟨Int.le_refl 0, h0, fun j h0 h1 => absurd h1 (by omega)⟩
      · rintro k _ ⟨hk0, hk1, hk⟩
        simp only [ilt_t, ilt_f, ile_t, ile_f, ieq_t, ieq_f, bnot_e, band_e, bite_and, bite_or, NLt_e, NLe_e, NNe_e, NIs_e, imax_e, imin_e, irem_e, Bool.not_eq_true', Bool.not_eq_false', Bool.and_eq_true, Bool.or_eq_true, Bool.or_eq_false_iff, Bool.and_eq_false_iff, Cont.pts.injEq, Cont.ints.injEq, Cont.bools.injEq, Cont.ptss.injEq, Cont.intss.injEq, Cont.boolss.injEq, true_and, and_true, implies_true]
        refine ⟨fun hkn => ?_, fun hkn => ?_⟩
        · refine ⟨⟨hk0, hkn⟩, fun hx => ?_, fun hx => ?_⟩
          · have hE : kcE l p1 p2 d k = false := by unfold kcE; simp only [decide_eq_false_iff_not]; omega
            unfold kcB
            rw [allN_no k hk0 hkn hE]; simp
          · have hE : kcE l p1 p2 d k = true := by unfold kcE; simp only [decide_eq_true_eq]; omega
            rw [iadd_1 hk0 hkn hl.1]
            exact ⟨⟨by omega, by omega, upTo hk hE⟩, by omega⟩
        · unfold kcB
          rw [hc, allN_mk fun i i0 i1 => hk i i0 (by omega)]
          simp [ile]; omega
  · cases h
theorem bxor_self (a : Bool) : bxor a a = false := by cases a <;> simp [bxor]
theorem sq_le4 {x : Int} (h1 : -2000 ≤ x) (h2 : x ≤ 2000) : x * x ≤ 4000000 := by
  have h := Int.mul_nonneg (a := 2000 - x) (b := 2000 + x) (by omega) (by omega)
  have : (2000 - x) * (2000 + x) = 4000000 - x * x := by grind
  omega
theorem sqE_le {p1 p2 a1 a2 : Int} (hp : nearB p1 p2 = true) (ha : nearB a1 a2 = true) : sqE p1 p2 a1 a2 ≤ 8000000 := by
  have b1 := near_bd hp; have b2 := near_bd ha
  unfold sqE
  have c1 := sq_le4 (x := a1 - p1) (by omega) (by omega)
  have c2 := sq_le4 (x := a2 - p2) (by omega) (by omega)
  have c3 := sq_le4 (x := p1 - a1) (by omega) (by omega)
  have c4 := sq_le4 (x := p2 - a2) (by omega) (by omega)
  omega
theorem ssqE_le {p1 p2 a1 a2 b1 b2 : Int} (hp : nearB p1 p2 = true) (ha : nearB a1 a2 = true) (hb : nearB b1 b2 = true) : ssqE p1 p2 a1 a2 b1 b2 ≤ 8000000 := by
  unfold ssqE
  split
  · exact sqE_le hp ha
  · split
    · exact sqE_le hp hb
    · rename_i h1 h2
      have hid : crs (a1, a2) (b1, b2) (p1, p2) * crs (a1, a2) (b1, b2) (p1, p2) + alE p1 p2 a1 a2 b1 b2 * alE p1 p2 a1 a2 b1 b2 = sqE p1 p2 a1 a2 * sqE a1 a2 b1 b2 := by
        unfold crs alE sqE; simp only []; grind
      have h3 : 0 < sqE a1 a2 b1 b2 := by omega
      have h4 : 0 ≤ alE p1 p2 a1 a2 b1 b2 * alE p1 p2 a1 a2 b1 b2 := Int.mul_nonneg (by omega) (by omega)
      have h5 : 0 ≤ crs (a1, a2) (b1, b2) (p1, p2) * crs (a1, a2) (b1, b2) (p1, p2) := by
        rcases Int.le_total 0 (crs (a1, a2) (b1, b2) (p1, p2)) with g | g
        · exact Int.mul_nonneg g g
        · exact Int.mul_nonneg_of_nonpos_of_nonpos g g
      rw [Int.tdiv_eq_ediv_of_nonneg h5]
      refine Int.le_trans (Int.ediv_le_of_le_mul h3 ?_) (sqE_le hp ha)
      omega
theorem psq_le {l : List Pt} {p1 p2 : Int} : psq l p1 p2 ≤ 8000000 := by
  unfold psq
  split
  · split
    · omega
    · rename_i hb _
      unfold psqB at hb
      simp only [Bool.and_eq_true] at hb
      have key : ∀ k : Nat, (k : Int) ≤ ilen l → minF l p1 p2 k ≤ 8000000 := by
        intro k
        induction k with
        | zero => intro _; unfold minF foldN; simp
        | succ k ih =>
          intro hk
          rw [show ((k + 1 : Nat) : Int) = (k : Int) + 1 by omega, minF_1 (by omega)]
          split
          · have n1 := allN_iff.1 hb.2 k (by omega) (by omega)
            obtain ⟨x0, x1, _⟩ := nx_in (l := l) (i := k) (by omega) (by omega)
            exact ssqE_le hb.1.2 n1 (allN_iff.1 hb.2 _ x0 x1)
          · exact ih (by omega)
      have h0 : 0 ≤ ilen l := by unfold ilen; omega
      have := key (ilen l).toNat (by omega)
      rw [show (((ilen l).toNat : Nat) : Int) = ilen l by omega] at this
      exact this
  · omega
theorem kc_one {l : List Pt} {x y d : Int} : kcB [l] x y d = (inB d 0 1000 && decide (0 ≤ psq l x y ∧ d * d ≤ psq l x y)) := by
  have h1 : ilen [l] = 1 := by simp [ilen]
  have h2 : getl [l] 0 = l := by unfold getl; rfl
  have h3 : ile 1 8 = true := by unfold ile; decide
  unfold kcB
  rw [h1, h3, Bool.and_true]
  congr 1
  rw [Bool.eq_iff_iff, allN_iff]
  constructor
  · intro h
    have := h 0 (by omega) (by omega)
    unfold kcE at this
    rw [h2] at this; exact this
  · intro h i i0 i1
    obtain rfl : i = 0 := by omega
    unfold kcE
    rw [h2]; exact h
def g_laws_FnClearDistance : List AV → Option Sg
  | [.s (.rdr n)] => some ⟨True, [.s (.bool (true))]⟩
  | _ => none
def sig_laws_FnClearDistance : FuncId → List AV → Option Sg := sigL [(38, g_impl_PolygonSquare), (39, g_spec_PolygonSquare), (17, g_laws_alive), (44, g_impl_SquareRoot), (42, nilG (.ptss []) g_impl_KeepsClear)]
def xs_laws_FnClearDistance : XS := ⟨xsigL [], ysigL [(37, g_spec_DrawPolygonSquare)]⟩
theorem sig_laws_FnClearDistance_ok : SigOK sig_laws_FnClearDistance := sigL_cons F_impl_PolygonSquare (sigL_cons F_spec_PolygonSquare (sigL_cons F_laws_alive (sigL_cons F_impl_SquareRoot (sigL_cons (FunOK.nil (c := .ptss []) rfl F_impl_KeepsClear) sigL_nil))))
theorem xs_laws_FnClearDistance_ok : XSigOK xs_laws_FnClearDistance := ⟨xsigL_nil, ysigL_cons F_spec_DrawPolygonSquare ysigL_nil⟩
theorem V_laws_FnClearDistance (n : Int) : ((true = true) ∧ ((True) ∧ True) ∧ (true = true) ∧ ((True) ∧ (True) ∧ (True) ∧ True) ∧ ((ilt (1048576 : Int) n) = true → ((true = true) ∧ ((True) ∧ True) ∧ ((true : Bool) = (true)) ∧ True)) ∧ ((ilt (1048576 : Int) n) = false → ((true = true) ∧ ((True) ∧ True) ∧ (true = true) ∧ ((n ≤ 1048576)) ∧ (∀ l_99 : List Pt, ∀ x_100 : Int, ∀ y_101 : Int, ((ilen l_99 ≤ 40 ∧ -30000 ≤ x_100 ∧ x_100 ≤ 30000 ∧ -30000 ≤ y_101 ∧ y_101 ≤ 30000) → ((true = true) ∧ ((true = true) ∧ ((true = true) ∧ ((True) ∧ (True) ∧ (True) ∧ (true = true) ∧ ((True) ∧ (True) ∧ ((True)) ∧ (True) ∧ True) ∧ (true = true) ∧ ((True) ∧ (True) ∧ (True) ∧ ((True)) ∧ (True) ∧ True) ∧ ((bnot (ieq (psq (l_99) (x_100) (y_101)) (psq (l_99) (x_100) (y_101)))) = true → ((true = true) ∧ ((True) ∧ True) ∧ ((false : Bool) = (true)) ∧ True)) ∧ ((bnot (ieq (psq (l_99) (x_100) (y_101)) (psq (l_99) (x_100) (y_101)))) = false → ((true = true) ∧ ((True) ∧ (True) ∧ True) ∧ ((ilt (psq (l_99) (x_100) (y_101)) (0 : Int)) = true → ((true = true) ∧ (((True)) ∧ (True) ∧ True) ∧ (((true) : Bool) = (true)) ∧ True)) ∧ ((ilt (psq (l_99) (x_100) (y_101)) (0 : Int)) = false → ((true = true) ∧ ((True) ∧ ((0 ≤ (psq (l_99) (x_100) (y_101)) ∧ (psq (l_99) (x_100) (y_101)) ≤ 1000000000000)) ∧ (True) ∧ True) ∧ (true = true) ∧ ((True) ∧ (True) ∧ (True) ∧ True) ∧ (true = true) ∧ ((True) ∧ (True) ∧ (True) ∧ (NIs (ilt (1000 : Int) (isq (psq (l_99) (x_100) (y_101)))) false → True) ∧ (NIs (ilt (1000 : Int) (isq (psq (l_99) (x_100) (y_101)))) false → True) ∧ (NIs (ilt (1000 : Int) (isq (psq (l_99) (x_100) (y_101)))) false → True) ∧ (NIs (ilt (1000 : Int) (isq (psq (l_99) (x_100) (y_101)))) false → (True)) ∧ (NIs (ilt (1000 : Int) (isq (psq (l_99) (x_100) (y_101)))) false → True) ∧ (NIs (ilt (1000 : Int) (isq (psq (l_99) (x_100) (y_101)))) false → (NIs (kcB [(l_99)] (x_100) (y_101) (isq (psq (l_99) (x_100) (y_101)))) true → True)) ∧ (NIs (ilt (1000 : Int) (isq (psq (l_99) (x_100) (y_101)))) false → (NIs (kcB [(l_99)] (x_100) (y_101) (isq (psq (l_99) (x_100) (y_101)))) true → True)) ∧ (NIs (ilt (1000 : Int) (isq (psq (l_99) (x_100) (y_101)))) false → (NIs (kcB [(l_99)] (x_100) (y_101) (isq (psq (l_99) (x_100) (y_101)))) true → True)) ∧ (NIs (ilt (1000 : Int) (isq (psq (l_99) (x_100) (y_101)))) false → (NIs (kcB [(l_99)] (x_100) (y_101) (isq (psq (l_99) (x_100) (y_101)))) true → (NIs (ieq (isq (psq (l_99) (x_100) (y_101))) (1000 : Int)) false → True))) ∧ (NIs (ilt (1000 : Int) (isq (psq (l_99) (x_100) (y_101)))) false → (NIs (kcB [(l_99)] (x_100) (y_101) (isq (psq (l_99) (x_100) (y_101)))) true → (NIs (ieq (isq (psq (l_99) (x_100) (y_101))) (1000 : Int)) false → True))) ∧ (NIs (ilt (1000 : Int) (isq (psq (l_99) (x_100) (y_101)))) false → (NIs (kcB [(l_99)] (x_100) (y_101) (isq (psq (l_99) (x_100) (y_101)))) true → (NIs (ieq (isq (psq (l_99) (x_100) (y_101))) (1000 : Int)) false → True))) ∧ (NIs (ilt (1000 : Int) (isq (psq (l_99) (x_100) (y_101)))) false → (NIs (kcB [(l_99)] (x_100) (y_101) (isq (psq (l_99) (x_100) (y_101)))) true → (NIs (ieq (isq (psq (l_99) (x_100) (y_101))) (1000 : Int)) false → True))) ∧ (NIs (ilt (1000 : Int) (isq (psq (l_99) (x_100) (y_101)))) false → (NIs (kcB [(l_99)] (x_100) (y_101) (isq (psq (l_99) (x_100) (y_101)))) true → (NIs (ieq (isq (psq (l_99) (x_100) (y_101))) (1000 : Int)) false → (True)))) ∧ (NIs (ilt (1000 : Int) (isq (psq (l_99) (x_100) (y_101)))) false → (NIs (kcB [(l_99)] (x_100) (y_101) (isq (psq (l_99) (x_100) (y_101)))) true → (NIs (ieq (isq (psq (l_99) (x_100) (y_101))) (1000 : Int)) false → True))) ∧ (NIs (ilt (1000 : Int) (isq (psq (l_99) (x_100) (y_101)))) false → (NIs (kcB [(l_99)] (x_100) (y_101) (isq (psq (l_99) (x_100) (y_101)))) true → True)) ∧ (NIs (ilt (1000 : Int) (isq (psq (l_99) (x_100) (y_101)))) false → True) ∧ (True) ∧ (True) ∧ True) ∧ (((bite (ilt (1000 : Int) (isq (psq (l_99) (x_100) (y_101)))) true (bite (kcB [(l_99)] (x_100) (y_101) (isq (psq (l_99) (x_100) (y_101)))) (bite (ieq (isq (psq (l_99) (x_100) (y_101))) (1000 : Int)) true (bnot (kcB [(l_99)] (x_100) (y_101) (iadd (isq (psq (l_99) (x_100) (y_101))) (1 : Int))))) false)) : Bool) = (true)) ∧ True))))))))))))) = ev sig_laws_FnClearDistance xs_laws_FnClearDistance Try.f11.ntmps (fun b => []) (codeOf Try.f11) 0 (initS [.s (.rdr n)]) (retK Try.f11.results.toList [.s (.bool (true))]) := by kernel_rfl
set_option maxHeartbeats 400000 in
theorem F_laws_FnClearDistance : FunOK 11 g_laws_FnClearDistance := by
  refine fun_F (by kernel_rfl) Try.func11 rfl (by kernel_rfl) sig_laws_FnClearDistance_ok xs_laws_FnClearDistance_ok ?_
  intro avs sg h hn hl
  unfold g_laws_FnClearDistance at h
  split at h
  · rename_i n
    injection h with h; subst h
    refine ⟨by kernel_rfl, fun b => [], Eq.mp (V_laws_FnClearDistance n) ?_⟩
    simp only [true_and, and_true, implies_true, and_self, forall_const, true_implies, lenA, lenL, SV.lenOK, Cont.lenOK] at hn hl ⊢
    simp only [ilt_t, ilt_f, ile_t, ile_f, ieq_t, ieq_f, bnot_e, band_e, bite_and, bite_or, NLt_e, NLe_e, NNe_e, NIs_e, imax_e, imin_e, irem_e, Bool.not_eq_true', Bool.not_eq_false', Bool.and_eq_true, Bool.or_eq_true, Bool.or_eq_false_iff, Bool.and_eq_false_iff, Cont.pts.injEq, Cont.ints.injEq, Cont.bools.injEq, Cont.ptss.injEq, Cont.intss.injEq, Cont.boolss.injEq, true_and, and_true, implies_true, bxor_self, reduceCtorEq, true_implies, false_implies, false_or, ne_eq, not_true_eq_false]
    intro h
    refine ⟨h, fun l x y hp h0 => ?_⟩
    have hb : psq l x y ≤ 8000000 := psq_le
    refine ⟨⟨h0, by omega⟩, ?_⟩
    obtain ⟨r0, r1, r2⟩ := isq_spec h0
    rw [kc_one, kc_one]
    generalize isq (psq l x y) = r at *
    generalize psq l x y = q at *
    by_cases hr : 1000 < r
    · exact .inl hr
    · refine .inr ⟨?_, ?_⟩
      · have : inB r 0 1000 = true := by unfold inB; simp; omega
        rw [this]; simp; omega
      · by_cases he : r = 1000
        · exact .inl he
        · refine .inr ?_
          rw [iadd_e (by omega) (by omega)]
          have : decide (0 ≤ q ∧ (r + 1) * (r + 1) ≤ q) = false := by simp; omega
          rw [this, Bool.and_false]
  · cases h
theorem fnClearDistance_walk (w : World) (v0 : Value) (x0 : Nat) (w0 : BytesArg w v0 x0) : Calls Try.prog 11 #[v0] w fun e w' => e = .returned (.bool true) ∧ Bel w w' :=
  walk_of F_laws_FnClearDistance (avs := [.s (.rdr x0)]) rfl trivial ⟨bytes_reads w0, trivial⟩
set_option maxRecDepth 100000 in
theorem fnClearDistance_lifted (os : Os) (started : os.Started) (H : Type) (enc : TypeId × Value → H) :
    ReturnsInHanded {} Try.checked os 11 .any (Rows.fnClearDistanceSpec.pre6 enc Try.prog Try.f11 Rows.fnClearDistanceRow.domain false) (Rows.fnClearDistanceSpec.post enc Try.prog Try.f11 false true false false) := by
  have own : ownKnob Try.prog.godebug = none := by kernel_rfl
  have laidOut : laidOutB Try.prog = true := by kernel_rfl
  refine returnsInHanded_of_change (C := Try.checked) own started (by kernel_rfl) Try.func11
    (ChangeSpec.witness6 (enc := enc) (C := Try.checked) false ⟨#[], #[.slice none 0 0], []⟩ 8 (by kernel_rfl) (by kernel_rfl) (by kernel_rfl) (by kernel_rfl)) ?_
  intro W base args ds gs before hval0 hW hcnd _
  have hval : ∀ (j : Nat) t v, Try.f11.params[j]? = some t → args[j]? = some v → Value.okWide Try.prog W .any base t v := hval0
  have hW' := hW
  obtain ⟨p, q, hA0, hV, rfl, hfz, hnd⟩ := hW
  have hA : DataW.TrodAll enc Try.prog W 0 (fun _ => true) true Try.f11.params.toList args.toList ds p := hA0
  rw [Try.params11] at hA hval
  obtain ⟨v0, vs0, d0, ds0, p0, q0, hargs, rfl, rfl, h0, r0⟩ := trodAll_cons hA
  obtain ⟨rfl, rfl, rfl⟩ := trodAll_nil r0
  obtain rfl : args = #[v0] := by cases args; simp_all
  obtain ⟨rfl, rfl⟩ := trodVars_none hV
  have k0 := h0
  have lt0 : ∀ x ∈ p0, x.block < W.heap.size := by obtain ⟨m, hm⟩ := k0; exact DataW.trod_lt m _ _ _ hm
  obtain ⟨x0, w0⟩ := opn_bytes (hval 0 22 v0 rfl rfl) h0
  clear hA0 hval0
  refine (fnClearDistance_walk W v0 x0 w0).mono fun e W' ⟨he, bel⟩ => ?_
  subst he
  exact ⟨_, rfl, _, _, _, [], _, [], hW', trodAll_mk1 (shut_bool Try.underlying4 _), (trodAll_cons_mk (Below.trod laidOut (by kernel_rfl) (of_decide_eq_true (by kernel_rfl)) k0 bel lt0) trodAll_mk0), rfl, Below.frame bel _, fun h => by cases h⟩
theorem fnClearDistance_over : Rows.fnClearDistanceRow.holds Try.pinned (OpenSpec.ofChange Rows.fnClearDistanceSpec) :=
  OpenClaim.holds_of_wide 11 Try.f11 rfl rfl rfl rfl rfl rfl rfl ⟨rfl, rfl, rfl, rfl, rfl⟩ rfl rfl rfl rfl rfl (by kernel_rfl) Try.func11 (by kernel_rfl)
    (of_decide_eq_true (by kernel_rfl)) (by unfold Func.isWrapper; first | (rw [if_pos (by decide +kernel)]; kernel_rfl) | (rw [if_neg (by decide +kernel)]; exact ⟨rfl, rfl⟩))
    (fun os started H enc _ => fnClearDistance_lifted os started H enc)
theorem fnClearDistance_proved : Rows.FnClearDistanceSaid := fnClearDistance_over
#print axioms fnClearDistance_proved
end Go.Proofs.Ytlngpnmenmdlmaa

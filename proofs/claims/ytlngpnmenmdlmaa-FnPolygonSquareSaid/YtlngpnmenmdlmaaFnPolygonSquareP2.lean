/- Contracts by evaluation, part 2. -/
import Derived.Test.YtlngpnmenmdlmaaFnPolygonSquareP1
namespace Go.Proofs.Ytlngpnmenmdlmaa
open Go.ChangeShapes Go.WideShapes Go.ChangeAt Go.RowKit
set_option maxRecDepth 100000
set_option linter.unusedSimpArgs false
set_option linter.unusedVariables false
def g_impl_PolygonSquare_1 : List AV → Option Sg
  | [.agg [.int p1, .int p2]] => some ⟨True, [.s (.bool (!nearB p1 p2))]⟩
  | _ => none
def sig_impl_PolygonSquare_1 : FuncId → List AV → Option Sg := sigL [(70, g_impl_near)]
def xs_impl_PolygonSquare_1 : XS := ⟨xsigL [], ysigL []⟩
theorem sig_impl_PolygonSquare_1_ok : SigOK sig_impl_PolygonSquare_1 := sigL_cons F_impl_near sigL_nil
theorem xs_impl_PolygonSquare_1_ok : XSigOK xs_impl_PolygonSquare_1 := ⟨xsigL_nil, ysigL_nil⟩
theorem V_impl_PolygonSquare_1 (p1 : Int) (p2 : Int) : ((true = true) ∧ ((True) ∧ (True) ∧ True) ∧ (true = true) ∧ ((True) ∧ ((True)) ∧ (True) ∧ (True) ∧ True) ∧ (((bnot (nearB p1 p2)) : Bool) = (!nearB p1 p2)) ∧ True) = ev sig_impl_PolygonSquare_1 xs_impl_PolygonSquare_1 Try.f72.ntmps (fun b => []) (codeOf Try.f72) 0 (initS [.agg [.int p1, .int p2]]) (retK Try.f72.results.toList [.s (.bool (!nearB p1 p2))]) := by kernel_rfl
set_option maxHeartbeats 400000 in
theorem F_impl_PolygonSquare_1 : FunOK 72 g_impl_PolygonSquare_1 := by
  refine fun_F (by kernel_rfl) Try.func72 rfl (by kernel_rfl) sig_impl_PolygonSquare_1_ok xs_impl_PolygonSquare_1_ok ?_
  intro avs sg h hn hl
  unfold g_impl_PolygonSquare_1 at h
  split at h
  · rename_i p1 p2
    injection h with h; subst h
    refine ⟨by kernel_rfl, fun b => [], Eq.mp (V_impl_PolygonSquare_1 p1 p2) ?_⟩
    simp only [true_and, and_true, implies_true, and_self, forall_const, true_implies, lenA, lenL, SV.lenOK, Cont.lenOK] at hn hl ⊢
    simp only [ilt_t, ilt_f, ile_t, ile_f, ieq_t, ieq_f, bnot_e, band_e, bite_and, bite_or, NLt_e, NLe_e, NNe_e, NIs_e, imax_e, imin_e, irem_e, Bool.not_eq_true', Bool.not_eq_false', Bool.and_eq_true, Bool.or_eq_true, Bool.or_eq_false_iff, Bool.and_eq_false_iff, Cont.pts.injEq, Cont.ints.injEq, Cont.bools.injEq, Cont.ptss.injEq, Cont.intss.injEq, Cont.boolss.injEq, true_and, and_true, implies_true]
  · cases h
def g_slices_IndexFunc_Simpl_Point_impl_Point : List AV → Option Sg
  | [.s (.view (.pts l)), .s (.x (.func (.func 72) ⟨[]⟩ ⟨[]⟩))] => some ⟨True, [.s (.int (idxN (ilen l) fun i => !nearB (getx l i) (gety l i)))]⟩
  | _ => none
def sig_slices_IndexFunc_Simpl_Point_impl_Point : FuncId → List AV → Option Sg := sigL [(72, g_impl_PolygonSquare_1)]
def xs_slices_IndexFunc_Simpl_Point_impl_Point : XS := ⟨xsigL [], ysigL []⟩
theorem sig_slices_IndexFunc_Simpl_Point_impl_Point_ok : SigOK sig_slices_IndexFunc_Simpl_Point_impl_Point := sigL_cons F_impl_PolygonSquare_1 sigL_nil
theorem xs_slices_IndexFunc_Simpl_Point_impl_Point_ok : XSigOK xs_slices_IndexFunc_Simpl_Point_impl_Point := ⟨xsigL_nil, ysigL_nil⟩
theorem V_slices_IndexFunc_Simpl_Point_impl_Point (l : List Pt) : ((true = true) ∧ ((True) ∧ True) ∧ (true = true) ∧ ((True) ∧ (True) ∧ (True) ∧ True) ∧ ∃ (I1 : List GV → Prop) (μ1 : List GV → Nat), (((true = true) ∧ ((((0 : Int) : Int) = (0 : Int)) ∧ (((0 : Int) : Int) = (0 : Int)) ∧ ((Cont.pts l) = (Cont.pts l)) ∧ (((ilen l) : Int) = (ilen l)) ∧ ((Cont.pts l) = (Cont.pts l)) ∧ (((.func (.func 72) #[] #[]) : Value) = (.func (.func 72) #[] #[])) ∧ True) ∧ (True)) ∧ (([GK.int, GK.int] : List GK) = ([GK.int, GK.int] : List GK)) ∧ I1 [GV.int (0 : Int), GV.int (0 : Int)]) ∧ (∀ i1_0 : Int, ∀ i1_1 : Int, I1 [GV.int i1_0, GV.int i1_1] → ((true = true) ∧ ((True) ∧ True) ∧ ((ilt i1_0 (ilen l)) = true → ((true = true) ∧ ((True) ∧ (True) ∧ True) ∧ (true = true) ∧ ((True) ∧ (True) ∧ (True) ∧ (NLe 0 i1_0 ∧ NLt i1_0 (ilen l)) ∧ (True) ∧ ((True)) ∧ True) ∧ ((!nearB (getx l i1_0) (gety l i1_0)) = true → ((true = true) ∧ ((True) ∧ (True) ∧ True) ∧ ((i1_0 : Int) = (idxN (ilen l) fun i => !nearB (getx l i) (gety l i))) ∧ True)) ∧ ((!nearB (getx l i1_0) (gety l i1_0)) = false → ((true = true) ∧ ((True) ∧ (True) ∧ True) ∧ ((true = true) ∧ (((i1_1 : Int) = i1_1) ∧ (((iadd i1_0 (1 : Int)) : Int) = (iadd i1_0 (1 : Int))) ∧ ((Cont.pts l) = (Cont.pts l)) ∧ (((ilen l) : Int) = (ilen l)) ∧ ((Cont.pts l) = (Cont.pts l)) ∧ (((.func (.func 72) #[] #[]) : Value) = (.func (.func 72) #[] #[])) ∧ True) ∧ (True)) ∧ ((([GK.int, GK.int] : List GK) = ([GK.int, GK.int] : List GK)) ∧ I1 [GV.int (iadd i1_0 (1 : Int)), GV.int i1_1] ∧ μ1 [GV.int (iadd i1_0 (1 : Int)), GV.int i1_1] < μ1 [GV.int i1_0, GV.int i1_1]))))) ∧ ((ilt i1_0 (ilen l)) = false → ((true = true) ∧ ((True) ∧ True) ∧ (((-1 : Int) : Int) = (idxN (ilen l) fun i => !nearB (getx l i) (gety l i))) ∧ True))))) = ev sig_slices_IndexFunc_Simpl_Point_impl_Point xs_slices_IndexFunc_Simpl_Point_impl_Point Try.f94.ntmps (fun b => if b == 0 then [.v 8, .v 4] else []) (codeOf Try.f94) 0 (initS [.s (.view (.pts l)), .s (.x (.func (.func 72) ⟨[]⟩ ⟨[]⟩))]) (retK Try.f94.results.toList [.s (.int (idxN (ilen l) fun i => !nearB (getx l i) (gety l i)))]) := by kernel_rfl
set_option maxHeartbeats 400000 in
theorem F_slices_IndexFunc_Simpl_Point_impl_Point : FunOK 94 g_slices_IndexFunc_Simpl_Point_impl_Point := by
  refine fun_F (by kernel_rfl) Try.func94 rfl (by kernel_rfl) sig_slices_IndexFunc_Simpl_Point_impl_Point_ok xs_slices_IndexFunc_Simpl_Point_impl_Point_ok ?_
  intro avs sg h hn hl
  unfold g_slices_IndexFunc_Simpl_Point_impl_Point at h
  split at h
  · rename_i l
    injection h with h; subst h
    refine ⟨by kernel_rfl, fun b => if b == 0 then [.v 8, .v 4] else [], Eq.mp (V_slices_IndexFunc_Simpl_Point_impl_Point l) ?_⟩
    simp only [true_and, and_true, implies_true, and_self, forall_const, true_implies, lenA, lenL, SV.lenOK, Cont.lenOK] at hn hl ⊢
    have h0 := ilen_0 l
    simp only [ilt_t, ilt_f, ile_t, ile_f, ieq_t, ieq_f, bnot_e, band_e, bite_and, bite_or, NLt_e, NLe_e, NNe_e, NIs_e, imax_e, imin_e, irem_e, Bool.not_eq_true', Bool.not_eq_false', Bool.and_eq_true, Bool.or_eq_true, Bool.or_eq_false_iff, Bool.and_eq_false_iff, Cont.pts.injEq, Cont.ints.injEq, Cont.bools.injEq, Cont.ptss.injEq, Cont.intss.injEq, Cont.boolss.injEq, true_and, and_true, implies_true]
    refine ⟨fun | .int k :: _ => 0 ≤ k ∧ k ≤ ilen l ∧ (∀ i, 0 ≤ i → i < k → nearB (getx l i) (gety l i) = true) | _ => False, fun | .int k :: _ => (ilen l - k).toNat | _ => 0, ?_, ?_⟩
    · exact ⟨Int.le_refl 0, h0, fun j h0 h1 => absurd h1 (by omega)⟩
    · rintro k _ ⟨hk0, hk1, hk⟩
      simp only [ilt_t, ilt_f, ile_t, ile_f, ieq_t, ieq_f, bnot_e, band_e, bite_and, bite_or, NLt_e, NLe_e, NNe_e, NIs_e, imax_e, imin_e, irem_e, Bool.not_eq_true', Bool.not_eq_false', Bool.and_eq_true, Bool.or_eq_true, Bool.or_eq_false_iff, Bool.and_eq_false_iff, Cont.pts.injEq, Cont.ints.injEq, Cont.bools.injEq, Cont.ptss.injEq, Cont.intss.injEq, Cont.boolss.injEq, true_and, and_true, implies_true]
      refine ⟨fun hkn => ⟨⟨hk0, hkn⟩, fun hx => ?_, fun hx => ?_⟩, fun hkn => ?_⟩
      · rw [idxN_at hk0 hkn (fun j j0 j1 => by simp [hk j j0 j1]) (by simp [hx])]
      · rw [iadd_1 hk0 hkn hl]
        exact ⟨⟨by omega, by omega, upTo hk hx⟩, by omega⟩
      · have e : k = ilen l := by omega
        subst e
        obtain ⟨a, ha⟩ := Int.eq_ofNat_of_zero_le h0
        rw [ha] at hk ⊢
        rw [idxN_no fun j j0 j1 => by simp [hk j j0 j1]]
  · cases h
def g_slices_ContainsFunc_Simpl_Point_impl_Point : List AV → Option Sg
  | [.s (.view (.pts l)), .s (.x (.func (.func 72) ⟨[]⟩ ⟨[]⟩))] => some ⟨True, [.s (.bool (anyN (ilen l) fun i => !nearB (getx l i) (gety l i)))]⟩
  | _ => none
def sig_slices_ContainsFunc_Simpl_Point_impl_Point : FuncId → List AV → Option Sg := sigL [(94, g_slices_IndexFunc_Simpl_Point_impl_Point)]
def xs_slices_ContainsFunc_Simpl_Point_impl_Point : XS := ⟨xsigL [], ysigL []⟩
theorem sig_slices_ContainsFunc_Simpl_Point_impl_Point_ok : SigOK sig_slices_ContainsFunc_Simpl_Point_impl_Point := sigL_cons F_slices_IndexFunc_Simpl_Point_impl_Point sigL_nil
theorem xs_slices_ContainsFunc_Simpl_Point_impl_Point_ok : XSigOK xs_slices_ContainsFunc_Simpl_Point_impl_Point := ⟨xsigL_nil, ysigL_nil⟩
theorem V_slices_ContainsFunc_Simpl_Point_impl_Point (l : List Pt) : ((true = true) ∧ ((True) ∧ True) ∧ (true = true) ∧ ((True) ∧ (True) ∧ ((True)) ∧ (True) ∧ (True) ∧ True) ∧ (((ile (0 : Int) (idxN (ilen l) fun i => !nearB (getx l i) (gety l i))) : Bool) = (anyN (ilen l) fun i => !nearB (getx l i) (gety l i))) ∧ True) = ev sig_slices_ContainsFunc_Simpl_Point_impl_Point xs_slices_ContainsFunc_Simpl_Point_impl_Point Try.f71.ntmps (fun b => []) (codeOf Try.f71) 0 (initS [.s (.view (.pts l)), .s (.x (.func (.func 72) ⟨[]⟩ ⟨[]⟩))]) (retK Try.f71.results.toList [.s (.bool (anyN (ilen l) fun i => !nearB (getx l i) (gety l i)))]) := by kernel_rfl
set_option maxHeartbeats 400000 in
theorem F_slices_ContainsFunc_Simpl_Point_impl_Point : FunOK 71 g_slices_ContainsFunc_Simpl_Point_impl_Point := by
  refine fun_F (by kernel_rfl) Try.func71 rfl (by kernel_rfl) sig_slices_ContainsFunc_Simpl_Point_impl_Point_ok xs_slices_ContainsFunc_Simpl_Point_impl_Point_ok ?_
  intro avs sg h hn hl
  unfold g_slices_ContainsFunc_Simpl_Point_impl_Point at h
  split at h
  · rename_i l
    injection h with h; subst h
    refine ⟨by kernel_rfl, fun b => [], Eq.mp (V_slices_ContainsFunc_Simpl_Point_impl_Point l) ?_⟩
    simp only [true_and, and_true, implies_true, and_self, forall_const, true_implies, lenA, lenL, SV.lenOK, Cont.lenOK] at hn hl ⊢
    rw [idxN_any (ilen_0 l)]
  · cases h
def insE (l : List Pt) (p1 p2 i : Int) : Bool := decide (0 ≤ crW (getx l i) (gety l i) (getx l (nx l i)) (gety l (nx l i)) p1 p2)
def insB (l : List Pt) (p1 p2 : Int) : Bool := allN (ilen l) (insE l p1 p2)
def g_impl_inside : List AV → Option Sg
  | [.s (.view (.pts l)), .agg [.int p1, .int p2]] => some ⟨True, [.s (.bool (insB l p1 p2))]⟩
  | _ => none
def sig_impl_inside : FuncId → List AV → Option Sg := sigL [(53, g_impl_cross)]
def xs_impl_inside : XS := ⟨xsigL [], ysigL []⟩
theorem sig_impl_inside_ok : SigOK sig_impl_inside := sigL_cons F_impl_cross sigL_nil
theorem xs_impl_inside_ok : XSigOK xs_impl_inside := ⟨xsigL_nil, ysigL_nil⟩
theorem V_impl_inside (l : List Pt) (p1 : Int) (p2 : Int) : ((true = true) ∧ ((True) ∧ (True) ∧ True) ∧ (true = true) ∧ ((True) ∧ (True) ∧ (True) ∧ True) ∧ ∃ (I1 : List GV → Prop) (μ1 : List GV → Nat), (((true = true) ∧ (((false : Bool) = false) ∧ (((0 : Int) : Int) = (0 : Int)) ∧ ((Cont.pts l) = (Cont.pts l)) ∧ (((ilen l) : Int) = (ilen l)) ∧ (true = true) ∧ ((Cont.pts l) = (Cont.pts l)) ∧ (((p1 : Int) = p1) ∧ ((p2 : Int) = p2) ∧ True) ∧ True) ∧ ((((p1 : Int) = p1) ∧ ((p2 : Int) = p2) ∧ True) ∧ True)) ∧ (([GK.int, GK.bool] : List GK) = ([GK.int, GK.bool] : List GK)) ∧ I1 [GV.int (0 : Int), GV.bool false]) ∧ (∀ i1_0 : Int, ∀ b1_1 : Bool, I1 [GV.int i1_0, GV.bool b1_1] → ((true = true) ∧ ((True) ∧ True) ∧ ((ilt i1_0 (ilen l)) = true → ((true = true) ∧ ((True) ∧ (NLe 0 i1_0 ∧ NLt i1_0 (ilen l)) ∧ (True) ∧ (True) ∧ (True) ∧ True) ∧ (True) ∧ (true = true) ∧ ((True) ∧ (True) ∧ (True) ∧ (True) ∧ (True) ∧ (True) ∧ (NNe (ilen l) 0) ∧ (NLe 0 (irem (iadd i1_0 (1 : Int)) (ilen l)) ∧ NLt (irem (iadd i1_0 (1 : Int)) (ilen l)) (ilen l)) ∧ (True) ∧ (True) ∧ ((True)) ∧ (True) ∧ True) ∧ ((ilt (crW (getx l i1_0) (gety l i1_0) (getx l (irem (iadd i1_0 (1 : Int)) (ilen l))) (gety l (irem (iadd i1_0 (1 : Int)) (ilen l))) p1 p2) (0 : Int)) = true → ((true = true) ∧ ((True) ∧ True) ∧ ((false : Bool) = (insB l p1 p2)) ∧ True)) ∧ ((ilt (crW (getx l i1_0) (gety l i1_0) (getx l (irem (iadd i1_0 (1 : Int)) (ilen l))) (gety l (irem (iadd i1_0 (1 : Int)) (ilen l))) p1 p2) (0 : Int)) = false → ((true = true) ∧ ((True) ∧ (True) ∧ True) ∧ ((true = true) ∧ (((b1_1 : Bool) = b1_1) ∧ (((iadd i1_0 (1 : Int)) : Int) = (iadd i1_0 (1 : Int))) ∧ ((Cont.pts l) = (Cont.pts l)) ∧ (((ilen l) : Int) = (ilen l)) ∧ (true = true) ∧ ((Cont.pts l) = (Cont.pts l)) ∧ (((p1 : Int) = p1) ∧ ((p2 : Int) = p2) ∧ True) ∧ True) ∧ ((((p1 : Int) = p1) ∧ ((p2 : Int) = p2) ∧ True) ∧ True)) ∧ ((([GK.int, GK.bool] : List GK) = ([GK.int, GK.bool] : List GK)) ∧ I1 [GV.int (iadd i1_0 (1 : Int)), GV.bool b1_1] ∧ μ1 [GV.int (iadd i1_0 (1 : Int)), GV.bool b1_1] < μ1 [GV.int i1_0, GV.bool b1_1]))))) ∧ ((ilt i1_0 (ilen l)) = false → ((true = true) ∧ ((True) ∧ True) ∧ ((true : Bool) = (insB l p1 p2)) ∧ True))))) = ev sig_impl_inside xs_impl_inside Try.f63.ntmps (fun b => if b == 0 then [.v 9, .v 4] else []) (codeOf Try.f63) 0 (initS [.s (.view (.pts l)), .agg [.int p1, .int p2]]) (retK Try.f63.results.toList [.s (.bool (insB l p1 p2))]) := by kernel_rfl
set_option maxHeartbeats 400000 in
theorem F_impl_inside : FunOK 63 g_impl_inside := by
  refine fun_F (by kernel_rfl) Try.func63 rfl (by kernel_rfl) sig_impl_inside_ok xs_impl_inside_ok ?_
  intro avs sg h hn hl
  unfold g_impl_inside at h
  split at h
  · rename_i l p1 p2
    injection h with h; subst h
    refine ⟨by kernel_rfl, fun b => if b == 0 then [.v 9, .v 4] else [], Eq.mp (V_impl_inside l p1 p2) ?_⟩
    simp only [true_and, and_true, implies_true, and_self, forall_const, true_implies, lenA, lenL, SV.lenOK, Cont.lenOK] at hn hl ⊢
    have h0 := ilen_0 l
    simp only [ilt_t, ilt_f, ile_t, ile_f, ieq_t, ieq_f, bnot_e, band_e, bite_and, bite_or, NLt_e, NLe_e, NNe_e, NIs_e, imax_e, imin_e, irem_e, Bool.not_eq_true', Bool.not_eq_false', Bool.and_eq_true, Bool.or_eq_true, Bool.or_eq_false_iff, Bool.and_eq_false_iff, Cont.pts.injEq, Cont.ints.injEq, Cont.bools.injEq, Cont.ptss.injEq, Cont.intss.injEq, Cont.boolss.injEq, true_and, and_true, implies_true]
    refine ⟨fun | .int k :: _ => 0 ≤ k ∧ k ≤ ilen l ∧ (∀ i, 0 ≤ i → i < k → insE l p1 p2 i = true) | _ => False, fun | .int k :: _ => (ilen l - k).toNat | _ => 0, ?_, ?_⟩
    · exact ⟨Int.le_refl 0, h0, fun j h0 h1 => absurd h1 (by omega)⟩
    · rintro k _ ⟨hk0, hk1, hk⟩
      simp only [ilt_t, ilt_f, ile_t, ile_f, ieq_t, ieq_f, bnot_e, band_e, bite_and, bite_or, NLt_e, NLe_e, NNe_e, NIs_e, imax_e, imin_e, irem_e, Bool.not_eq_true', Bool.not_eq_false', Bool.and_eq_true, Bool.or_eq_true, Bool.or_eq_false_iff, Bool.and_eq_false_iff, Cont.pts.injEq, Cont.ints.injEq, Cont.bools.injEq, Cont.ptss.injEq, Cont.intss.injEq, Cont.boolss.injEq, true_and, and_true, implies_true]
      refine ⟨fun hkn => ?_, fun hkn => ?_⟩
      · have e1 := iadd_1 hk0 hkn hl
        obtain ⟨n0, n1, _⟩ := nx_in hk0 hkn
        have e2 : (k + 1).tmod (ilen l) = nx l k := rfl
        simp only [e1, e2]
        have hne : ilen l ≠ 0 := by omega
        refine ⟨⟨hk0, hkn⟩, ⟨hne, ⟨n0, n1⟩⟩, fun hx => ?_, fun hx => ?_⟩
        · have hE : insE l p1 p2 k = false := by
            unfold insE
            simp only [decide_eq_false_iff_not]
            omega
          unfold insB
          rw [allN_no k hk0 hkn hE]
        · have hE : insE l p1 p2 k = true := by
            unfold insE
            simp only [decide_eq_true_eq]
            omega
          exact ⟨⟨by omega, by omega, allN_up hk hE⟩, by omega⟩
      · unfold insB
        rw [allN_mk fun i h0 h1 => hk i h0 (by omega)]
  · cases h
def g_impl_square : List AV → Option Sg
  | [.agg [.int a1, .int a2], .agg [.int b1, .int b2]] => some ⟨vB a1 a2 = true ∧ vB b1 b2 = true, [.s (.int (sqE a1 a2 b1 b2))]⟩
  | _ => none
def sig_impl_square : FuncId → List AV → Option Sg := sigL []
def xs_impl_square : XS := ⟨xsigL [], ysigL []⟩
theorem sig_impl_square_ok : SigOK sig_impl_square := sigL_nil
theorem xs_impl_square_ok : XSigOK xs_impl_square := ⟨xsigL_nil, ysigL_nil⟩
theorem V_impl_square (a1 : Int) (a2 : Int) (b1 : Int) (b2 : Int) : ((true = true) ∧ ((True) ∧ (True) ∧ (True) ∧ True) ∧ (true = true) ∧ ((True) ∧ (True) ∧ (True) ∧ (True) ∧ (True) ∧ (True) ∧ (True) ∧ (True) ∧ (True) ∧ (True) ∧ (True) ∧ (True) ∧ (True) ∧ (True) ∧ (True) ∧ (True) ∧ (True) ∧ (True) ∧ (True) ∧ (True) ∧ (True) ∧ (True) ∧ (True) ∧ (True) ∧ True) ∧ (((iadd (imul (isub a1 b1) (isub a1 b1)) (imul (isub a2 b2) (isub a2 b2))) : Int) = (sqE a1 a2 b1 b2)) ∧ True) = ev sig_impl_square xs_impl_square Try.f95.ntmps (fun b => []) (codeOf Try.f95) 0 (initS [.agg [.int a1, .int a2], .agg [.int b1, .int b2]]) (retK Try.f95.results.toList [.s (.int (sqE a1 a2 b1 b2))]) := by kernel_rfl
set_option maxHeartbeats 400000 in
theorem F_impl_square : FunOK 95 g_impl_square := by
  refine fun_F (by kernel_rfl) Try.func95 rfl (by kernel_rfl) sig_impl_square_ok xs_impl_square_ok ?_
  intro avs sg h hn hl
  unfold g_impl_square at h
  split at h
  · rename_i a1 a2 b1 b2
    injection h with h; subst h
    refine ⟨by kernel_rfl, fun b => [], Eq.mp (V_impl_square a1 a2 b1 b2) ?_⟩
    simp only [true_and, and_true, implies_true, and_self, forall_const, true_implies, lenA, lenL, SV.lenOK, Cont.lenOK] at hn hl ⊢
    exact (sq_v hn.1 hn.2).1
  · cases h
def g_impl_segmentSquare : List AV → Option Sg
  | [.agg [.int p1, .int p2], .agg [.int a1, .int a2], .agg [.int b1, .int b2]] => some ⟨nearB p1 p2 = true ∧ nearB a1 a2 = true ∧ nearB b1 b2 = true, [.s (.int (ssqE p1 p2 a1 a2 b1 b2))]⟩
  | _ => none
def sig_impl_segmentSquare : FuncId → List AV → Option Sg := sigL [(95, g_impl_square), (53, g_impl_cross)]
def xs_impl_segmentSquare : XS := ⟨xsigL [], ysigL []⟩
theorem sig_impl_segmentSquare_ok : SigOK sig_impl_segmentSquare := sigL_cons F_impl_square (sigL_cons F_impl_cross sigL_nil)
theorem xs_impl_segmentSquare_ok : XSigOK xs_impl_segmentSquare := ⟨xsigL_nil, ysigL_nil⟩
theorem V_impl_segmentSquare (p1 : Int) (p2 : Int) (a1 : Int) (a2 : Int) (b1 : Int) (b2 : Int) : ((true = true) ∧ ((True) ∧ (True) ∧ (True) ∧ (True) ∧ True) ∧ (true = true) ∧ ((True) ∧ (True) ∧ ((vB a1 a2 = true ∧ vB b1 b2 = true)) ∧ (True) ∧ True) ∧ (true = true) ∧ ((True) ∧ (True) ∧ (True) ∧ (True) ∧ (True) ∧ (True) ∧ (True) ∧ (True) ∧ (True) ∧ (True) ∧ (True) ∧ (True) ∧ (True) ∧ (True) ∧ (True) ∧ (True) ∧ (True) ∧ (True) ∧ (True) ∧ (True) ∧ (True) ∧ (True) ∧ (True) ∧ (True) ∧ True) ∧ (true = true) ∧ ((True) ∧ (True) ∧ (True) ∧ True) ∧ ((ile (iadd (imul (isub p1 a1) (isub b1 a1)) (imul (isub p2 a2) (isub b2 a2))) (0 : Int)) = true → ((true = true) ∧ ((True) ∧ (True) ∧ ((vB p1 p2 = true ∧ vB a1 a2 = true)) ∧ (True) ∧ True) ∧ (((sqE p1 p2 a1 a2) : Int) = (ssqE p1 p2 a1 a2 b1 b2)) ∧ True)) ∧ ((ile (iadd (imul (isub p1 a1) (isub b1 a1)) (imul (isub p2 a2) (isub b2 a2))) (0 : Int)) = false → ((true = true) ∧ ((True) ∧ (True) ∧ (True) ∧ (True) ∧ True) ∧ ((ile (sqE a1 a2 b1 b2) (iadd (imul (isub p1 a1) (isub b1 a1)) (imul (isub p2 a2) (isub b2 a2)))) = true → ((true = true) ∧ ((True) ∧ (True) ∧ ((vB p1 p2 = true ∧ vB b1 b2 = true)) ∧ (True) ∧ True) ∧ (((sqE p1 p2 b1 b2) : Int) = (ssqE p1 p2 a1 a2 b1 b2)) ∧ True)) ∧ ((ile (sqE a1 a2 b1 b2) (iadd (imul (isub p1 a1) (isub b1 a1)) (imul (isub p2 a2) (isub b2 a2)))) = false → ((true = true) ∧ ((True) ∧ (True) ∧ (True) ∧ ((True)) ∧ (True) ∧ True) ∧ (true = true) ∧ ((True) ∧ (True) ∧ (True) ∧ (True) ∧ (NNe (sqE a1 a2 b1 b2) 0) ∧ (True) ∧ True) ∧ (((iquo (imul (crW a1 a2 b1 b2 p1 p2) (crW a1 a2 b1 b2 p1 p2)) (sqE a1 a2 b1 b2)) : Int) = (ssqE p1 p2 a1 a2 b1 b2)) ∧ True))))) = ev sig_impl_segmentSquare xs_impl_segmentSquare Try.f73.ntmps (fun b => []) (codeOf Try.f73) 0 (initS [.agg [.int p1, .int p2], .agg [.int a1, .int a2], .agg [.int b1, .int b2]]) (retK Try.f73.results.toList [.s (.int (ssqE p1 p2 a1 a2 b1 b2))]) := by kernel_rfl
set_option maxHeartbeats 400000 in
theorem F_impl_segmentSquare : FunOK 73 g_impl_segmentSquare := by
  refine fun_F (by kernel_rfl) Try.func73 rfl (by kernel_rfl) sig_impl_segmentSquare_ok xs_impl_segmentSquare_ok ?_
  intro avs sg h hn hl
  unfold g_impl_segmentSquare at h
  split at h
  · rename_i p1 p2 a1 a2 b1 b2
    injection h with h; subst h
    refine ⟨by kernel_rfl, fun b => [], Eq.mp (V_impl_segmentSquare p1 p2 a1 a2 b1 b2) ?_⟩
    simp only [true_and, and_true, implies_true, and_self, forall_const, true_implies, lenA, lenL, SV.lenOK, Cont.lenOK] at hn hl ⊢
    obtain ⟨np, na, nb⟩ := hn
    have hc := crs_bd na nb np
    have hsq := sq_w na nb
    simp only [ilt_t, ilt_f, ile_t, ile_f, ieq_t, ieq_f, bnot_e, band_e, bite_and, bite_or, NLt_e, NLe_e, NNe_e, NIs_e, imax_e, imin_e, irem_e, Bool.not_eq_true', Bool.not_eq_false', Bool.and_eq_true, Bool.or_eq_true, Bool.or_eq_false_iff, Bool.and_eq_false_iff, Cont.pts.injEq, Cont.ints.injEq, Cont.bools.injEq, Cont.ptss.injEq, Cont.intss.injEq, Cont.boolss.injEq, true_and, and_true, implies_true, np, na, nb, near_v np, near_v na, near_v nb, crW_e (near_v na) (near_v nb) (near_v np), al_w np na nb, mul4 hc hc, true_implies, forall_const]
    refine ⟨fun h => by unfold ssqE; rw [if_pos h], fun h => ⟨fun h2 => by unfold ssqE; rw [if_neg (by omega), if_pos h2], fun h2 => ⟨by omega, ?_⟩⟩⟩
    unfold ssqE
    rw [if_neg (by omega), if_neg (by omega)]
    have := mul4b hc hc
    exact iquo_e (by omega) (by omega) (by omega)
  · cases h
def hitE (l : List Pt) (a1 a2 b1 b2 i : Int) : Bool := meetB (a1, a2) (b1, b2) (getx l i, gety l i) (getx l (nx l i), gety l (nx l i))
def hitB (l : List Pt) (a1 a2 b1 b2 : Int) : Bool := insB l a1 a2 || insB l b1 b2 || anyN (ilen l) (hitE l a1 a2 b1 b2)
theorem allB_at {l : List Pt} (h : allB l = true) {i : Int} (h0 : 0 ≤ i) (h1 : i < ilen l) : vB (getx l i) (gety l i) = true := by
  rw [allB_N] at h; exact allN_iff.1 h i h0 h1
theorem convB_all {l : List Pt} (h : convB l = true) : 3 ≤ ilen l ∧ ilen l ≤ 8 ∧ allB l = true := by
  unfold convB at h
  simp only [Bool.and_eq_true] at h
  exact ⟨(inB_true h.1.1).1, (inB_true h.1.1).2, h.1.2⟩
theorem allB_2 (a1 a2 b1 b2 : Int) : allB [(a1, a2), (b1, b2)] = (vB a1 a2 && vB b1 b2) := by simp [allB]
def psqE (l : List Pt) (p1 p2 i : Int) : Int := ssqE p1 p2 (getx l i) (gety l i) (getx l (nx l i)) (gety l (nx l i))
def minF (l : List Pt) (p1 p2 k : Int) : Int := foldN k (fun s i => if s < 0 ∨ psqE l p1 p2 i < s then psqE l p1 p2 i else s) (-1)
def psqB (l : List Pt) (p1 p2 : Int) : Bool := convB l && nearB p1 p2 && allN (ilen l) fun i => nearB (getx l i) (gety l i)
def psq (l : List Pt) (p1 p2 : Int) : Int := if psqB l p1 p2 then (if insB l p1 p2 then 0 else minF l p1 p2 (ilen l)) else -1
theorem minF_1 {l : List Pt} {p1 p2 k : Int} (h : 0 ≤ k) : minF l p1 p2 (k + 1) = if minF l p1 p2 k < 0 ∨ psqE l p1 p2 k < minF l p1 p2 k then psqE l p1 p2 k else minF l p1 p2 k := by unfold minF; rw [foldN_1 h]
def g_impl_PolygonSquare : List AV → Option Sg
  | [.s (.view (.pts l)), .agg [.int p1, .int p2]] => some ⟨True, [.s (.int (psq l p1 p2))]⟩
  | _ => none
def sig_impl_PolygonSquare : FuncId → List AV → Option Sg := sigL [(15, g_impl_ConvexValid), (70, g_impl_near), (71, g_slices_ContainsFunc_Simpl_Point_impl_Point), (63, g_impl_inside), (73, g_impl_segmentSquare)]
def xs_impl_PolygonSquare : XS := ⟨xsigL [], ysigL []⟩
theorem sig_impl_PolygonSquare_ok : SigOK sig_impl_PolygonSquare := sigL_cons F_impl_ConvexValid (sigL_cons F_impl_near (sigL_cons F_slices_ContainsFunc_Simpl_Point_impl_Point (sigL_cons F_impl_inside (sigL_cons F_impl_segmentSquare sigL_nil))))
theorem xs_impl_PolygonSquare_ok : XSigOK xs_impl_PolygonSquare := ⟨xsigL_nil, ysigL_nil⟩
theorem V_impl_PolygonSquare (l : List Pt) (p1 : Int) (p2 : Int) : ((true = true) ∧ ((True) ∧ (True) ∧ True) ∧ (true = true) ∧ ((True) ∧ ((True)) ∧ (True) ∧ (True) ∧ (NIs (bnot (convB l)) false → True) ∧ (NIs (bnot (convB l)) false → (True)) ∧ (NIs (bnot (convB l)) false → True) ∧ (True) ∧ (True) ∧ (NIs (bite (bnot (convB l)) true (bnot (nearB p1 p2))) false → True) ∧ (NIs (bite (bnot (convB l)) true (bnot (nearB p1 p2))) false → (True)) ∧ (True) ∧ True) ∧ ((bite (bite (bnot (convB l)) true (bnot (nearB p1 p2))) true (anyN (ilen l) fun i => !nearB (getx l i) (gety l i))) = true → ((true = true) ∧ ((True) ∧ True) ∧ (((-1 : Int) : Int) = (psq l p1 p2)) ∧ True)) ∧ ((bite (bite (bnot (convB l)) true (bnot (nearB p1 p2))) true (anyN (ilen l) fun i => !nearB (getx l i) (gety l i))) = false → ((true = true) ∧ ((True) ∧ (True) ∧ ((True)) ∧ True) ∧ ((insB l p1 p2) = true → ((true = true) ∧ ((True) ∧ True) ∧ (((0 : Int) : Int) = (psq l p1 p2)) ∧ True)) ∧ ((insB l p1 p2) = false → ((true = true) ∧ ((True) ∧ True) ∧ (true = true) ∧ ((True) ∧ (True) ∧ (True) ∧ True) ∧ ∃ (I1 : List GV → Prop) (μ1 : List GV → Nat), (((true = true) ∧ ((((-1 : Int) : Int) = (-1 : Int)) ∧ (((0 : Int) : Int) = (0 : Int)) ∧ ((Cont.pts l) = (Cont.pts l)) ∧ (((ilen l) : Int) = (ilen l)) ∧ ((Cont.pts l) = (Cont.pts l)) ∧ (((p1 : Int) = p1) ∧ ((p2 : Int) = p2) ∧ True) ∧ (((insB l p1 p2) : Bool) = (insB l p1 p2)) ∧ ((Cont.pts l) = (Cont.pts l)) ∧ (((convB l) : Bool) = (convB l)) ∧ (((bnot (convB l)) : Bool) = (bnot (convB l))) ∧ (((bnot (convB l)) : Bool) = (bnot (convB l))) ∧ (((bite (bnot (convB l)) true (bnot (nearB p1 p2))) : Bool) = (bite (bnot (convB l)) true (bnot (nearB p1 p2)))) ∧ (((bite (bnot (convB l)) true (bnot (nearB p1 p2))) : Bool) = (bite (bnot (convB l)) true (bnot (nearB p1 p2)))) ∧ (((bite (bite (bnot (convB l)) true (bnot (nearB p1 p2))) true (anyN (ilen l) fun i => !nearB (getx l i) (gety l i))) : Bool) = (bite (bite (bnot (convB l)) true (bnot (nearB p1 p2))) true (anyN (ilen l) fun i => !nearB (getx l i) (gety l i)))) ∧ (true = true) ∧ (((0 : Int) : Int) = (0 : Int)) ∧ ((Cont.pts l) = (Cont.pts l)) ∧ (((p1 : Int) = p1) ∧ ((p2 : Int) = p2) ∧ True) ∧ True) ∧ ((((p1 : Int) = p1) ∧ ((p2 : Int) = p2) ∧ True) ∧ True)) ∧ (([GK.int, GK.int] : List GK) = ([GK.int, GK.int] : List GK)) ∧ I1 [GV.int (0 : Int), GV.int (-1 : Int)]) ∧ (∀ i1_0 : Int, ∀ i1_1 : Int, I1 [GV.int i1_0, GV.int i1_1] → ((true = true) ∧ ((True) ∧ True) ∧ ((ilt i1_0 (ilen l)) = true → ((true = true) ∧ ((True) ∧ (NLe 0 i1_0 ∧ NLt i1_0 (ilen l)) ∧ (True) ∧ (True) ∧ (True) ∧ True) ∧ (True) ∧ (true = true) ∧ ((True) ∧ (True) ∧ (True) ∧ (True) ∧ (True) ∧ (True) ∧ (True) ∧ (NNe (ilen l) 0) ∧ (NLe 0 (irem (iadd i1_0 (1 : Int)) (ilen l)) ∧ NLt (irem (iadd i1_0 (1 : Int)) (ilen l)) (ilen l)) ∧ (True) ∧ ((nearB p1 p2 = true ∧ nearB (getx l i1_0) (gety l i1_0) = true ∧ nearB (getx l (irem (iadd i1_0 (1 : Int)) (ilen l))) (gety l (irem (iadd i1_0 (1 : Int)) (ilen l))) = true)) ∧ (True) ∧ True) ∧ (true = true) ∧ ((True) ∧ (True) ∧ (True) ∧ (NIs (ilt i1_1 (0 : Int)) false → True) ∧ (NIs (ilt i1_1 (0 : Int)) false → True) ∧ (NIs (ilt i1_1 (0 : Int)) false → True) ∧ (True) ∧ True) ∧ ((bite (ilt i1_1 (0 : Int)) true (ilt (ssqE p1 p2 (getx l i1_0) (gety l i1_0) (getx l (irem (iadd i1_0 (1 : Int)) (ilen l))) (gety l (irem (iadd i1_0 (1 : Int)) (ilen l)))) i1_1)) = true → ((true = true) ∧ ((True) ∧ (True) ∧ True) ∧ (true = true) ∧ ((True) ∧ (True) ∧ True) ∧ ((true = true) ∧ ((((ssqE p1 p2 (getx l i1_0) (gety l i1_0) (getx l (irem (iadd i1_0 (1 : Int)) (ilen l))) (gety l (irem (iadd i1_0 (1 : Int)) (ilen l)))) : Int) = (ssqE p1 p2 (getx l i1_0) (gety l i1_0) (getx l (irem (iadd i1_0 (1 : Int)) (ilen l))) (gety l (irem (iadd i1_0 (1 : Int)) (ilen l))))) ∧ (((iadd i1_0 (1 : Int)) : Int) = (iadd i1_0 (1 : Int))) ∧ ((Cont.pts l) = (Cont.pts l)) ∧ (((ilen l) : Int) = (ilen l)) ∧ ((Cont.pts l) = (Cont.pts l)) ∧ (((p1 : Int) = p1) ∧ ((p2 : Int) = p2) ∧ True) ∧ (((insB l p1 p2) : Bool) = (insB l p1 p2)) ∧ ((Cont.pts l) = (Cont.pts l)) ∧ (((convB l) : Bool) = (convB l)) ∧ (((bnot (convB l)) : Bool) = (bnot (convB l))) ∧ (((bnot (convB l)) : Bool) = (bnot (convB l))) ∧ (((bite (bnot (convB l)) true (bnot (nearB p1 p2))) : Bool) = (bite (bnot (convB l)) true (bnot (nearB p1 p2)))) ∧ (((bite (bnot (convB l)) true (bnot (nearB p1 p2))) : Bool) = (bite (bnot (convB l)) true (bnot (nearB p1 p2)))) ∧ (((bite (bite (bnot (convB l)) true (bnot (nearB p1 p2))) true (anyN (ilen l) fun i => !nearB (getx l i) (gety l i))) : Bool) = (bite (bite (bnot (convB l)) true (bnot (nearB p1 p2))) true (anyN (ilen l) fun i => !nearB (getx l i) (gety l i)))) ∧ (true = true) ∧ (((0 : Int) : Int) = (0 : Int)) ∧ ((Cont.pts l) = (Cont.pts l)) ∧ (((p1 : Int) = p1) ∧ ((p2 : Int) = p2) ∧ True) ∧ True) ∧ ((((p1 : Int) = p1) ∧ ((p2 : Int) = p2) ∧ True) ∧ True)) ∧ ((([GK.int, GK.int] : List GK) = ([GK.int, GK.int] : List GK)) ∧ I1 [GV.int (iadd i1_0 (1 : Int)), GV.int (ssqE p1 p2 (getx l i1_0) (gety l i1_0) (getx l (irem (iadd i1_0 (1 : Int)) (ilen l))) (gety l (irem (iadd i1_0 (1 : Int)) (ilen l))))] ∧ μ1 [GV.int (iadd i1_0 (1 : Int)), GV.int (ssqE p1 p2 (getx l i1_0) (gety l i1_0) (getx l (irem (iadd i1_0 (1 : Int)) (ilen l))) (gety l (irem (iadd i1_0 (1 : Int)) (ilen l))))] < μ1 [GV.int i1_0, GV.int i1_1]))) ∧ ((bite (ilt i1_1 (0 : Int)) true (ilt (ssqE p1 p2 (getx l i1_0) (gety l i1_0) (getx l (irem (iadd i1_0 (1 : Int)) (ilen l))) (gety l (irem (iadd i1_0 (1 : Int)) (ilen l)))) i1_1)) = false → ((true = true) ∧ ((True) ∧ (True) ∧ True) ∧ ((true = true) ∧ (((i1_1 : Int) = i1_1) ∧ (((iadd i1_0 (1 : Int)) : Int) = (iadd i1_0 (1 : Int))) ∧ ((Cont.pts l) = (Cont.pts l)) ∧ (((ilen l) : Int) = (ilen l)) ∧ ((Cont.pts l) = (Cont.pts l)) ∧ (((p1 : Int) = p1) ∧ ((p2 : Int) = p2) ∧ True) ∧ (((insB l p1 p2) : Bool) = (insB l p1 p2)) ∧ ((Cont.pts l) = (Cont.pts l)) ∧ (((convB l) : Bool) = (convB l)) ∧ (((bnot (convB l)) : Bool) = (bnot (convB l))) ∧ (((bnot (convB l)) : Bool) = (bnot (convB l))) ∧ (((bite (bnot (convB l)) true (bnot (nearB p1 p2))) : Bool) = (bite (bnot (convB l)) true (bnot (nearB p1 p2)))) ∧ (((bite (bnot (convB l)) true (bnot (nearB p1 p2))) : Bool) = (bite (bnot (convB l)) true (bnot (nearB p1 p2)))) ∧ (((bite (bite (bnot (convB l)) true (bnot (nearB p1 p2))) true (anyN (ilen l) fun i => !nearB (getx l i) (gety l i))) : Bool) = (bite (bite (bnot (convB l)) true (bnot (nearB p1 p2))) true (anyN (ilen l) fun i => !nearB (getx l i) (gety l i)))) ∧ (true = true) ∧ (((0 : Int) : Int) = (0 : Int)) ∧ ((Cont.pts l) = (Cont.pts l)) ∧ (((p1 : Int) = p1) ∧ ((p2 : Int) = p2) ∧ True) ∧ True) ∧ ((((p1 : Int) = p1) ∧ ((p2 : Int) = p2) ∧ True) ∧ True)) ∧ ((([GK.int, GK.int] : List GK) = ([GK.int, GK.int] : List GK)) ∧ I1 [GV.int (iadd i1_0 (1 : Int)), GV.int i1_1] ∧ μ1 [GV.int (iadd i1_0 (1 : Int)), GV.int i1_1] < μ1 [GV.int i1_0, GV.int i1_1]))))) ∧ ((ilt i1_0 (ilen l)) = false → ((true = true) ∧ ((True) ∧ (True) ∧ True) ∧ ((i1_1 : Int) = (psq l p1 p2)) ∧ True))))))))) = ev sig_impl_PolygonSquare xs_impl_PolygonSquare Try.f38.ntmps (fun b => if b == 0 then [.v 26, .v 5] else []) (codeOf Try.f38) 0 (initS [.s (.view (.pts l)), .agg [.int p1, .int p2]]) (retK Try.f38.results.toList [.s (.int (psq l p1 p2))]) := by kernel_rfl
set_option maxHeartbeats 400000 in
theorem F_impl_PolygonSquare : FunOK 38 g_impl_PolygonSquare := by
  refine fun_F (by kernel_rfl) Try.func38 rfl (by kernel_rfl) sig_impl_PolygonSquare_ok xs_impl_PolygonSquare_ok ?_
  intro avs sg h hn hl
  unfold g_impl_PolygonSquare at h
  split at h
  · rename_i l p1 p2
    injection h with h; subst h
    refine ⟨by kernel_rfl, fun b => if b == 0 then [.v 26, .v 5] else [], Eq.mp (V_impl_PolygonSquare l p1 p2) ?_⟩
    simp only [true_and, and_true, implies_true, and_self, forall_const, true_implies, lenA, lenL, SV.lenOK, Cont.lenOK] at hn hl ⊢
    have h0 := ilen_0 l
    simp only [ilt_t, ilt_f, ile_t, ile_f, ieq_t, ieq_f, bnot_e, band_e, bite_and, bite_or, NLt_e, NLe_e, NNe_e, NIs_e, imax_e, imin_e, irem_e, Bool.not_eq_true', Bool.not_eq_false', Bool.and_eq_true, Bool.or_eq_true, Bool.or_eq_false_iff, Bool.and_eq_false_iff, Cont.pts.injEq, Cont.ints.injEq, Cont.bools.injEq, Cont.ptss.injEq, Cont.intss.injEq, Cont.boolss.injEq, true_and, and_true, implies_true, anyN_not, Bool.not_not]
    refine ⟨fun h => ?_, fun h => ?_⟩
    · have : psqB l p1 p2 = false := by unfold psqB; rcases h with (h | h) | h <;> simp [h]
      unfold psq; rw [this]; rfl
    · obtain ⟨⟨hc, hp⟩, hN⟩ := h
      have hB : psqB l p1 p2 = true := by unfold psqB; rw [hc, hp, hN]; rfl
      have hNi := allN_iff.1 hN
      obtain ⟨c1, c2, c3⟩ := convB_all hc
      refine ⟨fun hi => by unfold psq; rw [hB, hi]; rfl, fun hi => ?_⟩
      refine ⟨fun | .int k :: .int s :: _ => 0 ≤ k ∧ k ≤ ilen l ∧ s = minF l p1 p2 k | _ => False, fun | .int k :: _ => (ilen l - k).toNat | _ => 0, ?_, ?_⟩
      · exact ⟨Int.le_refl 0, h0, rfl⟩
      · rintro k s ⟨hk0, hk1, hs⟩
        refine ⟨fun hkn => ?_, fun hkn => ?_⟩
        · have e1 := iadd_1 hk0 hkn hl
          obtain ⟨n0, n1, _⟩ := nx_in hk0 hkn
          have e2 : (k + 1).tmod (ilen l) = nx l k := rfl
          simp only [e1, e2]
          have hstep := minF_1 (l := l) (p1 := p1) (p2 := p2) hk0
          have hq : ssqE p1 p2 (getx l k) (gety l k) (getx l (nx l k)) (gety l (nx l k)) = psqE l p1 p2 k := rfl
          simp only [hq]
          refine ⟨⟨hk0, hkn⟩, ⟨by omega, ⟨n0, n1⟩, hp, hNi k hk0 hkn, hNi _ n0 n1⟩, fun hx => ?_, fun hx => ?_⟩
          · rw [← hs, if_pos hx] at hstep
            exact ⟨⟨by omega, by omega, hstep.symm⟩, by omega⟩
          · rw [← hs, if_neg (by omega)] at hstep
            exact ⟨⟨by omega, by omega, hstep.symm⟩, by omega⟩
        · have e : k = ilen l := by omega
          subst e
          unfold psq
          rw [hB, hi, hs]; rfl
  · cases h
def g_spec_l2Sign : List AV → Option Sg
  | [.s (.int n)] => some ⟨True, [.s (.int (sgn n))]⟩
  | _ => none
def sig_spec_l2Sign : FuncId → List AV → Option Sg := sigL []
def xs_spec_l2Sign : XS := ⟨xsigL [], ysigL []⟩
theorem sig_spec_l2Sign_ok : SigOK sig_spec_l2Sign := sigL_nil
theorem xs_spec_l2Sign_ok : XSigOK xs_spec_l2Sign := ⟨xsigL_nil, ysigL_nil⟩
theorem V_spec_l2Sign (n : Int) : ((true = true) ∧ ((True) ∧ True) ∧ (true = true) ∧ ((True) ∧ (True) ∧ (True) ∧ True) ∧ ((ilt (0 : Int) n) = true → ((true = true) ∧ ((True) ∧ True) ∧ (((1 : Int) : Int) = (sgn n)) ∧ True)) ∧ ((ilt (0 : Int) n) = false → ((true = true) ∧ ((True) ∧ (True) ∧ (True) ∧ True) ∧ ((ilt n (0 : Int)) = true → ((true = true) ∧ ((True) ∧ True) ∧ (((-1 : Int) : Int) = (sgn n)) ∧ True)) ∧ ((ilt n (0 : Int)) = false → ((true = true) ∧ ((True) ∧ True) ∧ (((0 : Int) : Int) = (sgn n)) ∧ True))))) = ev sig_spec_l2Sign xs_spec_l2Sign Try.f89.ntmps (fun b => []) (codeOf Try.f89) 0 (initS [.s (.int n)]) (retK Try.f89.results.toList [.s (.int (sgn n))]) := by kernel_rfl
set_option maxHeartbeats 400000 in
theorem F_spec_l2Sign : FunOK 89 g_spec_l2Sign := by
  refine fun_F (by kernel_rfl) Try.func89 rfl (by kernel_rfl) sig_spec_l2Sign_ok xs_spec_l2Sign_ok ?_
  intro avs sg h hn hl
  unfold g_spec_l2Sign at h
  split at h
  · rename_i n
    injection h with h; subst h
    refine ⟨by kernel_rfl, fun b => [], Eq.mp (V_spec_l2Sign n) ?_⟩
    simp only [true_and, and_true, implies_true, and_self, forall_const, true_implies, lenA, lenL, SV.lenOK, Cont.lenOK] at hn hl ⊢
    simp only [ilt_t, ilt_f, ile_t, ile_f, ieq_t, ieq_f, bnot_e, band_e, bite_and, bite_or, NLt_e, NLe_e, NNe_e, NIs_e, imax_e, imin_e, irem_e, Bool.not_eq_true', Bool.not_eq_false', Bool.and_eq_true, Bool.or_eq_true, Bool.or_eq_false_iff, Bool.and_eq_false_iff, Cont.pts.injEq, Cont.ints.injEq, Cont.bools.injEq, Cont.ptss.injEq, Cont.intss.injEq, Cont.boolss.injEq, true_and, and_true, implies_true]
    unfold sgn
    refine ⟨fun h => by rw [if_pos h], fun h => ⟨fun h2 => by rw [if_neg (by omega), if_pos h2], fun h2 => by rw [if_neg (by omega), if_neg (by omega)]⟩⟩
  · cases h
def orB (a1 a2 b1 b2 c1 c2 : Int) : Int := if vB a1 a2 && vB b1 b2 && vB c1 c2 then sgn (crW a1 a2 b1 b2 c1 c2) else 0
def orI (l : List Pt) (i j : Int) : Int := orB (getx l i) (gety l i) (getx l (nx l i)) (gety l (nx l i)) (getx l j) (gety l j)
def convF (l : List Pt) (i j : Int) : Bool := decide (j = i ∨ j = nx l i ∨ orI l i j = 1)
def convS (l : List Pt) : Bool := inB (ilen l) 3 8 && allN (ilen l) fun i => allN (ilen l) fun j => convF l i j
theorem convS_eq (l : List Pt) : convS l = convB l := by
  unfold convS convB
  cases h1 : inB (ilen l) 3 8 with
  | false => rfl
  | true =>
    have hl := inB_true h1
    simp only [Bool.true_and]
    cases h2 : allB l with
    | true =>
      simp only [Bool.true_and]
      refine allN_congr fun i i0 i1 => allN_congr fun j j0 j1 => ?_
      rw [allB_N] at h2
      have hv := allN_iff.1 h2
      obtain ⟨n0, n1, _⟩ := nx_in i0 i1
      have e : orI l i j = sgn (cr l i (nx l i) j) := by unfold orI orB cr; rw [hv i i0 i1, hv _ n0 n1, hv j j0 j1]; rfl
      unfold convF convE
      rw [e]
      have : (sgn (cr l i (nx l i) j) = 1) ↔ 0 < cr l i (nx l i) j := by unfold sgn; split <;> (try split) <;> omega
      simp only [this]
    | false =>
      simp only [Bool.false_and]
      rw [allB_N] at h2
      obtain ⟨j, j0, j1, hj⟩ : ∃ j, 0 ≤ j ∧ j < ilen l ∧ vB (getx l j) (gety l j) = false := by
        apply Classical.byContradiction
        intro hn
        rw [allN_mk fun j j0 j1 => by cases e : vB (getx l j) (gety l j) with | true => rfl | false => exact absurd ⟨j, j0, j1, e⟩ hn] at h2
        cases h2
      obtain ⟨n0, n1, n2⟩ := nx_in j0 j1
      obtain ⟨m0, m1, m2⟩ := nx_in n0 n1
      refine allN_no (nx l j) n0 n1 (allN_no j j0 j1 ?_)
      have e : orI l (nx l j) j = 0 := by unfold orI orB; rw [hj]; simp
      unfold convF
      rw [e]
      simp only [decide_eq_false_iff_not]
      omega
def g_spec_Orientation : List AV → Option Sg
  | [.agg [.int a1, .int a2], .agg [.int b1, .int b2], .agg [.int c1, .int c2]] => some ⟨True, [.s (.int (orB a1 a2 b1 b2 c1 c2))]⟩
  | _ => none
def sig_spec_Orientation : FuncId → List AV → Option Sg := sigL [(28, g_spec_PointValid), (57, g_spec_l2Cross), (89, g_spec_l2Sign)]
def xs_spec_Orientation : XS := ⟨xsigL [], ysigL []⟩
theorem sig_spec_Orientation_ok : SigOK sig_spec_Orientation := sigL_cons F_spec_PointValid (sigL_cons F_spec_l2Cross (sigL_cons F_spec_l2Sign sigL_nil))
theorem xs_spec_Orientation_ok : XSigOK xs_spec_Orientation := ⟨xsigL_nil, ysigL_nil⟩
theorem V_spec_Orientation (a1 : Int) (a2 : Int) (b1 : Int) (b2 : Int) (c1 : Int) (c2 : Int) : ((true = true) ∧ ((True) ∧ (True) ∧ (True) ∧ (True) ∧ True) ∧ (true = true) ∧ ((True) ∧ ((True)) ∧ (True) ∧ (True) ∧ (NIs (bnot (vB a1 a2)) false → True) ∧ (NIs (bnot (vB a1 a2)) false → (True)) ∧ (NIs (bnot (vB a1 a2)) false → True) ∧ (True) ∧ (True) ∧ (NIs (bite (bnot (vB a1 a2)) true (bnot (vB b1 b2))) false → True) ∧ (NIs (bite (bnot (vB a1 a2)) true (bnot (vB b1 b2))) false → (True)) ∧ (NIs (bite (bnot (vB a1 a2)) true (bnot (vB b1 b2))) false → True) ∧ (True) ∧ True) ∧ ((bite (bite (bnot (vB a1 a2)) true (bnot (vB b1 b2))) true (bnot (vB c1 c2))) = true → ((true = true) ∧ ((True) ∧ True) ∧ (((0 : Int) : Int) = (orB a1 a2 b1 b2 c1 c2)) ∧ True)) ∧ ((bite (bite (bnot (vB a1 a2)) true (bnot (vB b1 b2))) true (bnot (vB c1 c2))) = false → ((true = true) ∧ ((True) ∧ (True) ∧ (True) ∧ ((True)) ∧ ((True)) ∧ (True) ∧ True) ∧ (((sgn (crW a1 a2 b1 b2 c1 c2)) : Int) = (orB a1 a2 b1 b2 c1 c2)) ∧ True))) = ev sig_spec_Orientation xs_spec_Orientation Try.f55.ntmps (fun b => []) (codeOf Try.f55) 0 (initS [.agg [.int a1, .int a2], .agg [.int b1, .int b2], .agg [.int c1, .int c2]]) (retK Try.f55.results.toList [.s (.int (orB a1 a2 b1 b2 c1 c2))]) := by kernel_rfl
set_option maxHeartbeats 400000 in
theorem F_spec_Orientation : FunOK 55 g_spec_Orientation := by
  refine fun_F (by kernel_rfl) Try.func55 rfl (by kernel_rfl) sig_spec_Orientation_ok xs_spec_Orientation_ok ?_
  intro avs sg h hn hl
  unfold g_spec_Orientation at h
  split at h
  · rename_i a1 a2 b1 b2 c1 c2
    injection h with h; subst h
    refine ⟨by kernel_rfl, fun b => [], Eq.mp (V_spec_Orientation a1 a2 b1 b2 c1 c2) ?_⟩
    simp only [true_and, and_true, implies_true, and_self, forall_const, true_implies, lenA, lenL, SV.lenOK, Cont.lenOK] at hn hl ⊢
    simp only [ilt_t, ilt_f, ile_t, ile_f, ieq_t, ieq_f, bnot_e, band_e, bite_and, bite_or, NLt_e, NLe_e, NNe_e, NIs_e, imax_e, imin_e, irem_e, Bool.not_eq_true', Bool.not_eq_false', Bool.and_eq_true, Bool.or_eq_true, Bool.or_eq_false_iff, Bool.and_eq_false_iff, Cont.pts.injEq, Cont.ints.injEq, Cont.bools.injEq, Cont.ptss.injEq, Cont.intss.injEq, Cont.boolss.injEq, true_and, and_true, implies_true]
    unfold orB
    cases vB a1 a2 <;> cases vB b1 b2 <;> cases vB c1 c2 <;> simp
  · cases h
def g_spec_ConvexValid : List AV → Option Sg
  | [.s (.view (.pts l))] => some ⟨True, [.s (.bool (convB l))]⟩
  | _ => none
def sig_spec_ConvexValid : FuncId → List AV → Option Sg := sigL [(54, g_spec_l1In), (55, g_spec_Orientation)]
def xs_spec_ConvexValid : XS := ⟨xsigL [], ysigL []⟩
theorem sig_spec_ConvexValid_ok : SigOK sig_spec_ConvexValid := sigL_cons F_spec_l1In (sigL_cons F_spec_Orientation sigL_nil)
theorem xs_spec_ConvexValid_ok : XSigOK xs_spec_ConvexValid := ⟨xsigL_nil, ysigL_nil⟩
theorem V_spec_ConvexValid (l : List Pt) : ((true = true) ∧ ((True) ∧ True) ∧ (true = true) ∧ ((True) ∧ (True) ∧ (True) ∧ True) ∧ (true = true) ∧ ((True) ∧ ((True)) ∧ (True) ∧ True) ∧ ((bnot (inB (ilen l) (3 : Int) (8 : Int))) = true → ((true = true) ∧ ((True) ∧ True) ∧ ((false : Bool) = (convB l)) ∧ True)) ∧ ((bnot (inB (ilen l) (3 : Int) (8 : Int))) = false → ((true = true) ∧ ((True) ∧ True) ∧ ∃ (I1 : List GV → Prop) (μ1 : List GV → Nat), (((true = true) ∧ (((false : Bool) = false) ∧ (((0 : Int) : Int) = (0 : Int)) ∧ (((ilen l) : Int) = (ilen l)) ∧ (((inB (ilen l) (3 : Int) (8 : Int)) : Bool) = (inB (ilen l) (3 : Int) (8 : Int))) ∧ (((bnot (inB (ilen l) (3 : Int) (8 : Int))) : Bool) = (bnot (inB (ilen l) (3 : Int) (8 : Int)))) ∧ ((Cont.pts l) = (Cont.pts l)) ∧ (((ilen l) : Int) = (ilen l)) ∧ (((ilen l) : Int) = (ilen l)) ∧ ((Cont.pts l) = (Cont.pts l)) ∧ True) ∧ (True)) ∧ (([GK.int, GK.bool] : List GK) = ([GK.int, GK.bool] : List GK)) ∧ I1 [GV.int (0 : Int), GV.bool false]) ∧ (∀ i1_0 : Int, ∀ b1_1 : Bool, I1 [GV.int i1_0, GV.bool b1_1] → ((true = true) ∧ ((True) ∧ (True) ∧ (True) ∧ True) ∧ ((ilt i1_0 (ilen l)) = true → ((true = true) ∧ ((True) ∧ True) ∧ ∃ (I2 : List GV → Prop) (μ2 : List GV → Nat), (((true = true) ∧ (((b1_1 : Bool) = b1_1) ∧ (((0 : Int) : Int) = (0 : Int)) ∧ ((i1_0 : Int) = i1_0) ∧ (((ilen l) : Int) = (ilen l)) ∧ (((ilt i1_0 (ilen l)) : Bool) = (ilt i1_0 (ilen l))) ∧ ((i1_0 : Int) = i1_0) ∧ (((ilen l) : Int) = (ilen l)) ∧ (((inB (ilen l) (3 : Int) (8 : Int)) : Bool) = (inB (ilen l) (3 : Int) (8 : Int))) ∧ (((bnot (inB (ilen l) (3 : Int) (8 : Int))) : Bool) = (bnot (inB (ilen l) (3 : Int) (8 : Int)))) ∧ ((Cont.pts l) = (Cont.pts l)) ∧ (((ilen l) : Int) = (ilen l)) ∧ (((ilen l) : Int) = (ilen l)) ∧ ((Cont.pts l) = (Cont.pts l)) ∧ True) ∧ (True)) ∧ (([GK.int, GK.bool] : List GK) = ([GK.int, GK.bool] : List GK)) ∧ I2 [GV.int (0 : Int), GV.bool b1_1]) ∧ (∀ i2_0 : Int, ∀ b2_1 : Bool, I2 [GV.int i2_0, GV.bool b2_1] → ((true = true) ∧ ((True) ∧ (True) ∧ (True) ∧ True) ∧ ((ilt i2_0 (ilen l)) = true → ((true = true) ∧ ((True) ∧ (True) ∧ (True) ∧ (True) ∧ (NIs (bnot (ieq i2_0 i1_0)) true → True) ∧ (NIs (bnot (ieq i2_0 i1_0)) true → True) ∧ (NIs (bnot (ieq i2_0 i1_0)) true → True) ∧ (NIs (bnot (ieq i2_0 i1_0)) true → True) ∧ (NIs (bnot (ieq i2_0 i1_0)) true → NNe (ilen l) 0) ∧ (NIs (bnot (ieq i2_0 i1_0)) true → True) ∧ (True) ∧ (True) ∧ (NIs (bite (bnot (ieq i2_0 i1_0)) (bnot (ieq i2_0 (irem (iadd i1_0 (1 : Int)) (ilen l)))) false) true → True) ∧ (NIs (bite (bnot (ieq i2_0 i1_0)) (bnot (ieq i2_0 (irem (iadd i1_0 (1 : Int)) (ilen l)))) false) true → True) ∧ (NIs (bite (bnot (ieq i2_0 i1_0)) (bnot (ieq i2_0 (irem (iadd i1_0 (1 : Int)) (ilen l)))) false) true → (NLe 0 i1_0 ∧ NLt i1_0 (ilen l))) ∧ (NIs (bite (bnot (ieq i2_0 i1_0)) (bnot (ieq i2_0 (irem (iadd i1_0 (1 : Int)) (ilen l)))) false) true → True) ∧ (NIs (bite (bnot (ieq i2_0 i1_0)) (bnot (ieq i2_0 (irem (iadd i1_0 (1 : Int)) (ilen l)))) false) true → True) ∧ (NIs (bite (bnot (ieq i2_0 i1_0)) (bnot (ieq i2_0 (irem (iadd i1_0 (1 : Int)) (ilen l)))) false) true → True) ∧ (NIs (bite (bnot (ieq i2_0 i1_0)) (bnot (ieq i2_0 (irem (iadd i1_0 (1 : Int)) (ilen l)))) false) true → True) ∧ (NIs (bite (bnot (ieq i2_0 i1_0)) (bnot (ieq i2_0 (irem (iadd i1_0 (1 : Int)) (ilen l)))) false) true → True) ∧ (NIs (bite (bnot (ieq i2_0 i1_0)) (bnot (ieq i2_0 (irem (iadd i1_0 (1 : Int)) (ilen l)))) false) true → NNe (ilen l) 0) ∧ (NIs (bite (bnot (ieq i2_0 i1_0)) (bnot (ieq i2_0 (irem (iadd i1_0 (1 : Int)) (ilen l)))) false) true → (NLe 0 (irem (iadd i1_0 (1 : Int)) (ilen l)) ∧ NLt (irem (iadd i1_0 (1 : Int)) (ilen l)) (ilen l))) ∧ (NIs (bite (bnot (ieq i2_0 i1_0)) (bnot (ieq i2_0 (irem (iadd i1_0 (1 : Int)) (ilen l)))) false) true → True) ∧ (NIs (bite (bnot (ieq i2_0 i1_0)) (bnot (ieq i2_0 (irem (iadd i1_0 (1 : Int)) (ilen l)))) false) true → True) ∧ (NIs (bite (bnot (ieq i2_0 i1_0)) (bnot (ieq i2_0 (irem (iadd i1_0 (1 : Int)) (ilen l)))) false) true → True) ∧ (NIs (bite (bnot (ieq i2_0 i1_0)) (bnot (ieq i2_0 (irem (iadd i1_0 (1 : Int)) (ilen l)))) false) true → (NLe 0 i2_0 ∧ NLt i2_0 (ilen l))) ∧ (NIs (bite (bnot (ieq i2_0 i1_0)) (bnot (ieq i2_0 (irem (iadd i1_0 (1 : Int)) (ilen l)))) false) true → True) ∧ (NIs (bite (bnot (ieq i2_0 i1_0)) (bnot (ieq i2_0 (irem (iadd i1_0 (1 : Int)) (ilen l)))) false) true → (True)) ∧ (NIs (bite (bnot (ieq i2_0 i1_0)) (bnot (ieq i2_0 (irem (iadd i1_0 (1 : Int)) (ilen l)))) false) true → True) ∧ (True) ∧ True) ∧ ((bite (bite (bnot (ieq i2_0 i1_0)) (bnot (ieq i2_0 (irem (iadd i1_0 (1 : Int)) (ilen l)))) false) (bnot (ieq (orB (getx l i1_0) (gety l i1_0) (getx l (irem (iadd i1_0 (1 : Int)) (ilen l))) (gety l (irem (iadd i1_0 (1 : Int)) (ilen l))) (getx l i2_0) (gety l i2_0)) (1 : Int))) false) = true → ((true = true) ∧ ((True) ∧ True) ∧ ((false : Bool) = (convB l)) ∧ True)) ∧ ((bite (bite (bnot (ieq i2_0 i1_0)) (bnot (ieq i2_0 (irem (iadd i1_0 (1 : Int)) (ilen l)))) false) (bnot (ieq (orB (getx l i1_0) (gety l i1_0) (getx l (irem (iadd i1_0 (1 : Int)) (ilen l))) (gety l (irem (iadd i1_0 (1 : Int)) (ilen l))) (getx l i2_0) (gety l i2_0)) (1 : Int))) false) = false → ((true = true) ∧ ((True) ∧ (True) ∧ (True) ∧ True) ∧ ((true = true) ∧ (((b2_1 : Bool) = b2_1) ∧ (((iadd i2_0 (1 : Int)) : Int) = (iadd i2_0 (1 : Int))) ∧ ((i1_0 : Int) = i1_0) ∧ (((ilen l) : Int) = (ilen l)) ∧ (((ilt i1_0 (ilen l)) : Bool) = (ilt i1_0 (ilen l))) ∧ ((i1_0 : Int) = i1_0) ∧ (((ilen l) : Int) = (ilen l)) ∧ (((inB (ilen l) (3 : Int) (8 : Int)) : Bool) = (inB (ilen l) (3 : Int) (8 : Int))) ∧ (((bnot (inB (ilen l) (3 : Int) (8 : Int))) : Bool) = (bnot (inB (ilen l) (3 : Int) (8 : Int)))) ∧ ((Cont.pts l) = (Cont.pts l)) ∧ (((ilen l) : Int) = (ilen l)) ∧ (((ilen l) : Int) = (ilen l)) ∧ ((Cont.pts l) = (Cont.pts l)) ∧ True) ∧ (True)) ∧ ((([GK.int, GK.bool] : List GK) = ([GK.int, GK.bool] : List GK)) ∧ I2 [GV.int (iadd i2_0 (1 : Int)), GV.bool b2_1] ∧ μ2 [GV.int (iadd i2_0 (1 : Int)), GV.bool b2_1] < μ2 [GV.int i2_0, GV.bool b2_1]))))) ∧ ((ilt i2_0 (ilen l)) = false → ((true = true) ∧ ((True) ∧ (True) ∧ (True) ∧ True) ∧ ((true = true) ∧ (((b2_1 : Bool) = b2_1) ∧ (((iadd i1_0 (1 : Int)) : Int) = (iadd i1_0 (1 : Int))) ∧ (((ilen l) : Int) = (ilen l)) ∧ (((inB (ilen l) (3 : Int) (8 : Int)) : Bool) = (inB (ilen l) (3 : Int) (8 : Int))) ∧ (((bnot (inB (ilen l) (3 : Int) (8 : Int))) : Bool) = (bnot (inB (ilen l) (3 : Int) (8 : Int)))) ∧ ((Cont.pts l) = (Cont.pts l)) ∧ (((ilen l) : Int) = (ilen l)) ∧ (((ilen l) : Int) = (ilen l)) ∧ ((Cont.pts l) = (Cont.pts l)) ∧ True) ∧ (True)) ∧ ((([GK.int, GK.bool] : List GK) = ([GK.int, GK.bool] : List GK)) ∧ I1 [GV.int (iadd i1_0 (1 : Int)), GV.bool b2_1] ∧ μ1 [GV.int (iadd i1_0 (1 : Int)), GV.bool b2_1] < μ1 [GV.int i1_0, GV.bool b1_1]))))))) ∧ ((ilt i1_0 (ilen l)) = false → ((true = true) ∧ ((True) ∧ True) ∧ ((true : Bool) = (convB l)) ∧ True))))))) = ev sig_spec_ConvexValid xs_spec_ConvexValid Try.f16.ntmps (fun b => if b == 0 then [.v 4, .v 2] else if b == 2 then [.v 5, .v 2] else []) (codeOf Try.f16) 0 (initS [.s (.view (.pts l))]) (retK Try.f16.results.toList [.s (.bool (convB l))]) := by kernel_rfl
set_option maxHeartbeats 400000 in
theorem F_spec_ConvexValid : FunOK 16 g_spec_ConvexValid := by
  refine fun_F (by kernel_rfl) Try.func16 rfl (by kernel_rfl) sig_spec_ConvexValid_ok xs_spec_ConvexValid_ok ?_
  intro avs sg h hn hl
  unfold g_spec_ConvexValid at h
  split at h
  · rename_i l
    injection h with h; subst h
    refine ⟨by kernel_rfl, fun b => if b == 0 then [.v 4, .v 2] else if b == 2 then [.v 5, .v 2] else [], Eq.mp (V_spec_ConvexValid l) ?_⟩
    simp only [true_and, and_true, implies_true, and_self, forall_const, true_implies, lenA, lenL, SV.lenOK, Cont.lenOK] at hn hl ⊢
    simp only [← convS_eq]
    have h0 := ilen_0 l
    simp only [ilt_t, ilt_f, ile_t, ile_f, ieq_t, ieq_f, bnot_e, band_e, bite_and, bite_or, NLt_e, NLe_e, NNe_e, NIs_e, imax_e, imin_e, irem_e, Bool.not_eq_true', Bool.not_eq_false', Bool.and_eq_true, Bool.or_eq_true, Bool.or_eq_false_iff, Bool.and_eq_false_iff, Cont.pts.injEq, Cont.ints.injEq, Cont.bools.injEq, Cont.ptss.injEq, Cont.intss.injEq, Cont.boolss.injEq, true_and, and_true, implies_true]
    refine ⟨?_, fun hv1 => ?_⟩
    · intro h; simp [convS, h]
    · have hlen := inB_true hv1
      refine ⟨fun | [.int k, .bool _] => 0 ≤ k ∧ k ≤ ilen l ∧ (∀ i, 0 ≤ i → i < k → allN (ilen l) (convF l i) = true) | _ => False, fun | [.int k, .bool _] => (ilen l - k).toNat | _ => 0, ?_, ?_⟩
      · exact ⟨Int.le_refl 0, h0, fun j h0 h1 => absurd h1 (by omega)⟩
      · rintro k b ⟨hk0, hk1, hk⟩
        simp only [ilt_t, ilt_f, ile_t, ile_f, ieq_t, ieq_f, bnot_e, band_e, bite_and, bite_or, NLt_e, NLe_e, NNe_e, NIs_e, imax_e, imin_e, irem_e, Bool.not_eq_true', Bool.not_eq_false', Bool.and_eq_true, Bool.or_eq_true, Bool.or_eq_false_iff, Bool.and_eq_false_iff, Cont.pts.injEq, Cont.ints.injEq, Cont.bools.injEq, Cont.ptss.injEq, Cont.intss.injEq, Cont.boolss.injEq, true_and, and_true, implies_true]
        refine ⟨fun hkn => ?_, fun hkn => ?_⟩
        · have e1 := iadd_1 hk0 hkn hl
          obtain ⟨n0, n1, _⟩ := nx_in hk0 hkn
          have e2 : (k + 1).tmod (ilen l) = nx l k := rfl
          simp only [e1, e2]
          refine ⟨fun | [.int j, .bool _] => 0 ≤ j ∧ j ≤ ilen l ∧ (∀ i, 0 ≤ i → i < j → convF l k i = true) | _ => False, fun | [.int j, .bool _] => (ilen l - j).toNat | _ => 0, ?_, ?_⟩
          · exact ⟨Int.le_refl 0, h0, fun j h0 h1 => absurd h1 (by omega)⟩
          · rintro j b ⟨hj0, hj1, hj⟩
            simp only [ilt_t, ilt_f, ile_t, ile_f, ieq_t, ieq_f, bnot_e, band_e, bite_and, bite_or, NLt_e, NLe_e, NNe_e, NIs_e, imax_e, imin_e, irem_e, Bool.not_eq_true', Bool.not_eq_false', Bool.and_eq_true, Bool.or_eq_true, Bool.or_eq_false_iff, Bool.and_eq_false_iff, Cont.pts.injEq, Cont.ints.injEq, Cont.bools.injEq, Cont.ptss.injEq, Cont.intss.injEq, Cont.boolss.injEq, true_and, and_true, implies_true]
            refine ⟨fun hjn => ⟨?_, fun hx => ?_, fun hx => ?_⟩, fun hjn => ?_⟩
            · exact ⟨fun _ => by omega, fun _ => ⟨hk0, hkn⟩, fun _ => by omega, fun _ => ⟨n0, n1⟩, fun _ => ⟨hj0, hjn⟩⟩
            · have hE : convF l k j = false := by
                unfold convF orI
                simp only [decide_eq_false_iff_not]
                omega
              unfold convS
              rw [allN_no k hk0 hkn (allN_no j hj0 hjn hE)]
              simp
            · have hE : convF l k j = true := by
                unfold convF orI
                simp only [decide_eq_true_eq]
                omega
              rw [iadd_1 hj0 hjn hl]
              exact ⟨⟨by omega, by omega, allN_up hj hE⟩, by omega⟩
            · exact ⟨⟨by omega, by omega, allN_up hk (allN_mk fun i h0 h1 => hj i h0 (by omega))⟩, by omega⟩
        · unfold convS
          rw [hv1, allN_mk fun i h0 h1 => hk i h0 (by omega)]
          rfl
  · cases h
def g_spec_l9Near : List AV → Option Sg
  | [.agg [.int p1, .int p2]] => some ⟨True, [.s (.bool (nearB p1 p2))]⟩
  | _ => none
def sig_spec_l9Near : FuncId → List AV → Option Sg := sigL [(54, g_spec_l1In)]
def xs_spec_l9Near : XS := ⟨xsigL [], ysigL []⟩
theorem sig_spec_l9Near_ok : SigOK sig_spec_l9Near := sigL_cons F_spec_l1In sigL_nil
theorem xs_spec_l9Near_ok : XSigOK xs_spec_l9Near := ⟨xsigL_nil, ysigL_nil⟩
theorem V_spec_l9Near (p1 : Int) (p2 : Int) : ((true = true) ∧ ((True) ∧ (True) ∧ True) ∧ (true = true) ∧ ((True) ∧ (True) ∧ ((True)) ∧ (True) ∧ (NIs (inB p1 (-1000 : Int) (1000 : Int)) true → True) ∧ (NIs (inB p1 (-1000 : Int) (1000 : Int)) true → True) ∧ (NIs (inB p1 (-1000 : Int) (1000 : Int)) true → (True)) ∧ (True) ∧ (True) ∧ True) ∧ (((bite (inB p1 (-1000 : Int) (1000 : Int)) (inB p2 (-1000 : Int) (1000 : Int)) false) : Bool) = (nearB p1 p2)) ∧ True) = ev sig_spec_l9Near xs_spec_l9Near Try.f74.ntmps (fun b => []) (codeOf Try.f74) 0 (initS [.agg [.int p1, .int p2]]) (retK Try.f74.results.toList [.s (.bool (nearB p1 p2))]) := by kernel_rfl
set_option maxHeartbeats 400000 in
theorem F_spec_l9Near : FunOK 74 g_spec_l9Near := by
  refine fun_F (by kernel_rfl) Try.func74 rfl (by kernel_rfl) sig_spec_l9Near_ok xs_spec_l9Near_ok ?_
  intro avs sg h hn hl
  unfold g_spec_l9Near at h
  split at h
  · rename_i p1 p2
    injection h with h; subst h
    refine ⟨by kernel_rfl, fun b => [], Eq.mp (V_spec_l9Near p1 p2) ?_⟩
    simp only [true_and, and_true, implies_true, and_self, forall_const, true_implies, lenA, lenL, SV.lenOK, Cont.lenOK] at hn hl ⊢
    simp only [ilt_t, ilt_f, ile_t, ile_f, ieq_t, ieq_f, bnot_e, band_e, bite_and, bite_or, NLt_e, NLe_e, NNe_e, NIs_e, imax_e, imin_e, irem_e, Bool.not_eq_true', Bool.not_eq_false', Bool.and_eq_true, Bool.or_eq_true, Bool.or_eq_false_iff, Bool.and_eq_false_iff, Cont.pts.injEq, Cont.ints.injEq, Cont.bools.injEq, Cont.ptss.injEq, Cont.intss.injEq, Cont.boolss.injEq, true_and, and_true, implies_true, nearB]
  · cases h
def g_spec_l9Square : List AV → Option Sg
  | [.agg [.int p1, .int p2], .agg [.int a1, .int a2], .agg [.int b1, .int b2]] => some ⟨nearB p1 p2 = true ∧ nearB a1 a2 = true ∧ nearB b1 b2 = true, [.s (.int (ssqE p1 p2 a1 a2 b1 b2))]⟩
  | _ => none
def sig_spec_l9Square : FuncId → List AV → Option Sg := sigL [(87, g_spec_l2Square), (57, g_spec_l2Cross)]
def xs_spec_l9Square : XS := ⟨xsigL [], ysigL []⟩
theorem sig_spec_l9Square_ok : SigOK sig_spec_l9Square := sigL_cons F_spec_l2Square (sigL_cons F_spec_l2Cross sigL_nil)
theorem xs_spec_l9Square_ok : XSigOK xs_spec_l9Square := ⟨xsigL_nil, ysigL_nil⟩
theorem V_spec_l9Square (p1 : Int) (p2 : Int) (a1 : Int) (a2 : Int) (b1 : Int) (b2 : Int) : ((true = true) ∧ ((True) ∧ (True) ∧ (True) ∧ (True) ∧ True) ∧ (true = true) ∧ ((True) ∧ (True) ∧ (True) ∧ (True) ∧ (True) ∧ (True) ∧ True) ∧ (true = true) ∧ ((True) ∧ (True) ∧ (True) ∧ (True) ∧ (True) ∧ (True) ∧ True) ∧ (true = true) ∧ ((True) ∧ (True) ∧ (True) ∧ (True) ∧ (True) ∧ (True) ∧ (True) ∧ (True) ∧ True) ∧ (true = true) ∧ ((True) ∧ (True) ∧ (True) ∧ (True) ∧ (True) ∧ (True) ∧ (True) ∧ (True) ∧ (True) ∧ (True) ∧ (True) ∧ (True) ∧ (True) ∧ (True) ∧ (True) ∧ (True) ∧ True) ∧ (true = true) ∧ ((True) ∧ (True) ∧ True) ∧ ((ile (iadd (imul (isub p1 a1) (isub b1 a1)) (imul (isub p2 a2) (isub b2 a2))) (0 : Int)) = true → ((true = true) ∧ ((True) ∧ (True) ∧ ((vB p1 p2 = true ∧ vB a1 a2 = true)) ∧ (True) ∧ True) ∧ (((sqE p1 p2 a1 a2) : Int) = (ssqE p1 p2 a1 a2 b1 b2)) ∧ True)) ∧ ((ile (iadd (imul (isub p1 a1) (isub b1 a1)) (imul (isub p2 a2) (isub b2 a2))) (0 : Int)) = false → ((true = true) ∧ ((True) ∧ (True) ∧ (True) ∧ True) ∧ ((ile (iadd (imul (isub b1 a1) (isub b1 a1)) (imul (isub b2 a2) (isub b2 a2))) (iadd (imul (isub p1 a1) (isub b1 a1)) (imul (isub p2 a2) (isub b2 a2)))) = true → ((true = true) ∧ ((True) ∧ (True) ∧ ((vB p1 p2 = true ∧ vB b1 b2 = true)) ∧ (True) ∧ True) ∧ (((sqE p1 p2 b1 b2) : Int) = (ssqE p1 p2 a1 a2 b1 b2)) ∧ True)) ∧ ((ile (iadd (imul (isub b1 a1) (isub b1 a1)) (imul (isub b2 a2) (isub b2 a2))) (iadd (imul (isub p1 a1) (isub b1 a1)) (imul (isub p2 a2) (isub b2 a2)))) = false → ((true = true) ∧ ((True) ∧ (True) ∧ (True) ∧ ((True)) ∧ (True) ∧ True) ∧ (true = true) ∧ ((True) ∧ (True) ∧ (True) ∧ (True) ∧ (NNe (iadd (imul (isub b1 a1) (isub b1 a1)) (imul (isub b2 a2) (isub b2 a2))) 0) ∧ (True) ∧ True) ∧ (((iquo (imul (crW a1 a2 b1 b2 p1 p2) (crW a1 a2 b1 b2 p1 p2)) (iadd (imul (isub b1 a1) (isub b1 a1)) (imul (isub b2 a2) (isub b2 a2)))) : Int) = (ssqE p1 p2 a1 a2 b1 b2)) ∧ True))))) = ev sig_spec_l9Square xs_spec_l9Square Try.f96.ntmps (fun b => []) (codeOf Try.f96) 0 (initS [.agg [.int p1, .int p2], .agg [.int a1, .int a2], .agg [.int b1, .int b2]]) (retK Try.f96.results.toList [.s (.int (ssqE p1 p2 a1 a2 b1 b2))]) := by kernel_rfl
set_option maxHeartbeats 400000 in
theorem F_spec_l9Square : FunOK 96 g_spec_l9Square := by
  refine fun_F (by kernel_rfl) Try.func96 rfl (by kernel_rfl) sig_spec_l9Square_ok xs_spec_l9Square_ok ?_
  intro avs sg h hn hl
  unfold g_spec_l9Square at h
  split at h
  · rename_i p1 p2 a1 a2 b1 b2
    injection h with h; subst h
    refine ⟨by kernel_rfl, fun b => [], Eq.mp (V_spec_l9Square p1 p2 a1 a2 b1 b2) ?_⟩
    simp only [true_and, and_true, implies_true, and_self, forall_const, true_implies, lenA, lenL, SV.lenOK, Cont.lenOK] at hn hl ⊢
    obtain ⟨np, na, nb⟩ := hn
    have hc := crs_bd na nb np
    have hsq := sq_w na nb
    have sq := sq_w nb na
    have hcm := sqE_comm b1 b2 a1 a2
    rw [hcm] at sq
    simp only [ilt_t, ilt_f, ile_t, ile_f, ieq_t, ieq_f, bnot_e, band_e, bite_and, bite_or, NLt_e, NLe_e, NNe_e, NIs_e, imax_e, imin_e, irem_e, Bool.not_eq_true', Bool.not_eq_false', Bool.and_eq_true, Bool.or_eq_true, Bool.or_eq_false_iff, Bool.and_eq_false_iff, Cont.pts.injEq, Cont.ints.injEq, Cont.bools.injEq, Cont.ptss.injEq, Cont.intss.injEq, Cont.boolss.injEq, true_and, and_true, implies_true, np, na, nb, near_v np, near_v na, near_v nb, crW_e (near_v na) (near_v nb) (near_v np), al_w np na nb, sq.1, mul4 hc hc, true_implies, forall_const]
    refine ⟨fun h => by unfold ssqE; rw [if_pos h], fun h => ⟨fun h2 => by unfold ssqE; rw [if_neg (by omega), if_pos h2], fun h2 => ⟨by omega, ?_⟩⟩⟩
    unfold ssqE
    rw [if_neg (by omega), if_neg (by omega)]
    have := mul4b hc hc
    exact iquo_e (by omega) (by omega) (by omega)
  · cases h
def g_spec_SegmentSquare : List AV → Option Sg
  | [.agg [.int p1, .int p2], .agg [.int a1, .int a2], .agg [.int b1, .int b2]] => some ⟨True, [.s (.int (ssQ p1 p2 a1 a2 b1 b2))]⟩
  | _ => none
def sig_spec_SegmentSquare : FuncId → List AV → Option Sg := sigL [(74, g_spec_l9Near), (96, g_spec_l9Square)]
def xs_spec_SegmentSquare : XS := ⟨xsigL [], ysigL []⟩
theorem sig_spec_SegmentSquare_ok : SigOK sig_spec_SegmentSquare := sigL_cons F_spec_l9Near (sigL_cons F_spec_l9Square sigL_nil)
theorem xs_spec_SegmentSquare_ok : XSigOK xs_spec_SegmentSquare := ⟨xsigL_nil, ysigL_nil⟩
theorem V_spec_SegmentSquare (p1 : Int) (p2 : Int) (a1 : Int) (a2 : Int) (b1 : Int) (b2 : Int) : ((true = true) ∧ ((True) ∧ (True) ∧ (True) ∧ (True) ∧ True) ∧ (true = true) ∧ ((True) ∧ ((True)) ∧ (True) ∧ (True) ∧ (NIs (bnot (nearB p1 p2)) false → True) ∧ (NIs (bnot (nearB p1 p2)) false → (True)) ∧ (NIs (bnot (nearB p1 p2)) false → True) ∧ (True) ∧ (True) ∧ (NIs (bite (bnot (nearB p1 p2)) true (bnot (nearB a1 a2))) false → True) ∧ (NIs (bite (bnot (nearB p1 p2)) true (bnot (nearB a1 a2))) false → (True)) ∧ (NIs (bite (bnot (nearB p1 p2)) true (bnot (nearB a1 a2))) false → True) ∧ (True) ∧ True) ∧ ((bite (bite (bnot (nearB p1 p2)) true (bnot (nearB a1 a2))) true (bnot (nearB b1 b2))) = true → ((true = true) ∧ ((True) ∧ True) ∧ (((-1 : Int) : Int) = (ssQ p1 p2 a1 a2 b1 b2)) ∧ True)) ∧ ((bite (bite (bnot (nearB p1 p2)) true (bnot (nearB a1 a2))) true (bnot (nearB b1 b2))) = false → ((true = true) ∧ ((True) ∧ (True) ∧ (True) ∧ ((nearB p1 p2 = true ∧ nearB a1 a2 = true ∧ nearB b1 b2 = true)) ∧ (True) ∧ True) ∧ (((ssqE p1 p2 a1 a2 b1 b2) : Int) = (ssQ p1 p2 a1 a2 b1 b2)) ∧ True))) = ev sig_spec_SegmentSquare xs_spec_SegmentSquare Try.f75.ntmps (fun b => []) (codeOf Try.f75) 0 (initS [.agg [.int p1, .int p2], .agg [.int a1, .int a2], .agg [.int b1, .int b2]]) (retK Try.f75.results.toList [.s (.int (ssQ p1 p2 a1 a2 b1 b2))]) := by kernel_rfl
set_option maxHeartbeats 400000 in
theorem F_spec_SegmentSquare : FunOK 75 g_spec_SegmentSquare := by
  refine fun_F (by kernel_rfl) Try.func75 rfl (by kernel_rfl) sig_spec_SegmentSquare_ok xs_spec_SegmentSquare_ok ?_
  intro avs sg h hn hl
  unfold g_spec_SegmentSquare at h
  split at h
  · rename_i p1 p2 a1 a2 b1 b2
    injection h with h; subst h
    refine ⟨by kernel_rfl, fun b => [], Eq.mp (V_spec_SegmentSquare p1 p2 a1 a2 b1 b2) ?_⟩
    simp only [true_and, and_true, implies_true, and_self, forall_const, true_implies, lenA, lenL, SV.lenOK, Cont.lenOK] at hn hl ⊢
    simp only [ilt_t, ilt_f, ile_t, ile_f, ieq_t, ieq_f, bnot_e, band_e, bite_and, bite_or, NLt_e, NLe_e, NNe_e, NIs_e, imax_e, imin_e, irem_e, Bool.not_eq_true', Bool.not_eq_false', Bool.and_eq_true, Bool.or_eq_true, Bool.or_eq_false_iff, Bool.and_eq_false_iff, Cont.pts.injEq, Cont.ints.injEq, Cont.bools.injEq, Cont.ptss.injEq, Cont.intss.injEq, Cont.boolss.injEq, true_and, and_true, implies_true]
    unfold ssQ
    cases h1 : nearB p1 p2 <;> cases h2 : nearB a1 a2 <;> cases h3 : nearB b1 b2 <;> simp
  · cases h
def g_spec_l8Inside : List AV → Option Sg
  | [.s (.view (.pts l)), .agg [.int p1, .int p2]] => some ⟨True, [.s (.bool (insB l p1 p2))]⟩
  | _ => none
def sig_spec_l8Inside : FuncId → List AV → Option Sg := sigL [(57, g_spec_l2Cross)]
def xs_spec_l8Inside : XS := ⟨xsigL [], ysigL []⟩
theorem sig_spec_l8Inside_ok : SigOK sig_spec_l8Inside := sigL_cons F_spec_l2Cross sigL_nil
theorem xs_spec_l8Inside_ok : XSigOK xs_spec_l8Inside := ⟨xsigL_nil, ysigL_nil⟩
theorem V_spec_l8Inside (l : List Pt) (p1 : Int) (p2 : Int) : ((true = true) ∧ ((True) ∧ (True) ∧ True) ∧ (true = true) ∧ ((True) ∧ True) ∧ ∃ (I1 : List GV → Prop) (μ1 : List GV → Nat), (((true = true) ∧ (((false : Bool) = false) ∧ (((0 : Int) : Int) = (0 : Int)) ∧ (true = true) ∧ ((Cont.pts l) = (Cont.pts l)) ∧ (((p1 : Int) = p1) ∧ ((p2 : Int) = p2) ∧ True) ∧ True) ∧ ((((p1 : Int) = p1) ∧ ((p2 : Int) = p2) ∧ True) ∧ True)) ∧ (([GK.int, GK.bool] : List GK) = ([GK.int, GK.bool] : List GK)) ∧ I1 [GV.int (0 : Int), GV.bool false]) ∧ (∀ i1_0 : Int, ∀ b1_1 : Bool, I1 [GV.int i1_0, GV.bool b1_1] → ((true = true) ∧ ((True) ∧ (True) ∧ (True) ∧ (True) ∧ True) ∧ ((ilt i1_0 (ilen l)) = true → ((true = true) ∧ ((True) ∧ (True) ∧ (NLe 0 i1_0 ∧ NLt i1_0 (ilen l)) ∧ (True) ∧ (True) ∧ (True) ∧ (True) ∧ (True) ∧ (True) ∧ (NNe (ilen l) 0) ∧ (NLe 0 (irem (iadd i1_0 (1 : Int)) (ilen l)) ∧ NLt (irem (iadd i1_0 (1 : Int)) (ilen l)) (ilen l)) ∧ (True) ∧ (True) ∧ ((True)) ∧ (True) ∧ True) ∧ ((ilt (crW (getx l i1_0) (gety l i1_0) (getx l (irem (iadd i1_0 (1 : Int)) (ilen l))) (gety l (irem (iadd i1_0 (1 : Int)) (ilen l))) p1 p2) (0 : Int)) = true → ((true = true) ∧ ((True) ∧ True) ∧ ((false : Bool) = (insB l p1 p2)) ∧ True)) ∧ ((ilt (crW (getx l i1_0) (gety l i1_0) (getx l (irem (iadd i1_0 (1 : Int)) (ilen l))) (gety l (irem (iadd i1_0 (1 : Int)) (ilen l))) p1 p2) (0 : Int)) = false → ((true = true) ∧ ((True) ∧ (True) ∧ (True) ∧ True) ∧ ((true = true) ∧ (((b1_1 : Bool) = b1_1) ∧ (((iadd i1_0 (1 : Int)) : Int) = (iadd i1_0 (1 : Int))) ∧ (true = true) ∧ ((Cont.pts l) = (Cont.pts l)) ∧ (((p1 : Int) = p1) ∧ ((p2 : Int) = p2) ∧ True) ∧ True) ∧ ((((p1 : Int) = p1) ∧ ((p2 : Int) = p2) ∧ True) ∧ True)) ∧ ((([GK.int, GK.bool] : List GK) = ([GK.int, GK.bool] : List GK)) ∧ I1 [GV.int (iadd i1_0 (1 : Int)), GV.bool b1_1] ∧ μ1 [GV.int (iadd i1_0 (1 : Int)), GV.bool b1_1] < μ1 [GV.int i1_0, GV.bool b1_1]))))) ∧ ((ilt i1_0 (ilen l)) = false → ((true = true) ∧ ((True) ∧ True) ∧ ((true : Bool) = (insB l p1 p2)) ∧ True))))) = ev sig_spec_l8Inside xs_spec_l8Inside Try.f64.ntmps (fun b => if b == 0 then [.v 5, .v 4] else []) (codeOf Try.f64) 0 (initS [.s (.view (.pts l)), .agg [.int p1, .int p2]]) (retK Try.f64.results.toList [.s (.bool (insB l p1 p2))]) := by kernel_rfl
set_option maxHeartbeats 400000 in
theorem F_spec_l8Inside : FunOK 64 g_spec_l8Inside := by
  refine fun_F (by kernel_rfl) Try.func64 rfl (by kernel_rfl) sig_spec_l8Inside_ok xs_spec_l8Inside_ok ?_
  intro avs sg h hn hl
  unfold g_spec_l8Inside at h
  split at h
  · rename_i l p1 p2
    injection h with h; subst h
    refine ⟨by kernel_rfl, fun b => if b == 0 then [.v 5, .v 4] else [], Eq.mp (V_spec_l8Inside l p1 p2) ?_⟩
    simp only [true_and, and_true, implies_true, and_self, forall_const, true_implies, lenA, lenL, SV.lenOK, Cont.lenOK] at hn hl ⊢
    have h0 := ilen_0 l
    simp only [ilt_t, ilt_f, ile_t, ile_f, ieq_t, ieq_f, bnot_e, band_e, bite_and, bite_or, NLt_e, NLe_e, NNe_e, NIs_e, imax_e, imin_e, irem_e, Bool.not_eq_true', Bool.not_eq_false', Bool.and_eq_true, Bool.or_eq_true, Bool.or_eq_false_iff, Bool.and_eq_false_iff, Cont.pts.injEq, Cont.ints.injEq, Cont.bools.injEq, Cont.ptss.injEq, Cont.intss.injEq, Cont.boolss.injEq, true_and, and_true, implies_true]
    refine ⟨fun | .int k :: _ => 0 ≤ k ∧ k ≤ ilen l ∧ (∀ i, 0 ≤ i → i < k → insE l p1 p2 i = true) | _ => False, fun | .int k :: _ => (ilen l - k).toNat | _ => 0, ?_, ?_⟩
    · exact ⟨Int.le_refl 0, h0, fun j h0 h1 => absurd h1 (by omega)⟩
    · rintro k _ ⟨hk0, hk1, hk⟩
      simp only [ilt_t, ilt_f, ile_t, ile_f, ieq_t, ieq_f, bnot_e, band_e, bite_and, bite_or, NLt_e, NLe_e, NNe_e, NIs_e, imax_e, imin_e, irem_e, Bool.not_eq_true', Bool.not_eq_false', Bool.and_eq_true, Bool.or_eq_true, Bool.or_eq_false_iff, Bool.and_eq_false_iff, Cont.pts.injEq, Cont.ints.injEq, Cont.bools.injEq, Cont.ptss.injEq, Cont.intss.injEq, Cont.boolss.injEq, true_and, and_true, implies_true]
      refine ⟨fun hkn => ?_, fun hkn => ?_⟩
      · have e1 := iadd_1 hk0 hkn hl
        obtain ⟨n0, n1, _⟩ := nx_in hk0 hkn
        have e2 : (k + 1).tmod (ilen l) = nx l k := rfl
        simp only [e1, e2]
        have hne : ilen l ≠ 0 := by omega
        refine ⟨⟨⟨hk0, hkn⟩, hne, ⟨n0, n1⟩⟩, fun hx => ?_, fun hx => ?_⟩
        · have hE : insE l p1 p2 k = false := by
            unfold insE
            simp only [decide_eq_false_iff_not]
            omega
          unfold insB
          rw [allN_no k hk0 hkn hE]
        · have hE : insE l p1 p2 k = true := by
            unfold insE
            simp only [decide_eq_true_eq]
            omega
          exact ⟨⟨by omega, by omega, allN_up hk hE⟩, by omega⟩
      · unfold insB
        rw [allN_mk fun i h0 h1 => hk i h0 (by omega)]
  · cases h
def g_spec_PolygonSquare : List AV → Option Sg
  | [.s (.view (.pts l)), .agg [.int p1, .int p2]] => some ⟨True, [.s (.int (psq l p1 p2))]⟩
  | _ => none
def sig_spec_PolygonSquare : FuncId → List AV → Option Sg := sigL [(16, g_spec_ConvexValid), (74, g_spec_l9Near), (75, g_spec_SegmentSquare), (64, g_spec_l8Inside)]
def xs_spec_PolygonSquare : XS := ⟨xsigL [], ysigL []⟩
theorem sig_spec_PolygonSquare_ok : SigOK sig_spec_PolygonSquare := sigL_cons F_spec_ConvexValid (sigL_cons F_spec_l9Near (sigL_cons F_spec_SegmentSquare (sigL_cons F_spec_l8Inside sigL_nil)))
theorem xs_spec_PolygonSquare_ok : XSigOK xs_spec_PolygonSquare := ⟨xsigL_nil, ysigL_nil⟩
theorem V_spec_PolygonSquare (l : List Pt) (p1 : Int) (p2 : Int) : ((true = true) ∧ ((True) ∧ (True) ∧ True) ∧ (true = true) ∧ ((True) ∧ ((True)) ∧ (True) ∧ (True) ∧ (NIs (bnot (convB l)) false → True) ∧ (NIs (bnot (convB l)) false → (True)) ∧ (NIs (bnot (convB l)) false → True) ∧ (True) ∧ True) ∧ ((bite (bnot (convB l)) true (bnot (nearB p1 p2))) = true → ((true = true) ∧ ((True) ∧ True) ∧ (((-1 : Int) : Int) = (psq l p1 p2)) ∧ True)) ∧ ((bite (bnot (convB l)) true (bnot (nearB p1 p2))) = false → ((true = true) ∧ ((True) ∧ True) ∧ (true = true) ∧ ((True) ∧ True) ∧ ∃ (I1 : List GV → Prop) (μ1 : List GV → Nat), (((true = true) ∧ ((((0 : Int) : Int) = (0 : Int)) ∧ (((-1 : Int) : Int) = (-1 : Int)) ∧ (((0 : Int) : Int) = (0 : Int)) ∧ ((Cont.pts l) = (Cont.pts l)) ∧ (((convB l) : Bool) = (convB l)) ∧ (((bnot (convB l)) : Bool) = (bnot (convB l))) ∧ (((bnot (convB l)) : Bool) = (bnot (convB l))) ∧ (((bite (bnot (convB l)) true (bnot (nearB p1 p2))) : Bool) = (bite (bnot (convB l)) true (bnot (nearB p1 p2)))) ∧ (true = true) ∧ ((Cont.pts l) = (Cont.pts l)) ∧ (((p1 : Int) = p1) ∧ ((p2 : Int) = p2) ∧ True) ∧ True) ∧ ((((p1 : Int) = p1) ∧ ((p2 : Int) = p2) ∧ True) ∧ True)) ∧ (([GK.int, GK.int, GK.int] : List GK) = ([GK.int, GK.int, GK.int] : List GK)) ∧ I1 [GV.int (0 : Int), GV.int (-1 : Int), GV.int (0 : Int)]) ∧ (∀ i1_0 : Int, ∀ i1_1 : Int, ∀ i1_2 : Int, I1 [GV.int i1_0, GV.int i1_1, GV.int i1_2] → ((true = true) ∧ ((True) ∧ (True) ∧ (True) ∧ (True) ∧ True) ∧ ((ilt i1_0 (ilen l)) = true → ((true = true) ∧ ((True) ∧ (True) ∧ (True) ∧ (NLe 0 i1_0 ∧ NLt i1_0 (ilen l)) ∧ (True) ∧ (True) ∧ (True) ∧ (True) ∧ (True) ∧ (True) ∧ (NNe (ilen l) 0) ∧ (NLe 0 (irem (iadd i1_0 (1 : Int)) (ilen l)) ∧ NLt (irem (iadd i1_0 (1 : Int)) (ilen l)) (ilen l)) ∧ (True) ∧ ((True)) ∧ (True) ∧ True) ∧ (true = true) ∧ ((True) ∧ (True) ∧ True) ∧ ((ilt (ssQ p1 p2 (getx l i1_0) (gety l i1_0) (getx l (irem (iadd i1_0 (1 : Int)) (ilen l))) (gety l (irem (iadd i1_0 (1 : Int)) (ilen l)))) (0 : Int)) = true → ((true = true) ∧ ((True) ∧ True) ∧ (((-1 : Int) : Int) = (psq l p1 p2)) ∧ True)) ∧ ((ilt (ssQ p1 p2 (getx l i1_0) (gety l i1_0) (getx l (irem (iadd i1_0 (1 : Int)) (ilen l))) (gety l (irem (iadd i1_0 (1 : Int)) (ilen l)))) (0 : Int)) = false → ((true = true) ∧ ((True) ∧ (True) ∧ (True) ∧ (NIs (ilt i1_1 (0 : Int)) false → True) ∧ (NIs (ilt i1_1 (0 : Int)) false → True) ∧ (NIs (ilt i1_1 (0 : Int)) false → True) ∧ (True) ∧ True) ∧ ((bite (ilt i1_1 (0 : Int)) true (ilt (ssQ p1 p2 (getx l i1_0) (gety l i1_0) (getx l (irem (iadd i1_0 (1 : Int)) (ilen l))) (gety l (irem (iadd i1_0 (1 : Int)) (ilen l)))) i1_1)) = true → ((true = true) ∧ ((True) ∧ (True) ∧ True) ∧ (true = true) ∧ ((True) ∧ (True) ∧ (True) ∧ True) ∧ ((true = true) ∧ (((i1_2 : Int) = i1_2) ∧ (((ssQ p1 p2 (getx l i1_0) (gety l i1_0) (getx l (irem (iadd i1_0 (1 : Int)) (ilen l))) (gety l (irem (iadd i1_0 (1 : Int)) (ilen l)))) : Int) = (ssQ p1 p2 (getx l i1_0) (gety l i1_0) (getx l (irem (iadd i1_0 (1 : Int)) (ilen l))) (gety l (irem (iadd i1_0 (1 : Int)) (ilen l))))) ∧ (((iadd i1_0 (1 : Int)) : Int) = (iadd i1_0 (1 : Int))) ∧ ((Cont.pts l) = (Cont.pts l)) ∧ (((convB l) : Bool) = (convB l)) ∧ (((bnot (convB l)) : Bool) = (bnot (convB l))) ∧ (((bnot (convB l)) : Bool) = (bnot (convB l))) ∧ (((bite (bnot (convB l)) true (bnot (nearB p1 p2))) : Bool) = (bite (bnot (convB l)) true (bnot (nearB p1 p2)))) ∧ (true = true) ∧ ((Cont.pts l) = (Cont.pts l)) ∧ (((p1 : Int) = p1) ∧ ((p2 : Int) = p2) ∧ True) ∧ True) ∧ ((((p1 : Int) = p1) ∧ ((p2 : Int) = p2) ∧ True) ∧ True)) ∧ ((([GK.int, GK.int, GK.int] : List GK) = ([GK.int, GK.int, GK.int] : List GK)) ∧ I1 [GV.int (iadd i1_0 (1 : Int)), GV.int (ssQ p1 p2 (getx l i1_0) (gety l i1_0) (getx l (irem (iadd i1_0 (1 : Int)) (ilen l))) (gety l (irem (iadd i1_0 (1 : Int)) (ilen l)))), GV.int i1_2] ∧ μ1 [GV.int (iadd i1_0 (1 : Int)), GV.int (ssQ p1 p2 (getx l i1_0) (gety l i1_0) (getx l (irem (iadd i1_0 (1 : Int)) (ilen l))) (gety l (irem (iadd i1_0 (1 : Int)) (ilen l)))), GV.int i1_2] < μ1 [GV.int i1_0, GV.int i1_1, GV.int i1_2]))) ∧ ((bite (ilt i1_1 (0 : Int)) true (ilt (ssQ p1 p2 (getx l i1_0) (gety l i1_0) (getx l (irem (iadd i1_0 (1 : Int)) (ilen l))) (gety l (irem (iadd i1_0 (1 : Int)) (ilen l)))) i1_1)) = false → ((true = true) ∧ ((True) ∧ (True) ∧ (True) ∧ True) ∧ ((true = true) ∧ (((i1_2 : Int) = i1_2) ∧ ((i1_1 : Int) = i1_1) ∧ (((iadd i1_0 (1 : Int)) : Int) = (iadd i1_0 (1 : Int))) ∧ ((Cont.pts l) = (Cont.pts l)) ∧ (((convB l) : Bool) = (convB l)) ∧ (((bnot (convB l)) : Bool) = (bnot (convB l))) ∧ (((bnot (convB l)) : Bool) = (bnot (convB l))) ∧ (((bite (bnot (convB l)) true (bnot (nearB p1 p2))) : Bool) = (bite (bnot (convB l)) true (bnot (nearB p1 p2)))) ∧ (true = true) ∧ ((Cont.pts l) = (Cont.pts l)) ∧ (((p1 : Int) = p1) ∧ ((p2 : Int) = p2) ∧ True) ∧ True) ∧ ((((p1 : Int) = p1) ∧ ((p2 : Int) = p2) ∧ True) ∧ True)) ∧ ((([GK.int, GK.int, GK.int] : List GK) = ([GK.int, GK.int, GK.int] : List GK)) ∧ I1 [GV.int (iadd i1_0 (1 : Int)), GV.int i1_1, GV.int i1_2] ∧ μ1 [GV.int (iadd i1_0 (1 : Int)), GV.int i1_1, GV.int i1_2] < μ1 [GV.int i1_0, GV.int i1_1, GV.int i1_2]))))))) ∧ ((ilt i1_0 (ilen l)) = false → ((true = true) ∧ ((True) ∧ (True) ∧ ((True)) ∧ True) ∧ ((insB l p1 p2) = true → ((true = true) ∧ ((True) ∧ True) ∧ (((0 : Int) : Int) = (psq l p1 p2)) ∧ True)) ∧ ((insB l p1 p2) = false → ((true = true) ∧ ((True) ∧ (True) ∧ True) ∧ ((i1_1 : Int) = (psq l p1 p2)) ∧ True))))))))) = ev sig_spec_PolygonSquare xs_spec_PolygonSquare Try.f39.ntmps (fun b => if b == 0 then [.v 6, .v 5, .v 4] else []) (codeOf Try.f39) 0 (initS [.s (.view (.pts l)), .agg [.int p1, .int p2]]) (retK Try.f39.results.toList [.s (.int (psq l p1 p2))]) := by kernel_rfl
set_option maxHeartbeats 400000 in
theorem F_spec_PolygonSquare : FunOK 39 g_spec_PolygonSquare := by
  refine fun_F (by kernel_rfl) Try.func39 rfl (by kernel_rfl) sig_spec_PolygonSquare_ok xs_spec_PolygonSquare_ok ?_
  intro avs sg h hn hl
  unfold g_spec_PolygonSquare at h
  split at h
  · rename_i l p1 p2
    injection h with h; subst h
    refine ⟨by kernel_rfl, fun b => if b == 0 then [.v 6, .v 5, .v 4] else [], Eq.mp (V_spec_PolygonSquare l p1 p2) ?_⟩
    simp only [true_and, and_true, implies_true, and_self, forall_const, true_implies, lenA, lenL, SV.lenOK, Cont.lenOK] at hn hl ⊢
    have h0 := ilen_0 l
    simp only [ilt_t, ilt_f, ile_t, ile_f, ieq_t, ieq_f, bnot_e, band_e, bite_and, bite_or, NLt_e, NLe_e, NNe_e, NIs_e, imax_e, imin_e, irem_e, Bool.not_eq_true', Bool.not_eq_false', Bool.and_eq_true, Bool.or_eq_true, Bool.or_eq_false_iff, Bool.and_eq_false_iff, Cont.pts.injEq, Cont.ints.injEq, Cont.bools.injEq, Cont.ptss.injEq, Cont.intss.injEq, Cont.boolss.injEq, true_and, and_true, implies_true]
    refine ⟨fun h => ?_, fun h => ?_⟩
    · have : psqB l p1 p2 = false := by unfold psqB; rcases h with h | h <;> simp [h]
      unfold psq; rw [this]; rfl
    · obtain ⟨hc, hp⟩ := h
      obtain ⟨c1, c2, c3⟩ := convB_all hc
      refine ⟨fun | .int k :: .int s :: _ => 0 ≤ k ∧ k ≤ ilen l ∧ s = minF l p1 p2 k ∧ (∀ i, 0 ≤ i → i < k → nearB (getx l i) (gety l i) = true) | _ => False, fun | .int k :: _ => (ilen l - k).toNat | _ => 0, ?_, ?_⟩
      · exact ⟨Int.le_refl 0, h0, rfl, fun j h0 h1 => absurd h1 (by omega)⟩
      · rintro k s _ ⟨hk0, hk1, hs, hk⟩
        refine ⟨fun hkn => ?_, fun hkn => ?_⟩
        · have e1 := iadd_1 hk0 hkn hl
          obtain ⟨n0, n1, _⟩ := nx_in hk0 hkn
          have e2 : (k + 1).tmod (ilen l) = nx l k := rfl
          simp only [e1, e2]
          have hstep := minF_1 (l := l) (p1 := p1) (p2 := p2) hk0
          refine ⟨⟨⟨hk0, hkn⟩, by omega, ⟨n0, n1⟩⟩, fun hx => ?_, fun hx => ?_⟩
          · have hN : allN (ilen l) (fun i => nearB (getx l i) (gety l i)) = false := by
              cases a1 : nearB (getx l k) (gety l k) with
              | false => exact allN_no k hk0 hkn a1
              | true =>
                cases a2 : nearB (getx l (nx l k)) (gety l (nx l k)) with
                | false => exact allN_no _ n0 n1 a2
                | true =>
                  rw [ssQ_e hp a1 a2] at hx
                  have := ssqE_0 p1 p2 (getx l k) (gety l k) (getx l (nx l k)) (gety l (nx l k))
                  omega
            have : psqB l p1 p2 = false := by unfold psqB; rw [hN]; simp
            unfold psq; rw [this]; rfl
          · obtain ⟨_, a1, a2⟩ := ssQ_0 hx
            have hq : ssQ p1 p2 (getx l k) (gety l k) (getx l (nx l k)) (gety l (nx l k)) = psqE l p1 p2 k := ssQ_e hp a1 a2
            simp only [hq]
            refine ⟨fun hx => ?_, fun hx => ?_⟩
            · rw [← hs, if_pos hx] at hstep
              exact ⟨⟨by omega, by omega, hstep.symm, upTo hk a1⟩, by omega⟩
            · rw [← hs, if_neg (by omega)] at hstep
              exact ⟨⟨by omega, by omega, hstep.symm, upTo hk a1⟩, by omega⟩
        · have e : k = ilen l := by omega
          subst e
          have hB : psqB l p1 p2 = true := by unfold psqB; rw [hc, hp, allN_mk fun i i0 i1 => hk i i0 i1]; rfl
          refine ⟨fun hi => by unfold psq; rw [hB, hi]; rfl, fun hi => ?_⟩
          unfold psq
          rw [hB, hi, hs]; rfl
  · cases h
def degW (d : Int) : Int := irem (iadd (irem d 360) 360) 360
def g_impl_Degrees : List AV → Option Sg
  | [.s (.int d)] => some ⟨True, [.s (.int (degW d))]⟩
  | _ => none
def sig_impl_Degrees : FuncId → List AV → Option Sg := sigL []
def xs_impl_Degrees : XS := ⟨xsigL [], ysigL []⟩
theorem sig_impl_Degrees_ok : SigOK sig_impl_Degrees := sigL_nil
theorem xs_impl_Degrees_ok : XSigOK xs_impl_Degrees := ⟨xsigL_nil, ysigL_nil⟩
theorem V_impl_Degrees (d : Int) : ((true = true) ∧ ((True) ∧ True) ∧ (true = true) ∧ ((True) ∧ (NNe (360 : Int) 0) ∧ (True) ∧ (NNe (360 : Int) 0) ∧ (True) ∧ True) ∧ (((irem (iadd (irem d (360 : Int)) (360 : Int)) (360 : Int)) : Int) = (degW d)) ∧ True) = ev sig_impl_Degrees xs_impl_Degrees Try.f56.ntmps (fun b => []) (codeOf Try.f56) 0 (initS [.s (.int d)]) (retK Try.f56.results.toList [.s (.int (degW d))]) := by kernel_rfl
set_option maxHeartbeats 400000 in
theorem F_impl_Degrees : FunOK 56 g_impl_Degrees := by
  refine fun_F (by kernel_rfl) Try.func56 rfl (by kernel_rfl) sig_impl_Degrees_ok xs_impl_Degrees_ok ?_
  intro avs sg h hn hl
  unfold g_impl_Degrees at h
  split at h
  · rename_i d
    injection h with h; subst h
    refine ⟨by kernel_rfl, fun b => [], Eq.mp (V_impl_Degrees d) ?_⟩
    simp only [true_and, and_true, implies_true, and_self, forall_const, true_implies, lenA, lenL, SV.lenOK, Cont.lenOK] at hn hl ⊢
    simp only [ilt_t, ilt_f, ile_t, ile_f, ieq_t, ieq_f, bnot_e, band_e, bite_and, bite_or, NLt_e, NLe_e, NNe_e, NIs_e, imax_e, imin_e, irem_e, Bool.not_eq_true', Bool.not_eq_false', Bool.and_eq_true, Bool.or_eq_true, Bool.or_eq_false_iff, Bool.and_eq_false_iff, Cont.pts.injEq, Cont.ints.injEq, Cont.bools.injEq, Cont.ptss.injEq, Cont.intss.injEq, Cont.boolss.injEq, true_and, and_true, implies_true]
    exact ⟨by decide, by simp [degW, irem_e]⟩
  · cases h
def g_laws_alive : List AV → Option Sg
  | [] => some ⟨True, [.s (.bool (true))]⟩
  | _ => none
def sig_laws_alive : FuncId → List AV → Option Sg := sigL [(56, g_impl_Degrees)]
def xs_laws_alive : XS := ⟨xsigL [], ysigL []⟩
theorem sig_laws_alive_ok : SigOK sig_laws_alive := sigL_cons F_impl_Degrees sigL_nil
theorem xs_laws_alive_ok : XSigOK xs_laws_alive := ⟨xsigL_nil, ysigL_nil⟩
theorem V_laws_alive  : ((true = true) ∧ ((True) ∧ True) ∧ (true = true) ∧ (((True)) ∧ (True) ∧ (True) ∧ True) ∧ (((ieq (degW (-1 : Int)) (359 : Int)) : Bool) = (true)) ∧ True) = ev sig_laws_alive xs_laws_alive Try.f17.ntmps (fun b => []) (codeOf Try.f17) 0 (initS []) (retK Try.f17.results.toList [.s (.bool (true))]) := by kernel_rfl
set_option maxHeartbeats 400000 in
theorem F_laws_alive : FunOK 17 g_laws_alive := by
  refine fun_F (by kernel_rfl) Try.func17 rfl (by kernel_rfl) sig_laws_alive_ok xs_laws_alive_ok ?_
  intro avs sg h hn hl
  unfold g_laws_alive at h
  split at h
  ·
    injection h with h; subst h
    refine ⟨by kernel_rfl, fun b => [], Eq.mp (V_laws_alive ) ?_⟩
    simp only [true_and, and_true, implies_true, and_self, forall_const, true_implies, lenA, lenL, SV.lenOK, Cont.lenOK] at hn hl ⊢
    unfold ieq degW
    rw [irem_e, irem_e, iadd_e (by decide) (by decide)]
    decide
  · cases h
def g_impl_SegmentSquare : List AV → Option Sg
  | [.agg [.int p1, .int p2], .agg [.int a1, .int a2], .agg [.int b1, .int b2]] => some ⟨True, [.s (.int (ssQ p1 p2 a1 a2 b1 b2))]⟩
  | _ => none
def sig_impl_SegmentSquare : FuncId → List AV → Option Sg := sigL [(70, g_impl_near), (73, g_impl_segmentSquare)]
def xs_impl_SegmentSquare : XS := ⟨xsigL [], ysigL []⟩
theorem sig_impl_SegmentSquare_ok : SigOK sig_impl_SegmentSquare := sigL_cons F_impl_near (sigL_cons F_impl_segmentSquare sigL_nil)
theorem xs_impl_SegmentSquare_ok : XSigOK xs_impl_SegmentSquare := ⟨xsigL_nil, ysigL_nil⟩
theorem V_impl_SegmentSquare (p1 : Int) (p2 : Int) (a1 : Int) (a2 : Int) (b1 : Int) (b2 : Int) : ((true = true) ∧ ((True) ∧ (True) ∧ (True) ∧ (True) ∧ True) ∧ (true = true) ∧ ((True) ∧ ((True)) ∧ (True) ∧ (True) ∧ (NIs (bnot (nearB p1 p2)) false → True) ∧ (NIs (bnot (nearB p1 p2)) false → (True)) ∧ (NIs (bnot (nearB p1 p2)) false → True) ∧ (True) ∧ (True) ∧ (NIs (bite (bnot (nearB p1 p2)) true (bnot (nearB a1 a2))) false → True) ∧ (NIs (bite (bnot (nearB p1 p2)) true (bnot (nearB a1 a2))) false → (True)) ∧ (NIs (bite (bnot (nearB p1 p2)) true (bnot (nearB a1 a2))) false → True) ∧ (True) ∧ True) ∧ ((bite (bite (bnot (nearB p1 p2)) true (bnot (nearB a1 a2))) true (bnot (nearB b1 b2))) = true → ((true = true) ∧ ((True) ∧ True) ∧ (((-1 : Int) : Int) = (ssQ p1 p2 a1 a2 b1 b2)) ∧ True)) ∧ ((bite (bite (bnot (nearB p1 p2)) true (bnot (nearB a1 a2))) true (bnot (nearB b1 b2))) = false → ((true = true) ∧ ((True) ∧ (True) ∧ (True) ∧ ((nearB p1 p2 = true ∧ nearB a1 a2 = true ∧ nearB b1 b2 = true)) ∧ (True) ∧ True) ∧ (((ssqE p1 p2 a1 a2 b1 b2) : Int) = (ssQ p1 p2 a1 a2 b1 b2)) ∧ True))) = ev sig_impl_SegmentSquare xs_impl_SegmentSquare Try.f40.ntmps (fun b => []) (codeOf Try.f40) 0 (initS [.agg [.int p1, .int p2], .agg [.int a1, .int a2], .agg [.int b1, .int b2]]) (retK Try.f40.results.toList [.s (.int (ssQ p1 p2 a1 a2 b1 b2))]) := by kernel_rfl
set_option maxHeartbeats 400000 in
theorem F_impl_SegmentSquare : FunOK 40 g_impl_SegmentSquare := by
  refine fun_F (by kernel_rfl) Try.func40 rfl (by kernel_rfl) sig_impl_SegmentSquare_ok xs_impl_SegmentSquare_ok ?_
  intro avs sg h hn hl
  unfold g_impl_SegmentSquare at h
  split at h
  · rename_i p1 p2 a1 a2 b1 b2
    injection h with h; subst h
    refine ⟨by kernel_rfl, fun b => [], Eq.mp (V_impl_SegmentSquare p1 p2 a1 a2 b1 b2) ?_⟩
    simp only [true_and, and_true, implies_true, and_self, forall_const, true_implies, lenA, lenL, SV.lenOK, Cont.lenOK] at hn hl ⊢
    simp only [ilt_t, ilt_f, ile_t, ile_f, ieq_t, ieq_f, bnot_e, band_e, bite_and, bite_or, NLt_e, NLe_e, NNe_e, NIs_e, imax_e, imin_e, irem_e, Bool.not_eq_true', Bool.not_eq_false', Bool.and_eq_true, Bool.or_eq_true, Bool.or_eq_false_iff, Bool.and_eq_false_iff, Cont.pts.injEq, Cont.ints.injEq, Cont.bools.injEq, Cont.ptss.injEq, Cont.intss.injEq, Cont.boolss.injEq, true_and, and_true, implies_true]
    unfold ssQ
    cases h1 : nearB p1 p2 <;> cases h2 : nearB a1 a2 <;> cases h3 : nearB b1 b2 <;> simp
  · cases h
def g_impl_InsideConvex : List AV → Option Sg
  | [.s (.view (.pts l)), .agg [.int p1, .int p2]] => some ⟨True, [.s (.bool (convB l && vB p1 p2 && insB l p1 p2))]⟩
  | _ => none
def sig_impl_InsideConvex : FuncId → List AV → Option Sg := sigL [(15, g_impl_ConvexValid), (62, g_impl_PointValid), (63, g_impl_inside)]
def xs_impl_InsideConvex : XS := ⟨xsigL [], ysigL []⟩
theorem sig_impl_InsideConvex_ok : SigOK sig_impl_InsideConvex := sigL_cons F_impl_ConvexValid (sigL_cons F_impl_PointValid (sigL_cons F_impl_inside sigL_nil))
theorem xs_impl_InsideConvex_ok : XSigOK xs_impl_InsideConvex := ⟨xsigL_nil, ysigL_nil⟩
theorem V_impl_InsideConvex (l : List Pt) (p1 : Int) (p2 : Int) : ((true = true) ∧ ((True) ∧ (True) ∧ True) ∧ (true = true) ∧ ((True) ∧ ((True)) ∧ (True) ∧ (NIs (convB l) true → True) ∧ (NIs (convB l) true → (True)) ∧ (True) ∧ (True) ∧ (NIs (bite (convB l) (vB p1 p2) false) true → True) ∧ (NIs (bite (convB l) (vB p1 p2) false) true → True) ∧ (NIs (bite (convB l) (vB p1 p2) false) true → (True)) ∧ (True) ∧ (True) ∧ True) ∧ (((bite (bite (convB l) (vB p1 p2) false) (insB l p1 p2) false) : Bool) = (convB l && vB p1 p2 && insB l p1 p2)) ∧ True) = ev sig_impl_InsideConvex xs_impl_InsideConvex Try.f26.ntmps (fun b => []) (codeOf Try.f26) 0 (initS [.s (.view (.pts l)), .agg [.int p1, .int p2]]) (retK Try.f26.results.toList [.s (.bool (convB l && vB p1 p2 && insB l p1 p2))]) := by kernel_rfl
set_option maxHeartbeats 400000 in
theorem F_impl_InsideConvex : FunOK 26 g_impl_InsideConvex := by
  refine fun_F (by kernel_rfl) Try.func26 rfl (by kernel_rfl) sig_impl_InsideConvex_ok xs_impl_InsideConvex_ok ?_
  intro avs sg h hn hl
  unfold g_impl_InsideConvex at h
  split at h
  · rename_i l p1 p2
    injection h with h; subst h
    refine ⟨by kernel_rfl, fun b => [], Eq.mp (V_impl_InsideConvex l p1 p2) ?_⟩
    simp only [true_and, and_true, implies_true, and_self, forall_const, true_implies, lenA, lenL, SV.lenOK, Cont.lenOK] at hn hl ⊢
    simp only [ilt_t, ilt_f, ile_t, ile_f, ieq_t, ieq_f, bnot_e, band_e, bite_and, bite_or, NLt_e, NLe_e, NNe_e, NIs_e, imax_e, imin_e, irem_e, Bool.not_eq_true', Bool.not_eq_false', Bool.and_eq_true, Bool.or_eq_true, Bool.or_eq_false_iff, Bool.and_eq_false_iff, Cont.pts.injEq, Cont.ints.injEq, Cont.bools.injEq, Cont.ptss.injEq, Cont.intss.injEq, Cont.boolss.injEq, true_and, and_true, implies_true]
  · cases h
namespace Pl
def nth (ps : List Pt) (i : Nat) : Pt := ps.getD i (0, 0)
theorem nth_eq {ps : List Pt} {i : Nat} (h : i < ps.length) : nth ps i = ps[i] := by
  unfold nth; rw [List.getD_eq_getElem?_getD, List.getElem?_eq_getElem h]; rfl
theorem nth_mem {ps : List Pt} {i : Nat} (h : i < ps.length) : nth ps i ∈ ps := by rw [nth_eq h]; exact List.getElem_mem h
/-- The corner behind corner i. -/
def nx (ps : List Pt) (i : Nat) : Nat := (i + 1) % ps.length
theorem nx_lt {ps : List Pt} {i : Nat} (h : i < ps.length) : nx ps i < ps.length := Nat.mod_lt _ (by omega)
def Strict (ps : List Pt) : Prop := ∀ i, i < ps.length → ∀ n, n < ps.length → n ≠ i → n ≠ nx ps i → 0 < crs (nth ps i) (nth ps (nx ps i)) (nth ps n)
def insP (ps : List Pt) (p : Pt) : Prop := ∀ i, i < ps.length → 0 ≤ crs (nth ps i) (nth ps (nx ps i)) p
/-- Begin with the second corner. -/
def turn : List Pt → List Pt
  | [] => []
  | a :: l => l ++ [a]
theorem turn_length (ps : List Pt) : (turn ps).length = ps.length := by cases ps <;> simp [turn]
theorem turn_nth {ps : List Pt} {i : Nat} (h : i < ps.length) : nth (turn ps) i = nth ps (nx ps i) := by
  cases ps with
  | nil => simp at h
  | cons a l =>
    unfold turn nx
    simp only [List.length_cons] at h ⊢
    by_cases hi : i < l.length
    · rw [Nat.mod_eq_of_lt (by omega)]
      rw [nth_eq (by simp; omega), nth_eq (by simp; omega)]
      simp [List.getElem_append_left, hi]
    · have : i = l.length := by omega
      subst this
      rw [Nat.mod_self, nth_eq (by simp), nth_eq (by simp)]
      simp
theorem nx_turn (ps : List Pt) (i : Nat) : nx (turn ps) i = nx ps i := by unfold nx; rw [turn_length]
/-- Every corner is the one behind some corner. -/
theorem nx_onto {ps : List Pt} {i : Nat} (h : i < ps.length) : ∃ j, j < ps.length ∧ nx ps j = i := by
  unfold nx
  cases i with
  | zero => exact ⟨ps.length - 1, by omega, by rw [show ps.length - 1 + 1 = ps.length from by omega, Nat.mod_self]⟩
  | succ i => exact ⟨i, by omega, Nat.mod_eq_of_lt h⟩
theorem nx_inj {ps : List Pt} {i j : Nat} (hi : i < ps.length) (hj : j < ps.length) (h : nx ps i = nx ps j) : i = j := by
  unfold nx at h
  by_cases h1 : i + 1 < ps.length
  · by_cases h2 : j + 1 < ps.length
    · rw [Nat.mod_eq_of_lt h1, Nat.mod_eq_of_lt h2] at h; omega
    · have e : j + 1 = ps.length := by omega
      rw [e, Nat.mod_self, Nat.mod_eq_of_lt h1] at h; omega
  · have e1 : i + 1 = ps.length := by omega
    by_cases h2 : j + 1 < ps.length
    · rw [e1, Nat.mod_self, Nat.mod_eq_of_lt h2] at h; omega
    · omega
theorem insP_turn {ps : List Pt} {p : Pt} : insP (turn ps) p ↔ insP ps p := by
  unfold insP
  rw [turn_length]
  constructor
  · intro h i hi
    obtain ⟨j, hj, rfl⟩ := nx_onto hi
    have := h j hj
    rw [turn_nth hj, nx_turn, turn_nth (nx_lt hj)] at this
    exact this
  · intro h i hi
    rw [turn_nth hi, nx_turn, turn_nth (nx_lt hi)]
    exact h _ (nx_lt hi)
theorem strict_turn {ps : List Pt} (h : Strict ps) : Strict (turn ps) := by
  intro i hi n hn h1 h2
  rw [turn_length] at hi hn
  rw [nx_turn] at h2 ⊢
  rw [turn_nth hi, turn_nth (nx_lt hi), turn_nth hn]
  exact h _ (nx_lt hi) _ (nx_lt hn) (fun e => h1 (nx_inj hn hi e)) (fun e => h2 (nx_inj hn (nx_lt hi) e))
/-- A sum over the corners. -/
def sumN (f : Nat → Int) : Nat → Int
  | 0 => 0
  | n + 1 => sumN f n + f n
theorem sumN_congr {f g : Nat → Int} : ∀ n, (∀ i, i < n → f i = g i) → sumN f n = sumN g n
  | 0, _ => rfl
  | n + 1, h => by rw [sumN, sumN, sumN_congr n (fun i hi => h i (by omega)), h n (by omega)]
theorem sumN_add (f g : Nat → Int) : ∀ n, sumN (fun i => f i + g i) n = sumN f n + sumN g n
  | 0 => rfl
  | n + 1 => by simp only [sumN]; rw [sumN_add f g n]; omega
theorem sumN_shift (f : Nat → Int) : ∀ n, sumN (fun i => f (i + 1)) n + f 0 = sumN f (n + 1)
  | 0 => by simp [sumN]
  | n + 1 => by have := sumN_shift f n; simp only [sumN] at *; omega
theorem sumN_nx {ps : List Pt} (f : Nat → Int) (hn : 0 < ps.length) : sumN (fun i => f (nx ps i)) ps.length = sumN f ps.length := by
  obtain ⟨m, hm⟩ : ∃ m, ps.length = m + 1 := ⟨ps.length - 1, by omega⟩
  have e : sumN (fun i => f (nx ps i)) ps.length = sumN (fun i => f (i + 1)) m + f 0 := by
    rw [hm, sumN]
    congr 1
    · refine sumN_congr m fun i hi => ?_
      unfold nx; rw [Nat.mod_eq_of_lt (by omega)]
    · unfold nx; rw [hm, Nat.mod_self]
  rw [e, sumN_shift, ← hm]
theorem sumN_le {f g : Nat → Int} : ∀ n, (∀ i, i < n → f i ≤ g i) → sumN f n ≤ sumN g n
  | 0, _ => Int.le_refl _
  | n + 1, h => by have := sumN_le n (fun i hi => h i (by omega)); have := h n (by omega); simp only [sumN]; omega
theorem sumN_eq_le {f g : Nat → Int} : ∀ n, (∀ i, i < n → f i ≤ g i) → sumN f n = sumN g n → ∀ i, i < n → f i = g i
  | 0, _, _, i, hi => by omega
  | n + 1, h, he, i, hi => by
    have h1 := sumN_le n (fun i hi => h i (by omega))
    have h2 := h n (by omega)
    simp only [sumN] at he
    rcases Nat.lt_or_ge i n with hin | hin
    · exact sumN_eq_le n (fun i hi => h i (by omega)) (by omega) i hin
    · have : i = n := by omega
      subst this; omega
/-- Twice the area, as the program sums it. -/
def area2 (ps : List Pt) : Int := sumN (fun i => (nth ps i).1 * (nth ps (nx ps i)).2 - (nth ps i).2 * (nth ps (nx ps i)).1) ps.length
theorem area_from (ps : List Pt) (o : Pt) (hn : 0 < ps.length) : sumN (fun i => crs o (nth ps i) (nth ps (nx ps i))) ps.length = area2 ps := by
  have e : ∀ i, crs o (nth ps i) (nth ps (nx ps i)) = ((nth ps i).1 * (nth ps (nx ps i)).2 - (nth ps i).2 * (nth ps (nx ps i)).1) + ((o.2 * (nth ps (nx ps i)).1 - o.1 * (nth ps (nx ps i)).2) + (o.1 * (nth ps i).2 - o.2 * (nth ps i).1)) := by
    intro i; unfold crs; grind
  rw [sumN_congr _ (fun i _ => e i), sumN_add, sumN_add]
  have e2 := sumN_nx (ps := ps) (fun j => o.2 * (nth ps j).1 - o.1 * (nth ps j).2) hn
  have e3 : sumN (fun i => o.2 * (nth ps (nx ps i)).1 - o.1 * (nth ps (nx ps i)).2) ps.length + sumN (fun i => o.1 * (nth ps i).2 - o.2 * (nth ps i).1) ps.length = 0 := by
    rw [e2, ← sumN_add]
    have : ∀ n, sumN (fun i => o.2 * (nth ps i).1 - o.1 * (nth ps i).2 + (o.1 * (nth ps i).2 - o.2 * (nth ps i).1)) n = 0 := by
      intro n; induction n with
      | zero => rfl
      | succ n ih => simp only [sumN, ih]; omega
    exact this _
  unfold area2
  omega
theorem area_turn (ps : List Pt) : area2 (turn ps) = area2 ps := by
  by_cases hn : 0 < ps.length
  · unfold area2
    rw [turn_length]
    rw [← sumN_nx (fun i => (nth ps i).1 * (nth ps (nx ps i)).2 - (nth ps i).2 * (nth ps (nx ps i)).1) hn]
    refine sumN_congr _ fun i hi => ?_
    rw [turn_nth hi, nx_turn, turn_nth (nx_lt hi)]
  · cases ps with
    | nil => rfl
    | cons a l => simp at hn
/-- The reference's sum of triangles. -/
def fan (ps : List Pt) (n : Nat) : Int := sumN (fun k => crs (nth ps 0) (nth ps (k + 1)) (nth ps (k + 2))) n
theorem area_fan (ps : List Pt) (hn : 2 ≤ ps.length) : fan ps (ps.length - 2) = area2 ps := by
  rw [← area_from ps (nth ps 0) (by omega)]
  obtain ⟨m, hm⟩ : ∃ m, ps.length = m + 2 := ⟨ps.length - 2, by omega⟩
  rw [hm, show m + 2 - 2 = m from by omega]
  have e := sumN_shift (fun i => crs (nth ps 0) (nth ps i) (nth ps (nx ps i))) (m + 1)
  rw [show m + 2 = m + 1 + 1 from rfl, ← e, sumN]
  have h0 : crs (nth ps 0) (nth ps 0) (nth ps (nx ps 0)) = 0 := by unfold crs; grind
  have hl : crs (nth ps 0) (nth ps (m + 1)) (nth ps (nx ps (m + 1))) = 0 := by
    have : nx ps (m + 1) = 0 := by unfold nx; rw [hm]; exact Nat.mod_self _
    rw [this]; unfold crs; grind
  rw [h0, hl]
  unfold fan
  rw [sumN_congr (f := fun k => crs (nth ps 0) (nth ps (k + 1)) (nth ps (k + 2))) (g := fun i => crs (nth ps 0) (nth ps (i + 1)) (nth ps (nx ps (i + 1)))) m]
  · omega
  · intro i hi
    have : nx ps (i + 1) = i + 2 := by unfold nx; exact Nat.mod_eq_of_lt (by omega)
    rw [this]
theorem crs_rot (a b c : Pt) : crs b c a = crs a b c := by unfold crs; grind
theorem area_pos {ps : List Pt} (h : Strict ps) (hn : 3 ≤ ps.length) : 0 < area2 ps := by
  rw [← area_fan ps (by omega)]
  have key : ∀ n, n + 2 ≤ ps.length → 0 ≤ fan ps n ∧ (0 < n → 0 < fan ps n) := by
    intro n
    induction n with
    | zero => intro _; exact ⟨Int.le_refl _, fun h => by omega⟩
    | succ n ih =>
      intro hle
      have ih := ih (by omega)
      have e : nx ps (n + 1) = n + 2 := by unfold nx; exact Nat.mod_eq_of_lt (by omega)
      have := h (n + 1) (by omega) 0 (by omega) (by omega) (by rw [e]; omega)
      rw [e, ← crs_rot, ← crs_rot, crs_rot] at this
      have e3 : fan ps (n + 1) = fan ps n + crs (nth ps 0) (nth ps (n + 1)) (nth ps (n + 2)) := rfl
      rw [e3]
      have e4 : crs (nth ps (n + 1)) (nth ps (n + 2)) (nth ps 0) = crs (nth ps 0) (nth ps (n + 1)) (nth ps (n + 2)) := by unfold crs; grind
      have e5 := h (n + 1) (by omega) 0 (by omega) (by omega) (by rw [e]; omega)
      rw [e, e4] at e5
      exact ⟨by omega, fun _ => by omega⟩
  exact (key (ps.length - 2) (by omega)).2 (by omega)
/-- Without its first corner a polygon loses a triangle. -/
theorem area_tail (a b : Pt) (l : List Pt) (hl : l ≠ []) : area2 (a :: b :: l) = area2 (b :: l) + crs (nth (a :: b :: l) (l.length + 1)) a b := by
  obtain ⟨m, hm⟩ : ∃ m, l.length = m + 1 := ⟨l.length - 1, by have := List.length_pos_iff.2 hl; omega⟩
  have h1 := area_fan (turn (a :: b :: l)) (by rw [turn_length]; simp)
  have h2 := area_fan (b :: l) (by simp; omega)
  rw [area_turn, turn_length] at h1
  rw [← h1, ← h2]
  have ht : turn (a :: b :: l) = b :: (l ++ [a]) := rfl
  simp only [List.length_cons, hm]
  rw [show m + 1 + 1 + 1 - 2 = m + 1 from by omega, show m + 1 + 1 - 2 = m from by omega]
  unfold fan
  rw [sumN]
  have hsame : ∀ i, i < m + 2 → nth (turn (a :: b :: l)) i = nth (b :: l) i := by
    intro i hi
    rw [ht, nth_eq (by simp; omega), nth_eq (by simp; omega)]
    cases i with
    | zero => rfl
    | succ i => simp [List.getElem_append_left, show i < l.length by omega]
  rw [sumN_congr (f := fun k => crs (nth (turn (a :: b :: l)) 0) (nth (turn (a :: b :: l)) (k + 1)) (nth (turn (a :: b :: l)) (k + 2))) (g := fun k => crs (nth (b :: l) 0) (nth (b :: l) (k + 1)) (nth (b :: l) (k + 2))) m (fun i hi => by rw [hsame 0 (by omega), hsame (i + 1) (by omega), hsame (i + 2) (by omega)])]
  have e0 : nth (turn (a :: b :: l)) 0 = b := rfl
  have e1 : nth (turn (a :: b :: l)) (m + 1) = nth (a :: b :: l) (m + 1 + 1) := by
    rw [turn_nth (by simp; omega)]
    congr 1
    unfold nx
    rw [Nat.mod_eq_of_lt (by simp; omega)]
  have e2 : nth (turn (a :: b :: l)) (m + 2) = a := by
    rw [ht, nth_eq (by simp; omega)]
    simp only [List.getElem_cons_succ]
    rw [List.getElem_append_right (by omega)]
    simp
  rw [e0, e1, e2]
  have : crs b (nth (a :: b :: l) (m + 1 + 1)) a = crs (nth (a :: b :: l) (m + 1 + 1)) a b := by unfold crs; grind
  omega
def absI (x : Int) : Int := max x (-x)
/-- A point is inside exactly if the triangles to the edges make up the area. -/
theorem inside_area {ps : List Pt} (hn : 0 < ps.length) (p : Pt) : insP ps p ↔ sumN (fun i => absI (crs p (nth ps i) (nth ps (nx ps i)))) ps.length = area2 ps := by
  rw [← area_from ps p hn]
  constructor
  · intro h
    refine sumN_congr _ fun i hi => ?_
    have := h i hi
    rw [show crs (nth ps i) (nth ps (nx ps i)) p = crs p (nth ps i) (nth ps (nx ps i)) from by unfold crs; grind] at this
    unfold absI; omega
  · intro h i hi
    have := sumN_eq_le ps.length (f := fun i => crs p (nth ps i) (nth ps (nx ps i))) (g := fun i => absI (crs p (nth ps i) (nth ps (nx ps i)))) (fun i _ => by unfold absI; omega) h.symm i hi
    rw [show crs (nth ps i) (nth ps (nx ps i)) p = crs p (nth ps i) (nth ps (nx ps i)) from by unfold crs; grind]
    unfold absI at this; omega
theorem corner_inside {ps : List Pt} (h : Strict ps) {n : Nat} (hn : n < ps.length) : insP ps (nth ps n) := by
  intro i hi
  by_cases h1 : n = i
  · subst h1
    have : crs (nth ps n) (nth ps (nx ps n)) (nth ps n) = 0 := by unfold crs; grind
    omega
  · by_cases h2 : n = nx ps i
    · rw [← h2]
      have : crs (nth ps i) (nth ps n) (nth ps n) = 0 := by unfold crs; grind
      omega
    · have := h i hi n hn h1 h2; omega
/-- The corners in the opposite order go clockwise. -/
theorem strict_rev {ps : List Pt} (h : Strict ps) (hn : 3 ≤ ps.length) : ¬ Strict ps.reverse := by
  intro hr
  have h1 := hr 0 (by simp; omega) 2 (by simp; omega) (by omega) (by unfold nx; rw [Nat.mod_eq_of_lt (by simp; omega)]; omega)
  have e0 : nth ps.reverse 0 = nth ps (ps.length - 1) := by rw [nth_eq (by simp; omega), nth_eq (by omega)]; simp
  have en : nx ps.reverse 0 = 1 := by unfold nx; exact Nat.mod_eq_of_lt (by simp; omega)
  have e1 : nth ps.reverse 1 = nth ps (ps.length - 2) := by rw [nth_eq (by simp; omega), nth_eq (by omega)]; simp; congr 1
  have e2 : nth ps.reverse 2 = nth ps (ps.length - 3) := by rw [nth_eq (by simp; omega), nth_eq (by omega)]; simp; congr 1
  rw [en, e0, e1, e2] at h1
  have ek : nx ps (ps.length - 2) = ps.length - 1 := by unfold nx; rw [Nat.mod_eq_of_lt (by omega)]; omega
  have h2 := h (ps.length - 2) (by omega) (ps.length - 3) (by omega) (by omega) (by rw [ek]; omega)
  rw [ek] at h2
  have : crs (nth ps (ps.length - 1)) (nth ps (ps.length - 2)) (nth ps (ps.length - 3)) = - crs (nth ps (ps.length - 2)) (nth ps (ps.length - 1)) (nth ps (ps.length - 3)) := by unfold crs; grind
  omega

end Pl
theorem ilen_nat (l : List Pt) : ilen l = (l.length : Int) := by unfold ilen; rfl
theorem nth_get (l : List Pt) (i : Nat) : (getx l i, gety l i) = Pl.nth l i := by unfold getx gety Pl.nth; simp
theorem nx_nat {l : List Pt} {i : Nat} (h : i < l.length) : nx l i = (Pl.nx l i : Int) := by
  unfold nx Pl.nx
  rw [ilen_nat, Int.tmod_eq_emod_of_nonneg (by omega), show ((i : Int) + 1) = ((i + 1 : Nat) : Int) by omega]
  exact (Int.natCast_emod _ _).symm
theorem cr_nat {l : List Pt} (h : allB l = true) {a b c : Nat} (ha : a < l.length) (hb : b < l.length) (hc : c < l.length) : cr l a b c = crs (Pl.nth l a) (Pl.nth l b) (Pl.nth l c) := by
  rw [allB_N] at h
  have hv := allN_iff.1 h
  rw [ilen_nat] at hv
  unfold cr
  rw [crW_e (hv a (by omega) (by omega)) (hv b (by omega) (by omega)) (hv c (by omega) (by omega)), nth_get, nth_get, nth_get]
theorem conv_iff (l : List Pt) : convB l = true ↔ (3 ≤ l.length ∧ l.length ≤ 8 ∧ allB l = true ∧ Pl.Strict l) := by
  constructor
  · intro h
    have hh := h
    unfold convB at hh
    simp only [Bool.and_eq_true] at hh
    obtain ⟨⟨h1, h2⟩, h3⟩ := hh
    have h4 := inB_true h1
    rw [ilen_nat] at h4
    refine ⟨by omega, by omega, h2, fun i hi n hn n1 n2 => ?_⟩
    have h5 := allN_iff.1 (allN_iff.1 h3 i (by omega) (by rw [ilen_nat]; omega)) n (by omega) (by rw [ilen_nat]; omega)
    unfold convE at h5
    rw [nx_nat hi, cr_nat h2 hi (Pl.nx_lt hi) hn] at h5
    simp only [decide_eq_true_eq] at h5
    omega
  · rintro ⟨h1, h2, h3, h4⟩
    unfold convB
    rw [h3]
    simp only [Bool.and_true, Bool.and_eq_true]
    refine ⟨by unfold inB; rw [ilen_nat]; simp; omega, allN_iff.2 fun i i0 i1 => allN_iff.2 fun j j0 j1 => ?_⟩
    obtain ⟨i, rfl⟩ := Int.eq_ofNat_of_zero_le i0
    obtain ⟨j, rfl⟩ := Int.eq_ofNat_of_zero_le j0
    rw [ilen_nat] at i1 j1
    have hi : i < l.length := by omega
    have hj : j < l.length := by omega
    unfold convE
    rw [nx_nat hi, cr_nat h3 hi (Pl.nx_lt hi) hj]
    simp only [decide_eq_true_eq]
    by_cases e1 : j = i
    · exact .inl (by omega)
    · by_cases e2 : j = Pl.nx l i
      · exact .inr (.inl (by omega))
      · exact .inr (.inr (h4 i hi j hj e1 e2))
theorem allB_turn {l : List Pt} (h : allB l = true) : allB (Pl.turn l) = true := by
  cases l with
  | nil => exact h
  | cons a l =>
    simp only [allB, Pl.turn, List.all_append, List.all_cons, List.all_nil, Bool.and_true, Bool.and_eq_true] at h ⊢
    exact ⟨h.2, h.1⟩
theorem conv_turn {l : List Pt} (h : convB l = true) : convB (Pl.turn l) = true := by
  obtain ⟨h1, h2, h3, h4⟩ := (conv_iff l).1 h
  exact (conv_iff _).2 ⟨by rw [Pl.turn_length]; exact h1, by rw [Pl.turn_length]; exact h2, allB_turn h3, Pl.strict_turn h4⟩
theorem conv_rev {l : List Pt} (h : convB l = true) : convB l.reverse = false := by
  obtain ⟨h1, _, _, h4⟩ := (conv_iff l).1 h
  cases hc : convB l.reverse with
  | false => rfl
  | true => exact absurd ((conv_iff _).1 hc).2.2.2 (Pl.strict_rev h4 h1)
theorem rev_step {l : List Pt} {k : Int} (h0 : 0 ≤ k) (h1 : k < ilen l) : iapp (l.drop (k + 1).toNat).reverse [(getx l k, gety l k)] = (l.drop k.toNat).reverse := by
  obtain ⟨k, rfl⟩ := Int.eq_ofNat_of_zero_le h0
  rw [ilen_nat] at h1
  have hk : k < l.length := by omega
  rw [nth_get, Pl.nth_eq hk, show ((k : Int) + 1).toNat = k + 1 by omega, show ((k : Int)).toNat = k by omega]
  unfold iapp
  rw [show l.drop k = l[k] :: l.drop (k + 1) from List.drop_eq_getElem_cons hk, List.reverse_cons]
end Go.Proofs.Ytlngpnmenmdlmaa

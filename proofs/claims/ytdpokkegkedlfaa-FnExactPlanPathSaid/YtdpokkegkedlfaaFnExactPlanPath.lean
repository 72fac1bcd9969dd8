/- 'FnExactPlanPath': for all arguments the program's PlanPath returns what the reference's returns and leaves its arguments alone. Conditions: none. -/
import Derived.Test.YtdpokkegkedlfaaFnExactPlanPathP1
namespace Go.Proofs.Ytdpokkegkedlfaa
open Go.ChangeShapes Go.WideShapes Go.ChangeAt Go.RowKit
set_option maxRecDepth 100000
set_option linter.unusedSimpArgs false
set_option linter.unusedVariables false
def g_laws_eqBoolS : List AV → Option Sg
  | [.s (.view (.bools l)), .s (.view (.bools m))] => some ⟨True, [.s (.bool (eqBo l m))]⟩
  | _ => none
def sig_laws_eqBoolS : FuncId → List AV → Option Sg := sigL []
def xs_laws_eqBoolS : XS := ⟨xsigL [], ysigL []⟩
theorem sig_laws_eqBoolS_ok : SigOK sig_laws_eqBoolS := sigL_nil
theorem xs_laws_eqBoolS_ok : XSigOK xs_laws_eqBoolS := ⟨xsigL_nil, ysigL_nil⟩
theorem V_laws_eqBoolS (l : List Bool) (m : List Bool) : ((true = true) ∧ ((True) ∧ True) ∧ (true = true) ∧ ((True) ∧ (True) ∧ (True) ∧ (True) ∧ (True) ∧ True) ∧ ((bnot (ieq (ilen l) (ilen m))) = true → ((true = true) ∧ ((True) ∧ True) ∧ ((false : Bool) = (eqBo l m)) ∧ True)) ∧ ((bnot (ieq (ilen l) (ilen m))) = false → ((true = true) ∧ ((True) ∧ True) ∧ ∃ (I1 : List GV → Prop) (μ1 : List GV → Nat), (((true = true) ∧ (((false : Bool) = false) ∧ (((0 : Int) : Int) = (0 : Int)) ∧ ((Cont.bools l) = (Cont.bools l)) ∧ (((ilen l) : Int) = (ilen l)) ∧ ((Cont.bools m) = (Cont.bools m)) ∧ (((ilen m) : Int) = (ilen m)) ∧ (((bnot (ieq (ilen l) (ilen m))) : Bool) = (bnot (ieq (ilen l) (ilen m)))) ∧ ((Cont.bools l) = (Cont.bools l)) ∧ ((Cont.bools m) = (Cont.bools m)) ∧ True) ∧ (True)) ∧ (([GK.int, GK.bool] : List GK) = ([GK.int, GK.bool] : List GK)) ∧ I1 [GV.int (0 : Int), GV.bool false]) ∧ (∀ i1_0 : Int, ∀ b1_1 : Bool, I1 [GV.int i1_0, GV.bool b1_1] → ((true = true) ∧ ((True) ∧ (True) ∧ (True) ∧ (True) ∧ True) ∧ ((ilt i1_0 (ilen l)) = true → ((true = true) ∧ ((True) ∧ (True) ∧ (NLe 0 i1_0 ∧ NLt i1_0 (ilen l)) ∧ (True) ∧ (True) ∧ (True) ∧ (NLe 0 i1_0 ∧ NLt i1_0 (ilen m)) ∧ (True) ∧ (True) ∧ True) ∧ ((bxor (getb l i1_0) (getb m i1_0)) = true → ((true = true) ∧ ((True) ∧ True) ∧ ((false : Bool) = (eqBo l m)) ∧ True)) ∧ ((bxor (getb l i1_0) (getb m i1_0)) = false → ((true = true) ∧ ((True) ∧ (True) ∧ (True) ∧ True) ∧ ((true = true) ∧ (((b1_1 : Bool) = b1_1) ∧ (((iadd i1_0 (1 : Int)) : Int) = (iadd i1_0 (1 : Int))) ∧ ((Cont.bools l) = (Cont.bools l)) ∧ (((ilen l) : Int) = (ilen l)) ∧ ((Cont.bools m) = (Cont.bools m)) ∧ (((ilen m) : Int) = (ilen m)) ∧ (((bnot (ieq (ilen l) (ilen m))) : Bool) = (bnot (ieq (ilen l) (ilen m)))) ∧ ((Cont.bools l) = (Cont.bools l)) ∧ ((Cont.bools m) = (Cont.bools m)) ∧ True) ∧ (True)) ∧ ((([GK.int, GK.bool] : List GK) = ([GK.int, GK.bool] : List GK)) ∧ I1 [GV.int (iadd i1_0 (1 : Int)), GV.bool b1_1] ∧ μ1 [GV.int (iadd i1_0 (1 : Int)), GV.bool b1_1] < μ1 [GV.int i1_0, GV.bool b1_1]))))) ∧ ((ilt i1_0 (ilen l)) = false → ((true = true) ∧ ((True) ∧ True) ∧ ((true : Bool) = (eqBo l m)) ∧ True))))))) = ev sig_laws_eqBoolS xs_laws_eqBoolS Try.f65.ntmps (fun b => if b == 0 then [.v 5, .v 4] else []) (codeOf Try.f65) 0 (initS [.s (.view (.bools l)), .s (.view (.bools m))]) (retK Try.f65.results.toList [.s (.bool (eqBo l m))]) := by kernel_rfl
set_option maxHeartbeats 400000 in
theorem F_laws_eqBoolS : FunOK 65 g_laws_eqBoolS := by
  refine fun_F (by kernel_rfl) Try.func65 rfl (by kernel_rfl) sig_laws_eqBoolS_ok xs_laws_eqBoolS_ok ?_
  intro avs sg h hn hl
  unfold g_laws_eqBoolS at h
  split at h
  · rename_i l m
    injection h with h; subst h
    refine ⟨by kernel_rfl, fun b => if b == 0 then [.v 5, .v 4] else [], Eq.mp (V_laws_eqBoolS l m) ?_⟩
    simp only [true_and, and_true, implies_true, and_self, forall_const, true_implies, lenA, lenL, SV.lenOK, Cont.lenOK] at hn hl ⊢
    have h0 := ilen_0 l
    simp only [ilt_t, ilt_f, ile_t, ile_f, ieq_t, ieq_f, bnot_e, band_e, bite_and, bite_or, NLt_e, NLe_e, NNe_e, NIs_e, imax_e, imin_e, irem_e, Bool.not_eq_true', Bool.not_eq_false', Bool.and_eq_true, Bool.or_eq_true, Bool.or_eq_false_iff, Bool.and_eq_false_iff, Cont.pts.injEq, Cont.ints.injEq, Cont.bools.injEq, Cont.ptss.injEq, Cont.intss.injEq, Cont.boolss.injEq, true_and, and_true, implies_true, bxor_f, bxor_t]
    unfold eqBo
    refine ⟨fun h => by simp [h], fun h => ?_⟩
    refine ⟨fun | .int k :: _ => 0 ≤ k ∧ k ≤ ilen l ∧ ∀ j, 0 ≤ j → j < k → (getb l j == getb m j) = true | _ => False, fun | .int k :: _ => (ilen l - k).toNat | _ => 0, ?_, ?_⟩
    · exact ⟨Int.le_refl 0, h0, fun j h0 h1 => absurd h1 (by omega)⟩
    · rintro k _ ⟨hk0, hk1, hk⟩
      simp only [ilt_t, ilt_f, ile_t, ile_f, ieq_t, ieq_f, bnot_e, band_e, bite_and, bite_or, NLt_e, NLe_e, NNe_e, NIs_e, imax_e, imin_e, irem_e, Bool.not_eq_true', Bool.not_eq_false', Bool.and_eq_true, Bool.or_eq_true, Bool.or_eq_false_iff, Bool.and_eq_false_iff, Cont.pts.injEq, Cont.ints.injEq, Cont.bools.injEq, Cont.ptss.injEq, Cont.intss.injEq, Cont.boolss.injEq, true_and, and_true, implies_true, bxor_f, bxor_t]
      refine ⟨fun hc => ⟨⟨⟨hk0, hc⟩, hk0, by omega⟩, fun hv => ?_, fun hv => ?_⟩, fun hc => ?_⟩
      · rw [allN_no k hk0 hc (by simpa using hv)]; simp
      · rw [iadd_1 hk0 hc hl.1]
        exact ⟨⟨by omega, by omega, allN_up hk (by simpa using hv)⟩, by omega⟩
      · rw [allN_mk fun j h0 h1 => hk j h0 (by omega)]; simp [h]
  · cases h
def g_laws_eqBoolSS : List AV → Option Sg
  | [.s (.view (.boolss l)), .s (.view (.boolss m))] => some ⟨True, [.s (.bool (eqBB l m))]⟩
  | _ => none
def sig_laws_eqBoolSS : FuncId → List AV → Option Sg := sigL [(65, g_laws_eqBoolS)]
def xs_laws_eqBoolSS : XS := ⟨xsigL [], ysigL []⟩
theorem sig_laws_eqBoolSS_ok : SigOK sig_laws_eqBoolSS := sigL_cons F_laws_eqBoolS sigL_nil
theorem xs_laws_eqBoolSS_ok : XSigOK xs_laws_eqBoolSS := ⟨xsigL_nil, ysigL_nil⟩
theorem V_laws_eqBoolSS (l : List (List Bool)) (m : List (List Bool)) : ((true = true) ∧ ((True) ∧ True) ∧ (true = true) ∧ ((True) ∧ (True) ∧ (True) ∧ (True) ∧ (True) ∧ True) ∧ ((bnot (ieq (ilen l) (ilen m))) = true → ((true = true) ∧ ((True) ∧ True) ∧ ((false : Bool) = (eqBB l m)) ∧ True)) ∧ ((bnot (ieq (ilen l) (ilen m))) = false → ((true = true) ∧ ((True) ∧ True) ∧ ∃ (I1 : List GV → Prop) (μ1 : List GV → Nat), (((true = true) ∧ (((false : Bool) = false) ∧ (((0 : Int) : Int) = (0 : Int)) ∧ ((Cont.boolss l) = (Cont.boolss l)) ∧ (((ilen l) : Int) = (ilen l)) ∧ ((Cont.boolss m) = (Cont.boolss m)) ∧ (((ilen m) : Int) = (ilen m)) ∧ (((bnot (ieq (ilen l) (ilen m))) : Bool) = (bnot (ieq (ilen l) (ilen m)))) ∧ ((Cont.boolss l) = (Cont.boolss l)) ∧ ((Cont.boolss m) = (Cont.boolss m)) ∧ True) ∧ (True)) ∧ (([GK.int, GK.bool] : List GK) = ([GK.int, GK.bool] : List GK)) ∧ I1 [GV.int (0 : Int), GV.bool false]) ∧ (∀ i1_0 : Int, ∀ b1_1 : Bool, I1 [GV.int i1_0, GV.bool b1_1] → ((true = true) ∧ ((True) ∧ (True) ∧ (True) ∧ (True) ∧ True) ∧ ((ilt i1_0 (ilen l)) = true → ((true = true) ∧ ((True) ∧ (True) ∧ (NLe 0 i1_0 ∧ NLt i1_0 (ilen l)) ∧ (True) ∧ (True) ∧ (True) ∧ (NLe 0 i1_0 ∧ NLt i1_0 (ilen m)) ∧ (True) ∧ ((True)) ∧ (True) ∧ True) ∧ ((bnot (eqBo (getl l i1_0) (getl m i1_0))) = true → ((true = true) ∧ ((True) ∧ True) ∧ ((false : Bool) = (eqBB l m)) ∧ True)) ∧ ((bnot (eqBo (getl l i1_0) (getl m i1_0))) = false → ((true = true) ∧ ((True) ∧ (True) ∧ (True) ∧ True) ∧ ((true = true) ∧ (((b1_1 : Bool) = b1_1) ∧ (((iadd i1_0 (1 : Int)) : Int) = (iadd i1_0 (1 : Int))) ∧ ((Cont.boolss l) = (Cont.boolss l)) ∧ (((ilen l) : Int) = (ilen l)) ∧ ((Cont.boolss m) = (Cont.boolss m)) ∧ (((ilen m) : Int) = (ilen m)) ∧ (((bnot (ieq (ilen l) (ilen m))) : Bool) = (bnot (ieq (ilen l) (ilen m)))) ∧ ((Cont.boolss l) = (Cont.boolss l)) ∧ ((Cont.boolss m) = (Cont.boolss m)) ∧ True) ∧ (True)) ∧ ((([GK.int, GK.bool] : List GK) = ([GK.int, GK.bool] : List GK)) ∧ I1 [GV.int (iadd i1_0 (1 : Int)), GV.bool b1_1] ∧ μ1 [GV.int (iadd i1_0 (1 : Int)), GV.bool b1_1] < μ1 [GV.int i1_0, GV.bool b1_1]))))) ∧ ((ilt i1_0 (ilen l)) = false → ((true = true) ∧ ((True) ∧ True) ∧ ((true : Bool) = (eqBB l m)) ∧ True))))))) = ev sig_laws_eqBoolSS xs_laws_eqBoolSS Try.f18.ntmps (fun b => if b == 0 then [.v 5, .v 4] else []) (codeOf Try.f18) 0 (initS [.s (.view (.boolss l)), .s (.view (.boolss m))]) (retK Try.f18.results.toList [.s (.bool (eqBB l m))]) := by kernel_rfl
set_option maxHeartbeats 400000 in
theorem F_laws_eqBoolSS : FunOK 18 g_laws_eqBoolSS := by
  refine fun_F (by kernel_rfl) Try.func18 rfl (by kernel_rfl) sig_laws_eqBoolSS_ok xs_laws_eqBoolSS_ok ?_
  intro avs sg h hn hl
  unfold g_laws_eqBoolSS at h
  split at h
  · rename_i l m
    injection h with h; subst h
    refine ⟨by kernel_rfl, fun b => if b == 0 then [.v 5, .v 4] else [], Eq.mp (V_laws_eqBoolSS l m) ?_⟩
    simp only [true_and, and_true, implies_true, and_self, forall_const, true_implies, lenA, lenL, SV.lenOK, Cont.lenOK] at hn hl ⊢
    have h0 := ilen_0 l
    simp only [ilt_t, ilt_f, ile_t, ile_f, ieq_t, ieq_f, bnot_e, band_e, bite_and, bite_or, NLt_e, NLe_e, NNe_e, NIs_e, imax_e, imin_e, irem_e, Bool.not_eq_true', Bool.not_eq_false', Bool.and_eq_true, Bool.or_eq_true, Bool.or_eq_false_iff, Bool.and_eq_false_iff, Cont.pts.injEq, Cont.ints.injEq, Cont.bools.injEq, Cont.ptss.injEq, Cont.intss.injEq, Cont.boolss.injEq, true_and, and_true, implies_true]
    unfold eqBB
    refine ⟨fun h => by simp [h], fun h => ?_⟩
    refine ⟨fun | .int k :: _ => 0 ≤ k ∧ k ≤ ilen l ∧ ∀ j, 0 ≤ j → j < k → eqBo (getl l j) (getl m j) = true | _ => False, fun | .int k :: _ => (ilen l - k).toNat | _ => 0, ?_, ?_⟩
    · exact ⟨Int.le_refl 0, h0, fun j h0 h1 => absurd h1 (by omega)⟩
    · rintro k _ ⟨hk0, hk1, hk⟩
      simp only [ilt_t, ilt_f, ile_t, ile_f, ieq_t, ieq_f, bnot_e, band_e, bite_and, bite_or, NLt_e, NLe_e, NNe_e, NIs_e, imax_e, imin_e, irem_e, Bool.not_eq_true', Bool.not_eq_false', Bool.and_eq_true, Bool.or_eq_true, Bool.or_eq_false_iff, Bool.and_eq_false_iff, Cont.pts.injEq, Cont.ints.injEq, Cont.bools.injEq, Cont.ptss.injEq, Cont.intss.injEq, Cont.boolss.injEq, true_and, and_true, implies_true]
      refine ⟨fun hc => ⟨⟨⟨hk0, hc⟩, hk0, by omega⟩, fun hv => ?_, fun hv => ?_⟩, fun hc => ?_⟩
      · rw [allN_no k hk0 hc hv]; simp
      · rw [iadd_1 hk0 hc hl.1.1]
        exact ⟨⟨by omega, by omega, allN_up hk hv⟩, by omega⟩
      · rw [allN_mk fun j h0 h1 => hk j h0 (by omega)]; simp [h]
  · cases h
def mkd (m : List Pt) (k n : Int) : Prop := ∀ j, 0 ≤ j → j < n → getx m j = k + 2 * j ∧ gety m j = k + 2 * j + 1
theorem ilen_setx (l : List Pt) (i x : Int) : ilen (setx l i x) = ilen l := by unfold ilen setx; simp
theorem ilen_sety (l : List Pt) (i x : Int) : ilen (sety l i x) = ilen l := by unfold ilen sety; simp
theorem get_set2 {l : List Pt} {i j x y : Int} (h0 : 0 ≤ i) (h1 : i < ilen l) (h2 : 0 ≤ j) : getx (sety (setx l i x) i y) j = (if j = i then x else getx l j) ∧ gety (sety (setx l i x) i y) j = (if j = i then y else gety l j) := by
  unfold ilen at h1
  unfold getx gety sety setx
  by_cases h : j = i
  · subst h; simp [List.getD_eq_getElem?_getD, List.getElem?_set, show j.toNat < l.length by omega]
  · rw [if_neg h, if_neg h]; simp [List.getD_eq_getElem?_getD, List.getElem?_set, show ¬ i.toNat = j.toNat by omega]
def heldE (l : List Pt) (k j : Int) : Bool := decide (getx l j = k + 2 * j) && decide (gety l j = k + 2 * j + 1)
def heldF (l : List Pt) (k : Int) : Int := if allN (ilen l) (heldE l k) then k + 2 * ilen l else -1
theorem heldF_e {l : List Pt} {k : Int} (h : mkd l k (ilen l)) : heldF l k = k + 2 * ilen l := by
  unfold heldF
  rw [if_pos (allN_mk fun j j0 j1 => by unfold heldE; simp [h j j0 j1])]
def s_laws_markCellS (l : List Pt) (k : Int) : SgX := ⟨0 ≤ k ∧ k ≤ 1000000000 ∧ ilen l ≤ 1000000000, [.pts, .int], (fun | [.pts m, .int q] => ilen m = ilen l ∧ mkd m k (ilen l) ∧ q = k + 2 * ilen l | _ => False), (fun | [.pts m, .int q] => [.s (.int (q))] | _ => []), (fun | [.pts m, .int q] => .row 29 (.pts (m)) | _ => .box [])⟩
def g_laws_markCellS : Bx → List AV → Option SgX
  | .row 29 (.pts l), [.s (.int k)] => some (s_laws_markCellS l k)
  | _, _ => none
def sig_laws_markCellS : FuncId → List AV → Option Sg := sigL []
def xs_laws_markCellS : XS := ⟨xsigL [], ysigL []⟩
theorem sig_laws_markCellS_ok : SigOK sig_laws_markCellS := sigL_nil
theorem xs_laws_markCellS_ok : XSigOK xs_laws_markCellS := ⟨xsigL_nil, ysigL_nil⟩
def L_laws_markCellS_0 (l : List Pt) (k : Int) (i1_1 : Int) (l1_2 : List Pt) : Prop := ∃ m : List Pt, ∃ q : Int, ((ilen m = ilen l ∧ mkd m k (ilen l) ∧ q = k + 2 * ilen l) ∧ (((i1_1 : Int) = (q)) ∧ True) ∧ ((true = true) ∧ ((Cont.pts l1_2) = (Cont.pts (m)))))
theorem V_laws_markCellS (l : List Pt) (k : Int) : ((true = true) ∧ ((True) ∧ True) ∧ (true = true) ∧ ((True) ∧ True) ∧ ∃ (I1 : List GV → Prop) (μ1 : List GV → Nat), (((true = true) ∧ (((k : Int) = k) ∧ (((0 : Int) : Int) = (0 : Int)) ∧ (((0 : Int) : Int) = (0 : Int)) ∧ (true = true) ∧ True) ∧ (((true = true) ∧ ((Cont.pts l) = (Cont.pts l))) ∧ True)) ∧ (([GK.int, GK.int, GK.pts] : List GK) = ([GK.int, GK.int, GK.pts] : List GK)) ∧ I1 [GV.int (0 : Int), GV.int k, GV.pts l]) ∧ (∀ i1_0 : Int, ∀ i1_1 : Int, ∀ l1_2 : List Pt, I1 [GV.int i1_0, GV.int i1_1, GV.pts l1_2] → ((true = true) ∧ ((True) ∧ (True) ∧ (True) ∧ (True) ∧ True) ∧ ((ilt i1_0 (ilen l1_2)) = true → ((true = true) ∧ ((True) ∧ (True) ∧ (True) ∧ (NLe 0 i1_0 ∧ NLt i1_0 (ilen l1_2)) ∧ (NLt i1_0 (ilen l1_2)) ∧ True) ∧ (NLt i1_0 (ilen l1_2)) ∧ (true = true) ∧ ((True) ∧ (True) ∧ (True) ∧ True) ∧ (true = true) ∧ ((True) ∧ (True) ∧ (True) ∧ (NLe 0 i1_0 ∧ NLt i1_0 (ilen (setx l1_2 i1_0 i1_1))) ∧ (NLt i1_0 (ilen (setx l1_2 i1_0 i1_1))) ∧ True) ∧ (NLt i1_0 (ilen (setx l1_2 i1_0 i1_1))) ∧ (true = true) ∧ ((True) ∧ (True) ∧ (True) ∧ True) ∧ (true = true) ∧ ((True) ∧ (True) ∧ (True) ∧ True) ∧ ((true = true) ∧ ((((iadd (iadd i1_1 (1 : Int)) (1 : Int)) : Int) = (iadd (iadd i1_1 (1 : Int)) (1 : Int))) ∧ (((iadd i1_0 (1 : Int)) : Int) = (iadd i1_0 (1 : Int))) ∧ (((0 : Int) : Int) = (0 : Int)) ∧ (true = true) ∧ True) ∧ (((true = true) ∧ ((Cont.pts (sety (setx l1_2 i1_0 i1_1) i1_0 (iadd i1_1 (1 : Int)))) = (Cont.pts (sety (setx l1_2 i1_0 i1_1) i1_0 (iadd i1_1 (1 : Int)))))) ∧ True)) ∧ ((([GK.int, GK.int, GK.pts] : List GK) = ([GK.int, GK.int, GK.pts] : List GK)) ∧ I1 [GV.int (iadd i1_0 (1 : Int)), GV.int (iadd (iadd i1_1 (1 : Int)) (1 : Int)), GV.pts (sety (setx l1_2 i1_0 i1_1) i1_0 (iadd i1_1 (1 : Int)))] ∧ μ1 [GV.int (iadd i1_0 (1 : Int)), GV.int (iadd (iadd i1_1 (1 : Int)) (1 : Int)), GV.pts (sety (setx l1_2 i1_0 i1_1) i1_0 (iadd i1_1 (1 : Int)))] < μ1 [GV.int i1_0, GV.int i1_1, GV.pts l1_2]))) ∧ ((ilt i1_0 (ilen l1_2)) = false → ((true = true) ∧ ((True) ∧ (True) ∧ True) ∧ L_laws_markCellS_0 l k i1_1 l1_2))))) = (fun sg => ev sig_laws_markCellS xs_laws_markCellS Try.f20.ntmps (fun b => if b == 0 then [.v 5, .v 1, .b 0] else []) (codeOf Try.f20) 0 (initX (.row 29 (.pts l)) [.s (.int k)]) (retX Try.f20.results.toList sg.kinds sg.post sg.ret sg.out)) (s_laws_markCellS l k) := by kernel_rfl
set_option maxHeartbeats 400000 in
theorem F_laws_markCellS : FunX 20 g_laws_markCellS := by
  refine fun_X (by kernel_rfl) Try.func20 rfl (by kernel_rfl) sig_laws_markCellS_ok xs_laws_markCellS_ok ?_
  intro bx avs sg h hn hl hlb
  unfold g_laws_markCellS at h
  split at h
  · rename_i l k
    injection h with h; subst h
    refine ⟨by kernel_rfl, fun b => if b == 0 then [.v 5, .v 1, .b 0] else [], Eq.mp (V_laws_markCellS l k) ?_⟩
    simp only [true_and, and_true, implies_true, and_self, forall_const, true_implies, lenA, lenL, SV.lenOK, Cont.lenOK, lenB, s_laws_markCellS, L_laws_markCellS_0] at hn hl hlb ⊢
    have h0 := ilen_0 l
    obtain ⟨n1, n2, n3⟩ := hn
    simp only [ilt_t, ilt_f, ile_t, ile_f, ieq_t, ieq_f, bnot_e, band_e, bite_and, bite_or, NLt_e, NLe_e, NNe_e, NIs_e, imax_e, imin_e, irem_e, Bool.not_eq_true', Bool.not_eq_false', Bool.and_eq_true, Bool.or_eq_true, Bool.or_eq_false_iff, Bool.and_eq_false_iff, Cont.pts.injEq, Cont.ints.injEq, Cont.bools.injEq, Cont.ptss.injEq, Cont.intss.injEq, Cont.boolss.injEq, true_and, and_true, implies_true]
    refine ⟨fun | [.int i, .int k', .pts m] => 0 ≤ i ∧ i ≤ ilen l ∧ k' = k + 2 * i ∧ ilen m = ilen l ∧ mkd m k i | _ => False, fun | .int i :: _ => (ilen l - i).toNat | _ => 0, ?_, ?_⟩
    · exact ⟨Int.le_refl 0, h0, by omega, rfl, fun j h0 h1 => absurd h1 (by omega)⟩
    · rintro i k' m ⟨hi0, hi1, hk, hm, hmk⟩
      simp only [ilt_t, ilt_f, ile_t, ile_f, ieq_t, ieq_f, bnot_e, band_e, bite_and, bite_or, NLt_e, NLe_e, NNe_e, NIs_e, imax_e, imin_e, irem_e, Bool.not_eq_true', Bool.not_eq_false', Bool.and_eq_true, Bool.or_eq_true, Bool.or_eq_false_iff, Bool.and_eq_false_iff, Cont.pts.injEq, Cont.ints.injEq, Cont.bools.injEq, Cont.ptss.injEq, Cont.intss.injEq, Cont.boolss.injEq, true_and, and_true, implies_true, ilen_setx, ilen_sety]
      refine ⟨fun hc => ?_, fun hc => ⟨m, k', ⟨hm, fun j j0 j1 => hmk j j0 (by omega), by omega⟩, rfl, rfl⟩⟩
      have hi : i < ilen l := by omega
      rw [iadd_1 hi0 hi (by omega), iadd_e (a := k') (by omega) (by omega), iadd_e (by omega) (by omega)]
      refine ⟨⟨⟨hi0, hc⟩, hc⟩, hc, ⟨⟨hi0, hc⟩, hc⟩, hc, ⟨by omega, by omega, by omega, hm, ?_⟩, by omega⟩
      intro j j0 j1
      obtain ⟨g1, g2⟩ := get_set2 (x := k') (y := k' + 1) hi0 hc j0
      rw [g1, g2]
      by_cases hj : j = i
      · rw [if_pos hj, if_pos hj]; omega
      · rw [if_neg hj, if_neg hj]; exact hmk j j0 (by omega)
  · cases h
def g_laws_heldCellS : List AV → Option Sg
  | [.s (.view (.pts l)), .s (.int k)] => some ⟨0 ≤ k ∧ k ≤ 1000000000 ∧ ilen l ≤ 1000000000, [.s (.int (heldF l k))]⟩
  | _ => none
def sig_laws_heldCellS : FuncId → List AV → Option Sg := sigL []
def xs_laws_heldCellS : XS := ⟨xsigL [], ysigL []⟩
theorem sig_laws_heldCellS_ok : SigOK sig_laws_heldCellS := sigL_nil
theorem xs_laws_heldCellS_ok : XSigOK xs_laws_heldCellS := ⟨xsigL_nil, ysigL_nil⟩
theorem V_laws_heldCellS (l : List Pt) (k : Int) : ((true = true) ∧ ((True) ∧ True) ∧ (true = true) ∧ ((True) ∧ True) ∧ ∃ (I1 : List GV → Prop) (μ1 : List GV → Nat), (((true = true) ∧ (((k : Int) = k) ∧ (((0 : Int) : Int) = (0 : Int)) ∧ (((0 : Int) : Int) = (0 : Int)) ∧ ((Cont.pts l) = (Cont.pts l)) ∧ True) ∧ (True)) ∧ (([GK.int, GK.int, GK.int] : List GK) = ([GK.int, GK.int, GK.int] : List GK)) ∧ I1 [GV.int (0 : Int), GV.int (0 : Int), GV.int k]) ∧ (∀ i1_0 : Int, ∀ i1_1 : Int, ∀ i1_2 : Int, I1 [GV.int i1_0, GV.int i1_1, GV.int i1_2] → ((true = true) ∧ ((True) ∧ (True) ∧ (True) ∧ (True) ∧ True) ∧ ((ilt i1_0 (ilen l)) = true → ((true = true) ∧ ((True) ∧ (True) ∧ (NLe 0 i1_0 ∧ NLt i1_0 (ilen l)) ∧ (True) ∧ (True) ∧ (True) ∧ (True) ∧ True) ∧ ((bnot (ieq (getx l i1_0) i1_2)) = true → ((true = true) ∧ ((True) ∧ True) ∧ (((-1 : Int) : Int) = (heldF l k)) ∧ True)) ∧ ((bnot (ieq (getx l i1_0) i1_2)) = false → ((true = true) ∧ ((True) ∧ (True) ∧ (True) ∧ True) ∧ (true = true) ∧ ((True) ∧ (True) ∧ (NLe 0 i1_0 ∧ NLt i1_0 (ilen l)) ∧ (True) ∧ (True) ∧ (True) ∧ (True) ∧ True) ∧ ((bnot (ieq (gety l i1_0) (iadd i1_2 (1 : Int)))) = true → ((true = true) ∧ ((True) ∧ True) ∧ (((-1 : Int) : Int) = (heldF l k)) ∧ True)) ∧ ((bnot (ieq (gety l i1_0) (iadd i1_2 (1 : Int)))) = false → ((true = true) ∧ ((True) ∧ (True) ∧ (True) ∧ True) ∧ (true = true) ∧ ((True) ∧ (True) ∧ (True) ∧ True) ∧ ((true = true) ∧ ((((iadd (iadd i1_2 (1 : Int)) (1 : Int)) : Int) = (iadd (iadd i1_2 (1 : Int)) (1 : Int))) ∧ ((i1_1 : Int) = i1_1) ∧ (((iadd i1_0 (1 : Int)) : Int) = (iadd i1_0 (1 : Int))) ∧ ((Cont.pts l) = (Cont.pts l)) ∧ True) ∧ (True)) ∧ ((([GK.int, GK.int, GK.int] : List GK) = ([GK.int, GK.int, GK.int] : List GK)) ∧ I1 [GV.int (iadd i1_0 (1 : Int)), GV.int i1_1, GV.int (iadd (iadd i1_2 (1 : Int)) (1 : Int))] ∧ μ1 [GV.int (iadd i1_0 (1 : Int)), GV.int i1_1, GV.int (iadd (iadd i1_2 (1 : Int)) (1 : Int))] < μ1 [GV.int i1_0, GV.int i1_1, GV.int i1_2]))))))) ∧ ((ilt i1_0 (ilen l)) = false → ((true = true) ∧ ((True) ∧ (True) ∧ True) ∧ ((i1_2 : Int) = (heldF l k)) ∧ True))))) = ev sig_laws_heldCellS xs_laws_heldCellS Try.f21.ntmps (fun b => if b == 0 then [.v 5, .v 4, .v 1] else []) (codeOf Try.f21) 0 (initS [.s (.view (.pts l)), .s (.int k)]) (retK Try.f21.results.toList [.s (.int (heldF l k))]) := by kernel_rfl
set_option maxHeartbeats 400000 in
theorem F_laws_heldCellS : FunOK 21 g_laws_heldCellS := by
  refine fun_F (by kernel_rfl) Try.func21 rfl (by kernel_rfl) sig_laws_heldCellS_ok xs_laws_heldCellS_ok ?_
  intro avs sg h hn hl
  unfold g_laws_heldCellS at h
  split at h
  · rename_i l k
    injection h with h; subst h
    refine ⟨by kernel_rfl, fun b => if b == 0 then [.v 5, .v 4, .v 1] else [], Eq.mp (V_laws_heldCellS l k) ?_⟩
    simp only [true_and, and_true, implies_true, and_self, forall_const, true_implies, lenA, lenL, SV.lenOK, Cont.lenOK] at hn hl ⊢
    have h0 := ilen_0 l
    obtain ⟨n1, n2, n3⟩ := hn
    simp only [ilt_t, ilt_f, ile_t, ile_f, ieq_t, ieq_f, bnot_e, band_e, bite_and, bite_or, NLt_e, NLe_e, NNe_e, NIs_e, imax_e, imin_e, irem_e, Bool.not_eq_true', Bool.not_eq_false', Bool.and_eq_true, Bool.or_eq_true, Bool.or_eq_false_iff, Bool.and_eq_false_iff, Cont.pts.injEq, Cont.ints.injEq, Cont.bools.injEq, Cont.ptss.injEq, Cont.intss.injEq, Cont.boolss.injEq, true_and, and_true, implies_true]
    refine ⟨fun | [.int i, .int _, .int k'] => 0 ≤ i ∧ i ≤ ilen l ∧ k' = k + 2 * i ∧ (∀ j, 0 ≤ j → j < i → heldE l k j = true) | _ => False, fun | .int i :: _ => (ilen l - i).toNat | _ => 0, ?_, ?_⟩
    · exact ⟨Int.le_refl 0, h0, by omega, fun j h0 h1 => absurd h1 (by omega)⟩
    · rintro i _ k' ⟨hi0, hi1, hk, hmk⟩
      simp only [ilt_t, ilt_f, ile_t, ile_f, ieq_t, ieq_f, bnot_e, band_e, bite_and, bite_or, NLt_e, NLe_e, NNe_e, NIs_e, imax_e, imin_e, irem_e, Bool.not_eq_true', Bool.not_eq_false', Bool.and_eq_true, Bool.or_eq_true, Bool.or_eq_false_iff, Bool.and_eq_false_iff, Cont.pts.injEq, Cont.ints.injEq, Cont.bools.injEq, Cont.ptss.injEq, Cont.intss.injEq, Cont.boolss.injEq, true_and, and_true, implies_true]
      have e2 : iadd k' 1 = k' + 1 := iadd_e (by omega) (by omega)
      have e3 : iadd (k' + 1) 1 = k' + 1 + 1 := iadd_e (by omega) (by omega)
      simp only [e2, e3]
      refine ⟨fun hc => ⟨⟨hi0, hc⟩, fun hx => ?_, fun hx => ⟨⟨hi0, hc⟩, fun hy => ?_, fun hy => ?_⟩⟩, fun hc => ?_⟩
      · have hE : heldE l k i = false := by unfold heldE; simp; omega
        unfold heldF; rw [allN_no i hi0 hc hE]; rfl
      · have hE : heldE l k i = false := by unfold heldE; simp; omega
        unfold heldF; rw [allN_no i hi0 hc hE]; rfl
      · have hE : heldE l k i = true := by unfold heldE; simp; omega
        rw [iadd_1 hi0 hc hl]
        exact ⟨⟨by omega, by omega, by omega, upTo hmk hE⟩, by omega⟩
      · unfold heldF; rw [allN_mk fun j j0 j1 => hmk j j0 (by omega)]
        rw [if_pos rfl]; omega
  · cases h
def sig_laws_FnExactPlanPath : FuncId → List AV → Option Sg := sigL [(14, g_laws_toBoolSS), (15, g_laws_toCell), (13, g_spec_PlanPath), (16, g_impl_PlanPath), (17, g_laws_eqCellS), (18, g_laws_eqBoolSS), (21, g_laws_heldCellS)]
def xs_laws_FnExactPlanPath : XS := ⟨xsigL [(20, g_laws_markCellS)], ysigL [(12, g_laws_szBoolSS)]⟩
theorem sig_laws_FnExactPlanPath_ok : SigOK sig_laws_FnExactPlanPath := sigL_cons F_laws_toBoolSS (sigL_cons F_laws_toCell (sigL_cons F_spec_PlanPath (sigL_cons F_impl_PlanPath (sigL_cons F_laws_eqCellS (sigL_cons F_laws_eqBoolSS (sigL_cons F_laws_heldCellS sigL_nil))))))
theorem xs_laws_FnExactPlanPath_ok : XSigOK xs_laws_FnExactPlanPath := ⟨xsigL_cons F_laws_markCellS xsigL_nil, ysigL_cons F_laws_szBoolSS ysigL_nil⟩
theorem info_Bool : (Try.prog.info? 42).map (fun i => (i.zero, i.size, i.bytes)) = some (some (.slice none 0 0), 1, 24) := by kernel_rfl
theorem toBool_b {w : World} {v : Value} {m : List Bool} (hI : GInv w) (hv : Reads (fun _ => False) w v (.bools m)) (hm : ilen m ≤ 100000000) :
    Calls Try.prog 60 #[v] w fun e w' => ∃ r, e = .returned r ∧ w'.ownsRow w.heap.size 4 1 r m.length (fB m) ∧ Bel w w' := by
  refine (F_laws_toBoolS [.s (.view (.bools m))] _ rfl hm (fun _ => False) #[v] w ⟨fun _ h => h.elim, hI⟩ ⟨hv, trivial⟩).2.mono ?_
  rintro e w' ⟨r, rfl, ⟨xs, h1, h2⟩, hb⟩
  have h2' : xs = fB m := h2
  subst h2'
  exact ⟨r, rfl, h1, hb⟩
theorem rep_set {l : List (List Bool)} {k n : Nat} (hn : l.length = n) (hk : k < n) : (l.take k ++ List.replicate (n - k) []).set k (l[k]'(by omega)) = l.take (k + 1) ++ List.replicate (n - (k + 1)) [] := by
  have e : n - k = (n - (k + 1)) + 1 := by omega
  have e2 : (l.take k).length = k := by rw [List.length_take]; omega
  rw [e, List.replicate_succ, List.set_append_right k _ (by omega), e2, Nat.sub_self, List.set_cons_zero, List.take_succ_eq_append_getElem (by omega), List.append_assoc]
  rfl
set_option maxHeartbeats 1000000 in
theorem toBoolSS_own {w : World} {v : Value} {l : List (List Bool)} (hI : GInv w) (hv : Reads (fun _ => False) w v (.boolss l)) (hn : ilen l ≤ 1048576) (hr : ∀ i, 0 ≤ i → i < ilen l → ilen (getl l i) ≤ 100000000) :
    Calls Try.prog 14 #[v] w fun e w' => ∃ u xs, e = .returned u ∧ Tab w.heap.size 42 4 1 fB w' u xs l ∧ Bel w w' := by
  obtain ⟨ys, ⟨A, c, rfl, hc1, hc2, hxl, hcell⟩, hyn, hin⟩ := hv
  have hc1' : l.length ≤ c := hc1
  have hyn' : ys.length = l.length := hyn
  have hcell' : 0 < l.length → ∃ b off, A = some ⟨b, off, none⟩ ∧ b < w.heap.size ∧ ¬ False ∧ ∀ (j : Nat) (u : Value), ys[j]? = some u → w.cell? ⟨b, off + j, none⟩ = some u := hcell
  unfold maxLen at hc2
  unfold ilen at hn
  clear hcell hc1 hyn hxl
  show Calls _ _ #[.slice A l.length c] _ _
  obtain ⟨iS, hi, hz, hs, hb⟩ := info_parts info_Bool
  have hmk := mkRow (P := Try.prog) 22 42 iS _ Try.underlying22 hi hz l.length (by rw [hb]; omega) (by omega)
  rw [hs] at hmk
  have hmc : (madeCells #[Value.slice none 0 0] l.length).toList = List.replicate l.length (.slice none 0 0) := by
    rw [madeCells_rep (.intss []) _ _ (fun v hv => by simpa [Cont.fillV] using hv) (by simp)]; rfl
  have hst : Tab w.heap.size 42 4 1 fB (w.alloc (.cells (madeCells #[Value.slice none 0 0] l.length) 42)) (.slice (some ⟨w.heap.size, 0, none⟩) l.length l.length) (List.replicate l.length (.slice none 0 0)) (l.take 0 ++ List.replicate (l.length - 0) []) := by
    refine ⟨?_, fun i u m hu hm => ?_, fun i j u u' b hu _ hb1 _ => ?_⟩
    · rw [← hmc]
      simp only [List.take_zero, List.nil_append, Nat.sub_zero, List.length_replicate]
      exact World.ownsRow_lit w _ _ (Nat.le_refl _) (by unfold maxLen; omega) (by rw [size_madeCells, Nat.mul_one])
    · rw [List.getElem?_replicate] at hu
      simp only [List.take_zero, List.nil_append, Nat.sub_zero, List.getElem?_replicate] at hm
      split at hu
      · rename_i hil
        rw [if_pos hil] at hm
        injection hu with hu; injection hm with hm; subst hu hm
        exact World.ownsRow_nil ..
      · cases hu
    · rw [List.getElem?_replicate] at hu
      split at hu
      · injection hu with hu; subst hu; cases hb1
      · cases hu
  have HST := Lib.hid hst
  have HCELL := Lib.hid hcell'
  have HIN := Lib.hid hin
  clear hst hcell' hin hi hz hs hb hmc
  go_enter Try.func14, Try.ntmps14
  go_wp2
  go_loopw [4] (fun i wr => ∃ (k : Nat) (xs : List Value), k ≤ l.length ∧ i = .int .i64 k ∧ Tab w.heap.size 42 4 1 fB wr (.slice (some ⟨w.heap.size, 0, none⟩) l.length l.length) xs (l.take k ++ List.replicate (l.length - k) []) ∧ Bel w wr) (fun i _ => l.length - (intOf i).toNat)
  case atStart => exact ⟨0, _, Nat.zero_le _, rfl, HST.out, (Bel.refl _).alloc _⟩
  case round =>
    obtain ⟨k, xs, hk, rfl, hT, hB⟩ := hrel
    by_cases hlt : k < l.length
    · obtain ⟨b, off, rfl, hbs, _, hcl⟩ := HCELL.out (by omega)
      obtain ⟨u, hu⟩ : ∃ u, ys[k]? = some u := ⟨ys[k]'(by omega), List.getElem?_eq_getElem _⟩
      have hfl := HIN.out k u l[k] hu (List.getElem?_eq_getElem hlt)
      obtain ⟨Au, cu, rfl⟩ : ∃ A c, u = .slice A l[k].length c := by obtain ⟨A, c, e, _⟩ := hfl; exact ⟨A, c, e⟩
      have c1 := hB.cell hbs (hcl k _ hu)
      have hrow : Reads (fun _ => False) wr (.slice Au l[k].length cu) (.bools l[k]) := Reads.step (w := w) ⟨_, hfl, rfl⟩ (bel_grown hB) (fun b e => by cases e)
      have hrl : ilen l[k] ≤ 100000000 := by
        have := hr k (by omega) (by unfold ilen; omega)
        unfold getl at this; simpa [List.getD_eq_getElem?_getD, hlt] using this
      have hIr : GInv wr := GInv.keep hI (bel_grown hB) (fun b e => by cases e)
      have HROW := Lib.hid (toBool_b hIr hrow hrl)
      have hlen : (l.take k ++ List.replicate (l.length - k) ([] : List Bool)).length = l.length := by simp; omega
      have HLEN := Lib.hid hlen
      have HY := Lib.hid hu
      clear hfl hu hrow hcl hlen hmk
      go_wp2_with (go_at_call 60; refine HROW.out.mono ?_; rintro e w1 ⟨r, rfl, ho1, hb1⟩; have hT1 := hT.bel hb1; have hB1 := hB.trans hb1; obtain ⟨Ar, cr, rfl⟩ := own_form ho1; obtain ⟨t1, t2⟩ := hT1.put (i := k) (by decide) HLEN.out hlt (own_base ho1 hB.size) (fun b hb ht => (by have := (hT.lt b ht).2; have := (ho1.lt b hb).1; omega)); rw [rep_set rfl hlt] at t1; obtain ⟨u2, d0⟩ := own_cell (HLEN.out ▸ hT1.outer) k (by omega); have d1 := World.ownsRow.frozenAt (HLEN.out ▸ hT1.outer) k; have hB2 : Bel w (w1.setCell ⟨w.heap.size, k, none⟩ (.slice Ar l[k].length cr)) := hB1.setCell (Nat.le_refl _) _; clear hT)
      go_roundw
      case rel => exact ⟨k + 1, _, by omega, by go_num, t1, hB2⟩
      case measure => simp [intOf]; omega
    · go_wp2
      go_ret
      have hk' : k = l.length := by omega
      subst hk'
      rw [List.take_length, Nat.sub_self, List.replicate_zero, List.append_nil] at hT
      exact ⟨_, _, rfl, hT, hB⟩
def mkdI (m : List Int) (k n : Int) : Prop := ∀ j, 0 ≤ j → j < n → geti m j = k + j
def heldIE (l : List Int) (k j : Int) : Bool := decide (geti l j = k + j)
def heldIF (l : List Int) (k : Int) : Int := if allN (ilen l) (heldIE l k) then k + ilen l else -1
theorem heldIF_e {l : List Int} {k : Int} (h : mkdI l k (ilen l)) : heldIF l k = k + ilen l := by
  unfold heldIF
  rw [if_pos (allN_mk fun j j0 j1 => by unfold heldIE; simp [h j j0 j1])]
def mkB (k : Int) : Bool := decide (k.tmod 3 = 0)
def mkdB (m : List Bool) (k n : Int) : Prop := ∀ j, 0 ≤ j → j < n → getb m j = mkB (k + j)
def heldBE (l : List Bool) (k j : Int) : Bool := decide (getb l j = mkB (k + j))
def heldBF (l : List Bool) (k : Int) : Int := if allN (ilen l) (heldBE l k) then k + ilen l else -1
theorem heldBF_e {l : List Bool} {k : Int} (h : mkdB l k (ilen l)) : heldBF l k = k + ilen l := by
  unfold heldBF
  rw [if_pos (allN_mk fun j j0 j1 => by unfold heldBE; simp [h j j0 j1])]
def s_laws_markBoolS (l : List Bool) (k : Int) : SgX := ⟨0 ≤ k ∧ k ≤ 10000000000000 ∧ ilen l ≤ 1000000000, [.bools, .int], (fun | [.bools m, .int q] => ilen m = ilen l ∧ mkdB m k (ilen l) ∧ q = k + ilen l | _ => False), (fun | [.bools m, .int q] => [.s (.int (q))] | _ => []), (fun | [.bools m, .int q] => .row 4 (.bools (m)) | _ => .box [])⟩
def g_laws_markBoolS : Bx → List AV → Option SgX
  | .row 4 (.bools l), [.s (.int k)] => some (s_laws_markBoolS l k)
  | _, _ => none
def sig_laws_markBoolS : FuncId → List AV → Option Sg := sigL []
def xs_laws_markBoolS : XS := ⟨xsigL [], ysigL []⟩
theorem sig_laws_markBoolS_ok : SigOK sig_laws_markBoolS := sigL_nil
theorem xs_laws_markBoolS_ok : XSigOK xs_laws_markBoolS := ⟨xsigL_nil, ysigL_nil⟩
def L_laws_markBoolS_0 (l : List Bool) (k : Int) (i1_1 : Int) (l1_2 : List Bool) : Prop := ∃ m : List Bool, ∃ q : Int, ((ilen m = ilen l ∧ mkdB m k (ilen l) ∧ q = k + ilen l) ∧ (((i1_1 : Int) = (q)) ∧ True) ∧ ((true = true) ∧ ((Cont.bools l1_2) = (Cont.bools (m)))))
theorem V_laws_markBoolS (l : List Bool) (k : Int) : ((true = true) ∧ ((True) ∧ True) ∧ (true = true) ∧ ((True) ∧ True) ∧ ∃ (I1 : List GV → Prop) (μ1 : List GV → Nat), (((true = true) ∧ (((k : Int) = k) ∧ (((0 : Int) : Int) = (0 : Int)) ∧ (((0 : Int) : Int) = (0 : Int)) ∧ (true = true) ∧ True) ∧ (((true = true) ∧ ((Cont.bools l) = (Cont.bools l))) ∧ True)) ∧ (([GK.int, GK.int, GK.bools] : List GK) = ([GK.int, GK.int, GK.bools] : List GK)) ∧ I1 [GV.int (0 : Int), GV.int k, GV.bools l]) ∧ (∀ i1_0 : Int, ∀ i1_1 : Int, ∀ l1_2 : List Bool, I1 [GV.int i1_0, GV.int i1_1, GV.bools l1_2] → ((true = true) ∧ ((True) ∧ (True) ∧ (True) ∧ (True) ∧ True) ∧ ((ilt i1_0 (ilen l1_2)) = true → ((true = true) ∧ ((True) ∧ (True) ∧ (True) ∧ (NNe (3 : Int) 0) ∧ (True) ∧ (NLe 0 i1_0 ∧ NLt i1_0 (ilen l1_2)) ∧ True) ∧ (NLt i1_0 (ilen l1_2)) ∧ (true = true) ∧ ((True) ∧ (True) ∧ (True) ∧ True) ∧ (true = true) ∧ ((True) ∧ (True) ∧ (True) ∧ True) ∧ ((true = true) ∧ ((((iadd i1_1 (1 : Int)) : Int) = (iadd i1_1 (1 : Int))) ∧ (((iadd i1_0 (1 : Int)) : Int) = (iadd i1_0 (1 : Int))) ∧ (((0 : Int) : Int) = (0 : Int)) ∧ (true = true) ∧ True) ∧ (((true = true) ∧ ((Cont.bools (setb l1_2 i1_0 (ieq (irem i1_1 (3 : Int)) (0 : Int)))) = (Cont.bools (setb l1_2 i1_0 (ieq (irem i1_1 (3 : Int)) (0 : Int)))))) ∧ True)) ∧ ((([GK.int, GK.int, GK.bools] : List GK) = ([GK.int, GK.int, GK.bools] : List GK)) ∧ I1 [GV.int (iadd i1_0 (1 : Int)), GV.int (iadd i1_1 (1 : Int)), GV.bools (setb l1_2 i1_0 (ieq (irem i1_1 (3 : Int)) (0 : Int)))] ∧ μ1 [GV.int (iadd i1_0 (1 : Int)), GV.int (iadd i1_1 (1 : Int)), GV.bools (setb l1_2 i1_0 (ieq (irem i1_1 (3 : Int)) (0 : Int)))] < μ1 [GV.int i1_0, GV.int i1_1, GV.bools l1_2]))) ∧ ((ilt i1_0 (ilen l1_2)) = false → ((true = true) ∧ ((True) ∧ (True) ∧ True) ∧ L_laws_markBoolS_0 l k i1_1 l1_2))))) = (fun sg => ev sig_laws_markBoolS xs_laws_markBoolS Try.f66.ntmps (fun b => if b == 0 then [.v 5, .v 1, .b 0] else []) (codeOf Try.f66) 0 (initX (.row 4 (.bools l)) [.s (.int k)]) (retX Try.f66.results.toList sg.kinds sg.post sg.ret sg.out)) (s_laws_markBoolS l k) := by kernel_rfl
set_option maxHeartbeats 400000 in
theorem F_laws_markBoolS : FunX 66 g_laws_markBoolS := by
  refine fun_X (by kernel_rfl) Try.func66 rfl (by kernel_rfl) sig_laws_markBoolS_ok xs_laws_markBoolS_ok ?_
  intro bx avs sg h hn hl hlb
  unfold g_laws_markBoolS at h
  split at h
  · rename_i l k
    injection h with h; subst h
    refine ⟨by kernel_rfl, fun b => if b == 0 then [.v 5, .v 1, .b 0] else [], Eq.mp (V_laws_markBoolS l k) ?_⟩
    simp only [true_and, and_true, implies_true, and_self, forall_const, true_implies, lenA, lenL, SV.lenOK, Cont.lenOK, lenB, s_laws_markBoolS, L_laws_markBoolS_0] at hn hl hlb ⊢
    have h0 := ilen_0 l
    obtain ⟨n1, n2, n3⟩ := hn
    simp only [ilt_t, ilt_f, ile_t, ile_f, ieq_t, ieq_f, bnot_e, band_e, bite_and, bite_or, NLt_e, NLe_e, NNe_e, NIs_e, imax_e, imin_e, irem_e, Bool.not_eq_true', Bool.not_eq_false', Bool.and_eq_true, Bool.or_eq_true, Bool.or_eq_false_iff, Bool.and_eq_false_iff, Cont.pts.injEq, Cont.ints.injEq, Cont.bools.injEq, Cont.ptss.injEq, Cont.intss.injEq, Cont.boolss.injEq, true_and, and_true, implies_true]
    refine ⟨fun | [.int i, .int k', .bools m] => 0 ≤ i ∧ i ≤ ilen l ∧ k' = k + i ∧ ilen m = ilen l ∧ ∀ j, 0 ≤ j → j < i → getb m j = mkB (k + j) | _ => False, fun | .int i :: _ => (ilen l - i).toNat | _ => 0, ⟨Int.le_refl 0, h0, by omega, rfl, fun j h0 h1 => absurd h1 (by omega)⟩, ?_⟩
    rintro i k' m ⟨hi0, hi1, hk, hm, hmk⟩
    refine ⟨fun hc => ?_, fun hc => ⟨m, k', ⟨hm, fun j j0 j1 => hmk j j0 (by omega), by omega⟩, rfl, rfl⟩⟩
    have hi : i < ilen l := by omega
    rw [iadd_e (a := i) (by omega) (by omega), iadd_e (a := k') (by omega) (by omega)]
    refine ⟨⟨by omega, hi0, hc⟩, hc, ⟨by omega, by omega, by omega, by rw [ilen_setb]; exact hm, fun j j0 j1 => ?_⟩, by show (ilen l - (i + 1)).toNat < (ilen l - i).toNat; omega⟩
    rw [getb_setb hi0 hc j0]
    by_cases hj : j = i
    · rw [if_pos hj, hj, hk]; try (unfold mkB ieq; rfl)
    · rw [if_neg hj]; exact hmk j j0 (by omega)
  · cases h
theorem markBool_b {w : World} {base : Nat} {v : Value} {m : List Bool} {k : Int} (hI : GInv w) (hng : NG ≤ base) (ho : w.ownsRow base 4 1 v m.length (fB m)) (k0 : 0 ≤ k) (k1 : k ≤ 10000000000000) (hm : ilen m ≤ 1000000000) :
    Calls Try.prog 66 #[v, .int .i64 k] w fun e w' => ∃ m', e = .returned (.int .i64 (k + 1 * ilen m)) ∧ ilen m' = ilen m ∧ mkdB m' k (ilen m') ∧ w'.ownsRow base 4 1 v m'.length (fB m') ∧ w.grownBy w' v.ownBlock := by
  have hbk : ∀ b, blk v = some b ↔ v.ownBlock = some b := fun b => by
    rcases ho.2 with ⟨rfl, _⟩ | ⟨g, cap, cur, rfl, _⟩
    · simp [blk, Value.ownBlock]
    · simp [blk, Value.ownBlock]
  have hob : blk v = v.ownBlock := by
    rcases ho.2 with ⟨rfl, _⟩ | ⟨g, cap, cur, rfl, _⟩ <;> rfl
  refine (F_laws_markBoolS (.row 4 (.bools m)) [.s (.int k)] _ rfl ⟨k0, by omega, hm⟩ (fun b => v.ownBlock = some b) v [.int .i64 k] w ⟨fun b hb => ⟨Nat.le_trans hng (ho.lt b hb).1, (ho.lt b hb).2⟩, hI⟩ (fun b hb => (hbk b).1 hb) ⟨_, own_base ho (Nat.zero_le _), rfl⟩ ⟨rfl, trivial⟩).2.mono ?_
  rintro e w' ⟨r, gs, rfl, hk, hp, hr, ho', _, hgr⟩
  match gs, hk, hp, hr, ho' with
  | [.bools m', .int q], _, ⟨p1, p2, p3⟩, hr, ⟨xs, o1, o2⟩ =>
    have hr' : r = .int .i64 q := hr
    have o2' : xs = fB m' := o2
    subst o2' p3
    rw [hob] at hgr
    exact ⟨m', by rw [hr']; first | rfl | simp, p1, by rw [p1]; exact p2, own_rebase o1 (fun b hb => (ho.lt b hb).1), hgr⟩
/-- Rows marked one after the other. -/
def MkBool : Int → List (List Bool) → List (List Bool) → Int → Prop
  | k, [], [], k' => k' = k
  | k, m :: ms, m' :: ms', k' => (ilen m' = ilen m ∧ mkdB m' k (ilen m')) ∧ MkBool (k + 1 * ilen m) ms ms' k'
  | _, _, _, _ => False
theorem MkBool.snoc : ∀ {a a' : List (List Bool)} {k0 k k' : Int} {m m' : List Bool}, MkBool k0 a a' k → ilen m' = ilen m ∧ mkdB m' k (ilen m') → k' = k + 1 * ilen m → MkBool k0 (a ++ [m]) (a' ++ [m']) k'
  | [], [], _, _, _, _, _, h, h1, h2 => by
    have h' : _ = _ := h
    subst h'
    exact ⟨h1, h2⟩
  | _ :: _, _ :: _, _, _, _, _, _, h, h1, h2 => ⟨h.1, MkBool.snoc h.2 h1 h2⟩
  | [], _ :: _, _, _, _, _, _, h, _, _ => h.elim
  | _ :: _, [], _, _, _, _, _, h, _, _ => h.elim
theorem MkBool.le : ∀ {a a' : List (List Bool)} {k0 k : Int}, MkBool k0 a a' k → (∀ m ∈ a, ilen m ≤ 1048576) → k0 ≤ k ∧ k ≤ k0 + 2097152 * a.length
  | [], [], _, _, h, _ => by
    have h' : _ = _ := h
    subst h'; simp
  | m :: _, _ :: _, _, _, h, hm => by
    have h1 := MkBool.le h.2 fun x hx => hm x (List.mem_cons_of_mem _ hx)
    have h2 := hm m (List.mem_cons_self ..)
    have h3 := ilen_0 m
    rw [List.length_cons]
    omega
  | [], _ :: _, _, _, h, _ => h.elim
  | _ :: _, [], _, _, h, _ => h.elim
/-- What marking changes: rows of the table alone. -/
structure Mch (xs : List Value) (w w' : World) : Prop where
  os : w'.os = w.os
  tape : w'.tape = w.tape
  output : w'.output = w.output
  size : w.heap.size ≤ w'.heap.size
  block : ∀ b, b < w.heap.size → (∀ (i : Nat) (u : Value), xs[i]? = some u → u.ownBlock ≠ some b) → w'.heap[b]? = w.heap[b]?
theorem Mch.refl (xs : List Value) (w : World) : Mch xs w w := ⟨rfl, rfl, rfl, Nat.le_refl _, fun _ _ _ => rfl⟩
theorem Mch.step {xs : List Value} {w w1 w2 : World} {i : Nat} {u : Value} (h : Mch xs w w1) (hu : xs[i]? = some u) (k : w1.grownBy w2 u.ownBlock) : Mch xs w w2 :=
  ⟨k.os.trans h.os, k.tape.trans h.tape, k.output.trans h.output, Nat.le_trans h.size k.size, fun b hb hn => (k.block b (Nat.lt_of_lt_of_le hb h.size) (fun e => hn i u hu e.symm)).trans (h.block b hb hn)⟩
theorem Mch.grown {xs : List Value} {w w1 w2 : World} (h : Mch xs w w1) (k : w1.grownBy w2 none) : Mch xs w w2 :=
  ⟨k.os.trans h.os, k.tape.trans h.tape, k.output.trans h.output, Nat.le_trans h.size k.size, fun b hb hn => (k.block b (Nat.lt_of_lt_of_le hb h.size) (fun e => by cases e)).trans (h.block b hb hn)⟩
theorem Mch.bel {xs : List Value} {w0 w w' : World} (hB : Bel w0 w) (h : Mch xs w w') (hx : ∀ (i : Nat) (u : Value) b, xs[i]? = some u → u.ownBlock = some b → w0.heap.size ≤ b) : Bel w0 w' :=
  ⟨h.os.trans hB.os, h.tape.trans hB.tape, h.output.trans hB.output, Nat.le_trans hB.size h.size, fun b hb => (h.block b (Nat.lt_of_lt_of_le hb hB.size) (fun i u hu hv => by have := hx i u b hu hv; omega)).trans (hB.block b hb)⟩
theorem Mch.own {xs : List Value} {w w' : World} {base : Nat} {e : TypeId} {sz : Nat} {v : Value} {n : Nat} {ys : List Value} (ho : w.ownsRow base e sz v n ys) (h : Mch xs w w') (hx : ∀ (i : Nat) (u : Value) b, xs[i]? = some u → u.ownBlock = some b → v.ownBlock ≠ some b) : w'.ownsRow base e sz v n ys := by
  refine ⟨ho.1, ?_⟩
  rcases ho.2 with h1 | ⟨g, cap, cur, rfl, h2, h3, r⟩
  · exact .inl h1
  · exact .inr ⟨g, cap, cur, rfl, h2, (h.block g (heap_lt h3) (fun i u hu hv => hx i u g hu hv rfl)).trans h3, r⟩
theorem Mch.inv {xs : List Value} {w w' : World} (hI : GInv w) (h : Mch xs w w') (hx : ∀ (i : Nat) (u : Value) b, xs[i]? = some u → u.ownBlock = some b → NG ≤ b) : GInv w' := by
  first
    | trivial
    | exact GInv.blocks hI h.os h.size fun b hb => h.block b (Nat.lt_of_lt_of_le hb hI.ng) (fun i u hu hv => by have := hx i u b hu hv; omega)
set_option maxHeartbeats 1000000 in
theorem markBoolSS_own {w : World} {base : Nat} {u : Value} {xs : List Value} {rows : List (List Bool)} {k : Int} (hI : GInv w) (hng : NG ≤ base) (hT : Tab base 42 4 1 fB w u xs rows) (k0 : 0 ≤ k) (k1 : k ≤ 1000000) (hn : ilen rows ≤ 1048576) (hm : ∀ m ∈ rows, ilen m ≤ 1048576) :
    Calls Try.prog 19 #[u, .int .i64 k] w fun e w' => ∃ rows' k', e = .returned (.int .i64 k') ∧ Tab base 42 4 1 fB w' u xs rows' ∧ MkBool k rows rows' k' ∧ Mch xs w w' := by
  obtain ⟨A, c, rfl⟩ := own_form hT.outer
  have hxl := hT.len
  unfold ilen at hn
  go_enter Try.func19, Try.ntmps19
  go_wp2
  go_loopw [1, 5] (fun kv iv wr => ∃ (i : Nat) (done : List (List Bool)) (kk : Int), i ≤ rows.length ∧ iv = .int .i64 i ∧ kv = .int .i64 kk ∧ done.length = i ∧ Tab base 42 4 1 fB wr (.slice A rows.length c) xs (done ++ rows.drop i) ∧ MkBool k (rows.take i) done kk ∧ Mch xs w wr) (fun _ iv _ => rows.length - (intOf iv).toNat)
  case atStart => exact ⟨0, [], k, Nat.zero_le _, rfl, rfl, rfl, hT, rfl, Mch.refl _ _⟩
  case round =>
    obtain ⟨i, done, kk, hi, rfl, rfl, hd, hTr, hM, hC⟩ := hrel
    by_cases hlt : i < rows.length
    · obtain ⟨g, rfl, hg⟩ := own_some (hT.outer) (by omega)
      obtain ⟨x, hx⟩ : ∃ x, xs[i]? = some x := ⟨xs[i]'(by omega), List.getElem?_eq_getElem _⟩
      have hri : (done ++ rows.drop i)[i]? = some rows[i] := by
        rw [List.getElem?_append_right (by omega), hd, Nat.sub_self, List.getElem?_drop, Nat.add_zero]
        exact List.getElem?_eq_getElem hlt
      have hrow := hTr.row i x rows[i] hx hri
      obtain ⟨Ax, cx, rfl⟩ := own_form hrow
      have hlen : (done ++ rows.drop i).length = rows.length := by rw [List.length_append, List.length_drop]; omega
      have hout := hTr.outer
      rw [hlen] at hout
      have c1 : wr.cell? ⟨g, i, none⟩ = some (.slice Ax rows[i].length cx) := by rw [hout.cellAt i (by omega)]; exact hx
      have hle := hM.le (fun m hm' => hm m (List.mem_of_mem_take hm'))
      rw [List.length_take] at hle
      have hmi : ilen rows[i] ≤ 1048576 := hm _ (List.getElem_mem hlt)
      have hIr : GInv wr := hC.inv hI (fun j v b hv hb => Nat.le_trans hng (hT.lt b (.inr ⟨j, v, hv, hb⟩)).1)
      have HROW := Lib.hid (markBool_b (k := kk) hIr hng hrow (by omega) (by omega) (by omega))
      have HX := Lib.hid hx
      have HH := Lib.hid hTr
      clear hx hri hrow hlen hout hTr
      go_wp2_with (go_at_call 66; refine HROW.out.mono ?_; rintro e w1 ⟨m', rfl, hout1⟩; have HO1 := Lib.hid hout1; clear hout1; generalize hqq : kk + 1 * ilen rows[i] = q; have HQ := Lib.hid hqq; clear hqq)
      obtain ⟨p1, p2, ho1, hg1⟩ := HO1.out
      have hT1 := HH.out.write (i := i) (by decide) HX.out hg1 ho1
      have hset : (done ++ rows.drop i).set i m' = (done ++ [m']) ++ rows.drop (i + 1) := by
        rw [List.set_append_right i _ (by omega), hd, Nat.sub_self, List.drop_eq_getElem_cons hlt, List.set_cons_zero, List.append_assoc]; rfl
      rw [hset] at hT1
      go_roundw
      case rel => exact ⟨i + 1, done ++ [m'], q, by omega, by go_num, rfl, by simp [hd], hT1, by rw [List.take_succ_eq_append_getElem hlt]; exact hM.snoc ⟨p1, p2⟩ HQ.out.symm, hC.step HX.out hg1⟩
      case measure => simp [intOf]; omega
    · go_wp2
      go_ret
      have hk' : i = rows.length := by omega
      subst hk'
      rw [List.drop_length, List.append_nil] at hTr
      rw [List.take_length] at hM
      exact ⟨_, _, rfl, hTr, hM, hC⟩
theorem VA_laws_FnExactPlanPath (l : List (List Bool)) (a1 : Int) (a2 : Int) (z1 : Int) (z2 : Int) : ((true = true) ∧ ((True) ∧ (True) ∧ (True) ∧ True) ∧ (true = true) ∧ ((True) ∧ True) ∧ (true = true) ∧ ((True) ∧ (True) ∧ True) ∧ (true = true) ∧ ((0 ≤ (1048576 : Int) ∧ (1048576 : Int) ≤ 1048576)) ∧ (∀ k_1 : Int, ((k_1 < 0 ∨ (0 ≤ k_1 ∧ k_1 ≤ (1048576 : Int) ∧ ilen l ≤ (1048576 : Int) ∧ ∀ i, 0 ≤ i → i < ilen l → ilen (getl l i) ≤ (1048576 : Int))) → ((True) ∧ (true = true) ∧ ((True) ∧ (True) ∧ True) ∧ ((ilt (k_1) (0 : Int)) = true → ((true = true) ∧ ((True) ∧ True) ∧ ((true : Bool) = true) ∧ True)) ∧ ((ilt (k_1) (0 : Int)) = false → ((true = true) ∧ ((True) ∧ ((ilen l ≤ 100000000 ∧ ∀ i, 0 ≤ i → i < ilen l → ilen (getl l i) ≤ 100000000)) ∧ (True) ∧ ((True)) ∧ (True) ∧ ((True)) ∧ ((True)) ∧ (True) ∧ True) ∧ (ilen l ≤ 1048576 ∧ ∀ i, 0 ≤ i → i < ilen l → ilen (getl l i) ≤ 1048576) ∧ ((true = true) ∧ ((a1 : Int) = a1) ∧ ((a2 : Int) = a2) ∧ True) ∧ ((true = true) ∧ ((z1 : Int) = z1) ∧ ((z2 : Int) = z2) ∧ True) ∧ (((true = true) ∧ ((Cont.pts (plF (l) (a1) (a2) (z1) (z2))) = (Cont.pts (plF l a1 a2 z1 z2))))) ∧ True)))))) = ev sig_laws_FnExactPlanPath xs_laws_FnExactPlanPath Try.f3.ntmps (fun b => []) (takeS 4 (dropS 0 (codeOf Try.f3))) 0 (initS [.s (.view (.boolss l)), .agg [.int a1, .int a2], .agg [.int z1, .int z2]]) (fragK (ilen l ≤ 1048576 ∧ ∀ i, 0 ≤ i → i < ilen l → ilen (getl l i) ≤ 1048576) [(4, .bx [.int a1, .int a2]), (5, .bx [.int z1, .int z2]), (8, .rv (.s (.view (.pts (plF l a1 a2 z1 z2)))))] Try.f3.results.toList [.s (.bool true)]) := by kernel_rfl
set_option maxHeartbeats 1000000 in
theorem PA_laws_FnExactPlanPath (l : List (List Bool)) (a1 : Int) (a2 : Int) (z1 : Int) (z2 : Int)  : ev sig_laws_FnExactPlanPath xs_laws_FnExactPlanPath Try.f3.ntmps (fun b => []) (takeS 4 (dropS 0 (codeOf Try.f3))) 0 (initS [.s (.view (.boolss l)), .agg [.int a1, .int a2], .agg [.int z1, .int z2]]) (fragK (ilen l ≤ 1048576 ∧ ∀ i, 0 ≤ i → i < ilen l → ilen (getl l i) ≤ 1048576) [(4, .bx [.int a1, .int a2]), (5, .bx [.int z1, .int z2]), (8, .rv (.s (.view (.pts (plF l a1 a2 z1 z2)))))] Try.f3.results.toList [.s (.bool true)]) := by
  refine Eq.mp (VA_laws_FnExactPlanPath l a1 a2 z1 z2) ?_
  simp only [true_and, and_true, implies_true, and_self, forall_const, true_implies, lenA, lenL, SV.lenOK, Cont.lenOK]
  simp only [ilt_t, ilt_f, ile_t, ile_f, ieq_t, ieq_f, bnot_e, band_e, bite_and, bite_or, NLt_e, NLe_e, NNe_e, NIs_e, imax_e, imin_e, irem_e, Bool.not_eq_true', Bool.not_eq_false', Bool.and_eq_true, Bool.or_eq_true, Bool.or_eq_false_iff, Bool.and_eq_false_iff, Cont.pts.injEq, Cont.ints.injEq, Cont.bools.injEq, Cont.ptss.injEq, Cont.intss.injEq, Cont.boolss.injEq, true_and, and_true, implies_true]
  refine ⟨by omega, fun k hk h0 => ?_⟩
  rcases hk with hk | ⟨k0, k1, k2, k3⟩
  · omega
  · exact ⟨⟨by omega, fun i i0 i1 => by have := k3 i i0 i1; omega⟩, k2, k3⟩
theorem VB_laws_FnExactPlanPath (l : List (List Bool)) (a1 : Int) (a2 : Int) (z1 : Int) (z2 : Int) : ((true = true) ∧ ((True) ∧ (True) ∧ ((True)) ∧ (True) ∧ ((True)) ∧ ((True)) ∧ (True) ∧ True) ∧ (true = true) ∧ ((True) ∧ (True) ∧ ((True)) ∧ (True) ∧ True) ∧ ((bnot (eqL (plF l ((getx [(a1, a2)] (0 : Int))) ((gety [(a1, a2)] (0 : Int))) ((getx [(z1, z2)] (0 : Int))) ((gety [(z1, z2)] (0 : Int)))) (plF l a1 a2 z1 z2))) = true → ((true = true) ∧ ((True) ∧ True) ∧ ((false : Bool) = true) ∧ True)) ∧ ((bnot (eqL (plF l ((getx [(a1, a2)] (0 : Int))) ((gety [(a1, a2)] (0 : Int))) ((getx [(z1, z2)] (0 : Int))) ((gety [(z1, z2)] (0 : Int)))) (plF l a1 a2 z1 z2))) = false → ((true = true) ∧ ((True) ∧ (True) ∧ ((ilen l ≤ 100000000 ∧ ∀ i, 0 ≤ i → i < ilen l → ilen (getl l i) ≤ 100000000)) ∧ ((True)) ∧ (True) ∧ True) ∧ ((bnot (eqBB l (l))) = true → ((true = true) ∧ ((True) ∧ True) ∧ ((false : Bool) = true) ∧ True)) ∧ ((bnot (eqBB l (l))) = false → ((true = true) ∧ ((True) ∧ True) ∧ (True) ∧ (((true = true) ∧ ((Cont.pts (plF l ((getx [(a1, a2)] (0 : Int))) ((gety [(a1, a2)] (0 : Int))) ((getx [(z1, z2)] (0 : Int))) ((gety [(z1, z2)] (0 : Int))))) = (Cont.pts (plF l a1 a2 z1 z2))))) ∧ ((((1 : Int) : Int) = 1)) ∧ True))))) = ev sig_laws_FnExactPlanPath xs_laws_FnExactPlanPath Try.f3.ntmps (fun b => []) (takeS 3 (dropS 6 (codeOf Try.f3))) 0 (⟨[(0, .s (.view (.boolss l))), (4, .s (.vptr (.pts [(a1, a2)]) (0 : Int) 0)), (5, .s (.vptr (.pts [(z1, z2)]) (0 : Int) 0)), (8, .s (.view (.pts (plF l a1 a2 z1 z2)))), (9, .s (.view (.boolss l)))], [], 1⟩) (fragK (True) [(10, .rv (.nrow 29 (.pts (plF l a1 a2 z1 z2)))), (11, .rv (.s (.int 1)))] Try.f3.results.toList [.s (.bool true)]) := by kernel_rfl
set_option maxHeartbeats 1000000 in
theorem PB_laws_FnExactPlanPath (l : List (List Bool)) (a1 : Int) (a2 : Int) (z1 : Int) (z2 : Int) (hl : ilen l ≤ 1048576 ∧ ∀ i, 0 ≤ i → i < ilen l → ilen (getl l i) ≤ 1048576) : ev sig_laws_FnExactPlanPath xs_laws_FnExactPlanPath Try.f3.ntmps (fun b => []) (takeS 3 (dropS 6 (codeOf Try.f3))) 0 (⟨[(0, .s (.view (.boolss l))), (4, .s (.vptr (.pts [(a1, a2)]) (0 : Int) 0)), (5, .s (.vptr (.pts [(z1, z2)]) (0 : Int) 0)), (8, .s (.view (.pts (plF l a1 a2 z1 z2)))), (9, .s (.view (.boolss l)))], [], 1⟩) (fragK (True) [(10, .rv (.nrow 29 (.pts (plF l a1 a2 z1 z2)))), (11, .rv (.s (.int 1)))] Try.f3.results.toList [.s (.bool true)]) := by
  refine Eq.mp (VB_laws_FnExactPlanPath l a1 a2 z1 z2) ?_
  simp only [true_and, and_true, implies_true, and_self, forall_const, true_implies, lenA, lenL, SV.lenOK, Cont.lenOK]
  simp only [ilt_t, ilt_f, ile_t, ile_f, ieq_t, ieq_f, bnot_e, band_e, bite_and, bite_or, NLt_e, NLe_e, NNe_e, NIs_e, imax_e, imin_e, irem_e, Bool.not_eq_true', Bool.not_eq_false', Bool.and_eq_true, Bool.or_eq_true, Bool.or_eq_false_iff, Bool.and_eq_false_iff, Cont.pts.injEq, Cont.ints.injEq, Cont.bools.injEq, Cont.ptss.injEq, Cont.intss.injEq, Cont.boolss.injEq, true_and, and_true, implies_true, getx_one, gety_one, eqL_same, eqBB_same]
  exact ⟨fun h => by simp at h, fun _ => ⟨⟨by omega, fun i i0 i1 => by have := hl.2 i i0 i1; omega⟩, fun h => by simp at h⟩⟩
theorem VC_laws_FnExactPlanPath (l : List (List Bool)) (a1 : Int) (a2 : Int) (z1 : Int) (z2 : Int) (k : Int) : ((true = true) ∧ ((True) ∧ (True) ∧ (True) ∧ (NIs (ilt k (0 : Int)) false → True) ∧ (NIs (ilt k (0 : Int)) false → True) ∧ (NIs (ilt k (0 : Int)) false → (True)) ∧ (NIs (ilt k (0 : Int)) false → True) ∧ (True) ∧ True) ∧ ((bite (ilt k (0 : Int)) true (bnot (eqL (plF l a1 a2 z1 z2) (plF l a1 a2 z1 z2)))) = true → ((true = true) ∧ ((True) ∧ True) ∧ ((false : Bool) = true) ∧ True)) ∧ ((bite (ilt k (0 : Int)) true (bnot (eqL (plF l a1 a2 z1 z2) (plF l a1 a2 z1 z2)))) = false → ((true = true) ∧ ((True) ∧ True) ∧ (true = true) ∧ ((True) ∧ (True) ∧ True) ∧ (true = true) ∧ ((0 ≤ (1 : Int) ∧ (1 : Int) ≤ 1000000000 ∧ ilen (plF l a1 a2 z1 z2) ≤ 1000000000)) ∧ (∀ m_2 : List Pt, ∀ q_3 : Int, ((ilen m_2 = ilen (plF l a1 a2 z1 z2) ∧ mkd m_2 (1 : Int) (ilen (plF l a1 a2 z1 z2)) ∧ q_3 = (1 : Int) + 2 * ilen (plF l a1 a2 z1 z2)) → ((True) ∧ (true = true) ∧ ((True) ∧ True) ∧ (true = true) ∧ ((True) ∧ (True) ∧ ((0 ≤ (1 : Int) ∧ (1 : Int) ≤ 1000000000 ∧ ilen (m_2) ≤ 1000000000)) ∧ (True) ∧ True) ∧ (true = true) ∧ ((True) ∧ (True) ∧ True) ∧ ((ilt (heldF (m_2) (1 : Int)) (0 : Int)) = true → ((true = true) ∧ ((True) ∧ True) ∧ ((false : Bool) = true) ∧ True)) ∧ ((ilt (heldF (m_2) (1 : Int)) (0 : Int)) = false → ((true = true) ∧ ((True) ∧ (True) ∧ (True) ∧ True) ∧ ((bnot (ieq (heldF (m_2) (1 : Int)) (q_3))) = true → ((true = true) ∧ ((True) ∧ True) ∧ ((false : Bool) = true) ∧ True)) ∧ ((bnot (ieq (heldF (m_2) (1 : Int)) (q_3))) = false → ((true = true) ∧ ((True) ∧ ((ilen l ≤ 100000000 ∧ ∀ i, 0 ≤ i → i < ilen l → ilen (getl l i) ≤ 100000000)) ∧ (True) ∧ ((True)) ∧ (True) ∧ ((True)) ∧ ((True)) ∧ (True) ∧ True) ∧ (true = true) ∧ ((True) ∧ (True) ∧ ((True)) ∧ (True) ∧ True) ∧ ((bnot (eqL (plF (l) ((getx [(a1, a2)] (0 : Int))) ((gety [(a1, a2)] (0 : Int))) ((getx [(z1, z2)] (0 : Int))) ((gety [(z1, z2)] (0 : Int)))) (plF l a1 a2 z1 z2))) = true → ((true = true) ∧ ((True) ∧ True) ∧ ((false : Bool) = true) ∧ True)) ∧ ((bnot (eqL (plF (l) ((getx [(a1, a2)] (0 : Int))) ((gety [(a1, a2)] (0 : Int))) ((getx [(z1, z2)] (0 : Int))) ((gety [(z1, z2)] (0 : Int)))) (plF l a1 a2 z1 z2))) = false → ((true = true) ∧ ((True) ∧ True) ∧ (true = true) ∧ ((True) ∧ (True) ∧ ((0 ≤ (1 : Int) ∧ (1 : Int) ≤ 1000000000 ∧ ilen (m_2) ≤ 1000000000)) ∧ (True) ∧ True) ∧ (true = true) ∧ ((True) ∧ (True) ∧ True) ∧ ((ilt (heldF (m_2) (1 : Int)) (0 : Int)) = true → ((true = true) ∧ ((True) ∧ True) ∧ ((false : Bool) = true) ∧ True)) ∧ ((ilt (heldF (m_2) (1 : Int)) (0 : Int)) = false → ((true = true) ∧ ((True) ∧ (True) ∧ (True) ∧ True) ∧ ((bnot (ieq (heldF (m_2) (1 : Int)) (q_3))) = true → ((true = true) ∧ ((True) ∧ True) ∧ ((false : Bool) = true) ∧ True)) ∧ ((bnot (ieq (heldF (m_2) (1 : Int)) (q_3))) = false → ((true = true) ∧ ((True) ∧ True) ∧ ((true : Bool) = true) ∧ True)))))))))))))))) = ev sig_laws_FnExactPlanPath xs_laws_FnExactPlanPath Try.f3.ntmps (fun b => []) (dropS 11 (codeOf Try.f3)) 0 (⟨[(0, .s (.view (.boolss l))), (4, .s (.vptr (.pts [(a1, a2)]) (0 : Int) 0)), (5, .s (.vptr (.pts [(z1, z2)]) (0 : Int) 0)), (8, .s (.view (.pts (plF l a1 a2 z1 z2)))), (10, .s (.row 1)), (11, .s (.int k))], [(1, .row 29 (.pts (plF l a1 a2 z1 z2)))], 2⟩) (retK Try.f3.results.toList [.s (.bool true)]) := by kernel_rfl
set_option maxHeartbeats 1000000 in
theorem PC_laws_FnExactPlanPath (l : List (List Bool)) (a1 : Int) (a2 : Int) (z1 : Int) (z2 : Int) (k : Int) (hl : ilen l ≤ 1048576 ∧ ∀ i, 0 ≤ i → i < ilen l → ilen (getl l i) ≤ 1048576) (hk : 0 ≤ k ∧ k ≤ 10000000000000) : ev sig_laws_FnExactPlanPath xs_laws_FnExactPlanPath Try.f3.ntmps (fun b => []) (dropS 11 (codeOf Try.f3)) 0 (⟨[(0, .s (.view (.boolss l))), (4, .s (.vptr (.pts [(a1, a2)]) (0 : Int) 0)), (5, .s (.vptr (.pts [(z1, z2)]) (0 : Int) 0)), (8, .s (.view (.pts (plF l a1 a2 z1 z2)))), (10, .s (.row 1)), (11, .s (.int k))], [(1, .row 29 (.pts (plF l a1 a2 z1 z2)))], 2⟩) (retK Try.f3.results.toList [.s (.bool true)]) := by
  refine Eq.mp (VC_laws_FnExactPlanPath l a1 a2 z1 z2 k) ?_
  simp only [true_and, and_true, implies_true, and_self, forall_const, true_implies, lenA, lenL, SV.lenOK, Cont.lenOK]
  simp only [ilt_t, ilt_f, ile_t, ile_f, ieq_t, ieq_f, bnot_e, band_e, bite_and, bite_or, NLt_e, NLe_e, NNe_e, NIs_e, imax_e, imin_e, irem_e, Bool.not_eq_true', Bool.not_eq_false', Bool.and_eq_true, Bool.or_eq_true, Bool.or_eq_false_iff, Bool.and_eq_false_iff, Cont.pts.injEq, Cont.ints.injEq, Cont.bools.injEq, Cont.ptss.injEq, Cont.intss.injEq, Cont.boolss.injEq, true_and, and_true, implies_true, getx_one, gety_one, eqL_same, eqBB_same]
  have hpl := (stp1_pl l a1 a2 z1 z2).2
  have hpl0 := ilen_0 (plF l a1 a2 z1 z2)
  refine ⟨fun h => (by rcases h with h | h; omega; simp at h), fun _ => ⟨⟨by omega, by omega, by omega⟩, fun m q hm => ?_⟩⟩
  obtain ⟨m1, m2, m3⟩ := hm
  have hh : heldF m 1 = 1 + 2 * ilen m := heldF_e (by rw [m1]; exact m2)
  rw [hh]
  refine ⟨⟨by omega, by omega, by omega⟩, fun h => by omega, fun _ => ⟨fun h => by omega, fun _ => ⟨⟨by omega, fun i i0 i1 => by have := hl.2 i i0 i1; omega⟩, fun h => by simp at h, fun _ => ⟨⟨by omega, by omega, by omega⟩, fun h => by omega, fun _ h => by omega⟩⟩⟩⟩
set_option maxHeartbeats 1000000 in
theorem fepp_x {w : World} {v0 v1 v2 : Value} {l : List (List Bool)} {a1 a2 z1 z2 : Int} (hI : GInv w) (hA : hasA (EL fun _ => False) w [v0, v1, v2] [.s (.view (.boolss l)), .agg [.int a1, .int a2], .agg [.int z1, .int z2]]) :
    Calls Try.prog 3 #[v0, v1, v2] w fun e w' => e = .returned (.bool true) ∧ Bel w w' := by
  have h0 : Reads (fun _ => False) w v0 (.boolss l) := hA.1
  have hpl := (stp1_pl l a1 a2 z1 z2).2
  have hpl0 := ilen_0 (plF l a1 a2 z1 z2)
  refine calls_of_wp Try.func3 (c := dropS 0 (codeOf Try.f3)) rfl ?_
  refine frag_wpK (ds := inS (wrS (takeS 4 (dropS 0 (codeOf Try.f3))))) sig_laws_FnExactPlanPath_ok xs_laws_FnExactPlanPath_ok (by kernel_rfl) 4 _ 0 _ _ _ _ _ _ (by kernel_rfl) (init_rel0 hI hA (by kernel_rfl)) (PA_laws_FnExactPlanPath l a1 a2 z1 z2) ?_
  intro e σ1 E1 b1 w1 hR1 hk hs1
  cases e with
  | exit i => exact hk.elim
  | ret => exact frag_ret hR1 hk (Bel.refl w) (by kernel_rfl)
  | normal =>
    obtain ⟨hl, hend⟩ := hk
    have hB1 : Bel w w1 := rel_bel hR1
    have hI1 := ginv_bel hI hB1
    obtain ⟨g4, c4, t4, p4, -, q4, r4⟩ := mEnd_ok hR1 hend 4 (.bx [.int a1, .int a2]) (by simp)
    obtain ⟨g5, c5, t5, p5, -, q5, r5⟩ := mEnd_ok hR1 hend 5 (.bx [.int z1, .int z2]) (by simp)
    have e8 : Reads (fun _ => False) w1 (b1.tmps.getD 8 undef) (.pts (plF l a1 a2 z1 z2)) := mEnd_ok hR1 hend 8 (.rv (.s (.view (.pts (plF l a1 a2 z1 z2))))) (by simp)
    have s0 : b1.tmps.getD 0 undef = v0 := (hs1 rfl 0 (by kernel_rfl)).trans (init_get rfl)
    obtain ⟨v8, s8⟩ : ∃ v, b1.tmps.getD 8 undef = v := ⟨_, rfl⟩
    rw [s8] at e8
    refine item_wp (by kernel_rfl) ?_
    refine call_item (f := 14) (srcs := [0]) (e := 9) (N := Try.f3.ntmps) (by kernel_rfl) hR1.size (enters_of Try.func14 (by kernel_rfl) rfl) ?_
    simp only [List.map_cons, List.map_nil, s0]
    refine (toBoolSS_own hI1 (reads_old h0 hB1) hl.1 (fun i i0 i1 => by have := hl.2 i i0 i1; omega)).mono ?_
    rintro en w2 ⟨u, xs, rfl, hT, hb2⟩
    refine ⟨u, rfl, fun b2 hN2 hd2 hs2 s9 => ?_⟩
    have hB2 := hB1.trans hb2
    have hI2 := ginv_bel hI1 hb2
    have s0 := (hs2 0 (by kernel_rfl)).trans s0
    have s4 := (hs2 4 (by kernel_rfl)).trans p4
    have s5 := (hs2 5 (by kernel_rfl)).trans p5
    have s8 := (hs2 8 (by kernel_rfl)).trans s8
    have q4b := (hb2.block g4 (heap_lt q4)).trans q4
    have q5b := (hb2.block g5 (heap_lt q5)).trans q5
    have rT : Reads (fun _ => False) w2 u (.boolss l) := hT.readsB (fun _ _ h => h)
    refine frag_wpK (ds := inS (wrS (takeS 3 (dropS 6 (codeOf Try.f3))))) sig_laws_FnExactPlanPath_ok xs_laws_FnExactPlanPath_ok (by kernel_rfl) 3 (dropS 6 (codeOf Try.f3)) 0 _ _ _ _ _ _ (by kernel_rfl)
      (rel_part (S := [(0, .s (.view (.boolss l))), (4, .s (.vptr (.pts [(a1, a2)]) 0 0)), (5, .s (.vptr (.pts [(z1, z2)]) 0 0)), (8, .s (.view (.pts (plF l a1 a2 z1 z2)))), (9, .s (.view (.boolss l)))]) hI2 hN2 (hd2.trans hR1.defers) (by kernel_rfl) ⟨(by rw [s0]; exact reads_old h0 hB2), vptr_of s4 q4b r4 (fun h => h), vptr_of s5 q5b r5 (fun h => h), (by rw [s8]; exact reads_old e8 hb2), (by rw [s9]; exact rT), trivial⟩) (PB_laws_FnExactPlanPath l a1 a2 z1 z2 hl) ?_
    intro e σ3 E3 b3 w3 hR3 hk hs3
    cases e with
    | exit i => exact hk.elim
    | ret => exact frag_ret hR3 hk hB2 (by kernel_rfl)
    | normal =>
      obtain ⟨-, hend3⟩ := hk
      have hb3 : Bel w2 w3 := rel_bel hR3
      have hI3 := ginv_bel hI2 hb3
      have e10 : Owned w2.heap.size (fun b => False ∨ blk (b3.tmps.getD 10 undef) = some b) w3 (b3.tmps.getD 10 undef) 29 (.pts (plF l a1 a2 z1 z2)) := mEnd_ok hR3 hend3 10 (.rv (.nrow 29 (.pts (plF l a1 a2 z1 z2)))) (by simp)
      have s11 : b3.tmps.getD 11 undef = .int .i64 1 := mEnd_ok hR3 hend3 11 (.rv (.s (.int 1))) (by simp)
      obtain ⟨v10, s10⟩ : ∃ v, b3.tmps.getD 10 undef = v := ⟨_, rfl⟩
      rw [s10] at e10
      have s0 := (hs3 rfl 0 (by kernel_rfl)).trans s0
      have s4 := (hs3 rfl 4 (by kernel_rfl)).trans s4
      have s5 := (hs3 rfl 5 (by kernel_rfl)).trans s5
      have s8 := (hs3 rfl 8 (by kernel_rfl)).trans s8
      have s9 := (hs3 rfl 9 (by kernel_rfl)).trans s9
      have q4c := (hb3.block g4 (heap_lt q4b)).trans q4b
      have q5c := (hb3.block g5 (heap_lt q5b)).trans q5b
      have hT3 := hT.bel hb3
      refine item_wp (by kernel_rfl) ?_
      refine call_item (f := 19) (srcs := [9, 11]) (e := 11) (N := Try.f3.ntmps) (by kernel_rfl) hR3.size (enters_of Try.func19 (by kernel_rfl) rfl) ?_
      simp only [List.map_cons, List.map_nil, s9, s11]
      have hml : ∀ m ∈ l, ilen m ≤ 1048576 := fun m hm => by
        obtain ⟨i, hi, rfl⟩ := List.mem_iff_getElem.1 hm
        have := hl.2 i (by omega) (by unfold ilen; omega)
        unfold getl at this; simpa [List.getD_eq_getElem?_getD, hi] using this
      refine (markBoolSS_own hI3 hI1.ng hT3 (by omega) (by omega) hl.1 hml).mono ?_
      rintro en w4 ⟨rows', k', rfl, -, hM, hC⟩
      have hk1 := hM.le hml
      have hl1 := hl.1
      unfold ilen at hl1
      have hxb : ∀ (i : Nat) (x : Value) b, xs[i]? = some x → x.ownBlock = some b → w1.heap.size ≤ b ∧ b < w2.heap.size := fun i x b hx hb => hT.lt b (.inr ⟨i, x, hx, hb⟩)
      have hB4 : Bel w1 w4 := hC.bel (hb2.trans hb3) (fun i x b hx hb => (hxb i x b hx hb).1)
      have hI4 := ginv_bel hI1 hB4
      refine ⟨_, rfl, fun b4 hN4 hd4 hs4 s11 => ?_⟩
      have s0 := (hs4 0 (by kernel_rfl)).trans s0
      have s4 := (hs4 4 (by kernel_rfl)).trans s4
      have s5 := (hs4 5 (by kernel_rfl)).trans s5
      have s8 := (hs4 8 (by kernel_rfl)).trans s8
      have s10 := (hs4 10 (by kernel_rfl)).trans s10
      obtain ⟨ys, o10, hys⟩ := e10
      have hys' : ys = ptCells (plF l a1 a2 z1 z2) := hys
      subst hys'
      have hob : ∀ b, blk v10 = some b → v10.ownBlock = some b := fun b hb => by
        rcases o10.2 with ⟨rfl, _⟩ | ⟨g, cap, cur, rfl, _⟩
        · cases hb
        · exact hb
      have o10b := Mch.own o10 hC (fun i x b hx hb hv => by have := (hxb i x b hx hb).2; have := (o10.lt b hv).1; omega)
      have hlv : ∀ b, (ER [(29, .pts (plF l a1 a2 z1 z2), v10)]).lv b → w2.heap.size ≤ b := fun b hb => by
        obtain ⟨r, hr, hb⟩ := hb
        simp only [List.mem_singleton] at hr
        subst hr
        exact (o10.lt b (hob b hb)).1
      have hw12 := hb2.size
      have hw01 := hB1.size
      have q4d := (hC.block g4 (heap_lt q4c) (fun i x hx hb => by have := (hxb i x g4 hx hb).1; have := heap_lt q4; omega)).trans q4c
      have q5d := (hC.block g5 (heap_lt q5c) (fun i x hx hb => by have := (hxb i x g5 hx hb).1; have := heap_lt q5; omega)).trans q5c
      have hR4 := rel_fragR (w0 := w1) (w := w4) (a := b4) (N := Try.f3.ntmps) (R := [(29, .pts (plF l a1 a2 z1 z2), v10)]) (S := [(0, .s (.view (.boolss l))), (4, .s (.vptr (.pts [(a1, a2)]) 0 0)), (5, .s (.vptr (.pts [(z1, z2)]) 0 0)), (8, .s (.view (.pts (plF l a1 a2 z1 z2)))), (10, .s (.row 1)), (11, .s (.int k'))])
        hI1 hI4 hN4 ((hd4.trans hR3.defers)) hB4 (fun r hr => by
          simp only [List.mem_singleton] at hr
          subst hr
          exact ⟨_, own_base o10b hw12, rfl⟩) (fun i j r r' b hi hj _ _ => by
          have h1 := (List.getElem?_eq_some_iff.1 hi).1
          have h2 := (List.getElem?_eq_some_iff.1 hj).1
          simp at h1 h2; omega)
        (hasS_all ⟨(by rw [s0]; exact reads_late h0 (hB1.trans hB4) (fun b hb => by have := hlv b hb; omega)), vptr_of s4 q4d r4 (fun hb => by have := hlv g4 hb; have := heap_lt q4; omega), vptr_of s5 q5d r5 (fun hb => by have := hlv g5 hb; have := heap_lt q5; omega), (by rw [s8]; exact reads_late e8 hB4 (fun b hb => by have := hlv b hb; omega)), s10, s11, trivial⟩)
        (fun p hp k hk => by
          simp only [List.mem_cons, List.not_mem_nil, or_false] at hp
          rcases hp with rfl | rfl | rfl | rfl | rfl | rfl
          all_goals first
            | (cases hk; done)
            | (have : 1 = k := (by simpa [AV.on, SV.on] using hk); simp; omega))
      refine ev_ok sig_laws_FnExactPlanPath_ok xs_laws_FnExactPlanPath_ok (by kernel_rfl) (dropS 11 (codeOf Try.f3)) 0 _ _ _ _ _ _ hR4 (PC_laws_FnExactPlanPath l a1 a2 z1 z2 k' hl ⟨by omega, by omega⟩) ?_
      intro e σ5 E5 b5 w5 hR5 hk
      cases e with
      | exit i => exact hk.elim
      | ret => exact frag_ret hR5 hk hB1 (by kernel_rfl)
      | normal => exact frag_ret hR5 hk hB1 (by kernel_rfl)
theorem F_laws_FnExactPlanPath : FunOK 3 g_laws_FnExactPlanPath := by
  intro avs sg hg hn L0 args w hL hA
  refine ⟨callFunc_enter Try.func3 (by kernel_rfl) (by kernel_rfl) _ w, ?_⟩
  unfold g_laws_FnExactPlanPath at hg
  split at hg
  · rename_i l a1 a2 z1 z2
    injection hg with hg; subst hg
    have hA2 := hasA_less (L' := fun _ => False) (fun _ h => h.elim) (by rfl) hA
    obtain ⟨al⟩ := args
    match al, hA2 with
    | [v0, v1, v2], hA2 =>
      refine (fepp_x hL.inv hA2).mono ?_
      rintro e w' ⟨rfl, hb⟩
      exact ⟨_, rfl, rfl, hb⟩
  · cases hg
theorem fnExactPlanPath_walk (w : World) (v0 : Value) (x0 : List (List Bool)) (w0 : BoolSSArg w v0 x0) (v1 : Value) (x1 : Pt) (w1 : CellArg v1 x1) (v2 : Value) (x2 : Pt) (w2 : CellArg v2 x2) : Calls Try.prog 3 #[v0, v1, v2] w fun e w' => e = .returned (.bool true) ∧ Bel w w' :=
  walk_of F_laws_FnExactPlanPath (avs := [.s (.view (.boolss x0)), .agg [.int x1.1, .int x1.2], .agg [.int x2.1, .int x2.2]]) rfl trivial ⟨boolss_reads w0, ⟨_, w1.1, rfl, rfl, trivial⟩, ⟨_, w2.1, rfl, rfl, trivial⟩, trivial⟩
set_option maxRecDepth 100000 in
theorem fnExactPlanPath_lifted (os : Os) (started : os.Started) (H : Type) (enc : TypeId × Value → H) :
    ReturnsInHanded {} Try.checked os 3 .any (Rows.fnExactPlanPathSpec.pre6 enc Try.prog Try.f3 Rows.fnExactPlanPathRow.domain false) (Rows.fnExactPlanPathSpec.post enc Try.prog Try.f3 false true false false) := by
  have own : ownKnob Try.prog.godebug = none := by kernel_rfl
  have laidOut : laidOutB Try.prog = true := by kernel_rfl
  refine returnsInHanded_of_change (C := Try.checked) own started (by kernel_rfl) Try.func3
    (ChangeSpec.witness6 (enc := enc) (C := Try.checked) false ⟨#[], #[.slice none 0 0, .agg #[.int .i64 0, .int .i64 0], .agg #[.int .i64 0, .int .i64 0]], []⟩ 8 (by kernel_rfl) (by kernel_rfl) (by kernel_rfl) (by kernel_rfl)) ?_
  intro W base args ds gs before hval0 hW hcnd _
  have hval : ∀ (j : Nat) t v, Try.f3.params[j]? = some t → args[j]? = some v → Value.okWide Try.prog W .any base t v := hval0
  have hW' := hW
  obtain ⟨p, q, hA0, hV, rfl, hfz, hnd⟩ := hW
  have hA : DataW.TrodAll enc Try.prog W 0 (fun _ => true) true Try.f3.params.toList args.toList ds p := hA0
  rw [Try.params3] at hA hval
  obtain ⟨v0, vs0, d0, ds0, p0, q0, hargs, rfl, rfl, h0, r0⟩ := trodAll_cons hA
  obtain ⟨v1, vs1, d1, ds1, p1, q1, rfl, rfl, rfl, h1, r1⟩ := trodAll_cons r0
  obtain ⟨v2, vs2, d2, ds2, p2, q2, rfl, rfl, rfl, h2, r2⟩ := trodAll_cons r1
  obtain ⟨rfl, rfl, rfl⟩ := trodAll_nil r2
  obtain rfl : args = #[v0, v1, v2] := by cases args; simp_all
  obtain ⟨rfl, rfl⟩ := trodVars_none hV
  have k0 := h0
  have lt0 : ∀ x ∈ p0, x.block < W.heap.size := by obtain ⟨m, hm⟩ := k0; exact DataW.trod_lt m _ _ _ hm
  have k1 := h1
  have lt1 : ∀ x ∈ p1, x.block < W.heap.size := by obtain ⟨m, hm⟩ := k1; exact DataW.trod_lt m _ _ _ hm
  have k2 := h2
  have lt2 : ∀ x ∈ p2, x.block < W.heap.size := by obtain ⟨m, hm⟩ := k2; exact DataW.trod_lt m _ _ _ hm
  obtain ⟨x0, w0⟩ := opn_BoolSS (hval 0 22 v0 rfl rfl) h0
  obtain ⟨x1, w1⟩ := opn_Cell (hval 1 24 v1 rfl rfl) h1
  obtain ⟨x2, w2⟩ := opn_Cell (hval 2 24 v2 rfl rfl) h2
  clear hA0 hval0
  refine (fnExactPlanPath_walk W v0 x0 w0 v1 x1 w1 v2 x2 w2).mono fun e W' ⟨he, bel⟩ => ?_
  subst he
  exact ⟨_, rfl, _, _, _, [], _, [], hW', trodAll_mk1 (shut_bool Try.underlying4 _), (trodAll_cons_mk (Below.trod laidOut (by kernel_rfl) (of_decide_eq_true (by kernel_rfl)) k0 bel lt0) (trodAll_cons_mk (Below.trod laidOut (by kernel_rfl) (of_decide_eq_true (by kernel_rfl)) k1 bel lt1) (trodAll_cons_mk (Below.trod laidOut (by kernel_rfl) (of_decide_eq_true (by kernel_rfl)) k2 bel lt2) trodAll_mk0))), rfl, Below.frame bel _, fun h => by cases h⟩
theorem fnExactPlanPath_over : Rows.fnExactPlanPathRow.holds Try.pinned (OpenSpec.ofChange Rows.fnExactPlanPathSpec) :=
  OpenClaim.holds_of_wide 3 Try.f3 rfl rfl rfl rfl rfl rfl rfl ⟨rfl, rfl, rfl, rfl, rfl⟩ rfl rfl rfl rfl rfl (by kernel_rfl) Try.func3 (by kernel_rfl)
    (of_decide_eq_true (by kernel_rfl)) (by unfold Func.isWrapper; first | (rw [if_pos (by decide +kernel)]; kernel_rfl) | (rw [if_neg (by decide +kernel)]; exact ⟨rfl, rfl⟩))
    (fun os started H enc _ => fnExactPlanPath_lifted os started H enc)
theorem fnExactPlanPath_proved : Rows.FnExactPlanPathSaid := fnExactPlanPath_over
#print axioms fnExactPlanPath_proved
end Go.Proofs.Ytdpokkegkedlfaa

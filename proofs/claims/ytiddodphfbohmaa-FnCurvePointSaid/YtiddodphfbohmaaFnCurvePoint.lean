/- 'FnCurvePoint': for every code both sides tell the same point of a drawn curve; it is the first control point at 0, the last one at 64, it lies in the box of the control points, and the reversed curve has it at the other parameter, up to 1. Conditions: none. -/
import Derived.Test.YtiddodphfbohmaaAxO
namespace Go.Proofs.Ytiddodphfbohmaa
open Go.ChangeShapes Go.WideShapes Go.ChangeAt Go.RowKit
set_option maxRecDepth 100000
set_option linter.unusedSimpArgs false
set_option linter.unusedVariables false
def s_spec_l20Point (r1 : Int) (r2 : Int) (n : Int) : SgX := ⟨r1 ≤ 2000 ∧ 0 ≤ r2 ∧ r2 ≤ 900000 ∧ -1000000 ≤ n ∧ n ≤ 1000000, [.int, .int, .int], (fun | [.int x, .int y, .int q] => -10001 ≤ x ∧ x ≤ 10001 ∧ -10000 ≤ y ∧ y ≤ 10000 ∧ (n ≤ 0 → -10000 ≤ x ∧ x ≤ 10000) ∧ r2 ≤ q ∧ q ≤ r2 + 10 | _ => False), (fun | [.int x, .int y, .int q] => [.agg [.int (x), .int (y)]] | _ => []), (fun | [.int x, .int y, .int q] => .box [.rdr r1, .int (q)] | _ => .box [])⟩
def g_spec_l20Point : Bx → List AV → Option SgX
  | .box [.rdr r1, .int r2], [.s (.int n)] => some (s_spec_l20Point r1 r2 n)
  | _, _ => none
def sig_spec_l20Point : FuncId → List AV → Option Sg := sigL []
def xs_spec_l20Point : XS := ⟨xsigL [(71, g_spec_l20Rd_pick), (97, g_spec_l20Rd_odd)], ysigL []⟩
theorem sig_spec_l20Point_ok : SigOK sig_spec_l20Point := sigL_nil
theorem xs_spec_l20Point_ok : XSigOK xs_spec_l20Point := ⟨xsigL_cons F_spec_l20Rd_pick (xsigL_cons F_spec_l20Rd_odd xsigL_nil), ysigL_nil⟩
def L_spec_l20Point_0 (n : Int) (r2 : Int) (k_8 : Int) (k_5 : Int) (r1 : Int) (q_7 : Int) : Prop := ∃ x : Int, ∃ y : Int, ∃ q : Int, ((-10001 ≤ x ∧ x ≤ 10001 ∧ -10000 ≤ y ∧ y ≤ 10000 ∧ (n ≤ 0 → -10000 ≤ x ∧ x ≤ 10000) ∧ r2 ≤ q ∧ q ≤ r2 + 10) ∧ (((((geti [(10001 : Int), (-10001 : Int), (10000 : Int)] (k_8)) : Int) = (x)) ∧ (((isub (imul (k_5) (4 : Int)) (500 : Int)) : Int) = (y)) ∧ True) ∧ True) ∧ ((true = true) ∧ (true = true) ∧ ((r1 : Int) = r1) ∧ ((((q_7) + 1) : Int) = (q)) ∧ True))
def L_spec_l20Point_1 (n : Int) (r2 : Int) (k_4 : Int) (k_5 : Int) (r1 : Int) (q_7 : Int) : Prop := ∃ x : Int, ∃ y : Int, ∃ q : Int, ((-10001 ≤ x ∧ x ≤ 10001 ∧ -10000 ≤ y ∧ y ≤ 10000 ∧ (n ≤ 0 → -10000 ≤ x ∧ x ≤ 10000) ∧ r2 ≤ q ∧ q ≤ r2 + 10) ∧ (((((isub (imul (k_4) (4 : Int)) (500 : Int)) : Int) = (x)) ∧ (((isub (imul (k_5) (4 : Int)) (500 : Int)) : Int) = (y)) ∧ True) ∧ True) ∧ ((true = true) ∧ (true = true) ∧ ((r1 : Int) = r1) ∧ (((q_7) : Int) = (q)) ∧ True))
def L_spec_l20Point_2 (n : Int) (r2 : Int) (k_11 : Int) (k_2 : Int) (r1 : Int) (q_10 : Int) : Prop := ∃ x : Int, ∃ y : Int, ∃ q : Int, ((-10001 ≤ x ∧ x ≤ 10001 ∧ -10000 ≤ y ∧ y ≤ 10000 ∧ (n ≤ 0 → -10000 ≤ x ∧ x ≤ 10000) ∧ r2 ≤ q ∧ q ≤ r2 + 10) ∧ (((((geti [(10001 : Int), (-10001 : Int), (10000 : Int)] (k_11)) : Int) = (x)) ∧ (((isub (k_2) (20 : Int)) : Int) = (y)) ∧ True) ∧ True) ∧ ((true = true) ∧ (true = true) ∧ ((r1 : Int) = r1) ∧ ((((q_10) + 1) : Int) = (q)) ∧ True))
def L_spec_l20Point_3 (n : Int) (r2 : Int) (k_1 : Int) (k_2 : Int) (r1 : Int) (q_10 : Int) : Prop := ∃ x : Int, ∃ y : Int, ∃ q : Int, ((-10001 ≤ x ∧ x ≤ 10001 ∧ -10000 ≤ y ∧ y ≤ 10000 ∧ (n ≤ 0 → -10000 ≤ x ∧ x ≤ 10000) ∧ r2 ≤ q ∧ q ≤ r2 + 10) ∧ (((((isub (k_1) (20 : Int)) : Int) = (x)) ∧ (((isub (k_2) (20 : Int)) : Int) = (y)) ∧ True) ∧ True) ∧ ((true = true) ∧ (true = true) ∧ ((r1 : Int) = r1) ∧ (((q_10) : Int) = (q)) ∧ True))
theorem V_spec_l20Point (r1 : Int) (r2 : Int) (n : Int) : ((true = true) ∧ ((True) ∧ True) ∧ (true = true) ∧ ((True) ∧ True) ∧ (true = true) ∧ ((r1 ≤ 2000 ∧ 0 ≤ r2 ∧ r2 ≤ 1000000)) ∧ (∀ k_1 : Int, ((pickP (41 : Int) k_1) → ((True) ∧ (True) ∧ (true = true) ∧ ((r1 ≤ 2000 ∧ 0 ≤ (r2 + 1) ∧ (r2 + 1) ≤ 1000000)) ∧ (∀ k_2 : Int, ((pickP (41 : Int) k_2) → ((True) ∧ (True) ∧ (True) ∧ (True) ∧ (true = true) ∧ ((True) ∧ True) ∧ (true = true) ∧ ((r1 ≤ 2000 ∧ 0 ≤ ((r2 + 1) + 1) ∧ ((r2 + 1) + 1) ≤ 1000000)) ∧ (∀ k_3 : Int, ((pickP (3 : Int) k_3) → ((True) ∧ ((ieq (k_3) (0 : Int)) = true → ((true = true) ∧ ((True) ∧ True) ∧ (true = true) ∧ ((r1 ≤ 2000 ∧ 0 ≤ (((r2 + 1) + 1) + 1) ∧ (((r2 + 1) + 1) + 1) ≤ 1000000)) ∧ (∀ k_4 : Int, ((pickP (256 : Int) k_4) → ((True) ∧ (True) ∧ (True) ∧ (true = true) ∧ ((r1 ≤ 2000 ∧ 0 ≤ ((((r2 + 1) + 1) + 1) + 1) ∧ ((((r2 + 1) + 1) + 1) + 1) ≤ 1000000)) ∧ (∀ k_5 : Int, ((pickP (256 : Int) k_5) → ((True) ∧ (True) ∧ (True) ∧ (True) ∧ (true = true) ∧ ((True) ∧ (True) ∧ True) ∧ (true = true) ∧ ((r1 ≤ 2000 ∧ 0 ≤ (((((r2 + 1) + 1) + 1) + 1) + 1) ∧ (((((r2 + 1) + 1) + 1) + 1) + 1) ≤ 1000000 ∧ -1000000 ≤ n ∧ n ≤ 1000000)) ∧ (∀ b_6 : Bool, ∀ q_7 : Int, (((n ≤ 0 → b_6 = false) ∧ (((((r2 + 1) + 1) + 1) + 1) + 1) ≤ q_7 ∧ q_7 ≤ (((((r2 + 1) + 1) + 1) + 1) + 1) + 1) → (((b_6) = true → ((true = true) ∧ ((True) ∧ (True) ∧ True) ∧ (true = true) ∧ ((r1 ≤ 2000 ∧ 0 ≤ (q_7) ∧ (q_7) ≤ 1000000)) ∧ (∀ k_8 : Int, ((pickP (3 : Int) k_8) → ((NLe 0 (k_8) ∧ NLt (k_8) (ilen [(10001 : Int), (-10001 : Int), (10000 : Int)])) ∧ (NLt (k_8) (ilen [(10001 : Int), (-10001 : Int), (10000 : Int)])) ∧ (True) ∧ (True) ∧ (true = true) ∧ ((True) ∧ True) ∧ (True) ∧ L_spec_l20Point_0 n r2 k_8 k_5 r1 q_7))))) ∧ ((b_6) = false → ((true = true) ∧ ((True) ∧ True) ∧ (True) ∧ L_spec_l20Point_1 n r2 k_4 k_5 r1 q_7))))))))))))) ∧ ((ieq (k_3) (0 : Int)) = false → ((true = true) ∧ ((True) ∧ (True) ∧ True) ∧ (true = true) ∧ ((r1 ≤ 2000 ∧ 0 ≤ (((r2 + 1) + 1) + 1) ∧ (((r2 + 1) + 1) + 1) ≤ 1000000 ∧ -1000000 ≤ n ∧ n ≤ 1000000)) ∧ (∀ b_9 : Bool, ∀ q_10 : Int, (((n ≤ 0 → b_9 = false) ∧ (((r2 + 1) + 1) + 1) ≤ q_10 ∧ q_10 ≤ (((r2 + 1) + 1) + 1) + 1) → (((b_9) = true → ((true = true) ∧ ((True) ∧ (True) ∧ True) ∧ (true = true) ∧ ((r1 ≤ 2000 ∧ 0 ≤ (q_10) ∧ (q_10) ≤ 1000000)) ∧ (∀ k_11 : Int, ((pickP (3 : Int) k_11) → ((NLe 0 (k_11) ∧ NLt (k_11) (ilen [(10001 : Int), (-10001 : Int), (10000 : Int)])) ∧ (NLt (k_11) (ilen [(10001 : Int), (-10001 : Int), (10000 : Int)])) ∧ (True) ∧ (True) ∧ (true = true) ∧ ((True) ∧ True) ∧ (True) ∧ L_spec_l20Point_2 n r2 k_11 k_2 r1 q_10))))) ∧ ((b_9) = false → ((true = true) ∧ ((True) ∧ True) ∧ (True) ∧ L_spec_l20Point_3 n r2 k_1 k_2 r1 q_10))))))))))))))))) = (fun sg => ev sig_spec_l20Point xs_spec_l20Point Try.f72.ntmps (fun b => []) (codeOf Try.f72) 0 (initX (.box [.rdr r1, .int r2]) [.s (.int n)]) (retX Try.f72.results.toList sg.kinds sg.post sg.ret sg.out)) (s_spec_l20Point r1 r2 n) := by kernel_rfl
set_option maxHeartbeats 4000000 in
theorem F_spec_l20Point : FunX 72 g_spec_l20Point := by
  refine fun_X (by kernel_rfl) Try.func72 rfl (by kernel_rfl) sig_spec_l20Point_ok xs_spec_l20Point_ok ?_
  intro bx avs sg h hn hl hlb
  unfold g_spec_l20Point at h
  split at h
  · rename_i r1 r2 n
    injection h with h; subst h
    refine ⟨by kernel_rfl, fun b => [], Eq.mp (V_spec_l20Point r1 r2 n) ?_⟩
    simp only [true_and, and_true, implies_true, and_self, forall_const, true_implies, lenA, lenL, SV.lenOK, Cont.lenOK, lenB, s_spec_l20Point, L_spec_l20Point_0, L_spec_l20Point_1, L_spec_l20Point_2, L_spec_l20Point_3] at hn hl hlb ⊢
    try simp only [ilt_t, ilt_f, ile_t, ile_f, ieq_t, ieq_f, bnot_e, band_e, bite_and, bite_or, NLt_e, NLe_e, NNe_e, NIs_e, imax_e, imin_e, irem_e, Bool.not_eq_true', Bool.not_eq_false', Bool.and_eq_true, Bool.or_eq_true, Bool.or_eq_false_iff, Bool.and_eq_false_iff, Cont.pts.injEq, Cont.ints.injEq, Cont.bools.injEq, Cont.ptss.injEq, Cont.intss.injEq, Cont.boolss.injEq, true_and, and_true, implies_true, pickP, iadd_u, isub_u, imul_u, ineg_u, ilen_cons, ilen_nil, geti_cons, geti_nil, exists_and_left, exists_and_right, exists_eq_left, exists_eq_left', exists_eq_right, exists_eq_right'] at hn ⊢
    repeat' (first | (intro _) | (refine ⟨_, _, _, ?_, ⟨rfl, rfl⟩, rfl⟩) | (apply And.intro) | omega | split)
    all_goals (first | (simp_all; done) | (simp_all; omega))
  · cases h
def s_spec_l20Curve (r1 : Int) (r2 : Int) (n : Int) : SgX := ⟨r1 ≤ 2000 ∧ 0 ≤ r2 ∧ r2 ≤ 100000 ∧ -1000000 ≤ n ∧ n ≤ 1000000, [.pts, .int], (fun | [.pts l, .int q] => ilen l ≤ 5 ∧ r2 ≤ q ∧ q ≤ r2 + 100 | _ => False), (fun | [.pts l, .int q] => [.s (.view (.pts (l)))] | _ => []), (fun | [.pts l, .int q] => .box [.rdr r1, .int (q)] | _ => .box [])⟩
def g_spec_l20Curve : Bx → List AV → Option SgX
  | .box [.rdr r1, .int r2], [.s (.int n)] => some (s_spec_l20Curve r1 r2 n)
  | _, _ => none
def sig_spec_l20Curve : FuncId → List AV → Option Sg := sigL []
def xs_spec_l20Curve : XS := ⟨xsigL [(71, g_spec_l20Rd_pick), (72, g_spec_l20Point), (97, g_spec_l20Rd_odd)], ysigL []⟩
theorem sig_spec_l20Curve_ok : SigOK sig_spec_l20Curve := sigL_nil
theorem xs_spec_l20Curve_ok : XSigOK xs_spec_l20Curve := ⟨xsigL_cons F_spec_l20Rd_pick (xsigL_cons F_spec_l20Point (xsigL_cons F_spec_l20Rd_odd xsigL_nil)), ysigL_nil⟩
def L_spec_l20Curve_0 (r2 : Int) (r1 : Int) (q_17 : Int) : Prop := ∃ l : List Pt, ∃ q : Int, ((ilen l ≤ 5 ∧ r2 ≤ q ∧ q ≤ r2 + 100) ∧ (((true = true) ∧ ((Cont.pts []) = (Cont.pts (l)))) ∧ True) ∧ ((true = true) ∧ (true = true) ∧ ((r1 : Int) = r1) ∧ ((((q_17) + 1) : Int) = (q)) ∧ True))
def L_spec_l20Curve_1 (r2 : Int) (l1_1 : List Pt) (x_19 : Int) (y_20 : Int) (r1 : Int) (q_21 : Int) : Prop := ∃ l : List Pt, ∃ q : Int, ((ilen l ≤ 5 ∧ r2 ≤ q ∧ q ≤ r2 + 100) ∧ (((true = true) ∧ ((Cont.pts (setp l1_1 (0 : Int) (x_19) (y_20))) = (Cont.pts (l)))) ∧ True) ∧ ((true = true) ∧ (true = true) ∧ ((r1 : Int) = r1) ∧ (((q_21) : Int) = (q)) ∧ True))
def L_spec_l20Curve_2 (r2 : Int) (r1 : Int) (q_17 : Int) : Prop := ∃ l : List Pt, ∃ q : Int, ((ilen l ≤ 5 ∧ r2 ≤ q ∧ q ≤ r2 + 100) ∧ (((true = true) ∧ ((Cont.pts (irep (5 : Int) (0, 0))) = (Cont.pts (l)))) ∧ True) ∧ ((true = true) ∧ (true = true) ∧ ((r1 : Int) = r1) ∧ ((((q_17) + 1) : Int) = (q)) ∧ True))
def L_spec_l20Curve_3 (r2 : Int) (l1_1 : List Pt) (r1 : Int) (q_17 : Int) : Prop := ∃ l : List Pt, ∃ q : Int, ((ilen l ≤ 5 ∧ r2 ≤ q ∧ q ≤ r2 + 100) ∧ (((true = true) ∧ ((Cont.pts l1_1) = (Cont.pts (l)))) ∧ True) ∧ ((true = true) ∧ (true = true) ∧ ((r1 : Int) = r1) ∧ (((q_17) : Int) = (q)) ∧ True))
theorem V_spec_l20Curve (r1 : Int) (r2 : Int) (n : Int) : ((true = true) ∧ ((True) ∧ True) ∧ (true = true) ∧ ((True) ∧ (True) ∧ True) ∧ (true = true) ∧ ((True) ∧ True) ∧ (true = true) ∧ ((r1 ≤ 2000 ∧ 0 ≤ r2 ∧ r2 ≤ 1000000)) ∧ (∀ k_12 : Int, ((pickP (4 : Int) k_12) → ((True) ∧ (True) ∧ ∃ (I1 : List GV → Prop) (μ1 : List GV → Nat), (((true = true) ∧ ((((iadd (1 : Int) (k_12)) : Int) = (iadd (1 : Int) (k_12))) ∧ (((iadd (1 : Int) (k_12)) : Int) = (iadd (1 : Int) (k_12))) ∧ (((k_12) : Int) = (k_12)) ∧ (true = true) ∧ (true = true) ∧ (true = true) ∧ (true = true) ∧ ((n : Int) = n) ∧ True) ∧ ((((r1 : Int) = r1) ∧ (((r2 + 1) : Int) = (r2 + 1)) ∧ True) ∧ ((true = true) ∧ ((Cont.pts []) = (Cont.pts []))) ∧ ((true = true) ∧ ((Cont.pts []) = (Cont.pts []))) ∧ True)) ∧ (([GK.int, GK.pts, GK.int] : List GK) = ([GK.int, GK.pts, GK.int] : List GK)) ∧ I1 [GV.int (iadd (1 : Int) (k_12)), GV.pts [], GV.int (r2 + 1)]) ∧ (∀ i1_0 : Int, ∀ l1_1 : List Pt, ∀ i1_2 : Int, I1 [GV.int i1_0, GV.pts l1_1, GV.int i1_2] → ((true = true) ∧ ((True) ∧ (True) ∧ True) ∧ ((ilt (0 : Int) i1_0) = true → ((true = true) ∧ ((True) ∧ (True) ∧ True) ∧ (true = true) ∧ ((r1 ≤ 2000 ∧ 0 ≤ i1_2 ∧ i1_2 ≤ 900000 ∧ -1000000 ≤ (0 : Int) ∧ (0 : Int) ≤ 1000000)) ∧ (∀ x_13 : Int, ∀ y_14 : Int, ∀ q_15 : Int, ((-10001 ≤ x_13 ∧ x_13 ≤ 10001 ∧ -10000 ≤ y_14 ∧ y_14 ≤ 10000 ∧ ((0 : Int) ≤ 0 → -10000 ≤ x_13 ∧ x_13 ≤ 10000) ∧ i1_2 ≤ q_15 ∧ q_15 ≤ i1_2 + 10) → ((True) ∧ (NLe (ilen l1_1) 1000000000 ∧ NLe (ilen [((x_13), (y_14))]) 1000000000) ∧ (True) ∧ (true = true) ∧ ((True) ∧ (True) ∧ (True) ∧ True) ∧ ((true = true) ∧ ((((isub i1_0 (1 : Int)) : Int) = (isub i1_0 (1 : Int))) ∧ (((iadd (1 : Int) (k_12)) : Int) = (iadd (1 : Int) (k_12))) ∧ (((k_12) : Int) = (k_12)) ∧ (true = true) ∧ (true = true) ∧ (true = true) ∧ (true = true) ∧ ((n : Int) = n) ∧ True) ∧ ((((r1 : Int) = r1) ∧ (((q_15) : Int) = (q_15)) ∧ True) ∧ ((true = true) ∧ ((Cont.pts (iapp l1_1 [((x_13), (y_14))])) = (Cont.pts (iapp l1_1 [((x_13), (y_14))])))) ∧ ((true = true) ∧ ((Cont.pts []) = (Cont.pts []))) ∧ True)) ∧ ((([GK.int, GK.pts, GK.int] : List GK) = ([GK.int, GK.pts, GK.int] : List GK)) ∧ I1 [GV.int (isub i1_0 (1 : Int)), GV.pts (iapp l1_1 [((x_13), (y_14))]), GV.int (q_15)] ∧ μ1 [GV.int (isub i1_0 (1 : Int)), GV.pts (iapp l1_1 [((x_13), (y_14))]), GV.int (q_15)] < μ1 [GV.int i1_0, GV.pts l1_1, GV.int i1_2])))))) ∧ ((ilt (0 : Int) i1_0) = false → ((true = true) ∧ ((True) ∧ (True) ∧ True) ∧ (true = true) ∧ ((r1 ≤ 2000 ∧ 0 ≤ i1_2 ∧ i1_2 ≤ 1000000 ∧ -1000000 ≤ n ∧ n ≤ 1000000)) ∧ (∀ b_16 : Bool, ∀ q_17 : Int, (((n ≤ 0 → b_16 = false) ∧ i1_2 ≤ q_17 ∧ q_17 ≤ i1_2 + 1) → (((b_16) = true → ((true = true) ∧ ((True) ∧ True) ∧ (true = true) ∧ ((r1 ≤ 2000 ∧ 0 ≤ (q_17) ∧ (q_17) ≤ 1000000)) ∧ (∀ k_18 : Int, ((pickP (3 : Int) k_18) → ((true = true) ∧ ((True) ∧ (True) ∧ True) ∧ ((ieq (k_18) (0 : Int)) = true → ((true = true) ∧ ((True) ∧ (True) ∧ True) ∧ (true = true) ∧ ((True) ∧ (True) ∧ True) ∧ L_spec_l20Curve_0 r2 r1 q_17)) ∧ ((ieq (k_18) (0 : Int)) = false → ((true = true) ∧ ((True) ∧ (True) ∧ True) ∧ ((ieq (k_18) (1 : Int)) = true → ((true = true) ∧ ((True) ∧ (True) ∧ True) ∧ (true = true) ∧ ((r1 ≤ 2000 ∧ 0 ≤ ((q_17) + 1) ∧ ((q_17) + 1) ≤ 900000 ∧ -1000000 ≤ (1 : Int) ∧ (1 : Int) ≤ 1000000)) ∧ (∀ x_19 : Int, ∀ y_20 : Int, ∀ q_21 : Int, ((-10001 ≤ x_19 ∧ x_19 ≤ 10001 ∧ -10000 ≤ y_20 ∧ y_20 ≤ 10000 ∧ ((1 : Int) ≤ 0 → -10000 ≤ x_19 ∧ x_19 ≤ 10000) ∧ ((q_17) + 1) ≤ q_21 ∧ q_21 ≤ ((q_17) + 1) + 10) → ((NLe 0 (0 : Int) ∧ NLt (0 : Int) (ilen l1_1)) ∧ (NLt (0 : Int) (ilen l1_1)) ∧ (true = true) ∧ ((True) ∧ (True) ∧ True) ∧ L_spec_l20Curve_1 r2 l1_1 x_19 y_20 r1 q_21))))) ∧ ((ieq (k_18) (1 : Int)) = false → ((true = true) ∧ ((NLe 0 (5 : Int) ∧ NLe (5 : Int) 100000000 ∧ NIs (ieq (5 : Int) (5 : Int)) true) ∧ (True) ∧ True) ∧ (true = true) ∧ ((True) ∧ (True) ∧ True) ∧ L_spec_l20Curve_2 r2 r1 q_17))))))))) ∧ ((b_16) = false → ((true = true) ∧ ((True) ∧ (True) ∧ True) ∧ L_spec_l20Curve_3 r2 l1_1 r1 q_17))))))))))))) = (fun sg => ev sig_spec_l20Curve xs_spec_l20Curve Try.f74.ntmps (fun b => if b == 0 then [.v 6, .b 5, .b 0] else []) (codeOf Try.f74) 0 (initX (.box [.rdr r1, .int r2]) [.s (.int n)]) (retX Try.f74.results.toList sg.kinds sg.post sg.ret sg.out)) (s_spec_l20Curve r1 r2 n) := by kernel_rfl
set_option maxHeartbeats 4000000 in
theorem F_spec_l20Curve : FunX 74 g_spec_l20Curve := by
  refine fun_X (by kernel_rfl) Try.func74 rfl (by kernel_rfl) sig_spec_l20Curve_ok xs_spec_l20Curve_ok ?_
  intro bx avs sg h hn hl hlb
  unfold g_spec_l20Curve at h
  split at h
  · rename_i r1 r2 n
    injection h with h; subst h
    refine ⟨by kernel_rfl, fun b => if b == 0 then [.v 6, .b 5, .b 0] else [], Eq.mp (V_spec_l20Curve r1 r2 n) ?_⟩
    simp only [true_and, and_true, implies_true, and_self, forall_const, true_implies, lenA, lenL, SV.lenOK, Cont.lenOK, lenB, s_spec_l20Curve, L_spec_l20Curve_0, L_spec_l20Curve_1, L_spec_l20Curve_2, L_spec_l20Curve_3] at hn hl hlb ⊢
    simp only [ilt_t, ilt_f, ile_t, ile_f, ieq_t, ieq_f, bnot_e, band_e, bite_and, bite_or, NLt_e, NLe_e, NNe_e, NIs_e, imax_e, imin_e, irem_e, Bool.not_eq_true', Bool.not_eq_false', Bool.and_eq_true, Bool.or_eq_true, Bool.or_eq_false_iff, Bool.and_eq_false_iff, Cont.pts.injEq, Cont.ints.injEq, Cont.bools.injEq, Cont.ptss.injEq, Cont.intss.injEq, Cont.boolss.injEq, true_and, and_true, implies_true, pickP]
    refine ⟨by omega, fun k0 hk0 => ?_⟩
    refine ⟨fun | [.int k, .pts l, .int q] => 0 ≤ k ∧ ilen l + k ≤ 4 ∧ (k = 0 → 1 ≤ ilen l) ∧ r2 ≤ q ∧ q + 10 * k ≤ r2 + 41 | _ => False, fun | .int k :: _ => k.toNat | _ => 0, ?_, ?_⟩
    · rw [iadd_e (by omega) (by omega)]
      exact ⟨by omega, by rw [ilen_nil]; omega, by omega, by omega, by omega⟩
    · rintro k l q ⟨h1, h2, h3, h4, h5⟩
      have l0 := ilen_0 l
      simp only [ilt_t, ilt_f, ile_t, ile_f, ieq_t, ieq_f, bnot_e, band_e, bite_and, bite_or, NLt_e, NLe_e, NNe_e, NIs_e, imax_e, imin_e, irem_e, Bool.not_eq_true', Bool.not_eq_false', Bool.and_eq_true, Bool.or_eq_true, Bool.or_eq_false_iff, Bool.and_eq_false_iff, Cont.pts.injEq, Cont.ints.injEq, Cont.bools.injEq, Cont.ptss.injEq, Cont.intss.injEq, Cont.boolss.injEq, true_and, and_true, implies_true, pickP, iadd_u, isub_u, imul_u, ineg_u, ilen_cons, ilen_nil, geti_cons, geti_nil, exists_and_left, exists_and_right, exists_eq_left, exists_eq_left', exists_eq_right, exists_eq_right', ilen_app, ilen_one, ilen_setp, ilen_rep, Int.sub_zero] at *
      repeat' (first | (intro _) | (refine ⟨_, _, ?_, rfl, rfl⟩) | (apply And.intro) | omega | (simp only [ilen_nil, ilen_setp, ilen_app, ilen_one, ilen_cons]) | (rw [ilen_rep _ (by omega)]) | split)
      all_goals (first | (simp_all; done) | (simp_all; omega))
  · cases h
def s_spec_DrawCurvePoint (n : Int) : SgY := ⟨n ≤ 1048576, [.pts, .int], (fun | [.pts l, .int t] => ilen l ≤ 5 ∧ -1 ≤ t ∧ t ≤ 65 | _ => False), (fun | [.pts l, .int t] => [.s (.view (.pts (l))), .s (.int (t))] | _ => [])⟩
def g_spec_DrawCurvePoint : List AV → Option SgY
  | [.s (.rdr n)] => some (s_spec_DrawCurvePoint n)
  | _ => none
def sig_spec_DrawCurvePoint : FuncId → List AV → Option Sg := sigL [(70, g_spec_l20Open)]
def xs_spec_DrawCurvePoint : XS := ⟨xsigL [(74, g_spec_l20Curve), (71, g_spec_l20Rd_pick)], ysigL []⟩
theorem sig_spec_DrawCurvePoint_ok : SigOK sig_spec_DrawCurvePoint := sigL_cons F_spec_l20Open sigL_nil
theorem xs_spec_DrawCurvePoint_ok : XSigOK xs_spec_DrawCurvePoint := ⟨xsigL_cons F_spec_l20Curve (xsigL_cons F_spec_l20Rd_pick xsigL_nil), ysigL_nil⟩
theorem V_spec_DrawCurvePoint (n : Int) : ((true = true) ∧ ((True) ∧ (True) ∧ True) ∧ (true = true) ∧ ((True) ∧ ((n ≤ 1048576)) ∧ (True) ∧ True) ∧ (true = true) ∧ ((True) ∧ True) ∧ (true = true) ∧ (((if n ≤ 2000 then n else 2000) ≤ 2000 ∧ 0 ≤ ((0 : Int)) ∧ ((0 : Int)) ≤ 100000 ∧ -1000000 ≤ (12 : Int) ∧ (12 : Int) ≤ 1000000)) ∧ (∀ l_22 : List Pt, ∀ q_23 : Int, ((ilen l_22 ≤ 5 ∧ ((0 : Int)) ≤ q_23 ∧ q_23 ≤ ((0 : Int)) + 100) → ((True) ∧ (true = true) ∧ ((True) ∧ (True) ∧ True) ∧ (true = true) ∧ (((if n ≤ 2000 then n else 2000) ≤ 2000 ∧ 0 ≤ (q_23) ∧ (q_23) ≤ 1000000)) ∧ (∀ k_24 : Int, ((pickP (67 : Int) k_24) → ((True) ∧ (True) ∧ (True) ∧ ∃ l : List Pt, ∃ t : Int, ((ilen l ≤ 5 ∧ -1 ≤ t ∧ t ≤ 65) ∧ (((Cont.pts (l_22)) = (Cont.pts (l))) ∧ (((isub (k_24) (1 : Int)) : Int) = (t)) ∧ True))))))))) = (fun sg => ev sig_spec_DrawCurvePoint xs_spec_DrawCurvePoint Try.f34.ntmps (fun b => []) (codeOf Try.f34) 0 (initS [.s (.rdr n)]) (retY Try.f34.results.toList sg.kinds sg.post sg.ret)) (s_spec_DrawCurvePoint n) := by kernel_rfl
set_option maxHeartbeats 4000000 in
theorem F_spec_DrawCurvePoint : FunY 34 g_spec_DrawCurvePoint := by
  refine fun_Y (by kernel_rfl) Try.func34 rfl (by kernel_rfl) sig_spec_DrawCurvePoint_ok xs_spec_DrawCurvePoint_ok ?_
  intro avs sg h hn hl
  unfold g_spec_DrawCurvePoint at h
  split at h
  · rename_i n
    injection h with h; subst h
    refine ⟨by kernel_rfl, fun b => [], Eq.mp (V_spec_DrawCurvePoint n) ?_⟩
    simp only [true_and, and_true, implies_true, and_self, forall_const, true_implies, lenA, lenL, SV.lenOK, Cont.lenOK, s_spec_DrawCurvePoint] at hn hl ⊢
    try simp only [ilt_t, ilt_f, ile_t, ile_f, ieq_t, ieq_f, bnot_e, band_e, bite_and, bite_or, NLt_e, NLe_e, NNe_e, NIs_e, imax_e, imin_e, irem_e, Bool.not_eq_true', Bool.not_eq_false', Bool.and_eq_true, Bool.or_eq_true, Bool.or_eq_false_iff, Bool.and_eq_false_iff, Cont.pts.injEq, Cont.ints.injEq, Cont.bools.injEq, Cont.ptss.injEq, Cont.intss.injEq, Cont.boolss.injEq, true_and, and_true, implies_true, pickP, iadd_u, isub_u, imul_u, ineg_u, ilen_cons, ilen_nil, geti_cons, geti_nil, exists_and_left, exists_and_right, exists_eq_left, exists_eq_left', exists_eq_right, exists_eq_right'] at hn ⊢
    repeat' (first | (intro _) | (refine ⟨_, _, ?_, rfl, rfl⟩) | (apply And.intro) | omega | split)
    all_goals (first | (simp_all; done) | (simp_all; omega))
  · cases h
theorem inB_eq (n lo hi : Int) : inB n lo hi = (ile lo n && ile n hi) := by
  unfold inB ile
  by_cases h1 : lo ≤ n <;> by_cases h2 : n ≤ hi <;> simp [h1, h2]
def g_impl_within : List AV → Option Sg
  | [.s (.int n), .s (.int lo), .s (.int hi)] => some ⟨True, [.s (.bool (inB n lo hi))]⟩
  | _ => none
def sig_impl_within : FuncId → List AV → Option Sg := sigL []
def xs_impl_within : XS := ⟨xsigL [], ysigL []⟩
theorem sig_impl_within_ok : SigOK sig_impl_within := sigL_nil
theorem xs_impl_within_ok : XSigOK xs_impl_within := ⟨xsigL_nil, ysigL_nil⟩
theorem V_impl_within (n : Int) (lo : Int) (hi : Int) : ((true = true) ∧ ((True) ∧ True) ∧ (true = true) ∧ ((True) ∧ (True) ∧ (True) ∧ (True) ∧ (NIs (ile lo n) true → True) ∧ (NIs (ile lo n) true → True) ∧ (NIs (ile lo n) true → True) ∧ (True) ∧ (True) ∧ True) ∧ (((bite (ile lo n) (ile n hi) false) : Bool) = (inB n lo hi)) ∧ True) = ev sig_impl_within xs_impl_within Try.f68.ntmps (fun b => []) (codeOf Try.f68) 0 (initS [.s (.int n), .s (.int lo), .s (.int hi)]) (retK Try.f68.results.toList [.s (.bool (inB n lo hi))]) := by kernel_rfl
set_option maxHeartbeats 400000 in
theorem F_impl_within : FunOK 68 g_impl_within := by
  refine fun_F (by kernel_rfl) Try.func68 rfl (by kernel_rfl) sig_impl_within_ok xs_impl_within_ok ?_
  intro avs sg h hn hl
  unfold g_impl_within at h
  split at h
  · rename_i n lo hi
    injection h with h; subst h
    refine ⟨by kernel_rfl, fun b => [], Eq.mp (V_impl_within n lo hi) ?_⟩
    simp only [true_and, and_true, implies_true, and_self, forall_const, true_implies, lenA, lenL, SV.lenOK, Cont.lenOK] at hn hl ⊢
    simp only [bite_and, inB_eq]
  · cases h
def g_impl_PointValid : List AV → Option Sg
  | [.agg [.int p1, .int p2]] => some ⟨True, [.s (.bool (vB p1 p2))]⟩
  | _ => none
def sig_impl_PointValid : FuncId → List AV → Option Sg := sigL [(68, g_impl_within)]
def xs_impl_PointValid : XS := ⟨xsigL [], ysigL []⟩
theorem sig_impl_PointValid_ok : SigOK sig_impl_PointValid := sigL_cons F_impl_within sigL_nil
theorem xs_impl_PointValid_ok : XSigOK xs_impl_PointValid := ⟨xsigL_nil, ysigL_nil⟩
theorem V_impl_PointValid (p1 : Int) (p2 : Int) : ((true = true) ∧ ((True) ∧ (True) ∧ True) ∧ (true = true) ∧ ((True) ∧ (True) ∧ ((True)) ∧ (True) ∧ (NIs (inB p1 (-10000 : Int) (10000 : Int)) true → True) ∧ (NIs (inB p1 (-10000 : Int) (10000 : Int)) true → True) ∧ (NIs (inB p1 (-10000 : Int) (10000 : Int)) true → (True)) ∧ (True) ∧ (True) ∧ True) ∧ (((bite (inB p1 (-10000 : Int) (10000 : Int)) (inB p2 (-10000 : Int) (10000 : Int)) false) : Bool) = (vB p1 p2)) ∧ True) = ev sig_impl_PointValid xs_impl_PointValid Try.f24.ntmps (fun b => []) (codeOf Try.f24) 0 (initS [.agg [.int p1, .int p2]]) (retK Try.f24.results.toList [.s (.bool (vB p1 p2))]) := by kernel_rfl
set_option maxHeartbeats 400000 in
theorem F_impl_PointValid : FunOK 24 g_impl_PointValid := by
  refine fun_F (by kernel_rfl) Try.func24 rfl (by kernel_rfl) sig_impl_PointValid_ok xs_impl_PointValid_ok ?_
  intro avs sg h hn hl
  unfold g_impl_PointValid at h
  split at h
  · rename_i p1 p2
    injection h with h; subst h
    refine ⟨by kernel_rfl, fun b => [], Eq.mp (V_impl_PointValid p1 p2) ?_⟩
    simp only [true_and, and_true, implies_true, and_self, forall_const, true_implies, lenA, lenL, SV.lenOK, Cont.lenOK] at hn hl ⊢
    simp only [bite_and, vB]
  · cases h
def crW (a1 a2 b1 b2 c1 c2 : Int) : Int := isub (imul (isub b1 a1) (isub c2 a2)) (imul (isub b2 a2) (isub c1 a1))
def cr (l : List Pt) (i j k : Int) : Int := crW (getx l i) (gety l i) (getx l j) (gety l j) (getx l k) (gety l k)
def nx (l : List Pt) (i : Int) : Int := (i + 1).tmod (ilen l)
def convE (l : List Pt) (i j : Int) : Bool := decide (j = i ∨ j = nx l i ∨ 0 < cr l i (nx l i) j)
def convB (l : List Pt) : Bool := inB (ilen l) 3 8 && allB l && allN (ilen l) fun i => allN (ilen l) fun j => convE l i j
theorem nx_in {l : List Pt} {i : Int} (h0 : 0 ≤ i) (h1 : i < ilen l) : 0 ≤ nx l i ∧ nx l i < ilen l ∧ ((i + 1 < ilen l ∧ nx l i = i + 1) ∨ (i + 1 = ilen l ∧ nx l i = 0)) := by
  have e : nx l i = (i + 1) % ilen l := Int.tmod_eq_emod_of_nonneg (by omega)
  rcases Int.lt_or_le (i + 1) (ilen l) with h | h
  · rw [e, Int.emod_eq_of_lt (by omega) h]; omega
  · have h2 : i + 1 = ilen l := by omega
    rw [e, h2, Int.emod_self]; omega
theorem allN_up {f : Int → Bool} {k : Int} (h : ∀ j, 0 ≤ j → j < k → f j = true) (hk : f k = true) : ∀ j, 0 ≤ j → j < k + 1 → f j = true := by
  intro j h0 h1
  rcases Int.lt_or_le j k with h2 | h2
  · exact h j h0 h2
  · rw [show j = k by omega]; exact hk
theorem upTo {P : Int → Prop} {k : Int} (h : ∀ j, 0 ≤ j → j < k → P j) (hk : P k) : ∀ j, 0 ≤ j → j < k + 1 → P j := by
  intro j h0 h1
  rcases Int.lt_or_le j k with h2 | h2
  · exact h j h0 h2
  · rw [show j = k by omega]; exact hk
theorem iadd_1 {k n : Int} (h0 : 0 ≤ k) (h1 : k < n) (h2 : n ≤ 9223372036854775807) : iadd k 1 = k + 1 := iadd_e (by omega) (by omega)
def g_impl_allPoints : List AV → Option Sg
  | [.s (.view (.pts l))] => some ⟨True, [.s (.bool (allB l))]⟩
  | _ => none
def sig_impl_allPoints : FuncId → List AV → Option Sg := sigL [(24, g_impl_PointValid)]
def xs_impl_allPoints : XS := ⟨xsigL [], ysigL []⟩
theorem sig_impl_allPoints_ok : SigOK sig_impl_allPoints := sigL_cons F_impl_PointValid sigL_nil
theorem xs_impl_allPoints_ok : XSigOK xs_impl_allPoints := ⟨xsigL_nil, ysigL_nil⟩
theorem V_impl_allPoints (l : List Pt) : ((true = true) ∧ ((True) ∧ True) ∧ (true = true) ∧ ((True) ∧ (True) ∧ (True) ∧ True) ∧ ∃ (I1 : List GV → Prop) (μ1 : List GV → Nat), (((true = true) ∧ (((false : Bool) = false) ∧ (((0 : Int) : Int) = (0 : Int)) ∧ ((Cont.pts l) = (Cont.pts l)) ∧ (((ilen l) : Int) = (ilen l)) ∧ ((Cont.pts l) = (Cont.pts l)) ∧ True) ∧ (True)) ∧ (([GK.int, GK.bool] : List GK) = ([GK.int, GK.bool] : List GK)) ∧ I1 [GV.int (0 : Int), GV.bool false]) ∧ (∀ i1_0 : Int, ∀ b1_1 : Bool, I1 [GV.int i1_0, GV.bool b1_1] → ((true = true) ∧ ((True) ∧ True) ∧ ((ilt i1_0 (ilen l)) = true → ((true = true) ∧ ((NLe 0 i1_0 ∧ NLt i1_0 (ilen l)) ∧ (True) ∧ (True) ∧ True) ∧ (True) ∧ (true = true) ∧ ((True) ∧ ((True)) ∧ (True) ∧ True) ∧ ((bnot (vB (getx l i1_0) (gety l i1_0))) = true → ((true = true) ∧ ((True) ∧ True) ∧ ((false : Bool) = (allB l)) ∧ True)) ∧ ((bnot (vB (getx l i1_0) (gety l i1_0))) = false → ((true = true) ∧ ((True) ∧ (True) ∧ True) ∧ ((true = true) ∧ (((b1_1 : Bool) = b1_1) ∧ (((iadd i1_0 (1 : Int)) : Int) = (iadd i1_0 (1 : Int))) ∧ ((Cont.pts l) = (Cont.pts l)) ∧ (((ilen l) : Int) = (ilen l)) ∧ ((Cont.pts l) = (Cont.pts l)) ∧ True) ∧ (True)) ∧ ((([GK.int, GK.bool] : List GK) = ([GK.int, GK.bool] : List GK)) ∧ I1 [GV.int (iadd i1_0 (1 : Int)), GV.bool b1_1] ∧ μ1 [GV.int (iadd i1_0 (1 : Int)), GV.bool b1_1] < μ1 [GV.int i1_0, GV.bool b1_1]))))) ∧ ((ilt i1_0 (ilen l)) = false → ((true = true) ∧ ((True) ∧ True) ∧ ((true : Bool) = (allB l)) ∧ True))))) = ev sig_impl_allPoints xs_impl_allPoints Try.f69.ntmps (fun b => if b == 0 then [.v 7, .v 2] else []) (codeOf Try.f69) 0 (initS [.s (.view (.pts l))]) (retK Try.f69.results.toList [.s (.bool (allB l))]) := by kernel_rfl
set_option maxHeartbeats 400000 in
theorem F_impl_allPoints : FunOK 69 g_impl_allPoints := by
  refine fun_F (by kernel_rfl) Try.func69 rfl (by kernel_rfl) sig_impl_allPoints_ok xs_impl_allPoints_ok ?_
  intro avs sg h hn hl
  unfold g_impl_allPoints at h
  split at h
  · rename_i l
    injection h with h; subst h
    refine ⟨by kernel_rfl, fun b => if b == 0 then [.v 7, .v 2] else [], Eq.mp (V_impl_allPoints l) ?_⟩
    simp only [true_and, and_true, implies_true, and_self, forall_const, true_implies, lenA, lenL, SV.lenOK, Cont.lenOK] at hn hl ⊢
    have h0 := ilen_0 l
    simp only [ilt_t, ilt_f, ile_t, ile_f, ieq_t, ieq_f, bnot_e, band_e, bite_and, bite_or, NLt_e, NLe_e, NNe_e, NIs_e, imax_e, imin_e, irem_e, Bool.not_eq_true', Bool.not_eq_false', Bool.and_eq_true, Bool.or_eq_true, Bool.or_eq_false_iff, Bool.and_eq_false_iff, Cont.pts.injEq, Cont.ints.injEq, Cont.bools.injEq, Cont.ptss.injEq, Cont.intss.injEq, Cont.boolss.injEq, true_and, and_true, implies_true]
    refine ⟨fun | .int k :: _ => 0 ≤ k ∧ k ≤ ilen l ∧ (∀ j, 0 ≤ j → j < k → vB (getx l j) (gety l j) = true) | _ => False, fun | .int k :: _ => (ilen l - k).toNat | _ => 0, ?_, ?_⟩
    · exact ⟨Int.le_refl 0, h0, fun j h0 h1 => absurd h1 (by omega)⟩
    · rintro k _ ⟨hk0, hk1, hk⟩
      simp only [ilt_t, ilt_f, ile_t, ile_f, ieq_t, ieq_f, bnot_e, band_e, bite_and, bite_or, NLt_e, NLe_e, NNe_e, NIs_e, imax_e, imin_e, irem_e, Bool.not_eq_true', Bool.not_eq_false', Bool.and_eq_true, Bool.or_eq_true, Bool.or_eq_false_iff, Bool.and_eq_false_iff, Cont.pts.injEq, Cont.ints.injEq, Cont.bools.injEq, Cont.ptss.injEq, Cont.intss.injEq, Cont.boolss.injEq, true_and, and_true, implies_true]
      refine ⟨fun hc => ⟨⟨hk0, hc⟩, fun hv => ?_, fun hv => ?_⟩, fun hc => ?_⟩
      · rw [allB_N, allN_no k hk0 hc hv]
      · rw [iadd_1 hk0 hc hl]
        exact ⟨⟨by omega, by omega, allN_up hk hv⟩, by omega⟩
      · rw [allB_N, allN_mk fun j h0 h1 => hk j h0 (by omega)]
  · cases h
def crvB (l : List Pt) : Bool := inB (ilen l) 1 4 && allB l
def g_impl_CurveValid : List AV → Option Sg
  | [.s (.view (.pts l))] => some ⟨True, [.s (.bool (crvB l))]⟩
  | _ => none
def sig_impl_CurveValid : FuncId → List AV → Option Sg := sigL [(68, g_impl_within), (69, g_impl_allPoints)]
def xs_impl_CurveValid : XS := ⟨xsigL [], ysigL []⟩
theorem sig_impl_CurveValid_ok : SigOK sig_impl_CurveValid := sigL_cons F_impl_within (sigL_cons F_impl_allPoints sigL_nil)
theorem xs_impl_CurveValid_ok : XSigOK xs_impl_CurveValid := ⟨xsigL_nil, ysigL_nil⟩
theorem V_impl_CurveValid (l : List Pt) : ((true = true) ∧ ((True) ∧ True) ∧ (true = true) ∧ ((True) ∧ (True) ∧ ((True)) ∧ (True) ∧ (NIs (inB (ilen l) (1 : Int) (4 : Int)) true → True) ∧ (NIs (inB (ilen l) (1 : Int) (4 : Int)) true → (True)) ∧ (True) ∧ (True) ∧ True) ∧ (((bite (inB (ilen l) (1 : Int) (4 : Int)) (allB l) false) : Bool) = (crvB l)) ∧ True) = ev sig_impl_CurveValid xs_impl_CurveValid Try.f26.ntmps (fun b => []) (codeOf Try.f26) 0 (initS [.s (.view (.pts l))]) (retK Try.f26.results.toList [.s (.bool (crvB l))]) := by kernel_rfl
set_option maxHeartbeats 400000 in
theorem F_impl_CurveValid : FunOK 26 g_impl_CurveValid := by
  refine fun_F (by kernel_rfl) Try.func26 rfl (by kernel_rfl) sig_impl_CurveValid_ok xs_impl_CurveValid_ok ?_
  intro avs sg h hn hl
  unfold g_impl_CurveValid at h
  split at h
  · rename_i l
    injection h with h; subst h
    refine ⟨by kernel_rfl, fun b => [], Eq.mp (V_impl_CurveValid l) ?_⟩
    simp only [true_and, and_true, implies_true, and_self, forall_const, true_implies, lenA, lenL, SV.lenOK, Cont.lenOK] at hn hl ⊢
    simp only [ilt_t, ilt_f, ile_t, ile_f, ieq_t, ieq_f, bnot_e, band_e, bite_and, bite_or, NLt_e, NLe_e, NNe_e, NIs_e, imax_e, imin_e, irem_e, Bool.not_eq_true', Bool.not_eq_false', Bool.and_eq_true, Bool.or_eq_true, Bool.or_eq_false_iff, Bool.and_eq_false_iff, Cont.pts.injEq, Cont.ints.injEq, Cont.bools.injEq, Cont.ptss.injEq, Cont.intss.injEq, Cont.boolss.injEq, true_and, and_true, implies_true]
    rfl
  · cases h
def g_slices_Clone_Simpl_Point_impl_Point : List AV → Option Sg
  | [.s (.view (.pts l))] => some ⟨ilen l ≤ 1000000000, [.nrow 25 (.pts (l))]⟩
  | _ => none
def sig_slices_Clone_Simpl_Point_impl_Point : FuncId → List AV → Option Sg := sigL []
def xs_slices_Clone_Simpl_Point_impl_Point : XS := ⟨xsigL [], ysigL []⟩
theorem sig_slices_Clone_Simpl_Point_impl_Point_ok : SigOK sig_slices_Clone_Simpl_Point_impl_Point := sigL_nil
theorem xs_slices_Clone_Simpl_Point_impl_Point_ok : XSigOK xs_slices_Clone_Simpl_Point_impl_Point := ⟨xsigL_nil, ysigL_nil⟩
theorem V_slices_Clone_Simpl_Point_impl_Point (l : List Pt) : ((true = true) ∧ ((True) ∧ True) ∧ (true = true) ∧ ((True) ∧ True) ∧ (true = true) ∧ (∀ nb_1 : Bool, (nb_1 = true → (ilen l) = 0) → ((nb_1 = true → ((true = true) ∧ ((True) ∧ True) ∧ ((true = true) ∧ ((Cont.pts []) = (Cont.pts (l)))) ∧ True)) ∧ (nb_1 = false → ((true = true) ∧ ((True) ∧ (True) ∧ True) ∧ (NLe (ilen ([] : List Pt)) 1000000000 ∧ NLe (ilen l) 1000000000) ∧ (True) ∧ ((true = true) ∧ ((Cont.pts (iapp [] l)) = (Cont.pts (l)))) ∧ True))))) = ev sig_slices_Clone_Simpl_Point_impl_Point xs_slices_Clone_Simpl_Point_impl_Point Try.f76.ntmps (fun b => []) (codeOf Try.f76) 0 (initS [.s (.view (.pts l))]) (retK Try.f76.results.toList [.nrow 25 (.pts (l))]) := by kernel_rfl
set_option maxHeartbeats 400000 in
theorem F_slices_Clone_Simpl_Point_impl_Point : FunOK 76 g_slices_Clone_Simpl_Point_impl_Point := by
  refine fun_F (by kernel_rfl) Try.func76 rfl (by kernel_rfl) sig_slices_Clone_Simpl_Point_impl_Point_ok xs_slices_Clone_Simpl_Point_impl_Point_ok ?_
  intro avs sg h hn hl
  unfold g_slices_Clone_Simpl_Point_impl_Point at h
  split at h
  · rename_i l
    injection h with h; subst h
    refine ⟨by kernel_rfl, fun b => [], Eq.mp (V_slices_Clone_Simpl_Point_impl_Point l) ?_⟩
    simp only [true_and, and_true, implies_true, and_self, forall_const, true_implies, lenA, lenL, SV.lenOK, Cont.lenOK] at hn hl ⊢
    have h0 := ilen_0 l
    simp only [ilt_t, ilt_f, ile_t, ile_f, ieq_t, ieq_f, bnot_e, band_e, bite_and, bite_or, NLt_e, NLe_e, NNe_e, NIs_e, imax_e, imin_e, irem_e, Bool.not_eq_true', Bool.not_eq_false', Bool.and_eq_true, Bool.or_eq_true, Bool.or_eq_false_iff, Bool.and_eq_false_iff, Cont.pts.injEq, Cont.ints.injEq, Cont.bools.injEq, Cont.ptss.injEq, Cont.intss.injEq, Cont.boolss.injEq, true_and, and_true, implies_true]
    intro b hb
    refine ⟨fun h => ?_, fun h => ⟨⟨by rw [ilen_nil]; omega, hn⟩, by simp [iapp]⟩⟩
    have := hb h
    have : l.length = 0 := by unfold ilen at this; omega
    exact (List.length_eq_zero_iff.1 this).symm
  · cases h
theorem floor_e {a b : Int} (hb : 1 ≤ b) : (a.tmod b < 0 → a.tdiv b - 1 = a / b) ∧ (0 ≤ a.tmod b → a.tdiv b = a / b) := by
  rcases Int.le_total 0 a with h | h
  · have e1 : a.tmod b = a % b := Int.tmod_eq_emod_of_nonneg h
    have e2 : a.tdiv b = a / b := Int.tdiv_eq_ediv_of_nonneg h
    have := Int.emod_nonneg a (show b ≠ 0 by omega)
    exact ⟨fun h => by omega, fun _ => e2⟩
  · obtain ⟨c, rfl⟩ : ∃ c, a = -c := ⟨-a, by omega⟩
    have hc : 0 ≤ c := by omega
    have e1 : (-c).tmod b = -(c % b) := by rw [Int.neg_tmod, Int.tmod_eq_emod_of_nonneg hc]
    have e2 : (-c).tdiv b = -(c / b) := by rw [Int.neg_tdiv, Int.tdiv_eq_ediv_of_nonneg hc]
    have m0 := Int.emod_nonneg c (show b ≠ 0 by omega)
    have m1 := Int.emod_lt_of_pos c (show 0 < b by omega)
    have m2 := Int.emod_add_mul_ediv c b
    rw [e1, e2]
    refine ⟨fun h => ?_, fun h => ?_⟩
    · refine (((Int.ediv_emod_unique (r := b - c % b) (q := -(c / b) - 1) (show 0 < b by omega)).2 ⟨?_, by omega, by omega⟩).1).symm
      rw [Int.mul_sub, Int.mul_neg]; omega
    · refine (((Int.ediv_emod_unique (r := 0) (q := -(c / b)) (show 0 < b by omega)).2 ⟨?_, by omega, by omega⟩).1).symm
      rw [Int.mul_neg]; omega
theorem tdiv_bd {a b : Int} (hb : 1 ≤ b) (h1 : -9223372036854775807 ≤ a) (h2 : a ≤ 9223372036854775807) : iquo a b = a.tdiv b ∧ (a.tmod b < 0 → isub (a.tdiv b) 1 = a.tdiv b - 1) := by
  refine ⟨iquo_e (by omega) (by omega) hb, fun _ => ?_⟩
  have : -9223372036854775807 ≤ a.tdiv b ∧ a.tdiv b ≤ 9223372036854775807 := by
    rcases Int.le_total 0 a with h | h
    · rw [Int.tdiv_eq_ediv_of_nonneg h]
      have := Int.ediv_nonneg h (show 0 ≤ b by omega)
      have := Int.ediv_le_self b h
      omega
    · obtain ⟨c, rfl⟩ : ∃ c, a = -c := ⟨-a, by omega⟩
      rw [Int.neg_tdiv, Int.tdiv_eq_ediv_of_nonneg (show 0 ≤ c by omega)]
      have := Int.ediv_nonneg (show 0 ≤ c by omega) (show 0 ≤ b by omega)
      have := Int.ediv_le_self b (show 0 ≤ c by omega)
      omega
  exact isub_e (by omega) (by omega)
def g_impl_floor : List AV → Option Sg
  | [.s (.int a), .s (.int b)] => some ⟨1 ≤ b ∧ -9223372036854775807 ≤ a ∧ a ≤ 9223372036854775807, [.s (.int (a / b))]⟩
  | _ => none
def sig_impl_floor : FuncId → List AV → Option Sg := sigL []
def xs_impl_floor : XS := ⟨xsigL [], ysigL []⟩
theorem sig_impl_floor_ok : SigOK sig_impl_floor := sigL_nil
theorem xs_impl_floor_ok : XSigOK xs_impl_floor := ⟨xsigL_nil, ysigL_nil⟩
theorem V_impl_floor (a : Int) (b : Int) : ((true = true) ∧ ((True) ∧ True) ∧ (true = true) ∧ ((True) ∧ (True) ∧ (NNe b 0) ∧ (True) ∧ True) ∧ (true = true) ∧ ((True) ∧ (True) ∧ (NNe b 0) ∧ (True) ∧ True) ∧ ((ilt (irem a b) (0 : Int)) = true → ((true = true) ∧ ((True) ∧ (True) ∧ (True) ∧ True) ∧ (true = true) ∧ ((True) ∧ (True) ∧ True) ∧ (((isub (iquo a b) (1 : Int)) : Int) = (a / b)) ∧ True)) ∧ ((ilt (irem a b) (0 : Int)) = false → ((true = true) ∧ ((True) ∧ (True) ∧ True) ∧ (((iquo a b) : Int) = (a / b)) ∧ True))) = ev sig_impl_floor xs_impl_floor Try.f79.ntmps (fun b => []) (codeOf Try.f79) 0 (initS [.s (.int a), .s (.int b)]) (retK Try.f79.results.toList [.s (.int (a / b))]) := by kernel_rfl
set_option maxHeartbeats 400000 in
theorem F_impl_floor : FunOK 79 g_impl_floor := by
  refine fun_F (by kernel_rfl) Try.func79 rfl (by kernel_rfl) sig_impl_floor_ok xs_impl_floor_ok ?_
  intro avs sg h hn hl
  unfold g_impl_floor at h
  split at h
  · rename_i a b
    injection h with h; subst h
    refine ⟨by kernel_rfl, fun b => [], Eq.mp (V_impl_floor a b) ?_⟩
    simp only [true_and, and_true, implies_true, and_self, forall_const, true_implies, lenA, lenL, SV.lenOK, Cont.lenOK] at hn hl ⊢
    obtain ⟨n1, n2, n3⟩ := hn
    obtain ⟨q1, q2⟩ := tdiv_bd n1 n2 n3
    obtain ⟨f1, f2⟩ := floor_e (a := a) n1
    simp only [ilt_t, ilt_f, ile_t, ile_f, ieq_t, ieq_f, bnot_e, band_e, bite_and, bite_or, NLt_e, NLe_e, NNe_e, NIs_e, imax_e, imin_e, irem_e, Bool.not_eq_true', Bool.not_eq_false', Bool.and_eq_true, Bool.or_eq_true, Bool.or_eq_false_iff, Bool.and_eq_false_iff, Cont.pts.injEq, Cont.ints.injEq, Cont.bools.injEq, Cont.ptss.injEq, Cont.intss.injEq, Cont.boolss.injEq, true_and, and_true, implies_true]
    refine ⟨by omega, by omega, fun h => ?_, fun h => ?_⟩
    · rw [q1, q2 h, f1 h]
    · rw [q1, f2 h]
  · cases h
def dcv (t : Int) (f : Int → Int) : Nat → Int → Int
  | 0, k => f k
  | m + 1, k => (64 - t) * dcv t f m k + t * dcv t f m (k + 1)
def p64 : Nat → Int
  | 0 => 1
  | m + 1 => p64 m * 64
theorem p64_pos : ∀ m, 1 ≤ p64 m
  | 0 => by decide
  | m + 1 => by have := p64_pos m; unfold p64; omega
theorem p64_le {m : Nat} (h : m ≤ 3) : p64 m ≤ 262144 := by
  rcases (by omega : m = 0 ∨ m = 1 ∨ m = 2 ∨ m = 3) with rfl | rfl | rfl | rfl <;> decide
theorem p64_even {m : Nat} (h : 1 ≤ m) : ∃ c, p64 m = 2 * c ∧ 1 ≤ c := by
  obtain ⟨q, rfl⟩ : ∃ q, m = q + 1 := ⟨m - 1, by omega⟩
  have := p64_pos q
  exact ⟨p64 q * 32, by show p64 q * 64 = _; omega, by omega⟩
theorem dcv_bd {t : Int} {f : Int → Int} {n lo hi : Int} (ht0 : 0 ≤ t) (ht1 : t ≤ 64) (hf : ∀ j, 0 ≤ j → j < n → lo ≤ f j ∧ f j ≤ hi) :
    ∀ (m : Nat) (k : Int), 0 ≤ k → k + m < n → lo * p64 m ≤ dcv t f m k ∧ dcv t f m k ≤ hi * p64 m
  | 0, k, h0, h1 => by
    have := hf k h0 (by omega)
    unfold dcv p64; omega
  | m + 1, k, h0, h1 => by
    obtain ⟨a1, a2⟩ := dcv_bd ht0 ht1 hf m k h0 (by omega)
    obtain ⟨b1, b2⟩ := dcv_bd ht0 ht1 hf m (k + 1) (by omega) (by omega)
    unfold dcv p64
    have e : ∀ x : Int, x * (p64 m * 64) = (64 - t) * (x * p64 m) + t * (x * p64 m) := fun x => by
      rw [← Int.add_mul, show 64 - t + t = 64 by omega, Int.mul_comm 64, Int.mul_assoc]
    rw [e lo, e hi]
    exact ⟨Int.add_le_add (Int.mul_le_mul_of_nonneg_left a1 (by omega)) (Int.mul_le_mul_of_nonneg_left b1 ht0),
      Int.add_le_add (Int.mul_le_mul_of_nonneg_left a2 (by omega)) (Int.mul_le_mul_of_nonneg_left b2 ht0)⟩
/-- the parts of a step stay small -/
theorem dcv_parts {t : Int} {f : Int → Int} {n : Int} (ht0 : 0 ≤ t) (ht1 : t ≤ 64) (hn : n ≤ 4) (hf : ∀ j, 0 ≤ j → j < n → -10000 ≤ f j ∧ f j ≤ 10000) {m : Nat} {k : Int} (h0 : 0 ≤ k) (h1 : k + m < n) :
    (-2621440000 ≤ dcv t f m k ∧ dcv t f m k ≤ 2621440000) ∧ (-167772160000 ≤ (64 - t) * dcv t f m k ∧ (64 - t) * dcv t f m k ≤ 167772160000) ∧ (-167772160000 ≤ t * dcv t f m k ∧ t * dcv t f m k ≤ 167772160000) := by
  obtain ⟨a1, a2⟩ := dcv_bd ht0 ht1 hf m k h0 h1
  have hp := p64_le (m := m) (by omega)
  have hp0 := p64_pos m
  have b1 : -2621440000 ≤ dcv t f m k := by omega
  have b2 : dcv t f m k ≤ 2621440000 := by omega
  have key : ∀ s : Int, 0 ≤ s → s ≤ 64 → -167772160000 ≤ s * dcv t f m k ∧ s * dcv t f m k ≤ 167772160000 := fun s s0 s1 => by
    have c1 := Int.mul_le_mul_of_nonneg_left b1 s0
    have c2 := Int.mul_le_mul_of_nonneg_left b2 s0
    constructor
    · refine Int.le_trans ?_ c1; omega
    · refine Int.le_trans c2 ?_; omega
  exact ⟨⟨b1, b2⟩, key _ (by omega) (by omega), key _ ht0 ht1⟩
theorem dcv_0 (f : Int → Int) : ∀ (m : Nat) (k : Int), dcv 0 f m k = f k * p64 m
  | 0, k => by unfold dcv p64; omega
  | m + 1, k => by
    show (64 - 0) * dcv 0 f m k + 0 * dcv 0 f m (k + 1) = f k * (p64 m * 64)
    rw [dcv_0 f m k]; generalize f k = x; generalize p64 m = y; grind
theorem dcv_64 (f : Int → Int) : ∀ (m : Nat) (k : Int), dcv 64 f m k = f (k + m) * p64 m
  | 0, k => by simp [dcv, p64]
  | m + 1, k => by
    show (64 - 64) * dcv 64 f m k + 64 * dcv 64 f m (k + 1) = f (k + ((m + 1 : Nat) : Int)) * (p64 m * 64)
    rw [dcv_64 f m k, dcv_64 f m (k + 1), show k + 1 + (m : Int) = k + ((m + 1 : Nat) : Int) by omega]; generalize f (k + ((m + 1 : Nat) : Int)) = x; generalize p64 m = y; grind
theorem dcv_rev (t c : Int) (f g : Int → Int) (n : Int) (hg : ∀ j, 0 ≤ j → j < n → g j = f (n - 1 - j)) : ∀ (m : Nat) (k : Int), 0 ≤ k → k + m < n → dcv (64 - t) g m k = dcv t f m (n - 1 - m - k)
  | 0, k, h0, h1 => by unfold dcv; rw [hg k h0 (by omega)]; congr 1; omega
  | m + 1, k, h0, h1 => by
    unfold dcv
    rw [dcv_rev t c f g n hg m k h0 (by omega), dcv_rev t c f g n hg m (k + 1) (by omega) (by omega)]
    rw [show 64 - (64 - t) = t by omega, show n - 1 - ((m + 1 : Nat) : Int) - k = n - 1 - m - (k + 1) by omega, show n - 1 - (m : Int) - (k + 1) + 1 = n - 1 - m - k by omega]
    omega
theorem dcv_congr {t n : Int} {f g : Int → Int} (h : ∀ j, 0 ≤ j → j < n → f j = g j) : ∀ (m : Nat) (k : Int), 0 ≤ k → k + m < n → dcv t f m k = dcv t g m k
  | 0, k, h0, h1 => h k h0 (by omega)
  | m + 1, k, h0, h1 => by unfold dcv; rw [dcv_congr h m k h0 (by omega), dcv_congr h m (k + 1) (by omega) (by omega)]
/-- the rounded value -/
def rnd (a b : Int) : Int := (2 * a + b) / (2 * b)
def cvN (n t : Int) (f : Int → Int) : Int := rnd (dcv t f (n - 1).toNat 0) (p64 (n - 1).toNat)
theorem rnd_even {a b c : Int} (hb : b = 2 * c) : rnd a b = (a + b / 2) / b := by
  unfold rnd
  subst hb
  rw [show 2 * c / 2 = c by omega, show 2 * a + 2 * c = 2 * (a + c) by omega, Int.mul_ediv_mul_of_pos _ _ (by omega : (0:Int) < 2)]
theorem rnd_1 (a : Int) : rnd a 1 = a := by unfold rnd; omega
theorem rnd_mul {x p : Int} (hp : 1 ≤ p) : rnd (x * p) p = x := by
  unfold rnd
  have : 2 * (x * p) + p = p + x * (2 * p) := by rw [Int.mul_left_comm]; omega
  rw [this, Int.add_mul_ediv_right _ _ (by omega), Int.ediv_eq_zero_of_lt (by omega) (by omega)]; omega
theorem rnd_mono {a b p : Int} (hp : 1 ≤ p) (h : a ≤ b) : rnd a p ≤ rnd b p := Int.ediv_le_ediv (by omega) (by omega)
theorem cvN_in {n t lo hi : Int} {f : Int → Int} (hn : 1 ≤ n) (ht0 : 0 ≤ t) (ht1 : t ≤ 64) (hf : ∀ j, 0 ≤ j → j < n → lo ≤ f j ∧ f j ≤ hi) : lo ≤ cvN n t f ∧ cvN n t f ≤ hi := by
  obtain ⟨a1, a2⟩ := dcv_bd ht0 ht1 hf (n - 1).toNat 0 (by omega) (by omega)
  have hp := p64_pos (n - 1).toNat
  unfold cvN
  exact ⟨by have := rnd_mono hp a1; rwa [rnd_mul hp] at this, by have := rnd_mono hp a2; rwa [rnd_mul hp] at this⟩
theorem cvN_0 {n : Int} (f : Int → Int) : cvN n 0 f = f 0 := by unfold cvN; rw [dcv_0, rnd_mul (p64_pos _)]
theorem cvN_64 {n : Int} (hn : 1 ≤ n) (f : Int → Int) : cvN n 64 f = f (n - 1) := by unfold cvN; rw [dcv_64, rnd_mul (p64_pos _)]; congr 1; omega
theorem cvN_rev {n t : Int} {f g : Int → Int} (hn : 1 ≤ n) (hg : ∀ j, 0 ≤ j → j < n → g j = f (n - 1 - j)) : cvN n (64 - t) g = cvN n t f := by
  unfold cvN; rw [dcv_rev t 0 f g n hg _ 0 (by omega) (by omega)]; congr 2; omega
/-- two control points: a line -/
theorem cvN_line {a b k : Int} (f : Int → Int) (h0 : f 0 = a) (h1 : f 1 = b) : cvN 2 (4 * k) f = a + (k * (b - a) + 8) / 16 := by
  unfold cvN
  have e : dcv (4 * k) f (2 - 1 : Int).toNat 0 = 64 * a + 4 * (k * (b - a)) := by
    show (64 - 4 * k) * f 0 + 4 * k * f (0 + 1) = _
    rw [show (0 : Int) + 1 = 1 from rfl, h0, h1, Int.sub_mul, Int.mul_sub, Int.mul_assoc, Int.mul_assoc]; omega
  rw [e, show p64 (2 - 1 : Int).toNat = 64 from rfl]
  unfold rnd
  generalize k * (b - a) = d
  omega
def g_impl_nearest : List AV → Option Sg
  | [.s (.int a), .s (.int b)] => some ⟨1 ≤ b ∧ b ≤ 1000000 ∧ -1000000000000 ≤ a ∧ a ≤ 1000000000000, [.s (.int (rnd a b))]⟩
  | _ => none
def sig_impl_nearest : FuncId → List AV → Option Sg := sigL [(79, g_impl_floor)]
def xs_impl_nearest : XS := ⟨xsigL [], ysigL []⟩
theorem sig_impl_nearest_ok : SigOK sig_impl_nearest := sigL_cons F_impl_floor sigL_nil
theorem xs_impl_nearest_ok : XSigOK xs_impl_nearest := ⟨xsigL_nil, ysigL_nil⟩
theorem V_impl_nearest (a : Int) (b : Int) : ((true = true) ∧ ((True) ∧ True) ∧ (true = true) ∧ ((True) ∧ (True) ∧ (True) ∧ (True) ∧ (True) ∧ (True) ∧ ((1 ≤ (imul (2 : Int) b) ∧ -9223372036854775807 ≤ (iadd (imul (2 : Int) a) b) ∧ (iadd (imul (2 : Int) a) b) ≤ 9223372036854775807)) ∧ (True) ∧ True) ∧ ((((iadd (imul (2 : Int) a) b) / (imul (2 : Int) b)) : Int) = (rnd a b)) ∧ True) = ev sig_impl_nearest xs_impl_nearest Try.f77.ntmps (fun b => []) (codeOf Try.f77) 0 (initS [.s (.int a), .s (.int b)]) (retK Try.f77.results.toList [.s (.int (rnd a b))]) := by kernel_rfl
set_option maxHeartbeats 400000 in
theorem F_impl_nearest : FunOK 77 g_impl_nearest := by
  refine fun_F (by kernel_rfl) Try.func77 rfl (by kernel_rfl) sig_impl_nearest_ok xs_impl_nearest_ok ?_
  intro avs sg h hn hl
  unfold g_impl_nearest at h
  split at h
  · rename_i a b
    injection h with h; subst h
    refine ⟨by kernel_rfl, fun b => [], Eq.mp (V_impl_nearest a b) ?_⟩
    simp only [true_and, and_true, implies_true, and_self, forall_const, true_implies, lenA, lenL, SV.lenOK, Cont.lenOK] at hn hl ⊢
    rw [imul_e (by omega) (by omega), imul_e (by omega) (by omega), iadd_e (by omega) (by omega)]
    exact ⟨by omega, rfl⟩
  · cases h
def cpB (l : List Pt) (t : Int) : Bool := crvB l && inB t 0 64
def cpx (l : List Pt) (t : Int) : Int := if cpB l t then cvN (ilen l) t (getx l) else 0
def cpy (l : List Pt) (t : Int) : Int := if cpB l t then cvN (ilen l) t (gety l) else 0
theorem crv_parts {l : List Pt} (h : crvB l = true) : (1 ≤ ilen l ∧ ilen l ≤ 4) ∧ (∀ j, 0 ≤ j → j < ilen l → -10000 ≤ getx l j ∧ getx l j ≤ 10000) ∧ (∀ j, 0 ≤ j → j < ilen l → -10000 ≤ gety l j ∧ gety l j ≤ 10000) := by
  unfold crvB at h
  simp only [Bool.and_eq_true] at h
  have h1 := h.2
  rw [allB_N] at h1
  have h2 : ∀ j, 0 ≤ j → j < ilen l → (-10000 ≤ getx l j ∧ getx l j ≤ 10000) ∧ (-10000 ≤ gety l j ∧ gety l j ≤ 10000) := fun j j0 j1 => by
    have := allN_iff.1 h1 j j0 j1
    unfold vB at this
    simp only [Bool.and_eq_true] at this
    exact ⟨inB_true this.1, inB_true this.2⟩
  exact ⟨inB_true h.1, fun j j0 j1 => (h2 j j0 j1).1, fun j j0 j1 => (h2 j j0 j1).2⟩
theorem step_w {t x y a b : Int} (ht0 : 0 ≤ t) (ht1 : t ≤ 64) (ha : -167772160000 ≤ (64 - t) * x ∧ (64 - t) * x ≤ 167772160000) (hb : -167772160000 ≤ t * y ∧ t * y ≤ 167772160000) :
    iadd (imul (isub 64 t) x) (imul t y) = (64 - t) * x + t * y := by
  rw [isub_e (by omega) (by omega), imul_e (by omega) (by omega), imul_e (by omega) (by omega), iadd_e (by omega) (by omega)]
theorem itake_get {l : List Int} {n j : Int} (h0 : 0 ≤ j) (h1 : j < n) : geti (itake l n) j = geti l j := by
  unfold geti itake
  simp only [List.getD_eq_getElem?_getD, List.getElem?_take]
  rw [if_pos (by omega)]
theorem itake_getx {l : List Pt} {n j : Int} (h0 : 0 ≤ j) (h1 : j < n) : getx (itake l n) j = getx l j := by
  unfold getx itake
  simp only [List.getD_eq_getElem?_getD, List.getElem?_take]
  rw [if_pos (by omega)]
theorem itake_gety {l : List Pt} {n j : Int} (h0 : 0 ≤ j) (h1 : j < n) : gety (itake l n) j = gety l j := by
  unfold gety itake
  simp only [List.getD_eq_getElem?_getD, List.getElem?_take]
  rw [if_pos (by omega)]
theorem itake_len {α : Type} {l : List α} {n : Int} (h0 : 0 ≤ n) (h1 : n ≤ ilen l) : ilen (itake l n) = n := by
  unfold ilen itake at *
  simp; omega
theorem p64_s (m : Nat) : p64 (m + 1) = p64 m * 64 := rfl
theorem dcv_s (t : Int) (f : Int → Int) (m : Nat) (k : Int) : dcv t f (m + 1) k = (64 - t) * dcv t f m k + t * dcv t f m (k + 1) := rfl
def g_impl_CurvePoint : List AV → Option Sg
  | [.s (.view (.pts l)), .s (.int t)] => some ⟨True, [.agg [.int (cpx l t), .int (cpy l t)]]⟩
  | _ => none
def sig_impl_CurvePoint : FuncId → List AV → Option Sg := sigL [(26, nilG (.pts []) g_impl_CurveValid), (68, g_impl_within), (76, g_slices_Clone_Simpl_Point_impl_Point), (77, g_impl_nearest)]
def xs_impl_CurvePoint : XS := ⟨xsigL [], ysigL []⟩
theorem sig_impl_CurvePoint_ok : SigOK sig_impl_CurvePoint := sigL_cons (FunOK.nil (c := .pts []) rfl F_impl_CurveValid) (sigL_cons F_impl_within (sigL_cons F_slices_Clone_Simpl_Point_impl_Point (sigL_cons F_impl_nearest sigL_nil)))
theorem xs_impl_CurvePoint_ok : XSigOK xs_impl_CurvePoint := ⟨xsigL_nil, ysigL_nil⟩
theorem V_impl_CurvePoint (l : List Pt) (t : Int) : ((true = true) ∧ ((True) ∧ True) ∧ (true = true) ∧ ((True) ∧ ((True)) ∧ (True) ∧ (True) ∧ (NIs (bnot (crvB l)) false → True) ∧ (NIs (bnot (crvB l)) false → (True)) ∧ (NIs (bnot (crvB l)) false → True) ∧ (True) ∧ True) ∧ ((bite (bnot (crvB l)) true (bnot (inB t (0 : Int) (64 : Int)))) = true → ((true = true) ∧ ((True) ∧ True) ∧ (True) ∧ ((((0 : Int) : Int) = (cpx l t)) ∧ (((0 : Int) : Int) = (cpy l t)) ∧ True) ∧ True)) ∧ ((bite (bnot (crvB l)) true (bnot (inB t (0 : Int) (64 : Int)))) = false → ((true = true) ∧ ((True) ∧ ((ilen l ≤ 1000000000)) ∧ (True) ∧ True) ∧ (true = true) ∧ ((True) ∧ True) ∧ ∃ (I1 : List GV → Prop) (μ1 : List GV → Nat), (((true = true) ∧ ((((1 : Int) : Int) = (1 : Int)) ∧ ((Cont.pts l) = (Cont.pts l)) ∧ (true = true) ∧ ((Cont.pts l) = (Cont.pts l)) ∧ (((crvB l) : Bool) = (crvB l)) ∧ (((bnot (crvB l)) : Bool) = (bnot (crvB l))) ∧ (((bnot (crvB l)) : Bool) = (bnot (crvB l))) ∧ (((bite (bnot (crvB l)) true (bnot (inB t (0 : Int) (64 : Int)))) : Bool) = (bite (bnot (crvB l)) true (bnot (inB t (0 : Int) (64 : Int))))) ∧ (true = true) ∧ ((Cont.pts l) = (Cont.pts l)) ∧ ((t : Int) = t) ∧ True) ∧ (((true = true) ∧ ((Cont.pts (l)) = (Cont.pts (l)))) ∧ ((((0 : Int) : Int) = (0 : Int)) ∧ (((0 : Int) : Int) = (0 : Int)) ∧ True) ∧ True)) ∧ (([GK.int, GK.pts] : List GK) = ([GK.int, GK.pts] : List GK)) ∧ I1 [GV.int (1 : Int), GV.pts (l)]) ∧ (∀ i1_0 : Int, ∀ l1_1 : List Pt, I1 [GV.int i1_0, GV.pts l1_1] → ((true = true) ∧ ((True) ∧ (True) ∧ (True) ∧ True) ∧ ((ilt (1 : Int) (ilen l1_1)) = true → ((true = true) ∧ ((True) ∧ (True) ∧ (True) ∧ (True) ∧ True) ∧ ∃ (I2 : List GV → Prop) (μ2 : List GV → Nat), (((true = true) ∧ ((((0 : Int) : Int) = (0 : Int)) ∧ (((ilen l1_1) : Int) = (ilen l1_1)) ∧ (((isub (ilen l1_1) (1 : Int)) : Int) = (isub (ilen l1_1) (1 : Int))) ∧ (((ilen l1_1) : Int) = (ilen l1_1)) ∧ (((ilt (1 : Int) (ilen l1_1)) : Bool) = (ilt (1 : Int) (ilen l1_1))) ∧ ((i1_0 : Int) = i1_0) ∧ ((Cont.pts l) = (Cont.pts l)) ∧ (true = true) ∧ ((Cont.pts l) = (Cont.pts l)) ∧ (((crvB l) : Bool) = (crvB l)) ∧ (((bnot (crvB l)) : Bool) = (bnot (crvB l))) ∧ (((bnot (crvB l)) : Bool) = (bnot (crvB l))) ∧ (((bite (bnot (crvB l)) true (bnot (inB t (0 : Int) (64 : Int)))) : Bool) = (bite (bnot (crvB l)) true (bnot (inB t (0 : Int) (64 : Int))))) ∧ (true = true) ∧ ((Cont.pts l) = (Cont.pts l)) ∧ ((t : Int) = t) ∧ True) ∧ (((true = true) ∧ ((Cont.pts l1_1) = (Cont.pts l1_1))) ∧ ((((0 : Int) : Int) = (0 : Int)) ∧ (((0 : Int) : Int) = (0 : Int)) ∧ True) ∧ True)) ∧ (([GK.int, GK.pts] : List GK) = ([GK.int, GK.pts] : List GK)) ∧ I2 [GV.int (0 : Int), GV.pts l1_1]) ∧ (∀ i2_0 : Int, ∀ l2_1 : List Pt, I2 [GV.int i2_0, GV.pts l2_1] → ((true = true) ∧ ((True) ∧ True) ∧ ((ilt i2_0 (isub (ilen l1_1) (1 : Int))) = true → ((true = true) ∧ ((True) ∧ (True) ∧ True) ∧ (true = true) ∧ ((True) ∧ (True) ∧ (True) ∧ (True) ∧ (True) ∧ (True) ∧ (NLe 0 i2_0 ∧ NLt i2_0 (ilen l2_1)) ∧ (NLt i2_0 (ilen l2_1)) ∧ (NLt i2_0 (ilen l2_1)) ∧ (True) ∧ (True) ∧ (True) ∧ (True) ∧ (True) ∧ (NLe 0 (iadd i2_0 (1 : Int)) ∧ NLt (iadd i2_0 (1 : Int)) (ilen l2_1)) ∧ (NLt (iadd i2_0 (1 : Int)) (ilen l2_1)) ∧ (NLt (iadd i2_0 (1 : Int)) (ilen l2_1)) ∧ (True) ∧ (True) ∧ (True) ∧ (True) ∧ (True) ∧ (True) ∧ (NLe 0 i2_0 ∧ NLt i2_0 (ilen l2_1)) ∧ (NLt i2_0 (ilen l2_1)) ∧ (NLt i2_0 (ilen l2_1)) ∧ (True) ∧ (True) ∧ (True) ∧ (True) ∧ (True) ∧ (NLe 0 (iadd i2_0 (1 : Int)) ∧ NLt (iadd i2_0 (1 : Int)) (ilen l2_1)) ∧ (NLt (iadd i2_0 (1 : Int)) (ilen l2_1)) ∧ (NLt (iadd i2_0 (1 : Int)) (ilen l2_1)) ∧ (True) ∧ (True) ∧ (True) ∧ (NLe 0 i2_0 ∧ NLt i2_0 (ilen l2_1)) ∧ True) ∧ (NLt i2_0 (ilen l2_1)) ∧ (true = true) ∧ ((True) ∧ (True) ∧ True) ∧ ((true = true) ∧ ((((iadd i2_0 (1 : Int)) : Int) = (iadd i2_0 (1 : Int))) ∧ (((ilen l1_1) : Int) = (ilen l1_1)) ∧ (((isub (ilen l1_1) (1 : Int)) : Int) = (isub (ilen l1_1) (1 : Int))) ∧ (((ilen l1_1) : Int) = (ilen l1_1)) ∧ (((ilt (1 : Int) (ilen l1_1)) : Bool) = (ilt (1 : Int) (ilen l1_1))) ∧ ((i1_0 : Int) = i1_0) ∧ ((Cont.pts l) = (Cont.pts l)) ∧ (true = true) ∧ ((Cont.pts l) = (Cont.pts l)) ∧ (((crvB l) : Bool) = (crvB l)) ∧ (((bnot (crvB l)) : Bool) = (bnot (crvB l))) ∧ (((bnot (crvB l)) : Bool) = (bnot (crvB l))) ∧ (((bite (bnot (crvB l)) true (bnot (inB t (0 : Int) (64 : Int)))) : Bool) = (bite (bnot (crvB l)) true (bnot (inB t (0 : Int) (64 : Int))))) ∧ (true = true) ∧ ((Cont.pts l) = (Cont.pts l)) ∧ ((t : Int) = t) ∧ True) ∧ (((true = true) ∧ ((Cont.pts (setp l2_1 i2_0 (iadd (imul (isub (64 : Int) t) (getx l2_1 i2_0)) (imul t (getx l2_1 (iadd i2_0 (1 : Int))))) (iadd (imul (isub (64 : Int) t) (gety l2_1 i2_0)) (imul t (gety l2_1 (iadd i2_0 (1 : Int))))))) = (Cont.pts (setp l2_1 i2_0 (iadd (imul (isub (64 : Int) t) (getx l2_1 i2_0)) (imul t (getx l2_1 (iadd i2_0 (1 : Int))))) (iadd (imul (isub (64 : Int) t) (gety l2_1 i2_0)) (imul t (gety l2_1 (iadd i2_0 (1 : Int))))))))) ∧ ((((0 : Int) : Int) = (0 : Int)) ∧ (((0 : Int) : Int) = (0 : Int)) ∧ True) ∧ True)) ∧ ((([GK.int, GK.pts] : List GK) = ([GK.int, GK.pts] : List GK)) ∧ I2 [GV.int (iadd i2_0 (1 : Int)), GV.pts (setp l2_1 i2_0 (iadd (imul (isub (64 : Int) t) (getx l2_1 i2_0)) (imul t (getx l2_1 (iadd i2_0 (1 : Int))))) (iadd (imul (isub (64 : Int) t) (gety l2_1 i2_0)) (imul t (gety l2_1 (iadd i2_0 (1 : Int))))))] ∧ μ2 [GV.int (iadd i2_0 (1 : Int)), GV.pts (setp l2_1 i2_0 (iadd (imul (isub (64 : Int) t) (getx l2_1 i2_0)) (imul t (getx l2_1 (iadd i2_0 (1 : Int))))) (iadd (imul (isub (64 : Int) t) (gety l2_1 i2_0)) (imul t (gety l2_1 (iadd i2_0 (1 : Int))))))] < μ2 [GV.int i2_0, GV.pts l2_1]))) ∧ ((ilt i2_0 (isub (ilen l1_1) (1 : Int))) = false → ((true = true) ∧ ((True) ∧ (True) ∧ (True) ∧ (True) ∧ True) ∧ (NLe 0 (isub (ilen l2_1) (1 : Int)) ∧ NLe (isub (ilen l2_1) (1 : Int)) (ilen l2_1)) ∧ (True) ∧ (true = true) ∧ ((True) ∧ (True) ∧ (True) ∧ True) ∧ ((true = true) ∧ ((((imul i1_0 (64 : Int)) : Int) = (imul i1_0 (64 : Int))) ∧ ((Cont.pts l) = (Cont.pts l)) ∧ (true = true) ∧ ((Cont.pts l) = (Cont.pts l)) ∧ (((crvB l) : Bool) = (crvB l)) ∧ (((bnot (crvB l)) : Bool) = (bnot (crvB l))) ∧ (((bnot (crvB l)) : Bool) = (bnot (crvB l))) ∧ (((bite (bnot (crvB l)) true (bnot (inB t (0 : Int) (64 : Int)))) : Bool) = (bite (bnot (crvB l)) true (bnot (inB t (0 : Int) (64 : Int))))) ∧ (true = true) ∧ ((Cont.pts l) = (Cont.pts l)) ∧ ((t : Int) = t) ∧ True) ∧ (((true = true) ∧ ((Cont.pts (itake l2_1 (isub (ilen l2_1) (1 : Int)))) = (Cont.pts (itake l2_1 (isub (ilen l2_1) (1 : Int)))))) ∧ ((((0 : Int) : Int) = (0 : Int)) ∧ (((0 : Int) : Int) = (0 : Int)) ∧ True) ∧ True)) ∧ ((([GK.int, GK.pts] : List GK) = ([GK.int, GK.pts] : List GK)) ∧ I1 [GV.int (imul i1_0 (64 : Int)), GV.pts (itake l2_1 (isub (ilen l2_1) (1 : Int)))] ∧ μ1 [GV.int (imul i1_0 (64 : Int)), GV.pts (itake l2_1 (isub (ilen l2_1) (1 : Int)))] < μ1 [GV.int i1_0, GV.pts l1_1]))))))) ∧ ((ilt (1 : Int) (ilen l1_1)) = false → ((true = true) ∧ ((True) ∧ (NLe 0 (0 : Int) ∧ NLt (0 : Int) (ilen l1_1)) ∧ (NLt (0 : Int) (ilen l1_1)) ∧ (NLt (0 : Int) (ilen l1_1)) ∧ (True) ∧ ((1 ≤ i1_0 ∧ i1_0 ≤ 1000000 ∧ -1000000000000 ≤ (getx l1_1 (0 : Int)) ∧ (getx l1_1 (0 : Int)) ≤ 1000000000000)) ∧ (True) ∧ (NLe 0 (0 : Int) ∧ NLt (0 : Int) (ilen l1_1)) ∧ (NLt (0 : Int) (ilen l1_1)) ∧ (NLt (0 : Int) (ilen l1_1)) ∧ (True) ∧ ((1 ≤ i1_0 ∧ i1_0 ≤ 1000000 ∧ -1000000000000 ≤ (gety l1_1 (0 : Int)) ∧ (gety l1_1 (0 : Int)) ≤ 1000000000000)) ∧ (True) ∧ True) ∧ (True) ∧ ((((rnd (getx l1_1 (0 : Int)) i1_0) : Int) = (cpx l t)) ∧ (((rnd (gety l1_1 (0 : Int)) i1_0) : Int) = (cpy l t)) ∧ True) ∧ True))))))) = ev sig_impl_CurvePoint xs_impl_CurvePoint Try.f29.ntmps (fun b => if b == 0 then [.v 6, .b 5] else if b == 2 then [.v 25, .b 5] else []) (codeOf Try.f29) 0 (initS [.s (.view (.pts l)), .s (.int t)]) (retK Try.f29.results.toList [.agg [.int (cpx l t), .int (cpy l t)]]) := by kernel_rfl
set_option maxHeartbeats 1000000 in
theorem F_impl_CurvePoint : FunOK 29 g_impl_CurvePoint := by
  refine fun_F (by kernel_rfl) Try.func29 rfl (by kernel_rfl) sig_impl_CurvePoint_ok xs_impl_CurvePoint_ok ?_
  intro avs sg h hn hl
  unfold g_impl_CurvePoint at h
  split at h
  · rename_i l t
    injection h with h; subst h
    refine ⟨by kernel_rfl, fun b => if b == 0 then [.v 6, .b 5] else if b == 2 then [.v 25, .b 5] else [], Eq.mp (V_impl_CurvePoint l t) ?_⟩
    simp only [true_and, and_true, implies_true, and_self, forall_const, true_implies, lenA, lenL, SV.lenOK, Cont.lenOK] at hn hl ⊢
    have h0 := ilen_0 l
    simp only [ilt_t, ilt_f, ile_t, ile_f, ieq_t, ieq_f, bnot_e, band_e, bite_and, bite_or, NLt_e, NLe_e, NNe_e, NIs_e, imax_e, imin_e, irem_e, Bool.not_eq_true', Bool.not_eq_false', Bool.and_eq_true, Bool.or_eq_true, Bool.or_eq_false_iff, Bool.and_eq_false_iff, Cont.pts.injEq, Cont.ints.injEq, Cont.bools.injEq, Cont.ptss.injEq, Cont.intss.injEq, Cont.boolss.injEq, true_and, and_true, implies_true]
    refine ⟨fun h => ?_, fun h => ?_⟩
    · have : cpB l t = false := by unfold cpB; rcases h with h | h <;> simp [h]
      unfold cpx cpy; simp [this]
    have hcp : cpB l t = true := by unfold cpB; simp [h]
    obtain ⟨⟨n1, n4⟩, bx, bY⟩ := crv_parts h.1
    obtain ⟨t0, t1⟩ := inB_true h.2
    unfold cpx cpy
    rw [if_pos hcp, if_pos hcp]
    refine ⟨by omega, fun | [.int s, .pts q] => 1 ≤ ilen q ∧ ilen q ≤ ilen l ∧ s = p64 (ilen l - ilen q).toNat ∧ ∀ j, 0 ≤ j → j < ilen q → getx q j = dcv t (getx l) (ilen l - ilen q).toNat j ∧ gety q j = dcv t (gety l) (ilen l - ilen q).toNat j | _ => False, fun | [.int _, .pts q] => (ilen q).toNat | _ => 0, ?_, ?_⟩
    · refine ⟨n1, Int.le_refl _, ?_, fun j _ _ => ?_⟩
      · rw [Int.sub_self]; rfl
      · rw [Int.sub_self]; exact ⟨rfl, rfl⟩
    rintro s q ⟨q1, q2, hs, hq⟩
    obtain ⟨m, hm⟩ : ∃ m : Nat, m = (ilen l - ilen q).toNat := ⟨_, rfl⟩
    rw [← hm] at hs hq
    have hp0 := p64_pos m
    have hp1 := p64_le (m := m) (by omega)
    refine ⟨fun hlt => ?_, fun hlt => ?_⟩
    · have es : isub (ilen q) 1 = ilen q - 1 := isub_e (by omega) (by omega)
      simp only [es]
      refine ⟨fun | [.int i, .pts q'] => 0 ≤ i ∧ i ≤ ilen q - 1 ∧ ilen q' = ilen q ∧ (∀ j, 0 ≤ j → j < i → getx q' j = dcv t (getx l) (m + 1) j ∧ gety q' j = dcv t (gety l) (m + 1) j) ∧ (∀ j, i ≤ j → j < ilen q → getx q' j = dcv t (getx l) m j ∧ gety q' j = dcv t (gety l) m j) | _ => False, fun | [.int i, .pts _] => (ilen q - i).toNat | _ => 0, ?_, ?_⟩
      · exact ⟨Int.le_refl 0, by omega, rfl, fun j h0 h1 => by omega, fun j j0 j1 => hq j j0 j1⟩
      rintro i q' ⟨i0, i1, hl', ha, hb⟩
      simp only [hl']
      have ei : iadd i 1 = i + 1 := iadd_e (by omega) (by omega)
      simp only [ei]
      refine ⟨fun hi => ?_, fun hi => ?_⟩
      · obtain ⟨x1, y1⟩ := hb i (Int.le_refl _) (by omega)
        obtain ⟨x2, y2⟩ := hb (i + 1) (by omega) (by omega)
        have px := dcv_parts t0 t1 n4 bx (m := m) (k := i) i0 (by omega)
        have px' := dcv_parts t0 t1 n4 bx (m := m) (k := i + 1) (by omega) (by omega)
        have py := dcv_parts t0 t1 n4 bY (m := m) (k := i) i0 (by omega)
        have py' := dcv_parts t0 t1 n4 bY (m := m) (k := i + 1) (by omega) (by omega)
        rw [x1, x2, y1, y2, step_w (a := 0) (b := 0) t0 t1 px.2.1 px'.2.2, step_w (a := 0) (b := 0) t0 t1 py.2.1 py'.2.2, ← dcv_s, ← dcv_s]
        refine ⟨by omega, by omega, ⟨by omega, by omega, by rw [ilen_setp, hl'], fun j j0 j1 => ?_, fun j j0 j1 => ?_⟩, by omega⟩
        · rw [getx_setp i0 (by omega) j0, gety_setp i0 (by omega) j0]
          by_cases hj : j = i
          · rw [if_pos hj, if_pos hj, hj]; exact ⟨rfl, rfl⟩
          · rw [if_neg hj, if_neg hj]; exact ha j j0 (by omega)
        · rw [getx_setp i0 (by omega) (by omega), gety_setp i0 (by omega) (by omega), if_neg (by omega), if_neg (by omega)]
          exact hb j (by omega) j1
      · rw [es, itake_len (by omega) (by omega)]
        have ep : imul s 64 = s * 64 := imul_e (by omega) (by omega)
        rw [ep]
        have em : (ilen l - (ilen q - 1)).toNat = m + 1 := by omega
        refine ⟨by omega, ⟨by omega, by omega, ?_, fun j j0 j1 => ?_⟩, by omega⟩
        · rw [em, hs, p64_s]
        · rw [em, itake_getx j0 (by omega), itake_gety j0 (by omega)]
          exact ha j j0 (by omega)
    · have e1 : ilen q = 1 := by omega
      have em : m = (ilen l - 1).toNat := by omega
      obtain ⟨x1, y1⟩ := hq 0 (by omega) (by omega)
      have px := dcv_parts t0 t1 n4 bx (m := m) (k := 0) (by omega) (by omega)
      have py := dcv_parts t0 t1 n4 bY (m := m) (k := 0) (by omega) (by omega)
      rw [x1, y1, hs]
      refine ⟨by omega, by unfold cvN; rw [em], by unfold cvN; rw [em]⟩
  · cases h
def g_spec_l1In : List AV → Option Sg
  | [.s (.int n), .s (.int lo), .s (.int hi)] => some ⟨True, [.s (.bool (inB n lo hi))]⟩
  | _ => none
def sig_spec_l1In : FuncId → List AV → Option Sg := sigL []
def xs_spec_l1In : XS := ⟨xsigL [], ysigL []⟩
theorem sig_spec_l1In_ok : SigOK sig_spec_l1In := sigL_nil
theorem xs_spec_l1In_ok : XSigOK xs_spec_l1In := ⟨xsigL_nil, ysigL_nil⟩
theorem V_spec_l1In (n : Int) (lo : Int) (hi : Int) : ((true = true) ∧ ((True) ∧ True) ∧ (true = true) ∧ ((True) ∧ (True) ∧ (True) ∧ (True) ∧ (NIs (ile lo n) true → True) ∧ (NIs (ile lo n) true → True) ∧ (NIs (ile lo n) true → True) ∧ (True) ∧ (True) ∧ True) ∧ (((bite (ile lo n) (ile n hi) false) : Bool) = (inB n lo hi)) ∧ True) = ev sig_spec_l1In xs_spec_l1In Try.f67.ntmps (fun b => []) (codeOf Try.f67) 0 (initS [.s (.int n), .s (.int lo), .s (.int hi)]) (retK Try.f67.results.toList [.s (.bool (inB n lo hi))]) := by kernel_rfl
set_option maxHeartbeats 400000 in
theorem F_spec_l1In : FunOK 67 g_spec_l1In := by
  refine fun_F (by kernel_rfl) Try.func67 rfl (by kernel_rfl) sig_spec_l1In_ok xs_spec_l1In_ok ?_
  intro avs sg h hn hl
  unfold g_spec_l1In at h
  split at h
  · rename_i n lo hi
    injection h with h; subst h
    refine ⟨by kernel_rfl, fun b => [], Eq.mp (V_spec_l1In n lo hi) ?_⟩
    simp only [true_and, and_true, implies_true, and_self, forall_const, true_implies, lenA, lenL, SV.lenOK, Cont.lenOK] at hn hl ⊢
    simp only [bite_and, inB_eq]
  · cases h
def g_spec_PointValid : List AV → Option Sg
  | [.agg [.int p1, .int p2]] => some ⟨True, [.s (.bool (vB p1 p2))]⟩
  | _ => none
def sig_spec_PointValid : FuncId → List AV → Option Sg := sigL [(67, g_spec_l1In)]
def xs_spec_PointValid : XS := ⟨xsigL [], ysigL []⟩
theorem sig_spec_PointValid_ok : SigOK sig_spec_PointValid := sigL_cons F_spec_l1In sigL_nil
theorem xs_spec_PointValid_ok : XSigOK xs_spec_PointValid := ⟨xsigL_nil, ysigL_nil⟩
theorem V_spec_PointValid (p1 : Int) (p2 : Int) : ((true = true) ∧ ((True) ∧ (True) ∧ True) ∧ (true = true) ∧ ((True) ∧ (True) ∧ ((True)) ∧ (True) ∧ (NIs (inB p1 (-10000 : Int) (10000 : Int)) true → True) ∧ (NIs (inB p1 (-10000 : Int) (10000 : Int)) true → True) ∧ (NIs (inB p1 (-10000 : Int) (10000 : Int)) true → (True)) ∧ (True) ∧ (True) ∧ True) ∧ (((bite (inB p1 (-10000 : Int) (10000 : Int)) (inB p2 (-10000 : Int) (10000 : Int)) false) : Bool) = (vB p1 p2)) ∧ True) = ev sig_spec_PointValid xs_spec_PointValid Try.f37.ntmps (fun b => []) (codeOf Try.f37) 0 (initS [.agg [.int p1, .int p2]]) (retK Try.f37.results.toList [.s (.bool (vB p1 p2))]) := by kernel_rfl
set_option maxHeartbeats 400000 in
theorem F_spec_PointValid : FunOK 37 g_spec_PointValid := by
  refine fun_F (by kernel_rfl) Try.func37 rfl (by kernel_rfl) sig_spec_PointValid_ok xs_spec_PointValid_ok ?_
  intro avs sg h hn hl
  unfold g_spec_PointValid at h
  split at h
  · rename_i p1 p2
    injection h with h; subst h
    refine ⟨by kernel_rfl, fun b => [], Eq.mp (V_spec_PointValid p1 p2) ?_⟩
    simp only [true_and, and_true, implies_true, and_self, forall_const, true_implies, lenA, lenL, SV.lenOK, Cont.lenOK] at hn hl ⊢
    simp only [bite_and, vB]
  · cases h
def g_spec_CurveValid : List AV → Option Sg
  | [.s (.view (.pts l))] => some ⟨True, [.s (.bool (crvB l))]⟩
  | _ => none
def sig_spec_CurveValid : FuncId → List AV → Option Sg := sigL [(37, g_spec_PointValid), (67, g_spec_l1In)]
def xs_spec_CurveValid : XS := ⟨xsigL [], ysigL []⟩
theorem sig_spec_CurveValid_ok : SigOK sig_spec_CurveValid := sigL_cons F_spec_PointValid (sigL_cons F_spec_l1In sigL_nil)
theorem xs_spec_CurveValid_ok : XSigOK xs_spec_CurveValid := ⟨xsigL_nil, ysigL_nil⟩
theorem V_spec_CurveValid (l : List Pt) : ((true = true) ∧ ((True) ∧ True) ∧ (true = true) ∧ ((True) ∧ True) ∧ ∃ (I1 : List GV → Prop) (μ1 : List GV → Nat), (((true = true) ∧ (((false : Bool) = false) ∧ (((0 : Int) : Int) = (0 : Int)) ∧ ((Cont.pts l) = (Cont.pts l)) ∧ True) ∧ (True)) ∧ (([GK.int, GK.bool] : List GK) = ([GK.int, GK.bool] : List GK)) ∧ I1 [GV.int (0 : Int), GV.bool false]) ∧ (∀ i1_0 : Int, ∀ b1_1 : Bool, I1 [GV.int i1_0, GV.bool b1_1] → ((true = true) ∧ ((True) ∧ (True) ∧ (True) ∧ (True) ∧ True) ∧ ((ilt i1_0 (ilen l)) = true → ((true = true) ∧ ((True) ∧ (True) ∧ (NLe 0 i1_0 ∧ NLt i1_0 (ilen l)) ∧ (True) ∧ ((True)) ∧ (True) ∧ True) ∧ ((bnot (vB (getx l i1_0) (gety l i1_0))) = true → ((true = true) ∧ ((True) ∧ True) ∧ ((false : Bool) = (crvB l)) ∧ True)) ∧ ((bnot (vB (getx l i1_0) (gety l i1_0))) = false → ((true = true) ∧ ((True) ∧ (True) ∧ (True) ∧ True) ∧ ((true = true) ∧ (((b1_1 : Bool) = b1_1) ∧ (((iadd i1_0 (1 : Int)) : Int) = (iadd i1_0 (1 : Int))) ∧ ((Cont.pts l) = (Cont.pts l)) ∧ True) ∧ (True)) ∧ ((([GK.int, GK.bool] : List GK) = ([GK.int, GK.bool] : List GK)) ∧ I1 [GV.int (iadd i1_0 (1 : Int)), GV.bool b1_1] ∧ μ1 [GV.int (iadd i1_0 (1 : Int)), GV.bool b1_1] < μ1 [GV.int i1_0, GV.bool b1_1]))))) ∧ ((ilt i1_0 (ilen l)) = false → ((true = true) ∧ ((True) ∧ (True) ∧ ((True)) ∧ (True) ∧ True) ∧ (((inB (ilen l) (1 : Int) (4 : Int)) : Bool) = (crvB l)) ∧ True))))) = ev sig_spec_CurveValid xs_spec_CurveValid Try.f27.ntmps (fun b => if b == 0 then [.v 3, .v 2] else []) (codeOf Try.f27) 0 (initS [.s (.view (.pts l))]) (retK Try.f27.results.toList [.s (.bool (crvB l))]) := by kernel_rfl
set_option maxHeartbeats 400000 in
theorem F_spec_CurveValid : FunOK 27 g_spec_CurveValid := by
  refine fun_F (by kernel_rfl) Try.func27 rfl (by kernel_rfl) sig_spec_CurveValid_ok xs_spec_CurveValid_ok ?_
  intro avs sg h hn hl
  unfold g_spec_CurveValid at h
  split at h
  · rename_i l
    injection h with h; subst h
    refine ⟨by kernel_rfl, fun b => if b == 0 then [.v 3, .v 2] else [], Eq.mp (V_spec_CurveValid l) ?_⟩
    simp only [true_and, and_true, implies_true, and_self, forall_const, true_implies, lenA, lenL, SV.lenOK, Cont.lenOK] at hn hl ⊢
    have h0 := ilen_0 l
    simp only [ilt_t, ilt_f, ile_t, ile_f, ieq_t, ieq_f, bnot_e, band_e, bite_and, bite_or, NLt_e, NLe_e, NNe_e, NIs_e, imax_e, imin_e, irem_e, Bool.not_eq_true', Bool.not_eq_false', Bool.and_eq_true, Bool.or_eq_true, Bool.or_eq_false_iff, Bool.and_eq_false_iff, Cont.pts.injEq, Cont.ints.injEq, Cont.bools.injEq, Cont.ptss.injEq, Cont.intss.injEq, Cont.boolss.injEq, true_and, and_true, implies_true]
    refine ⟨fun | .int k :: _ => 0 ≤ k ∧ k ≤ ilen l ∧ (∀ j, 0 ≤ j → j < k → vB (getx l j) (gety l j) = true) | _ => False, fun | .int k :: _ => (ilen l - k).toNat | _ => 0, ?_, ?_⟩
    · exact ⟨Int.le_refl 0, h0, fun j h0 h1 => absurd h1 (by omega)⟩
    · rintro k _ ⟨hk0, hk1, hk⟩
      simp only [ilt_t, ilt_f, ile_t, ile_f, ieq_t, ieq_f, bnot_e, band_e, bite_and, bite_or, NLt_e, NLe_e, NNe_e, NIs_e, imax_e, imin_e, irem_e, Bool.not_eq_true', Bool.not_eq_false', Bool.and_eq_true, Bool.or_eq_true, Bool.or_eq_false_iff, Bool.and_eq_false_iff, Cont.pts.injEq, Cont.ints.injEq, Cont.bools.injEq, Cont.ptss.injEq, Cont.intss.injEq, Cont.boolss.injEq, true_and, and_true, implies_true]
      refine ⟨fun hc => ⟨⟨hk0, hc⟩, fun hv => ?_, fun hv => ?_⟩, fun hc => ?_⟩
      · unfold crvB; rw [allB_N, allN_no k hk0 hc hv]; simp
      · rw [iadd_1 hk0 hc hl]
        exact ⟨⟨by omega, by omega, allN_up hk hv⟩, by omega⟩
      · unfold crvB; rw [allB_N, allN_mk fun j h0 h1 => hk j h0 (by omega)]; simp
  · cases h
def g_spec_l7Value : List AV → Option Sg
  | [.s (.view (.ints l)), .s (.int t)] => some ⟨1 ≤ ilen l ∧ ilen l ≤ 4 ∧ 0 ≤ t ∧ t ≤ 64 ∧ ∀ j, 0 ≤ j → j < ilen l → -10000 ≤ geti l j ∧ geti l j ≤ 10000, [.s (.int (dcv t (geti l) (ilen l - 1).toNat 0))]⟩
  | _ => none
def sig_spec_l7Value : FuncId → List AV → Option Sg := sigL []
def xs_spec_l7Value : XS := ⟨xsigL [], ysigL []⟩
theorem sig_spec_l7Value_ok : SigOK sig_spec_l7Value := sigL_nil
theorem xs_spec_l7Value_ok : XSigOK xs_spec_l7Value := ⟨xsigL_nil, ysigL_nil⟩
theorem V_spec_l7Value (l : List Int) (t : Int) : ((true = true) ∧ ((True) ∧ True) ∧ (true = true) ∧ ((True) ∧ (True) ∧ True) ∧ (NLe (ilen ([] : List Int)) 1000000000 ∧ NLe (ilen l) 1000000000) ∧ (True) ∧ ∃ (I1 : List GV → Prop) (μ1 : List GV → Nat), (((true = true) ∧ ((true = true) ∧ ((Cont.ints l) = (Cont.ints l)) ∧ (((0 : Int) : Int) = (0 : Int)) ∧ ((Cont.ints l) = (Cont.ints l)) ∧ ((t : Int) = t) ∧ True) ∧ (((true = true) ∧ ((Cont.ints (iapp [] l)) = (Cont.ints (iapp [] l)))) ∧ True)) ∧ (([GK.ints] : List GK) = ([GK.ints] : List GK)) ∧ I1 [GV.ints (iapp [] l)]) ∧ (∀ l1_0 : List Int, I1 [GV.ints l1_0] → ((true = true) ∧ ((True) ∧ (True) ∧ (True) ∧ True) ∧ ((ilt (1 : Int) (ilen l1_0)) = true → ((true = true) ∧ ((True) ∧ (True) ∧ True) ∧ (true = true) ∧ ((True) ∧ True) ∧ ∃ (I2 : List GV → Prop) (μ2 : List GV → Nat), (((true = true) ∧ ((((0 : Int) : Int) = (0 : Int)) ∧ (true = true) ∧ (true = true) ∧ (((ilen l1_0) : Int) = (ilen l1_0)) ∧ (((ilt (1 : Int) (ilen l1_0)) : Bool) = (ilt (1 : Int) (ilen l1_0))) ∧ (true = true) ∧ ((Cont.ints l) = (Cont.ints l)) ∧ (((0 : Int) : Int) = (0 : Int)) ∧ ((Cont.ints l) = (Cont.ints l)) ∧ ((t : Int) = t) ∧ True) ∧ (((true = true) ∧ ((Cont.ints []) = (Cont.ints []))) ∧ ((true = true) ∧ ((Cont.ints l1_0) = (Cont.ints l1_0))) ∧ True)) ∧ (([GK.int, GK.ints] : List GK) = ([GK.int, GK.ints] : List GK)) ∧ I2 [GV.int (0 : Int), GV.ints []]) ∧ (∀ i2_0 : Int, ∀ l2_1 : List Int, I2 [GV.int i2_0, GV.ints l2_1] → ((true = true) ∧ ((True) ∧ (True) ∧ (True) ∧ (True) ∧ (True) ∧ True) ∧ ((ilt (iadd i2_0 (1 : Int)) (ilen l1_0)) = true → ((true = true) ∧ ((True) ∧ (True) ∧ (True) ∧ (NLe 0 i2_0 ∧ NLt i2_0 (ilen l1_0)) ∧ (NLt i2_0 (ilen l1_0)) ∧ (True) ∧ (True) ∧ (True) ∧ (True) ∧ (True) ∧ (True) ∧ (NLe 0 (iadd i2_0 (1 : Int)) ∧ NLt (iadd i2_0 (1 : Int)) (ilen l1_0)) ∧ (NLt (iadd i2_0 (1 : Int)) (ilen l1_0)) ∧ (True) ∧ (True) ∧ (True) ∧ (True) ∧ True) ∧ (NLe (ilen l2_1) 1000000000 ∧ NLe (ilen [(iadd (imul (geti l1_0 i2_0) (isub (64 : Int) t)) (imul (geti l1_0 (iadd i2_0 (1 : Int))) t))]) 1000000000) ∧ (True) ∧ (true = true) ∧ ((True) ∧ (True) ∧ (True) ∧ True) ∧ ((true = true) ∧ ((((iadd i2_0 (1 : Int)) : Int) = (iadd i2_0 (1 : Int))) ∧ (true = true) ∧ (true = true) ∧ (((ilen l1_0) : Int) = (ilen l1_0)) ∧ (((ilt (1 : Int) (ilen l1_0)) : Bool) = (ilt (1 : Int) (ilen l1_0))) ∧ (true = true) ∧ ((Cont.ints l) = (Cont.ints l)) ∧ (((0 : Int) : Int) = (0 : Int)) ∧ ((Cont.ints l) = (Cont.ints l)) ∧ ((t : Int) = t) ∧ True) ∧ (((true = true) ∧ ((Cont.ints (iapp l2_1 [(iadd (imul (geti l1_0 i2_0) (isub (64 : Int) t)) (imul (geti l1_0 (iadd i2_0 (1 : Int))) t))])) = (Cont.ints (iapp l2_1 [(iadd (imul (geti l1_0 i2_0) (isub (64 : Int) t)) (imul (geti l1_0 (iadd i2_0 (1 : Int))) t))])))) ∧ ((true = true) ∧ ((Cont.ints l1_0) = (Cont.ints l1_0))) ∧ True)) ∧ ((([GK.int, GK.ints] : List GK) = ([GK.int, GK.ints] : List GK)) ∧ I2 [GV.int (iadd i2_0 (1 : Int)), GV.ints (iapp l2_1 [(iadd (imul (geti l1_0 i2_0) (isub (64 : Int) t)) (imul (geti l1_0 (iadd i2_0 (1 : Int))) t))])] ∧ μ2 [GV.int (iadd i2_0 (1 : Int)), GV.ints (iapp l2_1 [(iadd (imul (geti l1_0 i2_0) (isub (64 : Int) t)) (imul (geti l1_0 (iadd i2_0 (1 : Int))) t))])] < μ2 [GV.int i2_0, GV.ints l2_1]))) ∧ ((ilt (iadd i2_0 (1 : Int)) (ilen l1_0)) = false → ((true = true) ∧ ((True) ∧ (True) ∧ True) ∧ ((true = true) ∧ ((true = true) ∧ ((Cont.ints l) = (Cont.ints l)) ∧ (((0 : Int) : Int) = (0 : Int)) ∧ ((Cont.ints l) = (Cont.ints l)) ∧ ((t : Int) = t) ∧ True) ∧ (((true = true) ∧ ((Cont.ints l2_1) = (Cont.ints l2_1))) ∧ True)) ∧ ((([GK.ints] : List GK) = ([GK.ints] : List GK)) ∧ I1 [GV.ints l2_1] ∧ μ1 [GV.ints l2_1] < μ1 [GV.ints l1_0]))))))) ∧ ((ilt (1 : Int) (ilen l1_0)) = false → ((true = true) ∧ ((True) ∧ (NLe 0 (0 : Int) ∧ NLt (0 : Int) (ilen l1_0)) ∧ (NLt (0 : Int) (ilen l1_0)) ∧ (True) ∧ True) ∧ (((geti l1_0 (0 : Int)) : Int) = (dcv t (geti l) (ilen l - 1).toNat 0)) ∧ True))))) = ev sig_spec_l7Value xs_spec_l7Value Try.f104.ntmps (fun b => if b == 0 then [.b 5] else if b == 2 then [.v 7, .b 6] else []) (codeOf Try.f104) 0 (initS [.s (.view (.ints l)), .s (.int t)]) (retK Try.f104.results.toList [.s (.int (dcv t (geti l) (ilen l - 1).toNat 0))]) := by kernel_rfl
set_option maxHeartbeats 1000000 in
theorem F_spec_l7Value : FunOK 104 g_spec_l7Value := by
  refine fun_F (by kernel_rfl) Try.func104 rfl (by kernel_rfl) sig_spec_l7Value_ok xs_spec_l7Value_ok ?_
  intro avs sg h hn hl
  unfold g_spec_l7Value at h
  split at h
  · rename_i l t
    injection h with h; subst h
    refine ⟨by kernel_rfl, fun b => if b == 0 then [.b 5] else if b == 2 then [.v 7, .b 6] else [], Eq.mp (V_spec_l7Value l t) ?_⟩
    simp only [true_and, and_true, implies_true, and_self, forall_const, true_implies, lenA, lenL, SV.lenOK, Cont.lenOK] at hn hl ⊢
    have h0 := ilen_0 l
    obtain ⟨n1, n4, t0, t1, bx⟩ := hn
    simp only [ilt_t, ilt_f, ile_t, ile_f, ieq_t, ieq_f, bnot_e, band_e, bite_and, bite_or, NLt_e, NLe_e, NNe_e, NIs_e, imax_e, imin_e, irem_e, Bool.not_eq_true', Bool.not_eq_false', Bool.and_eq_true, Bool.or_eq_true, Bool.or_eq_false_iff, Bool.and_eq_false_iff, Cont.pts.injEq, Cont.ints.injEq, Cont.bools.injEq, Cont.ptss.injEq, Cont.intss.injEq, Cont.boolss.injEq, true_and, and_true, implies_true]
    refine ⟨by rw [ilen_nil]; omega, fun | [.ints q] => 1 ≤ ilen q ∧ ilen q ≤ ilen l ∧ ∀ j, 0 ≤ j → j < ilen q → geti q j = dcv t (geti l) (ilen l - ilen q).toNat j | _ => False, fun | [.ints q] => (ilen q).toNat | _ => 0, ?_, ?_⟩
    · have : iapp [] l = l := by simp [iapp]
      rw [this]
      refine ⟨n1, Int.le_refl _, fun j _ _ => ?_⟩
      rw [Int.sub_self]; rfl
    rintro q ⟨q1, q2, hq⟩
    obtain ⟨m, hm⟩ : ∃ m : Nat, m = (ilen l - ilen q).toNat := ⟨_, rfl⟩
    rw [← hm] at hq
    refine ⟨fun hlt => ?_, fun hlt => ?_⟩
    · refine ⟨fun | [.int i, .ints q'] => 0 ≤ i ∧ i ≤ ilen q - 1 ∧ ilen q' = i ∧ (∀ j, 0 ≤ j → j < i → geti q' j = dcv t (geti l) (m + 1) j) | _ => False, fun | [.int i, .ints _] => (ilen q - i).toNat | _ => 0, ?_, ?_⟩
      · exact ⟨Int.le_refl 0, by omega, ilen_nil, fun j h0 h1 => by omega⟩
      rintro i q' ⟨i0, i1, hl', ha⟩
      have ei : iadd i 1 = i + 1 := iadd_e (by omega) (by omega)
      simp only [ei]
      refine ⟨fun hi => ?_, fun hi => ?_⟩
      · have x1 := hq i i0 (by omega)
        have x2 := hq (i + 1) (by omega) (by omega)
        have px := dcv_parts t0 t1 n4 bx (m := m) (k := i) i0 (by omega)
        have px' := dcv_parts t0 t1 n4 bx (m := m) (k := i + 1) (by omega) (by omega)
        have ev : iadd (imul (geti q i) (isub 64 t)) (imul (geti q (i + 1)) t) = dcv t (geti l) (m + 1) i := by
          rw [x1, x2, isub_e (by omega) (by omega), dcv_s, Int.mul_comm (64 - t), Int.mul_comm t]
          rw [Int.mul_comm (64 - t), Int.mul_comm t] at *
          have := px.2.1; have := px'.2.2
          rw [imul_e (by omega) (by omega), imul_e (by omega) (by omega), iadd_e (by omega) (by omega)]
        rw [ev]
        refine ⟨by omega, by rw [ilen_one]; omega, ⟨by omega, by omega, by rw [ilen_app, ilen_one]; omega, fun j j0 j1 => ?_⟩, by omega⟩
        rw [geti_app j0]
        by_cases hj : j < ilen q'
        · rw [if_pos hj]; exact ha j j0 (by omega)
        · rw [if_neg hj, show j - ilen q' = 0 by omega, geti_one, show j = i by omega]
      · have em : (ilen l - ilen q').toNat = m + 1 := by omega
        refine ⟨⟨by omega, by omega, fun j j0 j1 => ?_⟩, by omega⟩
        rw [em]
        exact ha j j0 (by omega)
    · have e1 : ilen q = 1 := by omega
      have em : m = (ilen l - 1).toNat := by omega
      rw [hq 0 (by omega) (by omega), em]
      exact ⟨by omega, rfl⟩
  · cases h
def g_spec_l1Floor : List AV → Option Sg
  | [.s (.int a), .s (.int b)] => some ⟨1 ≤ b ∧ -9223372036854775807 ≤ a ∧ a ≤ 9223372036854775807, [.s (.int (a / b))]⟩
  | _ => none
def sig_spec_l1Floor : FuncId → List AV → Option Sg := sigL []
def xs_spec_l1Floor : XS := ⟨xsigL [], ysigL []⟩
theorem sig_spec_l1Floor_ok : SigOK sig_spec_l1Floor := sigL_nil
theorem xs_spec_l1Floor_ok : XSigOK xs_spec_l1Floor := ⟨xsigL_nil, ysigL_nil⟩
theorem V_spec_l1Floor (a : Int) (b : Int) : ((true = true) ∧ ((True) ∧ True) ∧ (true = true) ∧ ((True) ∧ (True) ∧ (NNe b 0) ∧ (True) ∧ True) ∧ (true = true) ∧ ((True) ∧ (True) ∧ (NNe b 0) ∧ (True) ∧ True) ∧ ((ilt (irem a b) (0 : Int)) = true → ((true = true) ∧ ((True) ∧ (True) ∧ (True) ∧ True) ∧ (true = true) ∧ ((True) ∧ (True) ∧ True) ∧ (((isub (iquo a b) (1 : Int)) : Int) = (a / b)) ∧ True)) ∧ ((ilt (irem a b) (0 : Int)) = false → ((true = true) ∧ ((True) ∧ (True) ∧ True) ∧ (((iquo a b) : Int) = (a / b)) ∧ True))) = ev sig_spec_l1Floor xs_spec_l1Floor Try.f114.ntmps (fun b => []) (codeOf Try.f114) 0 (initS [.s (.int a), .s (.int b)]) (retK Try.f114.results.toList [.s (.int (a / b))]) := by kernel_rfl
set_option maxHeartbeats 400000 in
theorem F_spec_l1Floor : FunOK 114 g_spec_l1Floor := by
  refine fun_F (by kernel_rfl) Try.func114 rfl (by kernel_rfl) sig_spec_l1Floor_ok xs_spec_l1Floor_ok ?_
  intro avs sg h hn hl
  unfold g_spec_l1Floor at h
  split at h
  · rename_i a b
    injection h with h; subst h
    refine ⟨by kernel_rfl, fun b => [], Eq.mp (V_spec_l1Floor a b) ?_⟩
    simp only [true_and, and_true, implies_true, and_self, forall_const, true_implies, lenA, lenL, SV.lenOK, Cont.lenOK] at hn hl ⊢
    obtain ⟨n1, n2, n3⟩ := hn
    obtain ⟨q1, q2⟩ := tdiv_bd n1 n2 n3
    obtain ⟨f1, f2⟩ := floor_e (a := a) n1
    simp only [ilt_t, ilt_f, ile_t, ile_f, ieq_t, ieq_f, bnot_e, band_e, bite_and, bite_or, NLt_e, NLe_e, NNe_e, NIs_e, imax_e, imin_e, irem_e, Bool.not_eq_true', Bool.not_eq_false', Bool.and_eq_true, Bool.or_eq_true, Bool.or_eq_false_iff, Bool.and_eq_false_iff, Cont.pts.injEq, Cont.ints.injEq, Cont.bools.injEq, Cont.ptss.injEq, Cont.intss.injEq, Cont.boolss.injEq, true_and, and_true, implies_true]
    refine ⟨by omega, by omega, fun h => ?_, fun h => ?_⟩
    · rw [q1, q2 h, f1 h]
    · rw [q1, f2 h]
  · cases h
def g_spec_l1Round : List AV → Option Sg
  | [.s (.int a), .s (.int b)] => some ⟨1 ≤ b ∧ b ≤ 1000000 ∧ -1000000000000 ≤ a ∧ a ≤ 1000000000000, [.s (.int ((a + b / 2) / b))]⟩
  | _ => none
def sig_spec_l1Round : FuncId → List AV → Option Sg := sigL [(114, g_spec_l1Floor)]
def xs_spec_l1Round : XS := ⟨xsigL [], ysigL []⟩
theorem sig_spec_l1Round_ok : SigOK sig_spec_l1Round := sigL_cons F_spec_l1Floor sigL_nil
theorem xs_spec_l1Round_ok : XSigOK xs_spec_l1Round := ⟨xsigL_nil, ysigL_nil⟩
theorem V_spec_l1Round (a : Int) (b : Int) : ((true = true) ∧ ((True) ∧ True) ∧ (true = true) ∧ ((True) ∧ (True) ∧ (NNe (2 : Int) 0) ∧ (True) ∧ (True) ∧ ((1 ≤ b ∧ -9223372036854775807 ≤ (iadd a (iquo b (2 : Int))) ∧ (iadd a (iquo b (2 : Int))) ≤ 9223372036854775807)) ∧ (True) ∧ True) ∧ ((((iadd a (iquo b (2 : Int))) / b) : Int) = ((a + b / 2) / b)) ∧ True) = ev sig_spec_l1Round xs_spec_l1Round Try.f103.ntmps (fun b => []) (codeOf Try.f103) 0 (initS [.s (.int a), .s (.int b)]) (retK Try.f103.results.toList [.s (.int ((a + b / 2) / b))]) := by kernel_rfl
set_option maxHeartbeats 400000 in
theorem F_spec_l1Round : FunOK 103 g_spec_l1Round := by
  refine fun_F (by kernel_rfl) Try.func103 rfl (by kernel_rfl) sig_spec_l1Round_ok xs_spec_l1Round_ok ?_
  intro avs sg h hn hl
  unfold g_spec_l1Round at h
  split at h
  · rename_i a b
    injection h with h; subst h
    refine ⟨by kernel_rfl, fun b => [], Eq.mp (V_spec_l1Round a b) ?_⟩
    simp only [true_and, and_true, implies_true, and_self, forall_const, true_implies, lenA, lenL, SV.lenOK, Cont.lenOK] at hn hl ⊢
    simp only [ilt_t, ilt_f, ile_t, ile_f, ieq_t, ieq_f, bnot_e, band_e, bite_and, bite_or, NLt_e, NLe_e, NNe_e, NIs_e, imax_e, imin_e, irem_e, Bool.not_eq_true', Bool.not_eq_false', Bool.and_eq_true, Bool.or_eq_true, Bool.or_eq_false_iff, Bool.and_eq_false_iff, Cont.pts.injEq, Cont.ints.injEq, Cont.bools.injEq, Cont.ptss.injEq, Cont.intss.injEq, Cont.boolss.injEq, true_and, and_true, implies_true]
    have e : iquo b 2 = b / 2 := by rw [iquo_e (by omega) (by omega) (by omega), Int.tdiv_eq_ediv_of_nonneg (by omega)]
    rw [e, iadd_e (by omega) (by omega)]
    exact ⟨by omega, rfl⟩
  · cases h
def g_spec_l7Point : List AV → Option Sg
  | [.s (.view (.pts l)), .s (.int t)] => some ⟨crvB l = true ∧ 0 ≤ t ∧ t ≤ 64, [.agg [.int (cvN (ilen l) t (getx l)), .int (cvN (ilen l) t (gety l))]]⟩
  | _ => none
def sig_spec_l7Point : FuncId → List AV → Option Sg := sigL [(104, g_spec_l7Value), (103, g_spec_l1Round)]
def xs_spec_l7Point : XS := ⟨xsigL [], ysigL []⟩
theorem sig_spec_l7Point_ok : SigOK sig_spec_l7Point := sigL_cons F_spec_l7Value (sigL_cons F_spec_l1Round sigL_nil)
theorem xs_spec_l7Point_ok : XSigOK xs_spec_l7Point := ⟨xsigL_nil, ysigL_nil⟩
theorem V_spec_l7Point (l : List Pt) (t : Int) : ((true = true) ∧ ((True) ∧ True) ∧ (true = true) ∧ ((True) ∧ (True) ∧ True) ∧ (true = true) ∧ ((True) ∧ (True) ∧ True) ∧ (true = true) ∧ ((True) ∧ True) ∧ (true = true) ∧ ((True) ∧ True) ∧ ∃ (I1 : List GV → Prop) (μ1 : List GV → Nat), (((true = true) ∧ ((((1 : Int) : Int) = (1 : Int)) ∧ (((0 : Int) : Int) = (0 : Int)) ∧ (true = true) ∧ (true = true) ∧ (true = true) ∧ ((Cont.pts l) = (Cont.pts l)) ∧ ((t : Int) = t) ∧ True) ∧ (((true = true) ∧ ((Cont.ints []) = (Cont.ints []))) ∧ ((true = true) ∧ ((Cont.ints []) = (Cont.ints []))) ∧ ((((0 : Int) : Int) = (0 : Int)) ∧ (((0 : Int) : Int) = (0 : Int)) ∧ True) ∧ True)) ∧ (([GK.int, GK.int, GK.ints, GK.ints] : List GK) = ([GK.int, GK.int, GK.ints, GK.ints] : List GK)) ∧ I1 [GV.int (0 : Int), GV.int (1 : Int), GV.ints [], GV.ints []]) ∧ (∀ i1_0 : Int, ∀ i1_1 : Int, ∀ l1_2 : List Int, ∀ l1_3 : List Int, I1 [GV.int i1_0, GV.int i1_1, GV.ints l1_2, GV.ints l1_3] → ((true = true) ∧ ((True) ∧ (True) ∧ (True) ∧ (True) ∧ True) ∧ ((ilt i1_0 (ilen l)) = true → ((true = true) ∧ ((True) ∧ (True) ∧ (True) ∧ (NLe 0 i1_0 ∧ NLt i1_0 (ilen l)) ∧ (True) ∧ (True) ∧ (True) ∧ True) ∧ (NLe (ilen l1_3) 1000000000 ∧ NLe (ilen [(getx l i1_0)]) 1000000000) ∧ (True) ∧ (true = true) ∧ ((True) ∧ (True) ∧ (True) ∧ (NLe 0 i1_0 ∧ NLt i1_0 (ilen l)) ∧ (True) ∧ (True) ∧ (True) ∧ True) ∧ (NLe (ilen l1_2) 1000000000 ∧ NLe (ilen [(gety l i1_0)]) 1000000000) ∧ (True) ∧ (true = true) ∧ ((True) ∧ (True) ∧ True) ∧ ((ilt (0 : Int) i1_0) = true → ((true = true) ∧ ((True) ∧ (True) ∧ (True) ∧ True) ∧ (true = true) ∧ ((True) ∧ (True) ∧ (True) ∧ True) ∧ ((true = true) ∧ ((((imul i1_1 (64 : Int)) : Int) = (imul i1_1 (64 : Int))) ∧ (((iadd i1_0 (1 : Int)) : Int) = (iadd i1_0 (1 : Int))) ∧ (true = true) ∧ (true = true) ∧ (true = true) ∧ ((Cont.pts l) = (Cont.pts l)) ∧ ((t : Int) = t) ∧ True) ∧ (((true = true) ∧ ((Cont.ints (iapp l1_3 [(getx l i1_0)])) = (Cont.ints (iapp l1_3 [(getx l i1_0)])))) ∧ ((true = true) ∧ ((Cont.ints (iapp l1_2 [(gety l i1_0)])) = (Cont.ints (iapp l1_2 [(gety l i1_0)])))) ∧ ((((0 : Int) : Int) = (0 : Int)) ∧ (((0 : Int) : Int) = (0 : Int)) ∧ True) ∧ True)) ∧ ((([GK.int, GK.int, GK.ints, GK.ints] : List GK) = ([GK.int, GK.int, GK.ints, GK.ints] : List GK)) ∧ I1 [GV.int (iadd i1_0 (1 : Int)), GV.int (imul i1_1 (64 : Int)), GV.ints (iapp l1_2 [(gety l i1_0)]), GV.ints (iapp l1_3 [(getx l i1_0)])] ∧ μ1 [GV.int (iadd i1_0 (1 : Int)), GV.int (imul i1_1 (64 : Int)), GV.ints (iapp l1_2 [(gety l i1_0)]), GV.ints (iapp l1_3 [(getx l i1_0)])] < μ1 [GV.int i1_0, GV.int i1_1, GV.ints l1_2, GV.ints l1_3]))) ∧ ((ilt (0 : Int) i1_0) = false → ((true = true) ∧ ((True) ∧ (True) ∧ (True) ∧ True) ∧ ((true = true) ∧ (((i1_1 : Int) = i1_1) ∧ (((iadd i1_0 (1 : Int)) : Int) = (iadd i1_0 (1 : Int))) ∧ (true = true) ∧ (true = true) ∧ (true = true) ∧ ((Cont.pts l) = (Cont.pts l)) ∧ ((t : Int) = t) ∧ True) ∧ (((true = true) ∧ ((Cont.ints (iapp l1_3 [(getx l i1_0)])) = (Cont.ints (iapp l1_3 [(getx l i1_0)])))) ∧ ((true = true) ∧ ((Cont.ints (iapp l1_2 [(gety l i1_0)])) = (Cont.ints (iapp l1_2 [(gety l i1_0)])))) ∧ ((((0 : Int) : Int) = (0 : Int)) ∧ (((0 : Int) : Int) = (0 : Int)) ∧ True) ∧ True)) ∧ ((([GK.int, GK.int, GK.ints, GK.ints] : List GK) = ([GK.int, GK.int, GK.ints, GK.ints] : List GK)) ∧ I1 [GV.int (iadd i1_0 (1 : Int)), GV.int i1_1, GV.ints (iapp l1_2 [(gety l i1_0)]), GV.ints (iapp l1_3 [(getx l i1_0)])] ∧ μ1 [GV.int (iadd i1_0 (1 : Int)), GV.int i1_1, GV.ints (iapp l1_2 [(gety l i1_0)]), GV.ints (iapp l1_3 [(getx l i1_0)])] < μ1 [GV.int i1_0, GV.int i1_1, GV.ints l1_2, GV.ints l1_3]))))) ∧ ((ilt i1_0 (ilen l)) = false → ((true = true) ∧ ((True) ∧ (True) ∧ True) ∧ ((ieq i1_1 (1 : Int)) = true → ((true = true) ∧ ((True) ∧ (NLe 0 (0 : Int) ∧ NLt (0 : Int) (ilen l)) ∧ (True) ∧ True) ∧ (True) ∧ ((((getx l (0 : Int)) : Int) = (cvN (ilen l) t (getx l))) ∧ (((gety l (0 : Int)) : Int) = (cvN (ilen l) t (gety l))) ∧ True) ∧ True)) ∧ ((ieq i1_1 (1 : Int)) = false → ((true = true) ∧ ((True) ∧ (True) ∧ ((1 ≤ ilen l1_3 ∧ ilen l1_3 ≤ 4 ∧ 0 ≤ t ∧ t ≤ 64 ∧ ∀ j, 0 ≤ j → j < ilen l1_3 → -10000 ≤ geti l1_3 j ∧ geti l1_3 j ≤ 10000)) ∧ (True) ∧ ((1 ≤ i1_1 ∧ i1_1 ≤ 1000000 ∧ -1000000000000 ≤ (dcv t (geti l1_3) (ilen l1_3 - 1).toNat 0) ∧ (dcv t (geti l1_3) (ilen l1_3 - 1).toNat 0) ≤ 1000000000000)) ∧ (True) ∧ (True) ∧ ((1 ≤ ilen l1_2 ∧ ilen l1_2 ≤ 4 ∧ 0 ≤ t ∧ t ≤ 64 ∧ ∀ j, 0 ≤ j → j < ilen l1_2 → -10000 ≤ geti l1_2 j ∧ geti l1_2 j ≤ 10000)) ∧ (True) ∧ ((1 ≤ i1_1 ∧ i1_1 ≤ 1000000 ∧ -1000000000000 ≤ (dcv t (geti l1_2) (ilen l1_2 - 1).toNat 0) ∧ (dcv t (geti l1_2) (ilen l1_2 - 1).toNat 0) ≤ 1000000000000)) ∧ (True) ∧ True) ∧ (True) ∧ ((((((dcv t (geti l1_3) (ilen l1_3 - 1).toNat 0) + i1_1 / 2) / i1_1) : Int) = (cvN (ilen l) t (getx l))) ∧ (((((dcv t (geti l1_2) (ilen l1_2 - 1).toNat 0) + i1_1 / 2) / i1_1) : Int) = (cvN (ilen l) t (gety l))) ∧ True) ∧ True))))))) = ev sig_spec_l7Point xs_spec_l7Point Try.f75.ntmps (fun b => if b == 0 then [.v 8, .v 7, .b 6, .b 5] else []) (codeOf Try.f75) 0 (initS [.s (.view (.pts l)), .s (.int t)]) (retK Try.f75.results.toList [.agg [.int (cvN (ilen l) t (getx l)), .int (cvN (ilen l) t (gety l))]]) := by kernel_rfl
set_option maxHeartbeats 1000000 in
theorem F_spec_l7Point : FunOK 75 g_spec_l7Point := by
  refine fun_F (by kernel_rfl) Try.func75 rfl (by kernel_rfl) sig_spec_l7Point_ok xs_spec_l7Point_ok ?_
  intro avs sg h hn hl
  unfold g_spec_l7Point at h
  split at h
  · rename_i l t
    injection h with h; subst h
    refine ⟨by kernel_rfl, fun b => if b == 0 then [.v 8, .v 7, .b 6, .b 5] else [], Eq.mp (V_spec_l7Point l t) ?_⟩
    simp only [true_and, and_true, implies_true, and_self, forall_const, true_implies, lenA, lenL, SV.lenOK, Cont.lenOK] at hn hl ⊢
    have h0 := ilen_0 l
    obtain ⟨hc, t0, t1⟩ := hn
    obtain ⟨⟨n1, n4⟩, bx, bY⟩ := crv_parts hc
    simp only [ilt_t, ilt_f, ile_t, ile_f, ieq_t, ieq_f, bnot_e, band_e, bite_and, bite_or, NLt_e, NLe_e, NNe_e, NIs_e, imax_e, imin_e, irem_e, Bool.not_eq_true', Bool.not_eq_false', Bool.and_eq_true, Bool.or_eq_true, Bool.or_eq_false_iff, Bool.and_eq_false_iff, Cont.pts.injEq, Cont.ints.injEq, Cont.bools.injEq, Cont.ptss.injEq, Cont.intss.injEq, Cont.boolss.injEq, true_and, and_true, implies_true]
    refine ⟨fun | [.int i, .int s, .ints y, .ints x] => 0 ≤ i ∧ i ≤ ilen l ∧ s = p64 (i - 1).toNat ∧ ilen x = i ∧ ilen y = i ∧ ∀ j, 0 ≤ j → j < i → geti x j = getx l j ∧ geti y j = gety l j | _ => False, fun | .int i :: _ => (ilen l - i).toNat | _ => 0, ?_, ?_⟩
    · exact ⟨Int.le_refl 0, h0, rfl, ilen_nil, ilen_nil, fun j j0 j1 => by omega⟩
    rintro i s y x ⟨i0, i1, hs, hx, hy, hg⟩
    have ei : iadd i 1 = i + 1 := iadd_e (by omega) (by omega)
    simp only [ei]
    refine ⟨fun hi => ?_, fun hi => ?_⟩
    · have hnew : ∀ j, 0 ≤ j → j < i + 1 → geti (iapp x [getx l i]) j = getx l j ∧ geti (iapp y [gety l i]) j = gety l j := fun j j0 j1 => by
        rw [geti_app j0, geti_app j0, hx, hy]
        by_cases hj : j < i
        · rw [if_pos hj, if_pos hj]; exact hg j j0 hj
        · rw [if_neg hj, if_neg hj, show j - i = 0 by omega, geti_one, geti_one, show j = i by omega]; exact ⟨rfl, rfl⟩
      have hp0 := p64_pos (i - 1).toNat
      have hp1 := p64_le (m := (i - 1).toNat) (by omega)
      refine ⟨by omega, by rw [ilen_one]; omega, by omega, by rw [ilen_one]; omega, fun hi0 => ⟨⟨by omega, by omega, ?_, by rw [ilen_app, ilen_one]; omega, by rw [ilen_app, ilen_one]; omega, hnew⟩, by omega⟩, fun hi0 => ⟨⟨by omega, by omega, ?_, by rw [ilen_app, ilen_one]; omega, by rw [ilen_app, ilen_one]; omega, hnew⟩, by omega⟩⟩
      · rw [imul_e (by omega) (by omega), hs, ← p64_s]; congr 1; omega
      · rw [hs, show i = 0 by omega]; rfl
    · have e1 : i = ilen l := by omega
      subst e1
      have hp0 := p64_pos (ilen l - 1).toNat
      have hp1 := p64_le (m := (ilen l - 1).toNat) (by omega)
      refine ⟨fun hs1 => ⟨by omega, ?_⟩, fun hs1 => ?_⟩
      · have : (ilen l - 1).toNat = 0 := by
          rcases Nat.eq_zero_or_pos (ilen l - 1).toNat with h | h
          · exact h
          · obtain ⟨c, hc1, hc2⟩ := p64_even h; omega
        unfold cvN
        rw [this]
        exact ⟨(rnd_1 _).symm, (rnd_1 _).symm⟩
      · have cx : dcv t (geti x) (ilen l - 1).toNat 0 = dcv t (getx l) (ilen l - 1).toNat 0 := dcv_congr (n := ilen l) (fun j j0 j1 => (hg j j0 j1).1) _ 0 (by omega) (by omega)
        have cy : dcv t (geti y) (ilen l - 1).toNat 0 = dcv t (gety l) (ilen l - 1).toNat 0 := dcv_congr (n := ilen l) (fun j j0 j1 => (hg j j0 j1).2) _ 0 (by omega) (by omega)
        have px := dcv_parts t0 t1 n4 bx (m := (ilen l - 1).toNat) (k := 0) (by omega) (by omega)
        have py := dcv_parts t0 t1 n4 bY (m := (ilen l - 1).toNat) (k := 0) (by omega) (by omega)
        rw [hx, hy, cx, cy]
        have hm : 1 ≤ (ilen l - 1).toNat := by
          rcases Nat.eq_zero_or_pos (ilen l - 1).toNat with h | h
          · rw [h] at hs; exact absurd hs hs1
          · exact h
        obtain ⟨c, hc1, hc2⟩ := p64_even hm
        refine ⟨⟨⟨n1, n4, t0, t1, fun j j0 j1 => by rw [(hg j j0 j1).1]; exact bx j j0 j1⟩, by omega, ⟨n1, n4, t0, t1, fun j j0 j1 => by rw [(hg j j0 j1).2]; exact bY j j0 j1⟩, by omega⟩, ?_, ?_⟩
        · unfold cvN; rw [← hs, rnd_even (c := c) (by omega)]
        · unfold cvN; rw [← hs, rnd_even (c := c) (by omega)]
  · cases h
def g_spec_CurvePoint : List AV → Option Sg
  | [.s (.view (.pts l)), .s (.int t)] => some ⟨True, [.agg [.int (cpx l t), .int (cpy l t)]]⟩
  | _ => none
def sig_spec_CurvePoint : FuncId → List AV → Option Sg := sigL [(27, nilG (.pts []) g_spec_CurveValid), (67, g_spec_l1In), (75, g_spec_l7Point)]
def xs_spec_CurvePoint : XS := ⟨xsigL [], ysigL []⟩
theorem sig_spec_CurvePoint_ok : SigOK sig_spec_CurvePoint := sigL_cons (FunOK.nil (c := .pts []) rfl F_spec_CurveValid) (sigL_cons F_spec_l1In (sigL_cons F_spec_l7Point sigL_nil))
theorem xs_spec_CurvePoint_ok : XSigOK xs_spec_CurvePoint := ⟨xsigL_nil, ysigL_nil⟩
theorem V_spec_CurvePoint (l : List Pt) (t : Int) : ((true = true) ∧ ((True) ∧ True) ∧ (true = true) ∧ ((True) ∧ ((True)) ∧ (True) ∧ (True) ∧ (NIs (bnot (crvB l)) false → True) ∧ (NIs (bnot (crvB l)) false → (True)) ∧ (NIs (bnot (crvB l)) false → True) ∧ (True) ∧ True) ∧ ((bite (bnot (crvB l)) true (bnot (inB t (0 : Int) (64 : Int)))) = true → ((true = true) ∧ ((True) ∧ True) ∧ (True) ∧ ((((0 : Int) : Int) = (cpx l t)) ∧ (((0 : Int) : Int) = (cpy l t)) ∧ True) ∧ True)) ∧ ((bite (bnot (crvB l)) true (bnot (inB t (0 : Int) (64 : Int)))) = false → ((true = true) ∧ ((True) ∧ (True) ∧ ((crvB l = true ∧ 0 ≤ t ∧ t ≤ 64)) ∧ True) ∧ (True) ∧ ((((cvN (ilen l) t (getx l)) : Int) = (cpx l t)) ∧ (((cvN (ilen l) t (gety l)) : Int) = (cpy l t)) ∧ True) ∧ True))) = ev sig_spec_CurvePoint xs_spec_CurvePoint Try.f28.ntmps (fun b => []) (codeOf Try.f28) 0 (initS [.s (.view (.pts l)), .s (.int t)]) (retK Try.f28.results.toList [.agg [.int (cpx l t), .int (cpy l t)]]) := by kernel_rfl
set_option maxHeartbeats 400000 in
theorem F_spec_CurvePoint : FunOK 28 g_spec_CurvePoint := by
  refine fun_F (by kernel_rfl) Try.func28 rfl (by kernel_rfl) sig_spec_CurvePoint_ok xs_spec_CurvePoint_ok ?_
  intro avs sg h hn hl
  unfold g_spec_CurvePoint at h
  split at h
  · rename_i l t
    injection h with h; subst h
    refine ⟨by kernel_rfl, fun b => [], Eq.mp (V_spec_CurvePoint l t) ?_⟩
    simp only [true_and, and_true, implies_true, and_self, forall_const, true_implies, lenA, lenL, SV.lenOK, Cont.lenOK] at hn hl ⊢
    simp only [ilt_t, ilt_f, ile_t, ile_f, ieq_t, ieq_f, bnot_e, band_e, bite_and, bite_or, NLt_e, NLe_e, NNe_e, NIs_e, imax_e, imin_e, irem_e, Bool.not_eq_true', Bool.not_eq_false', Bool.and_eq_true, Bool.or_eq_true, Bool.or_eq_false_iff, Bool.and_eq_false_iff, Cont.pts.injEq, Cont.ints.injEq, Cont.bools.injEq, Cont.ptss.injEq, Cont.intss.injEq, Cont.boolss.injEq, true_and, and_true, implies_true]
    refine ⟨fun h => ?_, fun h => ?_⟩
    · have : cpB l t = false := by unfold cpB; rcases h with h | h <;> simp [h]
      unfold cpx cpy; simp [this]
    have hcp : cpB l t = true := by unfold cpB; simp [h]
    unfold cpx cpy
    rw [if_pos hcp, if_pos hcp]
    exact ⟨⟨h.1, inB_true h.2⟩, rfl, rfl⟩
  · cases h
def degW (d : Int) : Int := irem (iadd (irem d 360) 360) 360
def g_impl_Degrees : List AV → Option Sg
  | [.s (.int d)] => some ⟨True, [.s (.int (degW d))]⟩
  | _ => none
def sig_impl_Degrees : FuncId → List AV → Option Sg := sigL []
def xs_impl_Degrees : XS := ⟨xsigL [], ysigL []⟩
theorem sig_impl_Degrees_ok : SigOK sig_impl_Degrees := sigL_nil
theorem xs_impl_Degrees_ok : XSigOK xs_impl_Degrees := ⟨xsigL_nil, ysigL_nil⟩
theorem V_impl_Degrees (d : Int) : ((true = true) ∧ ((True) ∧ True) ∧ (true = true) ∧ ((True) ∧ (NNe (360 : Int) 0) ∧ (True) ∧ (NNe (360 : Int) 0) ∧ (True) ∧ True) ∧ (((irem (iadd (irem d (360 : Int)) (360 : Int)) (360 : Int)) : Int) = (degW d)) ∧ True) = ev sig_impl_Degrees xs_impl_Degrees Try.f73.ntmps (fun b => []) (codeOf Try.f73) 0 (initS [.s (.int d)]) (retK Try.f73.results.toList [.s (.int (degW d))]) := by kernel_rfl
set_option maxHeartbeats 400000 in
theorem F_impl_Degrees : FunOK 73 g_impl_Degrees := by
  refine fun_F (by kernel_rfl) Try.func73 rfl (by kernel_rfl) sig_impl_Degrees_ok xs_impl_Degrees_ok ?_
  intro avs sg h hn hl
  unfold g_impl_Degrees at h
  split at h
  · rename_i d
    injection h with h; subst h
    refine ⟨by kernel_rfl, fun b => [], Eq.mp (V_impl_Degrees d) ?_⟩
    simp only [true_and, and_true, implies_true, and_self, forall_const, true_implies, lenA, lenL, SV.lenOK, Cont.lenOK] at hn hl ⊢
    simp only [ilt_t, ilt_f, ile_t, ile_f, ieq_t, ieq_f, bnot_e, band_e, bite_and, bite_or, NLt_e, NLe_e, NNe_e, NIs_e, imax_e, imin_e, irem_e, Bool.not_eq_true', Bool.not_eq_false', Bool.and_eq_true, Bool.or_eq_true, Bool.or_eq_false_iff, Bool.and_eq_false_iff, Cont.pts.injEq, Cont.ints.injEq, Cont.bools.injEq, Cont.ptss.injEq, Cont.intss.injEq, Cont.boolss.injEq, true_and, and_true, implies_true]
    exact ⟨by decide, by simp [degW, irem_e]⟩
  · cases h
def g_laws_alive : List AV → Option Sg
  | [] => some ⟨True, [.s (.bool (true))]⟩
  | _ => none
def sig_laws_alive : FuncId → List AV → Option Sg := sigL [(73, g_impl_Degrees)]
def xs_laws_alive : XS := ⟨xsigL [], ysigL []⟩
theorem sig_laws_alive_ok : SigOK sig_laws_alive := sigL_cons F_impl_Degrees sigL_nil
theorem xs_laws_alive_ok : XSigOK xs_laws_alive := ⟨xsigL_nil, ysigL_nil⟩
theorem V_laws_alive  : ((true = true) ∧ ((True) ∧ True) ∧ (true = true) ∧ (((True)) ∧ (True) ∧ (True) ∧ True) ∧ (((ieq (degW (-1 : Int)) (359 : Int)) : Bool) = (true)) ∧ True) = ev sig_laws_alive xs_laws_alive Try.f23.ntmps (fun b => []) (codeOf Try.f23) 0 (initS []) (retK Try.f23.results.toList [.s (.bool (true))]) := by kernel_rfl
set_option maxHeartbeats 400000 in
theorem F_laws_alive : FunOK 23 g_laws_alive := by
  refine fun_F (by kernel_rfl) Try.func23 rfl (by kernel_rfl) sig_laws_alive_ok xs_laws_alive_ok ?_
  intro avs sg h hn hl
  unfold g_laws_alive at h
  split at h
  ·
    injection h with h; subst h
    refine ⟨by kernel_rfl, fun b => [], Eq.mp (V_laws_alive ) ?_⟩
    simp only [true_and, and_true, implies_true, and_self, forall_const, true_implies, lenA, lenL, SV.lenOK, Cont.lenOK] at hn hl ⊢
    unfold ieq degW
    rw [irem_e, irem_e, iadd_e (by decide) (by decide)]
    decide
  · cases h
def bVal (l : List Pt) : Bool := inB (ilen l) 1 400 && allB l
def bLx (l : List Pt) : Int := if bVal l then foldN (ilen l) (fun a j => min a (getx l j)) (getx l 0) else 0
def bLy (l : List Pt) : Int := if bVal l then foldN (ilen l) (fun a j => min a (gety l j)) (gety l 0) else 0
def bHx (l : List Pt) : Int := if bVal l then foldN (ilen l) (fun a j => max a (getx l j)) (getx l 0) else 0
def bHy (l : List Pt) : Int := if bVal l then foldN (ilen l) (fun a j => max a (gety l j)) (gety l 0) else 0
theorem boxV_no {l : List Pt} (h : bVal l = false) : bLx l = 0 ∧ bLy l = 0 ∧ bHx l = 0 ∧ bHy l = 0 := by simp [bLx, bLy, bHx, bHy, h]
def g_impl_BoxOf : List AV → Option Sg
  | [.s (.view (.pts l))] => some ⟨True, [.agg [.int (bLx l), .int (bLy l)], .agg [.int (bHx l), .int (bHy l)]]⟩
  | _ => none
def sig_impl_BoxOf : FuncId → List AV → Option Sg := sigL [(68, g_impl_within), (69, g_impl_allPoints)]
def xs_impl_BoxOf : XS := ⟨xsigL [], ysigL []⟩
theorem sig_impl_BoxOf_ok : SigOK sig_impl_BoxOf := sigL_cons F_impl_within (sigL_cons F_impl_allPoints sigL_nil)
theorem xs_impl_BoxOf_ok : XSigOK xs_impl_BoxOf := ⟨xsigL_nil, ysigL_nil⟩
theorem V_impl_BoxOf (l : List Pt) : ((true = true) ∧ ((True) ∧ (True) ∧ True) ∧ (true = true) ∧ ((True) ∧ (True) ∧ ((True)) ∧ (True) ∧ (True) ∧ (NIs (bnot (inB (ilen l) (1 : Int) (400 : Int))) false → True) ∧ (NIs (bnot (inB (ilen l) (1 : Int) (400 : Int))) false → (True)) ∧ (NIs (bnot (inB (ilen l) (1 : Int) (400 : Int))) false → True) ∧ (True) ∧ True) ∧ ((bite (bnot (inB (ilen l) (1 : Int) (400 : Int))) true (bnot (allB l))) = true → ((true = true) ∧ ((True) ∧ (True) ∧ True) ∧ (True) ∧ (True) ∧ ((((0 : Int) : Int) = (bLx l)) ∧ (((0 : Int) : Int) = (bLy l)) ∧ True) ∧ ((((0 : Int) : Int) = (bHx l)) ∧ (((0 : Int) : Int) = (bHy l)) ∧ True) ∧ True)) ∧ ((bite (bnot (inB (ilen l) (1 : Int) (400 : Int))) true (bnot (allB l))) = false → ((true = true) ∧ ((true = true) ∧ (True) ∧ ((true = true) ∧ (NLe 0 (0 : Int) ∧ NLt (0 : Int) (ilen l)) ∧ ((true = true) ∧ (True) ∧ ((true = true) ∧ (True) ∧ ((true = true) ∧ (NLe 0 (0 : Int) ∧ NLt (0 : Int) (ilen l)) ∧ ((true = true) ∧ (True) ∧ ((((true = true) ∧ ((((true = true) ∧ ((((true = true) ∧ (True) ∧ ((((true = true) ∧ (True) ∧ (((true = true) ∧ ((True) ∧ (True) ∧ (True) ∧ True) ∧ ∃ (I2 : List GV → Prop) (μ2 : List GV → Nat), (((true = true) ∧ ((((0 : Int) : Int) = (0 : Int)) ∧ ((Cont.pts l) = (Cont.pts l)) ∧ (((ilen l) : Int) = (ilen l)) ∧ (true = true) ∧ (true = true) ∧ ((((getx l (0 : Int)) : Int) = (getx l (0 : Int))) ∧ (((gety l (0 : Int)) : Int) = (gety l (0 : Int))) ∧ True) ∧ ((Cont.pts l) = (Cont.pts l)) ∧ ((((getx l (0 : Int)) : Int) = (getx l (0 : Int))) ∧ (((gety l (0 : Int)) : Int) = (gety l (0 : Int))) ∧ True) ∧ ((Cont.pts l) = (Cont.pts l)) ∧ ((Cont.pts l) = (Cont.pts l)) ∧ (((ilen l) : Int) = (ilen l)) ∧ (((inB (ilen l) (1 : Int) (400 : Int)) : Bool) = (inB (ilen l) (1 : Int) (400 : Int))) ∧ (((bnot (inB (ilen l) (1 : Int) (400 : Int))) : Bool) = (bnot (inB (ilen l) (1 : Int) (400 : Int)))) ∧ (((bnot (inB (ilen l) (1 : Int) (400 : Int))) : Bool) = (bnot (inB (ilen l) (1 : Int) (400 : Int)))) ∧ (((bite (bnot (inB (ilen l) (1 : Int) (400 : Int))) true (bnot (allB l))) : Bool) = (bite (bnot (inB (ilen l) (1 : Int) (400 : Int))) true (bnot (allB l)))) ∧ (true = true) ∧ (true = true) ∧ ((Cont.pts l) = (Cont.pts l)) ∧ True) ∧ (((((getx l (0 : Int)) : Int) = (getx l (0 : Int))) ∧ (((gety l (0 : Int)) : Int) = (gety l (0 : Int))) ∧ True) ∧ ((((getx l (0 : Int)) : Int) = (getx l (0 : Int))) ∧ (((gety l (0 : Int)) : Int) = (gety l (0 : Int))) ∧ True) ∧ ((((0 : Int) : Int) = (0 : Int)) ∧ (((0 : Int) : Int) = (0 : Int)) ∧ True) ∧ ((((0 : Int) : Int) = (0 : Int)) ∧ (((0 : Int) : Int) = (0 : Int)) ∧ True) ∧ True)) ∧ (([GK.int, GK.int, GK.int, GK.int, GK.int] : List GK) = ([GK.int, GK.int, GK.int, GK.int, GK.int] : List GK)) ∧ I2 [GV.int (0 : Int), GV.int (getx l (0 : Int)), GV.int (gety l (0 : Int)), GV.int (getx l (0 : Int)), GV.int (gety l (0 : Int))]) ∧ (∀ i2_0 : Int, ∀ i2_1 : Int, ∀ i2_2 : Int, ∀ i2_3 : Int, ∀ i2_4 : Int, I2 [GV.int i2_0, GV.int i2_1, GV.int i2_2, GV.int i2_3, GV.int i2_4] → ((true = true) ∧ ((True) ∧ True) ∧ ((ilt i2_0 (ilen l)) = true → ((true = true) ∧ ((NLe 0 i2_0 ∧ NLt i2_0 (ilen l)) ∧ (True) ∧ (True) ∧ True) ∧ (True) ∧ (true = true) ∧ ((True) ∧ (True) ∧ (True) ∧ (True) ∧ (True) ∧ (True) ∧ (True) ∧ (True) ∧ (True) ∧ (True) ∧ (True) ∧ True) ∧ (True) ∧ (true = true) ∧ ((True) ∧ (True) ∧ (True) ∧ (True) ∧ (True) ∧ (True) ∧ (True) ∧ (True) ∧ (True) ∧ (True) ∧ (True) ∧ True) ∧ (True) ∧ (true = true) ∧ ((True) ∧ (True) ∧ True) ∧ ((true = true) ∧ ((((iadd i2_0 (1 : Int)) : Int) = (iadd i2_0 (1 : Int))) ∧ ((Cont.pts l) = (Cont.pts l)) ∧ (((ilen l) : Int) = (ilen l)) ∧ (true = true) ∧ (true = true) ∧ ((((getx l (0 : Int)) : Int) = (getx l (0 : Int))) ∧ (((gety l (0 : Int)) : Int) = (gety l (0 : Int))) ∧ True) ∧ ((Cont.pts l) = (Cont.pts l)) ∧ ((((getx l (0 : Int)) : Int) = (getx l (0 : Int))) ∧ (((gety l (0 : Int)) : Int) = (gety l (0 : Int))) ∧ True) ∧ ((Cont.pts l) = (Cont.pts l)) ∧ ((Cont.pts l) = (Cont.pts l)) ∧ (((ilen l) : Int) = (ilen l)) ∧ (((inB (ilen l) (1 : Int) (400 : Int)) : Bool) = (inB (ilen l) (1 : Int) (400 : Int))) ∧ (((bnot (inB (ilen l) (1 : Int) (400 : Int))) : Bool) = (bnot (inB (ilen l) (1 : Int) (400 : Int)))) ∧ (((bnot (inB (ilen l) (1 : Int) (400 : Int))) : Bool) = (bnot (inB (ilen l) (1 : Int) (400 : Int)))) ∧ (((bite (bnot (inB (ilen l) (1 : Int) (400 : Int))) true (bnot (allB l))) : Bool) = (bite (bnot (inB (ilen l) (1 : Int) (400 : Int))) true (bnot (allB l)))) ∧ (true = true) ∧ (true = true) ∧ ((Cont.pts l) = (Cont.pts l)) ∧ True) ∧ (((((imax i2_3 (getx l i2_0)) : Int) = (imax i2_3 (getx l i2_0))) ∧ (((imax i2_4 (gety l i2_0)) : Int) = (imax i2_4 (gety l i2_0))) ∧ True) ∧ ((((imin i2_1 (getx l i2_0)) : Int) = (imin i2_1 (getx l i2_0))) ∧ (((imin i2_2 (gety l i2_0)) : Int) = (imin i2_2 (gety l i2_0))) ∧ True) ∧ ((((0 : Int) : Int) = (0 : Int)) ∧ (((0 : Int) : Int) = (0 : Int)) ∧ True) ∧ ((((0 : Int) : Int) = (0 : Int)) ∧ (((0 : Int) : Int) = (0 : Int)) ∧ True) ∧ True)) ∧ ((([GK.int, GK.int, GK.int, GK.int, GK.int] : List GK) = ([GK.int, GK.int, GK.int, GK.int, GK.int] : List GK)) ∧ I2 [GV.int (iadd i2_0 (1 : Int)), GV.int (imin i2_1 (getx l i2_0)), GV.int (imin i2_2 (gety l i2_0)), GV.int (imax i2_3 (getx l i2_0)), GV.int (imax i2_4 (gety l i2_0))] ∧ μ2 [GV.int (iadd i2_0 (1 : Int)), GV.int (imin i2_1 (getx l i2_0)), GV.int (imin i2_2 (gety l i2_0)), GV.int (imax i2_3 (getx l i2_0)), GV.int (imax i2_4 (gety l i2_0))] < μ2 [GV.int i2_0, GV.int i2_1, GV.int i2_2, GV.int i2_3, GV.int i2_4]))) ∧ ((ilt i2_0 (ilen l)) = false → ((true = true) ∧ (((true = true) ∧ ((True) ∧ (((true = true) ∧ ((True) ∧ (((true = true) ∧ ((True) ∧ (((true = true) ∧ ((True) ∧ ((((i2_1 : Int) = (bLx l)) ∧ ((i2_2 : Int) = (bLy l)) ∧ True) ∧ (((i2_3 : Int) = (bHx l)) ∧ ((i2_4 : Int) = (bHy l)) ∧ True) ∧ True))) ∧ True))) ∧ True))) ∧ ((true = true) ∧ ((True) ∧ (((true = true) ∧ ((True) ∧ (((true = true) ∧ ((True) ∧ ((((i2_1 : Int) = (bLx l)) ∧ ((i2_2 : Int) = (bLy l)) ∧ True) ∧ (((i2_3 : Int) = (bHx l)) ∧ ((i2_4 : Int) = (bHy l)) ∧ True) ∧ True))) ∧ True))) ∧ True))) ∧ True))) ∧ ((true = true) ∧ ((True) ∧ (((true = true) ∧ ((True) ∧ (((true = true) ∧ ((True) ∧ (((true = true) ∧ ((True) ∧ ((((i2_1 : Int) = (bLx l)) ∧ ((i2_2 : Int) = (bLy l)) ∧ True) ∧ (((i2_3 : Int) = (bHx l)) ∧ ((i2_4 : Int) = (bHy l)) ∧ True) ∧ True))) ∧ True))) ∧ True))) ∧ True))) ∧ True)))))))) ∧ True))) ∧ True))) ∧ True))) ∧ ((true = true) ∧ ((((true = true) ∧ ((((true = true) ∧ (True) ∧ ((((true = true) ∧ (True) ∧ (((true = true) ∧ ((True) ∧ (True) ∧ (True) ∧ True) ∧ ∃ (I1 : List GV → Prop) (μ1 : List GV → Nat), (((true = true) ∧ ((((0 : Int) : Int) = (0 : Int)) ∧ ((Cont.pts l) = (Cont.pts l)) ∧ (((ilen l) : Int) = (ilen l)) ∧ (true = true) ∧ (true = true) ∧ ((((getx l (0 : Int)) : Int) = (getx l (0 : Int))) ∧ (((gety l (0 : Int)) : Int) = (gety l (0 : Int))) ∧ True) ∧ ((Cont.pts l) = (Cont.pts l)) ∧ ((((getx l (0 : Int)) : Int) = (getx l (0 : Int))) ∧ (((gety l (0 : Int)) : Int) = (gety l (0 : Int))) ∧ True) ∧ ((Cont.pts l) = (Cont.pts l)) ∧ ((Cont.pts l) = (Cont.pts l)) ∧ (((ilen l) : Int) = (ilen l)) ∧ (((inB (ilen l) (1 : Int) (400 : Int)) : Bool) = (inB (ilen l) (1 : Int) (400 : Int))) ∧ (((bnot (inB (ilen l) (1 : Int) (400 : Int))) : Bool) = (bnot (inB (ilen l) (1 : Int) (400 : Int)))) ∧ (((bnot (inB (ilen l) (1 : Int) (400 : Int))) : Bool) = (bnot (inB (ilen l) (1 : Int) (400 : Int)))) ∧ (((bite (bnot (inB (ilen l) (1 : Int) (400 : Int))) true (bnot (allB l))) : Bool) = (bite (bnot (inB (ilen l) (1 : Int) (400 : Int))) true (bnot (allB l)))) ∧ (true = true) ∧ (true = true) ∧ ((Cont.pts l) = (Cont.pts l)) ∧ True) ∧ (((((getx l (0 : Int)) : Int) = (getx l (0 : Int))) ∧ (((gety l (0 : Int)) : Int) = (gety l (0 : Int))) ∧ True) ∧ ((((getx l (0 : Int)) : Int) = (getx l (0 : Int))) ∧ (((gety l (0 : Int)) : Int) = (gety l (0 : Int))) ∧ True) ∧ ((((0 : Int) : Int) = (0 : Int)) ∧ (((0 : Int) : Int) = (0 : Int)) ∧ True) ∧ ((((0 : Int) : Int) = (0 : Int)) ∧ (((0 : Int) : Int) = (0 : Int)) ∧ True) ∧ True)) ∧ (([GK.int, GK.int, GK.int, GK.int, GK.int] : List GK) = ([GK.int, GK.int, GK.int, GK.int, GK.int] : List GK)) ∧ I1 [GV.int (0 : Int), GV.int (getx l (0 : Int)), GV.int (gety l (0 : Int)), GV.int (getx l (0 : Int)), GV.int (gety l (0 : Int))]) ∧ (∀ i1_0 : Int, ∀ i1_1 : Int, ∀ i1_2 : Int, ∀ i1_3 : Int, ∀ i1_4 : Int, I1 [GV.int i1_0, GV.int i1_1, GV.int i1_2, GV.int i1_3, GV.int i1_4] → ((true = true) ∧ ((True) ∧ True) ∧ ((ilt i1_0 (ilen l)) = true → ((true = true) ∧ ((NLe 0 i1_0 ∧ NLt i1_0 (ilen l)) ∧ (True) ∧ (True) ∧ True) ∧ (True) ∧ (true = true) ∧ ((True) ∧ (True) ∧ (True) ∧ (True) ∧ (True) ∧ (True) ∧ (True) ∧ (True) ∧ (True) ∧ (True) ∧ (True) ∧ True) ∧ (True) ∧ (true = true) ∧ ((True) ∧ (True) ∧ (True) ∧ (True) ∧ (True) ∧ (True) ∧ (True) ∧ (True) ∧ (True) ∧ (True) ∧ (True) ∧ True) ∧ (True) ∧ (true = true) ∧ ((True) ∧ (True) ∧ True) ∧ ((true = true) ∧ ((((iadd i1_0 (1 : Int)) : Int) = (iadd i1_0 (1 : Int))) ∧ ((Cont.pts l) = (Cont.pts l)) ∧ (((ilen l) : Int) = (ilen l)) ∧ (true = true) ∧ (true = true) ∧ ((((getx l (0 : Int)) : Int) = (getx l (0 : Int))) ∧ (((gety l (0 : Int)) : Int) = (gety l (0 : Int))) ∧ True) ∧ ((Cont.pts l) = (Cont.pts l)) ∧ ((((getx l (0 : Int)) : Int) = (getx l (0 : Int))) ∧ (((gety l (0 : Int)) : Int) = (gety l (0 : Int))) ∧ True) ∧ ((Cont.pts l) = (Cont.pts l)) ∧ ((Cont.pts l) = (Cont.pts l)) ∧ (((ilen l) : Int) = (ilen l)) ∧ (((inB (ilen l) (1 : Int) (400 : Int)) : Bool) = (inB (ilen l) (1 : Int) (400 : Int))) ∧ (((bnot (inB (ilen l) (1 : Int) (400 : Int))) : Bool) = (bnot (inB (ilen l) (1 : Int) (400 : Int)))) ∧ (((bnot (inB (ilen l) (1 : Int) (400 : Int))) : Bool) = (bnot (inB (ilen l) (1 : Int) (400 : Int)))) ∧ (((bite (bnot (inB (ilen l) (1 : Int) (400 : Int))) true (bnot (allB l))) : Bool) = (bite (bnot (inB (ilen l) (1 : Int) (400 : Int))) true (bnot (allB l)))) ∧ (true = true) ∧ (true = true) ∧ ((Cont.pts l) = (Cont.pts l)) ∧ True) ∧ (((((imax i1_3 (getx l i1_0)) : Int) = (imax i1_3 (getx l i1_0))) ∧ (((imax i1_4 (gety l i1_0)) : Int) = (imax i1_4 (gety l i1_0))) ∧ True) ∧ ((((imin i1_1 (getx l i1_0)) : Int) = (imin i1_1 (getx l i1_0))) ∧ (((imin i1_2 (gety l i1_0)) : Int) = (imin i1_2 (gety l i1_0))) ∧ True) ∧ ((((0 : Int) : Int) = (0 : Int)) ∧ (((0 : Int) : Int) = (0 : Int)) ∧ True) ∧ ((((0 : Int) : Int) = (0 : Int)) ∧ (((0 : Int) : Int) = (0 : Int)) ∧ True) ∧ True)) ∧ ((([GK.int, GK.int, GK.int, GK.int, GK.int] : List GK) = ([GK.int, GK.int, GK.int, GK.int, GK.int] : List GK)) ∧ I1 [GV.int (iadd i1_0 (1 : Int)), GV.int (imin i1_1 (getx l i1_0)), GV.int (imin i1_2 (gety l i1_0)), GV.int (imax i1_3 (getx l i1_0)), GV.int (imax i1_4 (gety l i1_0))] ∧ μ1 [GV.int (iadd i1_0 (1 : Int)), GV.int (imin i1_1 (getx l i1_0)), GV.int (imin i1_2 (gety l i1_0)), GV.int (imax i1_3 (getx l i1_0)), GV.int (imax i1_4 (gety l i1_0))] < μ1 [GV.int i1_0, GV.int i1_1, GV.int i1_2, GV.int i1_3, GV.int i1_4]))) ∧ ((ilt i1_0 (ilen l)) = false → ((true = true) ∧ (((true = true) ∧ ((True) ∧ (((true = true) ∧ ((True) ∧ (((true = true) ∧ ((True) ∧ (((true = true) ∧ ((True) ∧ ((((i1_1 : Int) = (bLx l)) ∧ ((i1_2 : Int) = (bLy l)) ∧ True) ∧ (((i1_3 : Int) = (bHx l)) ∧ ((i1_4 : Int) = (bHy l)) ∧ True) ∧ True))) ∧ True))) ∧ True))) ∧ ((true = true) ∧ ((True) ∧ (((true = true) ∧ ((True) ∧ (((true = true) ∧ ((True) ∧ ((((i1_1 : Int) = (bLx l)) ∧ ((i1_2 : Int) = (bLy l)) ∧ True) ∧ (((i1_3 : Int) = (bHx l)) ∧ ((i1_4 : Int) = (bHy l)) ∧ True) ∧ True))) ∧ True))) ∧ True))) ∧ True))) ∧ ((true = true) ∧ ((True) ∧ (((true = true) ∧ ((True) ∧ (((true = true) ∧ ((True) ∧ (((true = true) ∧ ((True) ∧ ((((i1_1 : Int) = (bLx l)) ∧ ((i1_2 : Int) = (bLy l)) ∧ True) ∧ (((i1_3 : Int) = (bHx l)) ∧ ((i1_4 : Int) = (bHy l)) ∧ True) ∧ True))) ∧ True))) ∧ True))) ∧ True))) ∧ True)))))))) ∧ True))) ∧ True))) ∧ True))) ∧ True))))))))))) = ev sig_impl_BoxOf xs_impl_BoxOf Try.f19.ntmps (fun b => if b == 0 then [.v 27, .b 4, .b 5] else []) (codeOf Try.f19) 0 (initS [.s (.view (.pts l))]) (retK Try.f19.results.toList [.agg [.int (bLx l), .int (bLy l)], .agg [.int (bHx l), .int (bHy l)]]) := by kernel_rfl
set_option maxHeartbeats 400000 in
theorem F_impl_BoxOf : FunOK 19 g_impl_BoxOf := by
  refine fun_F (by kernel_rfl) Try.func19 rfl (by kernel_rfl) sig_impl_BoxOf_ok xs_impl_BoxOf_ok ?_
  intro avs sg h hn hl
  unfold g_impl_BoxOf at h
  split at h
  · rename_i l
    injection h with h; subst h
    refine ⟨by kernel_rfl, fun b => if b == 0 then [.v 27, .b 4, .b 5] else [], Eq.mp (V_impl_BoxOf l) ?_⟩
    simp only [true_and, and_true, implies_true, and_self, forall_const, true_implies, lenA, lenL, SV.lenOK, Cont.lenOK] at hn hl ⊢
    simp only [ilt_t, ilt_f, ile_t, ile_f, ieq_t, ieq_f, bnot_e, band_e, bite_and, bite_or, NLt_e, NLe_e, NNe_e, NIs_e, imax_e, imin_e, irem_e, Bool.not_eq_true', Bool.not_eq_false', Bool.and_eq_true, Bool.or_eq_true, Bool.or_eq_false_iff, Bool.and_eq_false_iff, Cont.pts.injEq, Cont.ints.injEq, Cont.bools.injEq, Cont.ptss.injEq, Cont.intss.injEq, Cont.boolss.injEq, true_and, and_true, implies_true]
    refine ⟨fun h => ?_, fun h => ?_⟩
    · have hb : bVal l = false := by unfold bVal; rcases h with h | h <;> simp [h]
      obtain ⟨h1, h2, h3, h4⟩ := boxV_no hb
      simp [h1, h2, h3, h4]
    · have hb : bVal l = true := by unfold bVal; rw [h.1, h.2]; rfl
      have hlen := (inB_true h.1).1
      refine ⟨⟨by omega, by omega⟩, ⟨by omega, by omega⟩, ?_⟩
      refine ⟨fun | [.int k, .int a, .int b, .int c, .int d] => 0 ≤ k ∧ k ≤ ilen l ∧ a = foldN k (fun a j => min a (getx l j)) (getx l 0) ∧ b = foldN k (fun a j => min a (gety l j)) (gety l 0) ∧ c = foldN k (fun a j => max a (getx l j)) (getx l 0) ∧ d = foldN k (fun a j => max a (gety l j)) (gety l 0) | _ => False, fun | [.int k, .int a, .int b, .int c, .int d] => (ilen l - k).toNat | _ => 0, ?_, ?_⟩
      · exact ⟨Int.le_refl 0, by omega, rfl, rfl, rfl, rfl⟩
      · rintro k a b c d ⟨hk0, hk1, rfl, rfl, rfl, rfl⟩
        refine ⟨fun hc => ?_, fun hc => ?_⟩
        · rw [iadd_e (by omega) (by omega)]
          refine ⟨⟨hk0, hc⟩, ⟨by omega, by omega, ?_⟩, by show (ilen l - (k + 1)).toNat < (ilen l - k).toNat; omega⟩
          simp only [foldN_1 hk0, and_self]
        · obtain rfl : k = ilen l := by omega
          simp [bLx, bLy, bHx, bHy, hb]
  · cases h
def g_laws_abs : List AV → Option Sg
  | [.s (.int n)] => some ⟨True, [.s (.int (max n (ineg n)))]⟩
  | _ => none
def sig_laws_abs : FuncId → List AV → Option Sg := sigL []
def xs_laws_abs : XS := ⟨xsigL [], ysigL []⟩
theorem sig_laws_abs_ok : SigOK sig_laws_abs := sigL_nil
theorem xs_laws_abs_ok : XSigOK xs_laws_abs := ⟨xsigL_nil, ysigL_nil⟩
theorem V_laws_abs (n : Int) : ((true = true) ∧ ((True) ∧ True) ∧ (true = true) ∧ ((True) ∧ (True) ∧ (True) ∧ (True) ∧ (True) ∧ True) ∧ (((imax n (ineg n)) : Int) = (max n (ineg n))) ∧ True) = ev sig_laws_abs xs_laws_abs Try.f35.ntmps (fun b => []) (codeOf Try.f35) 0 (initS [.s (.int n)]) (retK Try.f35.results.toList [.s (.int (max n (ineg n)))]) := by kernel_rfl
set_option maxHeartbeats 400000 in
theorem F_laws_abs : FunOK 35 g_laws_abs := by
  refine fun_F (by kernel_rfl) Try.func35 rfl (by kernel_rfl) sig_laws_abs_ok xs_laws_abs_ok ?_
  intro avs sg h hn hl
  unfold g_laws_abs at h
  split at h
  · rename_i n
    injection h with h; subst h
    refine ⟨by kernel_rfl, fun b => [], Eq.mp (V_laws_abs n) ?_⟩
    simp only [true_and, and_true, implies_true, and_self, forall_const, true_implies, lenA, lenL, SV.lenOK, Cont.lenOK] at hn hl ⊢
    simp only [ilt_t, ilt_f, ile_t, ile_f, ieq_t, ieq_f, bnot_e, band_e, bite_and, bite_or, NLt_e, NLe_e, NNe_e, NIs_e, imax_e, imin_e, irem_e, Bool.not_eq_true', Bool.not_eq_false', Bool.and_eq_true, Bool.or_eq_true, Bool.or_eq_false_iff, Bool.and_eq_false_iff, Cont.pts.injEq, Cont.ints.injEq, Cont.bools.injEq, Cont.ptss.injEq, Cont.intss.injEq, Cont.boolss.injEq, true_and, and_true, implies_true]
  · cases h
theorem bxor_self (a : Bool) : bxor a a = false := by cases a <;> simp [bxor]
theorem foldmin {f : Int → Int} : ∀ (n : Nat), (∀ j, 0 ≤ j → j < (n : Int) → foldN n (fun a j => min a (f j)) (f 0) ≤ f j)
  | 0 => fun j h0 h1 => by omega
  | n + 1 => fun j h0 h1 => by
    have e : foldN ((n + 1 : Nat) : Int) (fun a j => min a (f j)) (f 0) = min (foldN n (fun a j => min a (f j)) (f 0)) (f n) := foldN_1 (n := (n : Int)) (f := fun a j => min a (f j)) (a := f 0) (by omega)
    rw [e]
    rcases Int.lt_or_le j n with h | h
    · have := foldmin (f := f) n j h0 h; omega
    · rw [show j = n by omega]; omega
theorem foldmax {f : Int → Int} : ∀ (n : Nat), (∀ j, 0 ≤ j → j < (n : Int) → f j ≤ foldN n (fun a j => max a (f j)) (f 0))
  | 0 => fun j h0 h1 => by omega
  | n + 1 => fun j h0 h1 => by
    have e : foldN ((n + 1 : Nat) : Int) (fun a j => max a (f j)) (f 0) = max (foldN n (fun a j => max a (f j)) (f 0)) (f n) := foldN_1 (n := (n : Int)) (f := fun a j => max a (f j)) (a := f 0) (by omega)
    rw [e]
    rcases Int.lt_or_le j n with h | h
    · have := foldmax (f := f) n j h0 h; omega
    · rw [show j = n by omega]; omega
theorem box_in {l : List Pt} (h : bVal l = true) {j : Int} (h0 : 0 ≤ j) (h1 : j < ilen l) : (bLx l ≤ getx l j ∧ getx l j ≤ bHx l) ∧ (bLy l ≤ gety l j ∧ gety l j ≤ bHy l) := by
  unfold bLx bLy bHx bHy
  rw [if_pos h, if_pos h, if_pos h, if_pos h]
  have hn := ilen_0 l
  obtain ⟨n, hl⟩ := Int.eq_ofNat_of_zero_le hn
  rw [hl] at h1 ⊢
  exact ⟨⟨foldmin n j h0 h1, foldmax n j h0 h1⟩, foldmin n j h0 h1, foldmax n j h0 h1⟩
def revK (l : List Pt) (k : Int) : List Pt := (l.drop k.toNat).reverse
theorem revK_s {l : List Pt} {k : Int} (h0 : 0 ≤ k) (h1 : k < ilen l) : iapp (revK l (k + 1)) [(getx l k, gety l k)] = revK l k := by
  obtain ⟨h, e1, e2⟩ := get_at h0 h1
  unfold iapp revK
  rw [show (k + 1).toNat = k.toNat + 1 by omega, List.drop_eq_getElem_cons h, List.reverse_cons, e1, e2]
theorem revK_len {l : List Pt} {k : Int} (h0 : 0 ≤ k) (h1 : k ≤ ilen l) : ilen (revK l k) = ilen l - k := by
  unfold ilen revK at *
  simp; omega
theorem revK_get {l : List Pt} {j : Int} (h0 : 0 ≤ j) (h1 : j < ilen l) : getx (revK l 0) j = getx l (ilen l - 1 - j) ∧ gety (revK l 0) j = gety l (ilen l - 1 - j) := by
  unfold ilen at h1
  have hl : j.toNat < l.reverse.length := by simp; omega
  have e : (ilen l - 1 - j).toNat = l.length - 1 - j.toNat := by unfold ilen; omega
  unfold getx gety revK
  rw [e]
  simp only [List.getD_eq_getElem?_getD, Int.toNat_zero, List.drop_zero]
  rw [List.getElem?_reverse (by omega)]
  exact ⟨rfl, rfl⟩
theorem rev_crv {l : List Pt} (h : crvB l = true) : crvB (revK l 0) = true := by
  unfold crvB at *
  simp only [Bool.and_eq_true] at *
  rw [revK_len (by omega) (ilen_0 l), Int.sub_zero]
  refine ⟨h.1, ?_⟩
  have h2 := h.2
  unfold allB revK at *
  simpa using h2
theorem cp_rev {l : List Pt} {t : Int} (h : cpB l t = true) : cpx (revK l 0) (64 - t) = cpx l t ∧ cpy (revK l 0) (64 - t) = cpy l t := by
  have h' := h
  unfold cpB at h'
  simp only [Bool.and_eq_true] at h'
  obtain ⟨⟨n1, n4⟩, -, -⟩ := crv_parts h'.1
  have ht := inB_true h'.2
  have hr : cpB (revK l 0) (64 - t) = true := by
    unfold cpB
    rw [rev_crv h'.1]; unfold inB; simp; omega
  have hl : ilen (revK l 0) = ilen l := by rw [revK_len (by omega) (by omega), Int.sub_zero]
  unfold cpx cpy
  rw [if_pos h, if_pos hr, if_pos h, if_pos hr, hl]
  exact ⟨cvN_rev n1 fun j j0 j1 => (revK_get j0 j1).1, cvN_rev n1 fun j j0 j1 => (revK_get j0 j1).2⟩
theorem cp_ends {l : List Pt} (h : crvB l = true) : (cpx l 0 = getx l 0 ∧ cpy l 0 = gety l 0) ∧ (cpx l 64 = getx l (ilen l - 1) ∧ cpy l 64 = gety l (ilen l - 1)) := by
  obtain ⟨⟨n1, n4⟩, -, -⟩ := crv_parts h
  have h0 : cpB l 0 = true := by unfold cpB; rw [h]; rfl
  have h1 : cpB l 64 = true := by unfold cpB; rw [h]; rfl
  unfold cpx cpy
  rw [if_pos h0, if_pos h1, if_pos h0, if_pos h1]
  exact ⟨⟨cvN_0 _, cvN_0 _⟩, cvN_64 n1 _, cvN_64 n1 _⟩
theorem cp_in {l : List Pt} {t : Int} (h : cpB l t = true) : (bLx l ≤ cpx l t ∧ cpx l t ≤ bHx l) ∧ (bLy l ≤ cpy l t ∧ cpy l t ≤ bHy l) := by
  have h' := h
  unfold cpB at h'
  simp only [Bool.and_eq_true] at h'
  obtain ⟨⟨n1, n4⟩, -, -⟩ := crv_parts h'.1
  have ht := inB_true h'.2
  have hb : bVal l = true := by
    have hc := h'.1
    unfold crvB at hc
    simp only [Bool.and_eq_true] at hc
    unfold bVal
    rw [hc.2]; unfold inB; simp; omega
  have ex : cpx l t = cvN (ilen l) t (getx l) := by unfold cpx; rw [if_pos h]
  have ey : cpy l t = cvN (ilen l) t (gety l) := by unfold cpy; rw [if_pos h]
  rw [ex, ey]
  exact ⟨cvN_in n1 ht.1 ht.2 fun j j0 j1 => (box_in hb j0 j1).1, cvN_in n1 ht.1 ht.2 fun j j0 j1 => (box_in hb j0 j1).2⟩
theorem cp_no {l : List Pt} {t : Int} (h : crvB l = false ∨ t < 0 ∨ 64 < t) : cpx l t = 0 ∧ cpy l t = 0 := by
  have : cpB l t = false := by
    unfold cpB
    rcases h with h | h
    · simp [h]
    · have : inB t 0 64 = false := by unfold inB; simp; omega
      simp [this]
  unfold cpx cpy; simp [this]
def g_laws_FnCurvePoint : List AV → Option Sg
  | [.s (.rdr n)] => some ⟨True, [.s (.bool (true))]⟩
  | _ => none
def sig_laws_FnCurvePoint : FuncId → List AV → Option Sg := sigL [(29, g_impl_CurvePoint), (28, g_spec_CurvePoint), (27, nilG (.pts []) g_spec_CurveValid), (23, g_laws_alive), (19, g_impl_BoxOf), (35, g_laws_abs)]
def xs_laws_FnCurvePoint : XS := ⟨xsigL [], ysigL [(34, g_spec_DrawCurvePoint)]⟩
theorem sig_laws_FnCurvePoint_ok : SigOK sig_laws_FnCurvePoint := sigL_cons F_impl_CurvePoint (sigL_cons F_spec_CurvePoint (sigL_cons (FunOK.nil (c := .pts []) rfl F_spec_CurveValid) (sigL_cons F_laws_alive (sigL_cons F_impl_BoxOf (sigL_cons F_laws_abs sigL_nil)))))
theorem xs_laws_FnCurvePoint_ok : XSigOK xs_laws_FnCurvePoint := ⟨xsigL_nil, ysigL_cons F_spec_DrawCurvePoint ysigL_nil⟩
theorem V_laws_FnCurvePoint (n : Int) : ((true = true) ∧ ((True) ∧ True) ∧ (true = true) ∧ ((True) ∧ (True) ∧ (True) ∧ True) ∧ ((ilt (1048576 : Int) n) = true → ((true = true) ∧ ((True) ∧ True) ∧ ((true : Bool) = (true)) ∧ True)) ∧ ((ilt (1048576 : Int) n) = false → ((true = true) ∧ ((True) ∧ True) ∧ (true = true) ∧ ((n ≤ 1048576)) ∧ (∀ l_25 : List Pt, ∀ t_26 : Int, ((ilen l_25 ≤ 5 ∧ -1 ≤ t_26 ∧ t_26 ≤ 65) → ((true = true) ∧ ((true = true) ∧ ((true = true) ∧ ((True) ∧ (True) ∧ (true = true) ∧ ((True) ∧ (True) ∧ ((True)) ∧ (True) ∧ True) ∧ (True) ∧ (true = true) ∧ ((True) ∧ (True) ∧ (True) ∧ ((True)) ∧ (True) ∧ True) ∧ ((bnot (band (ieq (cpx (l_25) (t_26)) (cpx (l_25) (t_26))) (ieq (cpy (l_25) (t_26)) (cpy (l_25) (t_26))))) = true → ((true = true) ∧ ((True) ∧ True) ∧ ((false : Bool) = (true)) ∧ True)) ∧ ((bnot (band (ieq (cpx (l_25) (t_26)) (cpx (l_25) (t_26))) (ieq (cpy (l_25) (t_26)) (cpy (l_25) (t_26))))) = false → ((true = true) ∧ ((True) ∧ ((True)) ∧ (True) ∧ (True) ∧ (NIs (bnot (crvB (l_25))) false → True) ∧ (NIs (bnot (crvB (l_25))) false → True) ∧ (True) ∧ (True) ∧ (NIs (bite (bnot (crvB (l_25))) true (ilt (t_26) (0 : Int))) false → True) ∧ (NIs (bite (bnot (crvB (l_25))) true (ilt (t_26) (0 : Int))) false → True) ∧ (True) ∧ True) ∧ ((bite (bite (bnot (crvB (l_25))) true (ilt (t_26) (0 : Int))) true (ilt (64 : Int) (t_26))) = true → ((true = true) ∧ ((True) ∧ (True) ∧ (True) ∧ (True) ∧ (NIs (band (ieq (cpx (l_25) (t_26)) (0 : Int)) (ieq (cpy (l_25) (t_26)) (0 : Int))) true → (True)) ∧ (True) ∧ (True) ∧ True) ∧ (((bite (band (ieq (cpx (l_25) (t_26)) (0 : Int)) (ieq (cpy (l_25) (t_26)) (0 : Int))) (true) false) : Bool) = (true)) ∧ True)) ∧ ((bite (bite (bnot (crvB (l_25))) true (ilt (t_26) (0 : Int))) true (ilt (64 : Int) (t_26))) = false → ((true = true) ∧ ((True) ∧ ((True)) ∧ (True) ∧ (True) ∧ (True) ∧ (True) ∧ (True) ∧ True) ∧ (True) ∧ (True) ∧ (true = true) ∧ ((True) ∧ (True) ∧ True) ∧ (true = true) ∧ ((True) ∧ (True) ∧ (True) ∧ (True) ∧ True) ∧ ∃ (I1 : List GV → Prop) (μ1 : List GV → Nat), (((true = true) ∧ ((((isub (ilen (l_25)) (1 : Int)) : Int) = (isub (ilen (l_25)) (1 : Int))) ∧ ((Cont.pts (l_25)) = (Cont.pts (l_25))) ∧ (((ilen (l_25)) : Int) = (ilen (l_25))) ∧ (((isub (ilen (l_25)) (1 : Int)) : Int) = (isub (ilen (l_25)) (1 : Int))) ∧ (true = true) ∧ ((Cont.pts (l_25)) = (Cont.pts (l_25))) ∧ ((((bLx (l_25)) : Int) = (bLx (l_25))) ∧ (((bLy (l_25)) : Int) = (bLy (l_25))) ∧ True) ∧ ((((bHx (l_25)) : Int) = (bHx (l_25))) ∧ (((bHy (l_25)) : Int) = (bHy (l_25))) ∧ True) ∧ (true = true) ∧ (true = true) ∧ ((Cont.pts (l_25)) = (Cont.pts (l_25))) ∧ (((crvB (l_25)) : Bool) = (crvB (l_25))) ∧ (((bnot (crvB (l_25))) : Bool) = (bnot (crvB (l_25)))) ∧ (((bnot (crvB (l_25))) : Bool) = (bnot (crvB (l_25)))) ∧ (((bite (bnot (crvB (l_25))) true (ilt (t_26) (0 : Int))) : Bool) = (bite (bnot (crvB (l_25))) true (ilt (t_26) (0 : Int)))) ∧ (((bite (bnot (crvB (l_25))) true (ilt (t_26) (0 : Int))) : Bool) = (bite (bnot (crvB (l_25))) true (ilt (t_26) (0 : Int)))) ∧ (((bite (bite (bnot (crvB (l_25))) true (ilt (t_26) (0 : Int))) true (ilt (64 : Int) (t_26))) : Bool) = (bite (bite (bnot (crvB (l_25))) true (ilt (t_26) (0 : Int))) true (ilt (64 : Int) (t_26)))) ∧ ((((cpx (l_25) (t_26)) : Int) = (cpx (l_25) (t_26))) ∧ (((cpy (l_25) (t_26)) : Int) = (cpy (l_25) (t_26))) ∧ True) ∧ ((Cont.pts (l_25)) = (Cont.pts (l_25))) ∧ (((t_26) : Int) = (t_26)) ∧ ((((cpx (l_25) (t_26)) : Int) = (cpx (l_25) (t_26))) ∧ (((cpy (l_25) (t_26)) : Int) = (cpy (l_25) (t_26))) ∧ True) ∧ (((bnot (band (ieq (cpx (l_25) (t_26)) (cpx (l_25) (t_26))) (ieq (cpy (l_25) (t_26)) (cpy (l_25) (t_26))))) : Bool) = (bnot (band (ieq (cpx (l_25) (t_26)) (cpx (l_25) (t_26))) (ieq (cpy (l_25) (t_26)) (cpy (l_25) (t_26)))))) ∧ ((Cont.pts (l_25)) = (Cont.pts (l_25))) ∧ (((t_26) : Int) = (t_26)) ∧ ((((cpx (l_25) (t_26)) : Int) = (cpx (l_25) (t_26))) ∧ (((cpy (l_25) (t_26)) : Int) = (cpy (l_25) (t_26))) ∧ True) ∧ (true = true) ∧ (((t_26) : Int) = (t_26)) ∧ ((Cont.pts (l_25)) = (Cont.pts (l_25))) ∧ (((t_26) : Int) = (t_26)) ∧ ((Cont.pts (l_25)) = (Cont.pts (l_25))) ∧ ((n : Int) = n) ∧ ((n : Int) = n) ∧ ((n : Int) = n) ∧ (((ilt (1048576 : Int) n) : Bool) = (ilt (1048576 : Int) n)) ∧ ((false : Bool) = false) ∧ ((n : Int) = n) ∧ True) ∧ (((true = true) ∧ ((Cont.pts []) = (Cont.pts []))) ∧ ((((bHx (l_25)) : Int) = (bHx (l_25))) ∧ (((bHy (l_25)) : Int) = (bHy (l_25))) ∧ True) ∧ ((((bLx (l_25)) : Int) = (bLx (l_25))) ∧ (((bLy (l_25)) : Int) = (bLy (l_25))) ∧ True) ∧ ((((cpx (l_25) (t_26)) : Int) = (cpx (l_25) (t_26))) ∧ (((cpy (l_25) (t_26)) : Int) = (cpy (l_25) (t_26))) ∧ True) ∧ True)) ∧ (([GK.int, GK.pts] : List GK) = ([GK.int, GK.pts] : List GK)) ∧ I1 [GV.int (isub (ilen (l_25)) (1 : Int)), GV.pts []]) ∧ (∀ i1_0 : Int, ∀ l1_1 : List Pt, I1 [GV.int i1_0, GV.pts l1_1] → ((true = true) ∧ ((True) ∧ (True) ∧ True) ∧ ((ile (0 : Int) i1_0) = true → ((true = true) ∧ ((True) ∧ (True) ∧ (True) ∧ (NLe 0 i1_0 ∧ NLt i1_0 (ilen (l_25))) ∧ (True) ∧ (True) ∧ True) ∧ (NLe (ilen l1_1) 1000000000 ∧ NLe (ilen [((getx (l_25) i1_0), (gety (l_25) i1_0))]) 1000000000) ∧ (True) ∧ (true = true) ∧ ((True) ∧ (True) ∧ (True) ∧ True) ∧ ((true = true) ∧ ((((isub i1_0 (1 : Int)) : Int) = (isub i1_0 (1 : Int))) ∧ ((Cont.pts (l_25)) = (Cont.pts (l_25))) ∧ (((ilen (l_25)) : Int) = (ilen (l_25))) ∧ (((isub (ilen (l_25)) (1 : Int)) : Int) = (isub (ilen (l_25)) (1 : Int))) ∧ (true = true) ∧ ((Cont.pts (l_25)) = (Cont.pts (l_25))) ∧ ((((bLx (l_25)) : Int) = (bLx (l_25))) ∧ (((bLy (l_25)) : Int) = (bLy (l_25))) ∧ True) ∧ ((((bHx (l_25)) : Int) = (bHx (l_25))) ∧ (((bHy (l_25)) : Int) = (bHy (l_25))) ∧ True) ∧ (true = true) ∧ (true = true) ∧ ((Cont.pts (l_25)) = (Cont.pts (l_25))) ∧ (((crvB (l_25)) : Bool) = (crvB (l_25))) ∧ (((bnot (crvB (l_25))) : Bool) = (bnot (crvB (l_25)))) ∧ (((bnot (crvB (l_25))) : Bool) = (bnot (crvB (l_25)))) ∧ (((bite (bnot (crvB (l_25))) true (ilt (t_26) (0 : Int))) : Bool) = (bite (bnot (crvB (l_25))) true (ilt (t_26) (0 : Int)))) ∧ (((bite (bnot (crvB (l_25))) true (ilt (t_26) (0 : Int))) : Bool) = (bite (bnot (crvB (l_25))) true (ilt (t_26) (0 : Int)))) ∧ (((bite (bite (bnot (crvB (l_25))) true (ilt (t_26) (0 : Int))) true (ilt (64 : Int) (t_26))) : Bool) = (bite (bite (bnot (crvB (l_25))) true (ilt (t_26) (0 : Int))) true (ilt (64 : Int) (t_26)))) ∧ ((((cpx (l_25) (t_26)) : Int) = (cpx (l_25) (t_26))) ∧ (((cpy (l_25) (t_26)) : Int) = (cpy (l_25) (t_26))) ∧ True) ∧ ((Cont.pts (l_25)) = (Cont.pts (l_25))) ∧ (((t_26) : Int) = (t_26)) ∧ ((((cpx (l_25) (t_26)) : Int) = (cpx (l_25) (t_26))) ∧ (((cpy (l_25) (t_26)) : Int) = (cpy (l_25) (t_26))) ∧ True) ∧ (((bnot (band (ieq (cpx (l_25) (t_26)) (cpx (l_25) (t_26))) (ieq (cpy (l_25) (t_26)) (cpy (l_25) (t_26))))) : Bool) = (bnot (band (ieq (cpx (l_25) (t_26)) (cpx (l_25) (t_26))) (ieq (cpy (l_25) (t_26)) (cpy (l_25) (t_26)))))) ∧ ((Cont.pts (l_25)) = (Cont.pts (l_25))) ∧ (((t_26) : Int) = (t_26)) ∧ ((((cpx (l_25) (t_26)) : Int) = (cpx (l_25) (t_26))) ∧ (((cpy (l_25) (t_26)) : Int) = (cpy (l_25) (t_26))) ∧ True) ∧ (true = true) ∧ (((t_26) : Int) = (t_26)) ∧ ((Cont.pts (l_25)) = (Cont.pts (l_25))) ∧ (((t_26) : Int) = (t_26)) ∧ ((Cont.pts (l_25)) = (Cont.pts (l_25))) ∧ ((n : Int) = n) ∧ ((n : Int) = n) ∧ ((n : Int) = n) ∧ (((ilt (1048576 : Int) n) : Bool) = (ilt (1048576 : Int) n)) ∧ ((false : Bool) = false) ∧ ((n : Int) = n) ∧ True) ∧ (((true = true) ∧ ((Cont.pts (iapp l1_1 [((getx (l_25) i1_0), (gety (l_25) i1_0))])) = (Cont.pts (iapp l1_1 [((getx (l_25) i1_0), (gety (l_25) i1_0))])))) ∧ ((((bHx (l_25)) : Int) = (bHx (l_25))) ∧ (((bHy (l_25)) : Int) = (bHy (l_25))) ∧ True) ∧ ((((bLx (l_25)) : Int) = (bLx (l_25))) ∧ (((bLy (l_25)) : Int) = (bLy (l_25))) ∧ True) ∧ ((((cpx (l_25) (t_26)) : Int) = (cpx (l_25) (t_26))) ∧ (((cpy (l_25) (t_26)) : Int) = (cpy (l_25) (t_26))) ∧ True) ∧ True)) ∧ ((([GK.int, GK.pts] : List GK) = ([GK.int, GK.pts] : List GK)) ∧ I1 [GV.int (isub i1_0 (1 : Int)), GV.pts (iapp l1_1 [((getx (l_25) i1_0), (gety (l_25) i1_0))])] ∧ μ1 [GV.int (isub i1_0 (1 : Int)), GV.pts (iapp l1_1 [((getx (l_25) i1_0), (gety (l_25) i1_0))])] < μ1 [GV.int i1_0, GV.pts l1_1]))) ∧ ((ile (0 : Int) i1_0) = false → ((true = true) ∧ ((True) ∧ (True) ∧ (True) ∧ ((True)) ∧ (True) ∧ True) ∧ (True) ∧ (true = true) ∧ ((True) ∧ ((True)) ∧ (True) ∧ (NLe 0 (0 : Int) ∧ NLt (0 : Int) (ilen (l_25))) ∧ (True) ∧ (True) ∧ (True) ∧ (NIs (band (ieq (cpx (l_25) (0 : Int)) (getx (l_25) (0 : Int))) (ieq (cpy (l_25) (0 : Int)) (gety (l_25) (0 : Int)))) true → True) ∧ (NIs (band (ieq (cpx (l_25) (0 : Int)) (getx (l_25) (0 : Int))) (ieq (cpy (l_25) (0 : Int)) (gety (l_25) (0 : Int)))) true → (True)) ∧ (NIs (band (ieq (cpx (l_25) (0 : Int)) (getx (l_25) (0 : Int))) (ieq (cpy (l_25) (0 : Int)) (gety (l_25) (0 : Int)))) true → True) ∧ (NIs (band (ieq (cpx (l_25) (0 : Int)) (getx (l_25) (0 : Int))) (ieq (cpy (l_25) (0 : Int)) (gety (l_25) (0 : Int)))) true → True) ∧ (NIs (band (ieq (cpx (l_25) (0 : Int)) (getx (l_25) (0 : Int))) (ieq (cpy (l_25) (0 : Int)) (gety (l_25) (0 : Int)))) true → True) ∧ (NIs (band (ieq (cpx (l_25) (0 : Int)) (getx (l_25) (0 : Int))) (ieq (cpy (l_25) (0 : Int)) (gety (l_25) (0 : Int)))) true → True) ∧ (NIs (band (ieq (cpx (l_25) (0 : Int)) (getx (l_25) (0 : Int))) (ieq (cpy (l_25) (0 : Int)) (gety (l_25) (0 : Int)))) true → (NLe 0 (isub (ilen (l_25)) (1 : Int)) ∧ NLt (isub (ilen (l_25)) (1 : Int)) (ilen (l_25)))) ∧ (NIs (band (ieq (cpx (l_25) (0 : Int)) (getx (l_25) (0 : Int))) (ieq (cpy (l_25) (0 : Int)) (gety (l_25) (0 : Int)))) true → True) ∧ (NIs (band (ieq (cpx (l_25) (0 : Int)) (getx (l_25) (0 : Int))) (ieq (cpy (l_25) (0 : Int)) (gety (l_25) (0 : Int)))) true → True) ∧ (True) ∧ (True) ∧ (NIs (bite (band (ieq (cpx (l_25) (0 : Int)) (getx (l_25) (0 : Int))) (ieq (cpy (l_25) (0 : Int)) (gety (l_25) (0 : Int)))) (band (ieq (cpx (l_25) (64 : Int)) (getx (l_25) (isub (ilen (l_25)) (1 : Int)))) (ieq (cpy (l_25) (64 : Int)) (gety (l_25) (isub (ilen (l_25)) (1 : Int))))) false) true → True) ∧ (NIs (bite (band (ieq (cpx (l_25) (0 : Int)) (getx (l_25) (0 : Int))) (ieq (cpy (l_25) (0 : Int)) (gety (l_25) (0 : Int)))) (band (ieq (cpx (l_25) (64 : Int)) (getx (l_25) (isub (ilen (l_25)) (1 : Int)))) (ieq (cpy (l_25) (64 : Int)) (gety (l_25) (isub (ilen (l_25)) (1 : Int))))) false) true → True) ∧ (NIs (bite (band (ieq (cpx (l_25) (0 : Int)) (getx (l_25) (0 : Int))) (ieq (cpy (l_25) (0 : Int)) (gety (l_25) (0 : Int)))) (band (ieq (cpx (l_25) (64 : Int)) (getx (l_25) (isub (ilen (l_25)) (1 : Int)))) (ieq (cpy (l_25) (64 : Int)) (gety (l_25) (isub (ilen (l_25)) (1 : Int))))) false) true → True) ∧ (NIs (bite (band (ieq (cpx (l_25) (0 : Int)) (getx (l_25) (0 : Int))) (ieq (cpy (l_25) (0 : Int)) (gety (l_25) (0 : Int)))) (band (ieq (cpx (l_25) (64 : Int)) (getx (l_25) (isub (ilen (l_25)) (1 : Int)))) (ieq (cpy (l_25) (64 : Int)) (gety (l_25) (isub (ilen (l_25)) (1 : Int))))) false) true → True) ∧ (NIs (bite (band (ieq (cpx (l_25) (0 : Int)) (getx (l_25) (0 : Int))) (ieq (cpy (l_25) (0 : Int)) (gety (l_25) (0 : Int)))) (band (ieq (cpx (l_25) (64 : Int)) (getx (l_25) (isub (ilen (l_25)) (1 : Int)))) (ieq (cpy (l_25) (64 : Int)) (gety (l_25) (isub (ilen (l_25)) (1 : Int))))) false) true → True) ∧ (True) ∧ (True) ∧ (NIs (bite (bite (band (ieq (cpx (l_25) (0 : Int)) (getx (l_25) (0 : Int))) (ieq (cpy (l_25) (0 : Int)) (gety (l_25) (0 : Int)))) (band (ieq (cpx (l_25) (64 : Int)) (getx (l_25) (isub (ilen (l_25)) (1 : Int)))) (ieq (cpy (l_25) (64 : Int)) (gety (l_25) (isub (ilen (l_25)) (1 : Int))))) false) (ile (bLx (l_25)) (cpx (l_25) (t_26))) false) true → True) ∧ (NIs (bite (bite (band (ieq (cpx (l_25) (0 : Int)) (getx (l_25) (0 : Int))) (ieq (cpy (l_25) (0 : Int)) (gety (l_25) (0 : Int)))) (band (ieq (cpx (l_25) (64 : Int)) (getx (l_25) (isub (ilen (l_25)) (1 : Int)))) (ieq (cpy (l_25) (64 : Int)) (gety (l_25) (isub (ilen (l_25)) (1 : Int))))) false) (ile (bLx (l_25)) (cpx (l_25) (t_26))) false) true → True) ∧ (NIs (bite (bite (band (ieq (cpx (l_25) (0 : Int)) (getx (l_25) (0 : Int))) (ieq (cpy (l_25) (0 : Int)) (gety (l_25) (0 : Int)))) (band (ieq (cpx (l_25) (64 : Int)) (getx (l_25) (isub (ilen (l_25)) (1 : Int)))) (ieq (cpy (l_25) (64 : Int)) (gety (l_25) (isub (ilen (l_25)) (1 : Int))))) false) (ile (bLx (l_25)) (cpx (l_25) (t_26))) false) true → True) ∧ (NIs (bite (bite (band (ieq (cpx (l_25) (0 : Int)) (getx (l_25) (0 : Int))) (ieq (cpy (l_25) (0 : Int)) (gety (l_25) (0 : Int)))) (band (ieq (cpx (l_25) (64 : Int)) (getx (l_25) (isub (ilen (l_25)) (1 : Int)))) (ieq (cpy (l_25) (64 : Int)) (gety (l_25) (isub (ilen (l_25)) (1 : Int))))) false) (ile (bLx (l_25)) (cpx (l_25) (t_26))) false) true → True) ∧ (NIs (bite (bite (band (ieq (cpx (l_25) (0 : Int)) (getx (l_25) (0 : Int))) (ieq (cpy (l_25) (0 : Int)) (gety (l_25) (0 : Int)))) (band (ieq (cpx (l_25) (64 : Int)) (getx (l_25) (isub (ilen (l_25)) (1 : Int)))) (ieq (cpy (l_25) (64 : Int)) (gety (l_25) (isub (ilen (l_25)) (1 : Int))))) false) (ile (bLx (l_25)) (cpx (l_25) (t_26))) false) true → True) ∧ (True) ∧ (True) ∧ (NIs (bite (bite (bite (band (ieq (cpx (l_25) (0 : Int)) (getx (l_25) (0 : Int))) (ieq (cpy (l_25) (0 : Int)) (gety (l_25) (0 : Int)))) (band (ieq (cpx (l_25) (64 : Int)) (getx (l_25) (isub (ilen (l_25)) (1 : Int)))) (ieq (cpy (l_25) (64 : Int)) (gety (l_25) (isub (ilen (l_25)) (1 : Int))))) false) (ile (bLx (l_25)) (cpx (l_25) (t_26))) false) (ile (cpx (l_25) (t_26)) (bHx (l_25))) false) true → True) ∧ (NIs (bite (bite (bite (band (ieq (cpx (l_25) (0 : Int)) (getx (l_25) (0 : Int))) (ieq (cpy (l_25) (0 : Int)) (gety (l_25) (0 : Int)))) (band (ieq (cpx (l_25) (64 : Int)) (getx (l_25) (isub (ilen (l_25)) (1 : Int)))) (ieq (cpy (l_25) (64 : Int)) (gety (l_25) (isub (ilen (l_25)) (1 : Int))))) false) (ile (bLx (l_25)) (cpx (l_25) (t_26))) false) (ile (cpx (l_25) (t_26)) (bHx (l_25))) false) true → True) ∧ (NIs (bite (bite (bite (band (ieq (cpx (l_25) (0 : Int)) (getx (l_25) (0 : Int))) (ieq (cpy (l_25) (0 : Int)) (gety (l_25) (0 : Int)))) (band (ieq (cpx (l_25) (64 : Int)) (getx (l_25) (isub (ilen (l_25)) (1 : Int)))) (ieq (cpy (l_25) (64 : Int)) (gety (l_25) (isub (ilen (l_25)) (1 : Int))))) false) (ile (bLx (l_25)) (cpx (l_25) (t_26))) false) (ile (cpx (l_25) (t_26)) (bHx (l_25))) false) true → True) ∧ (NIs (bite (bite (bite (band (ieq (cpx (l_25) (0 : Int)) (getx (l_25) (0 : Int))) (ieq (cpy (l_25) (0 : Int)) (gety (l_25) (0 : Int)))) (band (ieq (cpx (l_25) (64 : Int)) (getx (l_25) (isub (ilen (l_25)) (1 : Int)))) (ieq (cpy (l_25) (64 : Int)) (gety (l_25) (isub (ilen (l_25)) (1 : Int))))) false) (ile (bLx (l_25)) (cpx (l_25) (t_26))) false) (ile (cpx (l_25) (t_26)) (bHx (l_25))) false) true → True) ∧ (NIs (bite (bite (bite (band (ieq (cpx (l_25) (0 : Int)) (getx (l_25) (0 : Int))) (ieq (cpy (l_25) (0 : Int)) (gety (l_25) (0 : Int)))) (band (ieq (cpx (l_25) (64 : Int)) (getx (l_25) (isub (ilen (l_25)) (1 : Int)))) (ieq (cpy (l_25) (64 : Int)) (gety (l_25) (isub (ilen (l_25)) (1 : Int))))) false) (ile (bLx (l_25)) (cpx (l_25) (t_26))) false) (ile (cpx (l_25) (t_26)) (bHx (l_25))) false) true → True) ∧ (True) ∧ (True) ∧ (NIs (bite (bite (bite (bite (band (ieq (cpx (l_25) (0 : Int)) (getx (l_25) (0 : Int))) (ieq (cpy (l_25) (0 : Int)) (gety (l_25) (0 : Int)))) (band (ieq (cpx (l_25) (64 : Int)) (getx (l_25) (isub (ilen (l_25)) (1 : Int)))) (ieq (cpy (l_25) (64 : Int)) (gety (l_25) (isub (ilen (l_25)) (1 : Int))))) false) (ile (bLx (l_25)) (cpx (l_25) (t_26))) false) (ile (cpx (l_25) (t_26)) (bHx (l_25))) false) (ile (bLy (l_25)) (cpy (l_25) (t_26))) false) true → True) ∧ (NIs (bite (bite (bite (bite (band (ieq (cpx (l_25) (0 : Int)) (getx (l_25) (0 : Int))) (ieq (cpy (l_25) (0 : Int)) (gety (l_25) (0 : Int)))) (band (ieq (cpx (l_25) (64 : Int)) (getx (l_25) (isub (ilen (l_25)) (1 : Int)))) (ieq (cpy (l_25) (64 : Int)) (gety (l_25) (isub (ilen (l_25)) (1 : Int))))) false) (ile (bLx (l_25)) (cpx (l_25) (t_26))) false) (ile (cpx (l_25) (t_26)) (bHx (l_25))) false) (ile (bLy (l_25)) (cpy (l_25) (t_26))) false) true → True) ∧ (NIs (bite (bite (bite (bite (band (ieq (cpx (l_25) (0 : Int)) (getx (l_25) (0 : Int))) (ieq (cpy (l_25) (0 : Int)) (gety (l_25) (0 : Int)))) (band (ieq (cpx (l_25) (64 : Int)) (getx (l_25) (isub (ilen (l_25)) (1 : Int)))) (ieq (cpy (l_25) (64 : Int)) (gety (l_25) (isub (ilen (l_25)) (1 : Int))))) false) (ile (bLx (l_25)) (cpx (l_25) (t_26))) false) (ile (cpx (l_25) (t_26)) (bHx (l_25))) false) (ile (bLy (l_25)) (cpy (l_25) (t_26))) false) true → True) ∧ (NIs (bite (bite (bite (bite (band (ieq (cpx (l_25) (0 : Int)) (getx (l_25) (0 : Int))) (ieq (cpy (l_25) (0 : Int)) (gety (l_25) (0 : Int)))) (band (ieq (cpx (l_25) (64 : Int)) (getx (l_25) (isub (ilen (l_25)) (1 : Int)))) (ieq (cpy (l_25) (64 : Int)) (gety (l_25) (isub (ilen (l_25)) (1 : Int))))) false) (ile (bLx (l_25)) (cpx (l_25) (t_26))) false) (ile (cpx (l_25) (t_26)) (bHx (l_25))) false) (ile (bLy (l_25)) (cpy (l_25) (t_26))) false) true → True) ∧ (NIs (bite (bite (bite (bite (band (ieq (cpx (l_25) (0 : Int)) (getx (l_25) (0 : Int))) (ieq (cpy (l_25) (0 : Int)) (gety (l_25) (0 : Int)))) (band (ieq (cpx (l_25) (64 : Int)) (getx (l_25) (isub (ilen (l_25)) (1 : Int)))) (ieq (cpy (l_25) (64 : Int)) (gety (l_25) (isub (ilen (l_25)) (1 : Int))))) false) (ile (bLx (l_25)) (cpx (l_25) (t_26))) false) (ile (cpx (l_25) (t_26)) (bHx (l_25))) false) (ile (bLy (l_25)) (cpy (l_25) (t_26))) false) true → True) ∧ (True) ∧ (True) ∧ (NIs (bite (bite (bite (bite (bite (band (ieq (cpx (l_25) (0 : Int)) (getx (l_25) (0 : Int))) (ieq (cpy (l_25) (0 : Int)) (gety (l_25) (0 : Int)))) (band (ieq (cpx (l_25) (64 : Int)) (getx (l_25) (isub (ilen (l_25)) (1 : Int)))) (ieq (cpy (l_25) (64 : Int)) (gety (l_25) (isub (ilen (l_25)) (1 : Int))))) false) (ile (bLx (l_25)) (cpx (l_25) (t_26))) false) (ile (cpx (l_25) (t_26)) (bHx (l_25))) false) (ile (bLy (l_25)) (cpy (l_25) (t_26))) false) (ile (cpy (l_25) (t_26)) (bHy (l_25))) false) true → True) ∧ (NIs (bite (bite (bite (bite (bite (band (ieq (cpx (l_25) (0 : Int)) (getx (l_25) (0 : Int))) (ieq (cpy (l_25) (0 : Int)) (gety (l_25) (0 : Int)))) (band (ieq (cpx (l_25) (64 : Int)) (getx (l_25) (isub (ilen (l_25)) (1 : Int)))) (ieq (cpy (l_25) (64 : Int)) (gety (l_25) (isub (ilen (l_25)) (1 : Int))))) false) (ile (bLx (l_25)) (cpx (l_25) (t_26))) false) (ile (cpx (l_25) (t_26)) (bHx (l_25))) false) (ile (bLy (l_25)) (cpy (l_25) (t_26))) false) (ile (cpy (l_25) (t_26)) (bHy (l_25))) false) true → True) ∧ (NIs (bite (bite (bite (bite (bite (band (ieq (cpx (l_25) (0 : Int)) (getx (l_25) (0 : Int))) (ieq (cpy (l_25) (0 : Int)) (gety (l_25) (0 : Int)))) (band (ieq (cpx (l_25) (64 : Int)) (getx (l_25) (isub (ilen (l_25)) (1 : Int)))) (ieq (cpy (l_25) (64 : Int)) (gety (l_25) (isub (ilen (l_25)) (1 : Int))))) false) (ile (bLx (l_25)) (cpx (l_25) (t_26))) false) (ile (cpx (l_25) (t_26)) (bHx (l_25))) false) (ile (bLy (l_25)) (cpy (l_25) (t_26))) false) (ile (cpy (l_25) (t_26)) (bHy (l_25))) false) true → True) ∧ (NIs (bite (bite (bite (bite (bite (band (ieq (cpx (l_25) (0 : Int)) (getx (l_25) (0 : Int))) (ieq (cpy (l_25) (0 : Int)) (gety (l_25) (0 : Int)))) (band (ieq (cpx (l_25) (64 : Int)) (getx (l_25) (isub (ilen (l_25)) (1 : Int)))) (ieq (cpy (l_25) (64 : Int)) (gety (l_25) (isub (ilen (l_25)) (1 : Int))))) false) (ile (bLx (l_25)) (cpx (l_25) (t_26))) false) (ile (cpx (l_25) (t_26)) (bHx (l_25))) false) (ile (bLy (l_25)) (cpy (l_25) (t_26))) false) (ile (cpy (l_25) (t_26)) (bHy (l_25))) false) true → True) ∧ (NIs (bite (bite (bite (bite (bite (band (ieq (cpx (l_25) (0 : Int)) (getx (l_25) (0 : Int))) (ieq (cpy (l_25) (0 : Int)) (gety (l_25) (0 : Int)))) (band (ieq (cpx (l_25) (64 : Int)) (getx (l_25) (isub (ilen (l_25)) (1 : Int)))) (ieq (cpy (l_25) (64 : Int)) (gety (l_25) (isub (ilen (l_25)) (1 : Int))))) false) (ile (bLx (l_25)) (cpx (l_25) (t_26))) false) (ile (cpx (l_25) (t_26)) (bHx (l_25))) false) (ile (bLy (l_25)) (cpy (l_25) (t_26))) false) (ile (cpy (l_25) (t_26)) (bHy (l_25))) false) true → True) ∧ (NIs (bite (bite (bite (bite (bite (band (ieq (cpx (l_25) (0 : Int)) (getx (l_25) (0 : Int))) (ieq (cpy (l_25) (0 : Int)) (gety (l_25) (0 : Int)))) (band (ieq (cpx (l_25) (64 : Int)) (getx (l_25) (isub (ilen (l_25)) (1 : Int)))) (ieq (cpy (l_25) (64 : Int)) (gety (l_25) (isub (ilen (l_25)) (1 : Int))))) false) (ile (bLx (l_25)) (cpx (l_25) (t_26))) false) (ile (cpx (l_25) (t_26)) (bHx (l_25))) false) (ile (bLy (l_25)) (cpy (l_25) (t_26))) false) (ile (cpy (l_25) (t_26)) (bHy (l_25))) false) true → (True)) ∧ (NIs (bite (bite (bite (bite (bite (band (ieq (cpx (l_25) (0 : Int)) (getx (l_25) (0 : Int))) (ieq (cpy (l_25) (0 : Int)) (gety (l_25) (0 : Int)))) (band (ieq (cpx (l_25) (64 : Int)) (getx (l_25) (isub (ilen (l_25)) (1 : Int)))) (ieq (cpy (l_25) (64 : Int)) (gety (l_25) (isub (ilen (l_25)) (1 : Int))))) false) (ile (bLx (l_25)) (cpx (l_25) (t_26))) false) (ile (cpx (l_25) (t_26)) (bHx (l_25))) false) (ile (bLy (l_25)) (cpy (l_25) (t_26))) false) (ile (cpy (l_25) (t_26)) (bHy (l_25))) false) true → True) ∧ (True) ∧ (True) ∧ (NIs (bite (bite (bite (bite (bite (bite (band (ieq (cpx (l_25) (0 : Int)) (getx (l_25) (0 : Int))) (ieq (cpy (l_25) (0 : Int)) (gety (l_25) (0 : Int)))) (band (ieq (cpx (l_25) (64 : Int)) (getx (l_25) (isub (ilen (l_25)) (1 : Int)))) (ieq (cpy (l_25) (64 : Int)) (gety (l_25) (isub (ilen (l_25)) (1 : Int))))) false) (ile (bLx (l_25)) (cpx (l_25) (t_26))) false) (ile (cpx (l_25) (t_26)) (bHx (l_25))) false) (ile (bLy (l_25)) (cpy (l_25) (t_26))) false) (ile (cpy (l_25) (t_26)) (bHy (l_25))) false) (ile (max (isub (cpx (l_25) (t_26)) (cpx l1_1 (isub (64 : Int) (t_26)))) (ineg (isub (cpx (l_25) (t_26)) (cpx l1_1 (isub (64 : Int) (t_26)))))) (1 : Int)) false) true → True) ∧ (NIs (bite (bite (bite (bite (bite (bite (band (ieq (cpx (l_25) (0 : Int)) (getx (l_25) (0 : Int))) (ieq (cpy (l_25) (0 : Int)) (gety (l_25) (0 : Int)))) (band (ieq (cpx (l_25) (64 : Int)) (getx (l_25) (isub (ilen (l_25)) (1 : Int)))) (ieq (cpy (l_25) (64 : Int)) (gety (l_25) (isub (ilen (l_25)) (1 : Int))))) false) (ile (bLx (l_25)) (cpx (l_25) (t_26))) false) (ile (cpx (l_25) (t_26)) (bHx (l_25))) false) (ile (bLy (l_25)) (cpy (l_25) (t_26))) false) (ile (cpy (l_25) (t_26)) (bHy (l_25))) false) (ile (max (isub (cpx (l_25) (t_26)) (cpx l1_1 (isub (64 : Int) (t_26)))) (ineg (isub (cpx (l_25) (t_26)) (cpx l1_1 (isub (64 : Int) (t_26)))))) (1 : Int)) false) true → True) ∧ (NIs (bite (bite (bite (bite (bite (bite (band (ieq (cpx (l_25) (0 : Int)) (getx (l_25) (0 : Int))) (ieq (cpy (l_25) (0 : Int)) (gety (l_25) (0 : Int)))) (band (ieq (cpx (l_25) (64 : Int)) (getx (l_25) (isub (ilen (l_25)) (1 : Int)))) (ieq (cpy (l_25) (64 : Int)) (gety (l_25) (isub (ilen (l_25)) (1 : Int))))) false) (ile (bLx (l_25)) (cpx (l_25) (t_26))) false) (ile (cpx (l_25) (t_26)) (bHx (l_25))) false) (ile (bLy (l_25)) (cpy (l_25) (t_26))) false) (ile (cpy (l_25) (t_26)) (bHy (l_25))) false) (ile (max (isub (cpx (l_25) (t_26)) (cpx l1_1 (isub (64 : Int) (t_26)))) (ineg (isub (cpx (l_25) (t_26)) (cpx l1_1 (isub (64 : Int) (t_26)))))) (1 : Int)) false) true → True) ∧ (NIs (bite (bite (bite (bite (bite (bite (band (ieq (cpx (l_25) (0 : Int)) (getx (l_25) (0 : Int))) (ieq (cpy (l_25) (0 : Int)) (gety (l_25) (0 : Int)))) (band (ieq (cpx (l_25) (64 : Int)) (getx (l_25) (isub (ilen (l_25)) (1 : Int)))) (ieq (cpy (l_25) (64 : Int)) (gety (l_25) (isub (ilen (l_25)) (1 : Int))))) false) (ile (bLx (l_25)) (cpx (l_25) (t_26))) false) (ile (cpx (l_25) (t_26)) (bHx (l_25))) false) (ile (bLy (l_25)) (cpy (l_25) (t_26))) false) (ile (cpy (l_25) (t_26)) (bHy (l_25))) false) (ile (max (isub (cpx (l_25) (t_26)) (cpx l1_1 (isub (64 : Int) (t_26)))) (ineg (isub (cpx (l_25) (t_26)) (cpx l1_1 (isub (64 : Int) (t_26)))))) (1 : Int)) false) true → True) ∧ (NIs (bite (bite (bite (bite (bite (bite (band (ieq (cpx (l_25) (0 : Int)) (getx (l_25) (0 : Int))) (ieq (cpy (l_25) (0 : Int)) (gety (l_25) (0 : Int)))) (band (ieq (cpx (l_25) (64 : Int)) (getx (l_25) (isub (ilen (l_25)) (1 : Int)))) (ieq (cpy (l_25) (64 : Int)) (gety (l_25) (isub (ilen (l_25)) (1 : Int))))) false) (ile (bLx (l_25)) (cpx (l_25) (t_26))) false) (ile (cpx (l_25) (t_26)) (bHx (l_25))) false) (ile (bLy (l_25)) (cpy (l_25) (t_26))) false) (ile (cpy (l_25) (t_26)) (bHy (l_25))) false) (ile (max (isub (cpx (l_25) (t_26)) (cpx l1_1 (isub (64 : Int) (t_26)))) (ineg (isub (cpx (l_25) (t_26)) (cpx l1_1 (isub (64 : Int) (t_26)))))) (1 : Int)) false) true → True) ∧ (NIs (bite (bite (bite (bite (bite (bite (band (ieq (cpx (l_25) (0 : Int)) (getx (l_25) (0 : Int))) (ieq (cpy (l_25) (0 : Int)) (gety (l_25) (0 : Int)))) (band (ieq (cpx (l_25) (64 : Int)) (getx (l_25) (isub (ilen (l_25)) (1 : Int)))) (ieq (cpy (l_25) (64 : Int)) (gety (l_25) (isub (ilen (l_25)) (1 : Int))))) false) (ile (bLx (l_25)) (cpx (l_25) (t_26))) false) (ile (cpx (l_25) (t_26)) (bHx (l_25))) false) (ile (bLy (l_25)) (cpy (l_25) (t_26))) false) (ile (cpy (l_25) (t_26)) (bHy (l_25))) false) (ile (max (isub (cpx (l_25) (t_26)) (cpx l1_1 (isub (64 : Int) (t_26)))) (ineg (isub (cpx (l_25) (t_26)) (cpx l1_1 (isub (64 : Int) (t_26)))))) (1 : Int)) false) true → (True)) ∧ (NIs (bite (bite (bite (bite (bite (bite (band (ieq (cpx (l_25) (0 : Int)) (getx (l_25) (0 : Int))) (ieq (cpy (l_25) (0 : Int)) (gety (l_25) (0 : Int)))) (band (ieq (cpx (l_25) (64 : Int)) (getx (l_25) (isub (ilen (l_25)) (1 : Int)))) (ieq (cpy (l_25) (64 : Int)) (gety (l_25) (isub (ilen (l_25)) (1 : Int))))) false) (ile (bLx (l_25)) (cpx (l_25) (t_26))) false) (ile (cpx (l_25) (t_26)) (bHx (l_25))) false) (ile (bLy (l_25)) (cpy (l_25) (t_26))) false) (ile (cpy (l_25) (t_26)) (bHy (l_25))) false) (ile (max (isub (cpx (l_25) (t_26)) (cpx l1_1 (isub (64 : Int) (t_26)))) (ineg (isub (cpx (l_25) (t_26)) (cpx l1_1 (isub (64 : Int) (t_26)))))) (1 : Int)) false) true → True) ∧ (True) ∧ (True) ∧ True) ∧ (((bite (bite (bite (bite (bite (bite (bite (band (ieq (cpx (l_25) (0 : Int)) (getx (l_25) (0 : Int))) (ieq (cpy (l_25) (0 : Int)) (gety (l_25) (0 : Int)))) (band (ieq (cpx (l_25) (64 : Int)) (getx (l_25) (isub (ilen (l_25)) (1 : Int)))) (ieq (cpy (l_25) (64 : Int)) (gety (l_25) (isub (ilen (l_25)) (1 : Int))))) false) (ile (bLx (l_25)) (cpx (l_25) (t_26))) false) (ile (cpx (l_25) (t_26)) (bHx (l_25))) false) (ile (bLy (l_25)) (cpy (l_25) (t_26))) false) (ile (cpy (l_25) (t_26)) (bHy (l_25))) false) (ile (max (isub (cpx (l_25) (t_26)) (cpx l1_1 (isub (64 : Int) (t_26)))) (ineg (isub (cpx (l_25) (t_26)) (cpx l1_1 (isub (64 : Int) (t_26)))))) (1 : Int)) false) (ile (max (isub (cpy (l_25) (t_26)) (cpy l1_1 (isub (64 : Int) (t_26)))) (ineg (isub (cpy (l_25) (t_26)) (cpy l1_1 (isub (64 : Int) (t_26)))))) (1 : Int)) false) : Bool) = (true)) ∧ True))))))))))))))))) = ev sig_laws_FnCurvePoint xs_laws_FnCurvePoint Try.f8.ntmps (fun b => if b == 0 then [.v 9, .b 8] else []) (codeOf Try.f8) 0 (initS [.s (.rdr n)]) (retK Try.f8.results.toList [.s (.bool (true))]) := by kernel_rfl
set_option maxHeartbeats 400000 in
theorem F_laws_FnCurvePoint : FunOK 8 g_laws_FnCurvePoint := by
  refine fun_F (by kernel_rfl) Try.func8 rfl (by kernel_rfl) sig_laws_FnCurvePoint_ok xs_laws_FnCurvePoint_ok ?_
  intro avs sg h hn hl
  unfold g_laws_FnCurvePoint at h
  split at h
  · rename_i n
    injection h with h; subst h
    refine ⟨by kernel_rfl, fun b => if b == 0 then [.v 9, .b 8] else [], Eq.mp (V_laws_FnCurvePoint n) ?_⟩
    simp only [true_and, and_true, implies_true, and_self, forall_const, true_implies, lenA, lenL, SV.lenOK, Cont.lenOK] at hn hl ⊢
    simp only [ilt_t, ilt_f, ile_t, ile_f, ieq_t, ieq_f, bnot_e, band_e, bite_and, bite_or, NLt_e, NLe_e, NNe_e, NIs_e, imax_e, imin_e, irem_e, Bool.not_eq_true', Bool.not_eq_false', Bool.and_eq_true, Bool.or_eq_true, Bool.or_eq_false_iff, Bool.and_eq_false_iff, Cont.pts.injEq, Cont.ints.injEq, Cont.bools.injEq, Cont.ptss.injEq, Cont.intss.injEq, Cont.boolss.injEq, true_and, and_true, implies_true]
    intro h
    refine ⟨h, fun l t hp => ⟨by simp, fun _ => ⟨fun hb => cp_no (by rcases hb with (hb | hb) | hb; exact .inl hb; exact .inr (.inl hb); exact .inr (.inr hb)), fun hc => ?_⟩⟩⟩
    have l0 := ilen_0 l
    obtain ⟨⟨hcv, t0⟩, t1⟩ := hc
    have hcp : cpB l t = true := by unfold cpB; rw [hcv]; unfold inB; simp; omega
    obtain ⟨⟨n1, n4⟩, -, -⟩ := crv_parts hcv
    have e1 : isub (ilen l) 1 = ilen l - 1 := isub_e (by omega) (by omega)
    have e2 : isub 64 t = 64 - t := isub_e (by omega) (by omega)
    rw [e1, e2]
    refine ⟨fun | [.int i, .pts o] => -1 ≤ i ∧ i < ilen l ∧ o = revK l (i + 1) | _ => False, fun | .int i :: _ => (i + 1).toNat | _ => 0, ⟨by omega, by omega, ?_⟩, ?_⟩
    · rw [show ilen l - 1 + 1 = ilen l by omega]
      unfold revK ilen; simp
    rintro i o ⟨i0, i1, rfl⟩
    refine ⟨fun hi => ?_, fun hi => ?_⟩
    · have e3 : isub i 1 = i - 1 := isub_e (by omega) (by omega)
      rw [e3, revK_s hi i1, revK_len (by omega) (by omega)]
      exact ⟨⟨hi, i1⟩, ⟨by omega, by rw [ilen_one]; omega⟩, ⟨by omega, by omega, by rw [show i - 1 + 1 = i by omega]⟩, by show (i - 1 + 1).toNat < (i + 1).toNat; omega⟩
    · rw [show i + 1 = 0 by omega]
      obtain ⟨r1, r2⟩ := cp_rev hcp
      obtain ⟨⟨a1, a2⟩, a3, a4⟩ := cp_ends hcv
      obtain ⟨⟨b1, b2⟩, b3, b4⟩ := cp_in hcp
      have z : ∀ x : Int, max (isub x x) (ineg (isub x x)) ≤ 1 := fun x => by
        rw [isub_e (by omega) (by omega), Int.sub_self]
        have : ineg 0 = 0 := by unfold ineg; rfl
        rw [this]; decide
      rw [r1, r2]
      exact ⟨⟨⟨by omega, by omega⟩, fun _ => ⟨by omega, by omega⟩⟩, ⟨⟨⟨⟨⟨⟨⟨⟨a1, a2⟩, a3, a4⟩, b1⟩, b2⟩, b3⟩, b4⟩, z _⟩, z _⟩⟩
  · cases h
theorem fnCurvePoint_walk (w : World) (v0 : Value) (x0 : Nat) (w0 : BytesArg w v0 x0) : Calls Try.prog 8 #[v0] w fun e w' => e = .returned (.bool true) ∧ Bel w w' :=
  walk_of F_laws_FnCurvePoint (avs := [.s (.rdr x0)]) rfl trivial ⟨bytes_reads w0, trivial⟩
set_option maxRecDepth 100000 in
theorem fnCurvePoint_lifted (os : Os) (started : os.Started) (H : Type) (enc : TypeId × Value → H) :
    ReturnsInHanded {} Try.checked os 8 .any (Rows.fnCurvePointSpec.pre6 enc Try.prog Try.f8 Rows.fnCurvePointRow.domain false) (Rows.fnCurvePointSpec.post enc Try.prog Try.f8 false true false false) := by
  have own : ownKnob Try.prog.godebug = none := by kernel_rfl
  have laidOut : laidOutB Try.prog = true := by kernel_rfl
  refine returnsInHanded_of_change (C := Try.checked) own started (by kernel_rfl) Try.func8
    (ChangeSpec.witness6 (enc := enc) (C := Try.checked) false ⟨#[], #[.slice none 0 0], []⟩ 8 (by kernel_rfl) (by kernel_rfl) (by kernel_rfl) (by kernel_rfl)) ?_
  intro W base args ds gs before hval0 hW hcnd _
  have hval : ∀ (j : Nat) t v, Try.f8.params[j]? = some t → args[j]? = some v → Value.okWide Try.prog W .any base t v := hval0
  have hW' := hW
  obtain ⟨p, q, hA0, hV, rfl, hfz, hnd⟩ := hW
  have hA : DataW.TrodAll enc Try.prog W 0 (fun _ => true) true Try.f8.params.toList args.toList ds p := hA0
  rw [Try.params8] at hA hval
  obtain ⟨v0, vs0, d0, ds0, p0, q0, hargs, rfl, rfl, h0, r0⟩ := trodAll_cons hA
  obtain ⟨rfl, rfl, rfl⟩ := trodAll_nil r0
  obtain rfl : args = #[v0] := by cases args; simp_all
  obtain ⟨rfl, rfl⟩ := trodVars_none hV
  have k0 := h0
  have lt0 : ∀ x ∈ p0, x.block < W.heap.size := by obtain ⟨m, hm⟩ := k0; exact DataW.trod_lt m _ _ _ hm
  obtain ⟨x0, w0⟩ := opn_bytes (hval 0 33 v0 rfl rfl) h0
  clear hA0 hval0
  refine (fnCurvePoint_walk W v0 x0 w0).mono fun e W' ⟨he, bel⟩ => ?_
  subst he
  exact ⟨_, rfl, _, _, _, [], _, [], hW', trodAll_mk1 (shut_bool Try.underlying4 _), (trodAll_cons_mk (Below.trod laidOut (by kernel_rfl) (of_decide_eq_true (by kernel_rfl)) k0 bel lt0) trodAll_mk0), rfl, Below.frame bel _, fun h => by cases h⟩
theorem fnCurvePoint_over : Rows.fnCurvePointRow.holds Try.pinned (OpenSpec.ofChange Rows.fnCurvePointSpec) :=
  OpenClaim.holds_of_wide 8 Try.f8 rfl rfl rfl rfl rfl rfl rfl ⟨rfl, rfl, rfl, rfl, rfl⟩ rfl rfl rfl rfl rfl (by kernel_rfl) Try.func8 (by kernel_rfl)
    (of_decide_eq_true (by kernel_rfl)) (by unfold Func.isWrapper; first | (rw [if_pos (by decide +kernel)]; kernel_rfl) | (rw [if_neg (by decide +kernel)]; exact ⟨rfl, rfl⟩))
    (fun os started H enc _ => fnCurvePoint_lifted os started H enc)
theorem fnCurvePoint_proved : Rows.FnCurvePointSaid := fnCurvePoint_over
#print axioms fnCurvePoint_proved
end Go.Proofs.Ytiddodphfbohmaa

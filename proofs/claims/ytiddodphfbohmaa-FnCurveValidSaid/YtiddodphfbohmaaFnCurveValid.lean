/- 'FnCurveValid': for every code, a nonempty beginning of a valid drawn curve is valid, and the empty curve is not. Conditions: none. -/
import Derived.Test.YtiddodphfbohmaaAxO
namespace Go.Proofs.Ytiddodphfbohmaa
open Go.ChangeShapes Go.WideShapes Go.ChangeAt Go.RowKit
set_option maxRecDepth 100000
set_option linter.unusedSimpArgs false
set_option linter.unusedVariables false
def s_spec_l20Point (r1 : Int) (r2 : Int) (n : Int) : SgX := ⟨r1 ≤ 2000 ∧ 0 ≤ r2 ∧ r2 ≤ 900000 ∧ -1000000 ≤ n ∧ n ≤ 1000000, [.int, .int, .int], (fun | [.int x, .int y, .int q] => -10001 ≤ x ∧ x ≤ 10001 ∧ -10000 ≤ y ∧ y ≤ 10000 ∧ (n ≤ 0 → -10000 ≤ x ∧ x ≤ 10000) ∧ r2 ≤ q ∧ q ≤ r2 + 10 | _ => False), (fun | [.int x, .int y, .int q] => [.agg [.int (x), .int (y)]] | _ => []), (fun | [.int x, .int y, .int q] => .box [.rdr r1, .int (q)] | _ => .box [])⟩
def g_spec_l20Point : Bx → List AV → Option SgX
  | .box [.rdr r1, .int r2], [.s (.int n)] => some (s_spec_l20Point r1 r2 n)
  | _, _ => none
def sig_spec_l20Point : FuncId → List AV → Option Sg := sigL []
def xs_spec_l20Point : XS := ⟨xsigL [(71, g_spec_l20Rd_pick), (97, g_spec_l20Rd_odd)], ysigL []⟩
theorem sig_spec_l20Point_ok : SigOK sig_spec_l20Point := sigL_nil
theorem xs_spec_l20Point_ok : XSigOK xs_spec_l20Point := ⟨xsigL_cons F_spec_l20Rd_pick (xsigL_cons F_spec_l20Rd_odd xsigL_nil), ysigL_nil⟩
theorem V_spec_l20Point (r1 : Int) (r2 : Int) (n : Int) : ((true = true) ∧ ((True) ∧ True) ∧ (true = true) ∧ ((True) ∧ True) ∧ (true = true) ∧ ((r1 ≤ 2000 ∧ 0 ≤ r2 ∧ r2 ≤ 1000000)) ∧ (∀ k_1 : Int, ((pickP (41 : Int) k_1) → ((True) ∧ (True) ∧ (true = true) ∧ ((r1 ≤ 2000 ∧ 0 ≤ (r2 + 1) ∧ (r2 + 1) ≤ 1000000)) ∧ (∀ k_2 : Int, ((pickP (41 : Int) k_2) → ((True) ∧ (True) ∧ (True) ∧ (True) ∧ (true = true) ∧ ((True) ∧ True) ∧ (true = true) ∧ ((r1 ≤ 2000 ∧ 0 ≤ ((r2 + 1) + 1) ∧ ((r2 + 1) + 1) ≤ 1000000)) ∧ (∀ k_3 : Int, ((pickP (3 : Int) k_3) → ((True) ∧ ((ieq (k_3) (0 : Int)) = true → ((true = true) ∧ ((True) ∧ True) ∧ (true = true) ∧ ((r1 ≤ 2000 ∧ 0 ≤ (((r2 + 1) + 1) + 1) ∧ (((r2 + 1) + 1) + 1) ≤ 1000000)) ∧ (∀ k_4 : Int, ((pickP (256 : Int) k_4) → ((True) ∧ (True) ∧ (True) ∧ (true = true) ∧ ((r1 ≤ 2000 ∧ 0 ≤ ((((r2 + 1) + 1) + 1) + 1) ∧ ((((r2 + 1) + 1) + 1) + 1) ≤ 1000000)) ∧ (∀ k_5 : Int, ((pickP (256 : Int) k_5) → ((True) ∧ (True) ∧ (True) ∧ (True) ∧ (true = true) ∧ ((True) ∧ (True) ∧ True) ∧ (true = true) ∧ ((r1 ≤ 2000 ∧ 0 ≤ (((((r2 + 1) + 1) + 1) + 1) + 1) ∧ (((((r2 + 1) + 1) + 1) + 1) + 1) ≤ 1000000 ∧ -1000000 ≤ n ∧ n ≤ 1000000)) ∧ (∀ b_6 : Bool, ∀ q_7 : Int, (((n ≤ 0 → b_6 = false) ∧ (((((r2 + 1) + 1) + 1) + 1) + 1) ≤ q_7 ∧ q_7 ≤ (((((r2 + 1) + 1) + 1) + 1) + 1) + 1) → (((b_6) = true → ((true = true) ∧ ((True) ∧ (True) ∧ True) ∧ (true = true) ∧ ((r1 ≤ 2000 ∧ 0 ≤ (q_7) ∧ (q_7) ≤ 1000000)) ∧ (∀ k_8 : Int, ((pickP (3 : Int) k_8) → ((NLe 0 (k_8) ∧ NLt (k_8) (ilen [(10001 : Int), (-10001 : Int), (10000 : Int)])) ∧ (NLt (k_8) (ilen [(10001 : Int), (-10001 : Int), (10000 : Int)])) ∧ (True) ∧ (True) ∧ (true = true) ∧ ((True) ∧ True) ∧ (True) ∧ ∃ x : Int, ∃ y : Int, ∃ q : Int, ((-10001 ≤ x ∧ x ≤ 10001 ∧ -10000 ≤ y ∧ y ≤ 10000 ∧ (n ≤ 0 → -10000 ≤ x ∧ x ≤ 10000) ∧ r2 ≤ q ∧ q ≤ r2 + 10) ∧ (((((geti [(10001 : Int), (-10001 : Int), (10000 : Int)] (k_8)) : Int) = (x)) ∧ (((isub (imul (k_5) (4 : Int)) (500 : Int)) : Int) = (y)) ∧ True) ∧ True) ∧ ((true = true) ∧ (true = true) ∧ ((r1 : Int) = r1) ∧ ((((q_7) + 1) : Int) = (q)) ∧ True))))))) ∧ ((b_6) = false → ((true = true) ∧ ((True) ∧ True) ∧ (True) ∧ ∃ x : Int, ∃ y : Int, ∃ q : Int, ((-10001 ≤ x ∧ x ≤ 10001 ∧ -10000 ≤ y ∧ y ≤ 10000 ∧ (n ≤ 0 → -10000 ≤ x ∧ x ≤ 10000) ∧ r2 ≤ q ∧ q ≤ r2 + 10) ∧ (((((isub (imul (k_4) (4 : Int)) (500 : Int)) : Int) = (x)) ∧ (((isub (imul (k_5) (4 : Int)) (500 : Int)) : Int) = (y)) ∧ True) ∧ True) ∧ ((true = true) ∧ (true = true) ∧ ((r1 : Int) = r1) ∧ (((q_7) : Int) = (q)) ∧ True))))))))))))))) ∧ ((ieq (k_3) (0 : Int)) = false → ((true = true) ∧ ((True) ∧ (True) ∧ True) ∧ (true = true) ∧ ((r1 ≤ 2000 ∧ 0 ≤ (((r2 + 1) + 1) + 1) ∧ (((r2 + 1) + 1) + 1) ≤ 1000000 ∧ -1000000 ≤ n ∧ n ≤ 1000000)) ∧ (∀ b_9 : Bool, ∀ q_10 : Int, (((n ≤ 0 → b_9 = false) ∧ (((r2 + 1) + 1) + 1) ≤ q_10 ∧ q_10 ≤ (((r2 + 1) + 1) + 1) + 1) → (((b_9) = true → ((true = true) ∧ ((True) ∧ (True) ∧ True) ∧ (true = true) ∧ ((r1 ≤ 2000 ∧ 0 ≤ (q_10) ∧ (q_10) ≤ 1000000)) ∧ (∀ k_11 : Int, ((pickP (3 : Int) k_11) → ((NLe 0 (k_11) ∧ NLt (k_11) (ilen [(10001 : Int), (-10001 : Int), (10000 : Int)])) ∧ (NLt (k_11) (ilen [(10001 : Int), (-10001 : Int), (10000 : Int)])) ∧ (True) ∧ (True) ∧ (true = true) ∧ ((True) ∧ True) ∧ (True) ∧ ∃ x : Int, ∃ y : Int, ∃ q : Int, ((-10001 ≤ x ∧ x ≤ 10001 ∧ -10000 ≤ y ∧ y ≤ 10000 ∧ (n ≤ 0 → -10000 ≤ x ∧ x ≤ 10000) ∧ r2 ≤ q ∧ q ≤ r2 + 10) ∧ (((((geti [(10001 : Int), (-10001 : Int), (10000 : Int)] (k_11)) : Int) = (x)) ∧ (((isub (k_2) (20 : Int)) : Int) = (y)) ∧ True) ∧ True) ∧ ((true = true) ∧ (true = true) ∧ ((r1 : Int) = r1) ∧ ((((q_10) + 1) : Int) = (q)) ∧ True))))))) ∧ ((b_9) = false → ((true = true) ∧ ((True) ∧ True) ∧ (True) ∧ ∃ x : Int, ∃ y : Int, ∃ q : Int, ((-10001 ≤ x ∧ x ≤ 10001 ∧ -10000 ≤ y ∧ y ≤ 10000 ∧ (n ≤ 0 → -10000 ≤ x ∧ x ≤ 10000) ∧ r2 ≤ q ∧ q ≤ r2 + 10) ∧ (((((isub (k_1) (20 : Int)) : Int) = (x)) ∧ (((isub (k_2) (20 : Int)) : Int) = (y)) ∧ True) ∧ True) ∧ ((true = true) ∧ (true = true) ∧ ((r1 : Int) = r1) ∧ (((q_10) : Int) = (q)) ∧ True))))))))))))))))))) = (fun sg => ev sig_spec_l20Point xs_spec_l20Point Try.f72.ntmps (fun b => []) (codeOf Try.f72) 0 (initX (.box [.rdr r1, .int r2]) [.s (.int n)]) (retX Try.f72.results.toList sg.kinds sg.post sg.ret sg.out)) (s_spec_l20Point r1 r2 n) := by kernel_rfl
set_option maxHeartbeats 4000000 in
theorem F_spec_l20Point : FunX 72 g_spec_l20Point := by
  refine fun_X (by kernel_rfl) Try.func72 rfl (by kernel_rfl) sig_spec_l20Point_ok xs_spec_l20Point_ok ?_
  intro bx avs sg h hn hl hlb
  unfold g_spec_l20Point at h
  split at h
  · rename_i r1 r2 n
    injection h with h; subst h
    refine ⟨by kernel_rfl, fun b => [], Eq.mp (V_spec_l20Point r1 r2 n) ?_⟩
    simp only [true_and, and_true, implies_true, and_self, forall_const, true_implies, lenA, lenL, SV.lenOK, Cont.lenOK, lenB, s_spec_l20Point] at hn hl hlb ⊢
    try simp only [ilt_t, ilt_f, ile_t, ile_f, ieq_t, ieq_f, bnot_e, band_e, bite_and, bite_or, NLt_e, NLe_e, NNe_e, NIs_e, imax_e, imin_e, irem_e, Bool.not_eq_true', Bool.not_eq_false', Bool.and_eq_true, Bool.or_eq_true, Bool.or_eq_false_iff, Bool.and_eq_false_iff, Cont.pts.injEq, Cont.ints.injEq, Cont.bools.injEq, Cont.ptss.injEq, Cont.intss.injEq, Cont.boolss.injEq, true_and, and_true, implies_true, pickP, iadd_u, isub_u, imul_u, ineg_u, ilen_cons, ilen_nil, geti_cons, geti_nil, exists_and_left, exists_and_right, exists_eq_left, exists_eq_left', exists_eq_right, exists_eq_right'] at hn ⊢
    repeat' (first | (intro _) | (refine ⟨_, _, _, ?_, ⟨rfl, rfl⟩, rfl⟩) | (apply And.intro) | omega | split)
    all_goals (first | (simp_all; done) | (simp_all; omega))
  · cases h
def s_spec_l20Curve (r1 : Int) (r2 : Int) (n : Int) : SgX := ⟨r1 ≤ 2000 ∧ 0 ≤ r2 ∧ r2 ≤ 100000 ∧ -1000000 ≤ n ∧ n ≤ 1000000, [.pts, .int], (fun | [.pts l, .int q] => ilen l ≤ 5 ∧ r2 ≤ q ∧ q ≤ r2 + 100 | _ => False), (fun | [.pts l, .int q] => [.s (.view (.pts (l)))] | _ => []), (fun | [.pts l, .int q] => .box [.rdr r1, .int (q)] | _ => .box [])⟩
def g_spec_l20Curve : Bx → List AV → Option SgX
  | .box [.rdr r1, .int r2], [.s (.int n)] => some (s_spec_l20Curve r1 r2 n)
  | _, _ => none
def sig_spec_l20Curve : FuncId → List AV → Option Sg := sigL []
def xs_spec_l20Curve : XS := ⟨xsigL [(71, g_spec_l20Rd_pick), (72, g_spec_l20Point), (97, g_spec_l20Rd_odd)], ysigL []⟩
theorem sig_spec_l20Curve_ok : SigOK sig_spec_l20Curve := sigL_nil
theorem xs_spec_l20Curve_ok : XSigOK xs_spec_l20Curve := ⟨xsigL_cons F_spec_l20Rd_pick (xsigL_cons F_spec_l20Point (xsigL_cons F_spec_l20Rd_odd xsigL_nil)), ysigL_nil⟩
theorem V_spec_l20Curve (r1 : Int) (r2 : Int) (n : Int) : ((true = true) ∧ ((True) ∧ True) ∧ (true = true) ∧ ((True) ∧ (True) ∧ True) ∧ (true = true) ∧ ((True) ∧ True) ∧ (true = true) ∧ ((r1 ≤ 2000 ∧ 0 ≤ r2 ∧ r2 ≤ 1000000)) ∧ (∀ k_12 : Int, ((pickP (4 : Int) k_12) → ((True) ∧ (True) ∧ ∃ (I1 : List GV → Prop) (μ1 : List GV → Nat), (((true = true) ∧ ((((iadd (1 : Int) (k_12)) : Int) = (iadd (1 : Int) (k_12))) ∧ (((iadd (1 : Int) (k_12)) : Int) = (iadd (1 : Int) (k_12))) ∧ (((k_12) : Int) = (k_12)) ∧ (true = true) ∧ (true = true) ∧ (true = true) ∧ (true = true) ∧ ((n : Int) = n) ∧ True) ∧ ((((r1 : Int) = r1) ∧ (((r2 + 1) : Int) = (r2 + 1)) ∧ True) ∧ ((true = true) ∧ ((Cont.pts []) = (Cont.pts []))) ∧ ((true = true) ∧ ((Cont.pts []) = (Cont.pts []))) ∧ True)) ∧ (([GK.int, GK.pts, GK.int] : List GK) = ([GK.int, GK.pts, GK.int] : List GK)) ∧ I1 [GV.int (iadd (1 : Int) (k_12)), GV.pts [], GV.int (r2 + 1)]) ∧ (∀ i1_0 : Int, ∀ l1_1 : List Pt, ∀ i1_2 : Int, I1 [GV.int i1_0, GV.pts l1_1, GV.int i1_2] → ((true = true) ∧ ((True) ∧ (True) ∧ True) ∧ ((ilt (0 : Int) i1_0) = true → ((true = true) ∧ ((True) ∧ (True) ∧ True) ∧ (true = true) ∧ ((r1 ≤ 2000 ∧ 0 ≤ i1_2 ∧ i1_2 ≤ 900000 ∧ -1000000 ≤ (0 : Int) ∧ (0 : Int) ≤ 1000000)) ∧ (∀ x_13 : Int, ∀ y_14 : Int, ∀ q_15 : Int, ((-10001 ≤ x_13 ∧ x_13 ≤ 10001 ∧ -10000 ≤ y_14 ∧ y_14 ≤ 10000 ∧ ((0 : Int) ≤ 0 → -10000 ≤ x_13 ∧ x_13 ≤ 10000) ∧ i1_2 ≤ q_15 ∧ q_15 ≤ i1_2 + 10) → ((True) ∧ (NLe (ilen l1_1) 1000000000 ∧ NLe (ilen [((x_13), (y_14))]) 1000000000) ∧ (True) ∧ (true = true) ∧ ((True) ∧ (True) ∧ (True) ∧ True) ∧ ((true = true) ∧ ((((isub i1_0 (1 : Int)) : Int) = (isub i1_0 (1 : Int))) ∧ (((iadd (1 : Int) (k_12)) : Int) = (iadd (1 : Int) (k_12))) ∧ (((k_12) : Int) = (k_12)) ∧ (true = true) ∧ (true = true) ∧ (true = true) ∧ (true = true) ∧ ((n : Int) = n) ∧ True) ∧ ((((r1 : Int) = r1) ∧ (((q_15) : Int) = (q_15)) ∧ True) ∧ ((true = true) ∧ ((Cont.pts (iapp l1_1 [((x_13), (y_14))])) = (Cont.pts (iapp l1_1 [((x_13), (y_14))])))) ∧ ((true = true) ∧ ((Cont.pts []) = (Cont.pts []))) ∧ True)) ∧ ((([GK.int, GK.pts, GK.int] : List GK) = ([GK.int, GK.pts, GK.int] : List GK)) ∧ I1 [GV.int (isub i1_0 (1 : Int)), GV.pts (iapp l1_1 [((x_13), (y_14))]), GV.int (q_15)] ∧ μ1 [GV.int (isub i1_0 (1 : Int)), GV.pts (iapp l1_1 [((x_13), (y_14))]), GV.int (q_15)] < μ1 [GV.int i1_0, GV.pts l1_1, GV.int i1_2])))))) ∧ ((ilt (0 : Int) i1_0) = false → ((true = true) ∧ ((True) ∧ (True) ∧ True) ∧ (true = true) ∧ ((r1 ≤ 2000 ∧ 0 ≤ i1_2 ∧ i1_2 ≤ 1000000 ∧ -1000000 ≤ n ∧ n ≤ 1000000)) ∧ (∀ b_16 : Bool, ∀ q_17 : Int, (((n ≤ 0 → b_16 = false) ∧ i1_2 ≤ q_17 ∧ q_17 ≤ i1_2 + 1) → (((b_16) = true → ((true = true) ∧ ((True) ∧ True) ∧ (true = true) ∧ ((r1 ≤ 2000 ∧ 0 ≤ (q_17) ∧ (q_17) ≤ 1000000)) ∧ (∀ k_18 : Int, ((pickP (3 : Int) k_18) → ((true = true) ∧ ((True) ∧ (True) ∧ True) ∧ ((ieq (k_18) (0 : Int)) = true → ((true = true) ∧ ((True) ∧ (True) ∧ True) ∧ (true = true) ∧ ((True) ∧ (True) ∧ True) ∧ ∃ l : List Pt, ∃ q : Int, ((ilen l ≤ 5 ∧ r2 ≤ q ∧ q ≤ r2 + 100) ∧ (((true = true) ∧ ((Cont.pts []) = (Cont.pts (l)))) ∧ True) ∧ ((true = true) ∧ (true = true) ∧ ((r1 : Int) = r1) ∧ ((((q_17) + 1) : Int) = (q)) ∧ True)))) ∧ ((ieq (k_18) (0 : Int)) = false → ((true = true) ∧ ((True) ∧ (True) ∧ True) ∧ ((ieq (k_18) (1 : Int)) = true → ((true = true) ∧ ((True) ∧ (True) ∧ True) ∧ (true = true) ∧ ((r1 ≤ 2000 ∧ 0 ≤ ((q_17) + 1) ∧ ((q_17) + 1) ≤ 900000 ∧ -1000000 ≤ (1 : Int) ∧ (1 : Int) ≤ 1000000)) ∧ (∀ x_19 : Int, ∀ y_20 : Int, ∀ q_21 : Int, ((-10001 ≤ x_19 ∧ x_19 ≤ 10001 ∧ -10000 ≤ y_20 ∧ y_20 ≤ 10000 ∧ ((1 : Int) ≤ 0 → -10000 ≤ x_19 ∧ x_19 ≤ 10000) ∧ ((q_17) + 1) ≤ q_21 ∧ q_21 ≤ ((q_17) + 1) + 10) → ((NLe 0 (0 : Int) ∧ NLt (0 : Int) (ilen l1_1)) ∧ (NLt (0 : Int) (ilen l1_1)) ∧ (true = true) ∧ ((True) ∧ (True) ∧ True) ∧ ∃ l : List Pt, ∃ q : Int, ((ilen l ≤ 5 ∧ r2 ≤ q ∧ q ≤ r2 + 100) ∧ (((true = true) ∧ ((Cont.pts (setp l1_1 (0 : Int) (x_19) (y_20))) = (Cont.pts (l)))) ∧ True) ∧ ((true = true) ∧ (true = true) ∧ ((r1 : Int) = r1) ∧ (((q_21) : Int) = (q)) ∧ True))))))) ∧ ((ieq (k_18) (1 : Int)) = false → ((true = true) ∧ ((NLe 0 (5 : Int) ∧ NLe (5 : Int) 100000000 ∧ NIs (ieq (5 : Int) (5 : Int)) true) ∧ (True) ∧ True) ∧ (true = true) ∧ ((True) ∧ (True) ∧ True) ∧ ∃ l : List Pt, ∃ q : Int, ((ilen l ≤ 5 ∧ r2 ≤ q ∧ q ≤ r2 + 100) ∧ (((true = true) ∧ ((Cont.pts (irep (5 : Int) (0, 0))) = (Cont.pts (l)))) ∧ True) ∧ ((true = true) ∧ (true = true) ∧ ((r1 : Int) = r1) ∧ ((((q_17) + 1) : Int) = (q)) ∧ True))))))))))) ∧ ((b_16) = false → ((true = true) ∧ ((True) ∧ (True) ∧ True) ∧ ∃ l : List Pt, ∃ q : Int, ((ilen l ≤ 5 ∧ r2 ≤ q ∧ q ≤ r2 + 100) ∧ (((true = true) ∧ ((Cont.pts l1_1) = (Cont.pts (l)))) ∧ True) ∧ ((true = true) ∧ (true = true) ∧ ((r1 : Int) = r1) ∧ (((q_17) : Int) = (q)) ∧ True))))))))))))))) = (fun sg => ev sig_spec_l20Curve xs_spec_l20Curve Try.f74.ntmps (fun b => if b == 0 then [.v 6, .b 5, .b 0] else []) (codeOf Try.f74) 0 (initX (.box [.rdr r1, .int r2]) [.s (.int n)]) (retX Try.f74.results.toList sg.kinds sg.post sg.ret sg.out)) (s_spec_l20Curve r1 r2 n) := by kernel_rfl
set_option maxHeartbeats 4000000 in
theorem F_spec_l20Curve : FunX 74 g_spec_l20Curve := by
  refine fun_X (by kernel_rfl) Try.func74 rfl (by kernel_rfl) sig_spec_l20Curve_ok xs_spec_l20Curve_ok ?_
  intro bx avs sg h hn hl hlb
  unfold g_spec_l20Curve at h
  split at h
  · rename_i r1 r2 n
    injection h with h; subst h
    refine ⟨by kernel_rfl, fun b => if b == 0 then [.v 6, .b 5, .b 0] else [], Eq.mp (V_spec_l20Curve r1 r2 n) ?_⟩
    simp only [true_and, and_true, implies_true, and_self, forall_const, true_implies, lenA, lenL, SV.lenOK, Cont.lenOK, lenB, s_spec_l20Curve] at hn hl hlb ⊢
    simp only [ilt_t, ilt_f, ile_t, ile_f, ieq_t, ieq_f, bnot_e, band_e, bite_and, bite_or, NLt_e, NLe_e, NNe_e, NIs_e, imax_e, imin_e, irem_e, Bool.not_eq_true', Bool.not_eq_false', Bool.and_eq_true, Bool.or_eq_true, Bool.or_eq_false_iff, Bool.and_eq_false_iff, Cont.pts.injEq, Cont.ints.injEq, Cont.bools.injEq, Cont.ptss.injEq, Cont.intss.injEq, Cont.boolss.injEq, true_and, and_true, implies_true, pickP]
    refine ⟨by omega, fun k0 hk0 => ?_⟩
    refine ⟨fun | [.int k, .pts l, .int q] => 0 ≤ k ∧ ilen l + k ≤ 4 ∧ (k = 0 → 1 ≤ ilen l) ∧ r2 ≤ q ∧ q + 10 * k ≤ r2 + 41 | _ => False, fun | .int k :: _ => k.toNat | _ => 0, ?_, ?_⟩
    · rw [iadd_e (by omega) (by omega)]
      exact ⟨by omega, by rw [ilen_nil]; omega, by omega, by omega, by omega⟩
    · rintro k l q ⟨h1, h2, h3, h4, h5⟩
      have l0 := ilen_0 l
      simp only [ilt_t, ilt_f, ile_t, ile_f, ieq_t, ieq_f, bnot_e, band_e, bite_and, bite_or, NLt_e, NLe_e, NNe_e, NIs_e, imax_e, imin_e, irem_e, Bool.not_eq_true', Bool.not_eq_false', Bool.and_eq_true, Bool.or_eq_true, Bool.or_eq_false_iff, Bool.and_eq_false_iff, Cont.pts.injEq, Cont.ints.injEq, Cont.bools.injEq, Cont.ptss.injEq, Cont.intss.injEq, Cont.boolss.injEq, true_and, and_true, implies_true, pickP, iadd_u, isub_u, imul_u, ineg_u, ilen_cons, ilen_nil, geti_cons, geti_nil, exists_and_left, exists_and_right, exists_eq_left, exists_eq_left', exists_eq_right, exists_eq_right', ilen_app, ilen_one, ilen_setp, ilen_rep, Int.sub_zero] at *
      repeat' (first | (intro _) | (refine ⟨_, _, ?_, rfl, rfl⟩) | (apply And.intro) | omega | (simp only [ilen_nil, ilen_setp, ilen_app, ilen_one, ilen_cons]) | (rw [ilen_rep _ (by omega)]) | split)
      all_goals (first | (simp_all; done) | (simp_all; omega))
  · cases h
def s_spec_DrawCurveValid (n : Int) : SgY := ⟨n ≤ 1048576, [.pts], (fun | [.pts l] => ilen l ≤ 5 | _ => False), (fun | [.pts l] => [.s (.view (.pts (l)))] | _ => [])⟩
def g_spec_DrawCurveValid : List AV → Option SgY
  | [.s (.rdr n)] => some (s_spec_DrawCurveValid n)
  | _ => none
def sig_spec_DrawCurveValid : FuncId → List AV → Option Sg := sigL [(70, g_spec_l20Open)]
def xs_spec_DrawCurveValid : XS := ⟨xsigL [(74, g_spec_l20Curve)], ysigL []⟩
theorem sig_spec_DrawCurveValid_ok : SigOK sig_spec_DrawCurveValid := sigL_cons F_spec_l20Open sigL_nil
theorem xs_spec_DrawCurveValid_ok : XSigOK xs_spec_DrawCurveValid := ⟨xsigL_cons F_spec_l20Curve xsigL_nil, ysigL_nil⟩
theorem V_spec_DrawCurveValid (n : Int) : ((true = true) ∧ ((True) ∧ True) ∧ (true = true) ∧ ((True) ∧ ((n ≤ 1048576)) ∧ True) ∧ (true = true) ∧ (((if n ≤ 2000 then n else 2000) ≤ 2000 ∧ 0 ≤ ((0 : Int)) ∧ ((0 : Int)) ≤ 100000 ∧ -1000000 ≤ (2 : Int) ∧ (2 : Int) ≤ 1000000)) ∧ (∀ l_22 : List Pt, ∀ q_23 : Int, ((ilen l_22 ≤ 5 ∧ ((0 : Int)) ≤ q_23 ∧ q_23 ≤ ((0 : Int)) + 100) → ((True) ∧ ∃ l : List Pt, ((ilen l ≤ 5) ∧ (((Cont.pts (l_22)) = (Cont.pts (l))) ∧ True)))))) = (fun sg => ev sig_spec_DrawCurveValid xs_spec_DrawCurveValid Try.f25.ntmps (fun b => []) (codeOf Try.f25) 0 (initS [.s (.rdr n)]) (retY Try.f25.results.toList sg.kinds sg.post sg.ret)) (s_spec_DrawCurveValid n) := by kernel_rfl
set_option maxHeartbeats 400000 in
theorem F_spec_DrawCurveValid : FunY 25 g_spec_DrawCurveValid := by
  refine fun_Y (by kernel_rfl) Try.func25 rfl (by kernel_rfl) sig_spec_DrawCurveValid_ok xs_spec_DrawCurveValid_ok ?_
  intro avs sg h hn hl
  unfold g_spec_DrawCurveValid at h
  split at h
  · rename_i n
    injection h with h; subst h
    refine ⟨by kernel_rfl, fun b => [], Eq.mp (V_spec_DrawCurveValid n) ?_⟩
    simp only [true_and, and_true, implies_true, and_self, forall_const, true_implies, lenA, lenL, SV.lenOK, Cont.lenOK, s_spec_DrawCurveValid] at hn hl ⊢
    refine ⟨hn, ?_, fun l q h => ⟨_, h.1, rfl⟩⟩
    split <;> omega
  · cases h
theorem inB_eq (n lo hi : Int) : inB n lo hi = (ile lo n && ile n hi) := by
  unfold inB ile
  by_cases h1 : lo ≤ n <;> by_cases h2 : n ≤ hi <;> simp [h1, h2]
def g_impl_within : List AV → Option Sg
  | [.s (.int n), .s (.int lo), .s (.int hi)] => some ⟨True, [.s (.bool (inB n lo hi))]⟩
  | _ => none
def sig_impl_within : FuncId → List AV → Option Sg := sigL []
def xs_impl_within : XS := ⟨xsigL [], ysigL []⟩
theorem sig_impl_within_ok : SigOK sig_impl_within := sigL_nil
theorem xs_impl_within_ok : XSigOK xs_impl_within := ⟨xsigL_nil, ysigL_nil⟩
theorem V_impl_within (n : Int) (lo : Int) (hi : Int) : ((true = true) ∧ ((True) ∧ True) ∧ (true = true) ∧ ((True) ∧ (True) ∧ (True) ∧ (True) ∧ (NIs (ile lo n) true → True) ∧ (NIs (ile lo n) true → True) ∧ (NIs (ile lo n) true → True) ∧ (True) ∧ (True) ∧ True) ∧ (((bite (ile lo n) (ile n hi) false) : Bool) = (inB n lo hi)) ∧ True) = ev sig_impl_within xs_impl_within Try.f68.ntmps (fun b => []) (codeOf Try.f68) 0 (initS [.s (.int n), .s (.int lo), .s (.int hi)]) (retK Try.f68.results.toList [.s (.bool (inB n lo hi))]) := by kernel_rfl
set_option maxHeartbeats 400000 in
theorem F_impl_within : FunOK 68 g_impl_within := by
  refine fun_F (by kernel_rfl) Try.func68 rfl (by kernel_rfl) sig_impl_within_ok xs_impl_within_ok ?_
  intro avs sg h hn hl
  unfold g_impl_within at h
  split at h
  · rename_i n lo hi
    injection h with h; subst h
    refine ⟨by kernel_rfl, fun b => [], Eq.mp (V_impl_within n lo hi) ?_⟩
    simp only [true_and, and_true, implies_true, and_self, forall_const, true_implies, lenA, lenL, SV.lenOK, Cont.lenOK] at hn hl ⊢
    simp only [bite_and, inB_eq]
  · cases h
def g_impl_PointValid : List AV → Option Sg
  | [.agg [.int p1, .int p2]] => some ⟨True, [.s (.bool (vB p1 p2))]⟩
  | _ => none
def sig_impl_PointValid : FuncId → List AV → Option Sg := sigL [(68, g_impl_within)]
def xs_impl_PointValid : XS := ⟨xsigL [], ysigL []⟩
theorem sig_impl_PointValid_ok : SigOK sig_impl_PointValid := sigL_cons F_impl_within sigL_nil
theorem xs_impl_PointValid_ok : XSigOK xs_impl_PointValid := ⟨xsigL_nil, ysigL_nil⟩
theorem V_impl_PointValid (p1 : Int) (p2 : Int) : ((true = true) ∧ ((True) ∧ (True) ∧ True) ∧ (true = true) ∧ ((True) ∧ (True) ∧ ((True)) ∧ (True) ∧ (NIs (inB p1 (-10000 : Int) (10000 : Int)) true → True) ∧ (NIs (inB p1 (-10000 : Int) (10000 : Int)) true → True) ∧ (NIs (inB p1 (-10000 : Int) (10000 : Int)) true → (True)) ∧ (True) ∧ (True) ∧ True) ∧ (((bite (inB p1 (-10000 : Int) (10000 : Int)) (inB p2 (-10000 : Int) (10000 : Int)) false) : Bool) = (vB p1 p2)) ∧ True) = ev sig_impl_PointValid xs_impl_PointValid Try.f24.ntmps (fun b => []) (codeOf Try.f24) 0 (initS [.agg [.int p1, .int p2]]) (retK Try.f24.results.toList [.s (.bool (vB p1 p2))]) := by kernel_rfl
set_option maxHeartbeats 400000 in
theorem F_impl_PointValid : FunOK 24 g_impl_PointValid := by
  refine fun_F (by kernel_rfl) Try.func24 rfl (by kernel_rfl) sig_impl_PointValid_ok xs_impl_PointValid_ok ?_
  intro avs sg h hn hl
  unfold g_impl_PointValid at h
  split at h
  · rename_i p1 p2
    injection h with h; subst h
    refine ⟨by kernel_rfl, fun b => [], Eq.mp (V_impl_PointValid p1 p2) ?_⟩
    simp only [true_and, and_true, implies_true, and_self, forall_const, true_implies, lenA, lenL, SV.lenOK, Cont.lenOK] at hn hl ⊢
    simp only [bite_and, vB]
  · cases h
def crW (a1 a2 b1 b2 c1 c2 : Int) : Int := isub (imul (isub b1 a1) (isub c2 a2)) (imul (isub b2 a2) (isub c1 a1))
def cr (l : List Pt) (i j k : Int) : Int := crW (getx l i) (gety l i) (getx l j) (gety l j) (getx l k) (gety l k)
def nx (l : List Pt) (i : Int) : Int := (i + 1).tmod (ilen l)
def convE (l : List Pt) (i j : Int) : Bool := decide (j = i ∨ j = nx l i ∨ 0 < cr l i (nx l i) j)
def convB (l : List Pt) : Bool := inB (ilen l) 3 8 && allB l && allN (ilen l) fun i => allN (ilen l) fun j => convE l i j
theorem nx_in {l : List Pt} {i : Int} (h0 : 0 ≤ i) (h1 : i < ilen l) : 0 ≤ nx l i ∧ nx l i < ilen l ∧ ((i + 1 < ilen l ∧ nx l i = i + 1) ∨ (i + 1 = ilen l ∧ nx l i = 0)) := by
  have e : nx l i = (i + 1) % ilen l := Int.tmod_eq_emod_of_nonneg (by omega)
  rcases Int.lt_or_le (i + 1) (ilen l) with h | h
  · rw [e, Int.emod_eq_of_lt (by omega) h]; omega
  · have h2 : i + 1 = ilen l := by omega
    rw [e, h2, Int.emod_self]; omega
theorem allN_up {f : Int → Bool} {k : Int} (h : ∀ j, 0 ≤ j → j < k → f j = true) (hk : f k = true) : ∀ j, 0 ≤ j → j < k + 1 → f j = true := by
  intro j h0 h1
  rcases Int.lt_or_le j k with h2 | h2
  · exact h j h0 h2
  · rw [show j = k by omega]; exact hk
theorem upTo {P : Int → Prop} {k : Int} (h : ∀ j, 0 ≤ j → j < k → P j) (hk : P k) : ∀ j, 0 ≤ j → j < k + 1 → P j := by
  intro j h0 h1
  rcases Int.lt_or_le j k with h2 | h2
  · exact h j h0 h2
  · rw [show j = k by omega]; exact hk
theorem iadd_1 {k n : Int} (h0 : 0 ≤ k) (h1 : k < n) (h2 : n ≤ 9223372036854775807) : iadd k 1 = k + 1 := iadd_e (by omega) (by omega)
def g_impl_allPoints : List AV → Option Sg
  | [.s (.view (.pts l))] => some ⟨True, [.s (.bool (allB l))]⟩
  | _ => none
def sig_impl_allPoints : FuncId → List AV → Option Sg := sigL [(24, g_impl_PointValid)]
def xs_impl_allPoints : XS := ⟨xsigL [], ysigL []⟩
theorem sig_impl_allPoints_ok : SigOK sig_impl_allPoints := sigL_cons F_impl_PointValid sigL_nil
theorem xs_impl_allPoints_ok : XSigOK xs_impl_allPoints := ⟨xsigL_nil, ysigL_nil⟩
theorem V_impl_allPoints (l : List Pt) : ((true = true) ∧ ((True) ∧ True) ∧ (true = true) ∧ ((True) ∧ (True) ∧ (True) ∧ True) ∧ ∃ (I1 : List GV → Prop) (μ1 : List GV → Nat), (((true = true) ∧ (((false : Bool) = false) ∧ (((0 : Int) : Int) = (0 : Int)) ∧ ((Cont.pts l) = (Cont.pts l)) ∧ (((ilen l) : Int) = (ilen l)) ∧ ((Cont.pts l) = (Cont.pts l)) ∧ True) ∧ (True)) ∧ (([GK.int, GK.bool] : List GK) = ([GK.int, GK.bool] : List GK)) ∧ I1 [GV.int (0 : Int), GV.bool false]) ∧ (∀ i1_0 : Int, ∀ b1_1 : Bool, I1 [GV.int i1_0, GV.bool b1_1] → ((true = true) ∧ ((True) ∧ True) ∧ ((ilt i1_0 (ilen l)) = true → ((true = true) ∧ ((NLe 0 i1_0 ∧ NLt i1_0 (ilen l)) ∧ (True) ∧ (True) ∧ True) ∧ (True) ∧ (true = true) ∧ ((True) ∧ ((True)) ∧ (True) ∧ True) ∧ ((bnot (vB (getx l i1_0) (gety l i1_0))) = true → ((true = true) ∧ ((True) ∧ True) ∧ ((false : Bool) = (allB l)) ∧ True)) ∧ ((bnot (vB (getx l i1_0) (gety l i1_0))) = false → ((true = true) ∧ ((True) ∧ (True) ∧ True) ∧ ((true = true) ∧ (((b1_1 : Bool) = b1_1) ∧ (((iadd i1_0 (1 : Int)) : Int) = (iadd i1_0 (1 : Int))) ∧ ((Cont.pts l) = (Cont.pts l)) ∧ (((ilen l) : Int) = (ilen l)) ∧ ((Cont.pts l) = (Cont.pts l)) ∧ True) ∧ (True)) ∧ ((([GK.int, GK.bool] : List GK) = ([GK.int, GK.bool] : List GK)) ∧ I1 [GV.int (iadd i1_0 (1 : Int)), GV.bool b1_1] ∧ μ1 [GV.int (iadd i1_0 (1 : Int)), GV.bool b1_1] < μ1 [GV.int i1_0, GV.bool b1_1]))))) ∧ ((ilt i1_0 (ilen l)) = false → ((true = true) ∧ ((True) ∧ True) ∧ ((true : Bool) = (allB l)) ∧ True))))) = ev sig_impl_allPoints xs_impl_allPoints Try.f69.ntmps (fun b => if b == 0 then [.v 7, .v 2] else []) (codeOf Try.f69) 0 (initS [.s (.view (.pts l))]) (retK Try.f69.results.toList [.s (.bool (allB l))]) := by kernel_rfl
set_option maxHeartbeats 400000 in
theorem F_impl_allPoints : FunOK 69 g_impl_allPoints := by
  refine fun_F (by kernel_rfl) Try.func69 rfl (by kernel_rfl) sig_impl_allPoints_ok xs_impl_allPoints_ok ?_
  intro avs sg h hn hl
  unfold g_impl_allPoints at h
  split at h
  · rename_i l
    injection h with h; subst h
    refine ⟨by kernel_rfl, fun b => if b == 0 then [.v 7, .v 2] else [], Eq.mp (V_impl_allPoints l) ?_⟩
    simp only [true_and, and_true, implies_true, and_self, forall_const, true_implies, lenA, lenL, SV.lenOK, Cont.lenOK] at hn hl ⊢
    have h0 := ilen_0 l
    simp only [ilt_t, ilt_f, ile_t, ile_f, ieq_t, ieq_f, bnot_e, band_e, bite_and, bite_or, NLt_e, NLe_e, NNe_e, NIs_e, imax_e, imin_e, irem_e, Bool.not_eq_true', Bool.not_eq_false', Bool.and_eq_true, Bool.or_eq_true, Bool.or_eq_false_iff, Bool.and_eq_false_iff, Cont.pts.injEq, Cont.ints.injEq, Cont.bools.injEq, Cont.ptss.injEq, Cont.intss.injEq, Cont.boolss.injEq, true_and, and_true, implies_true]
    refine ⟨fun | .int k :: _ => 0 ≤ k ∧ k ≤ ilen l ∧ (∀ j, 0 ≤ j → j < k → vB (getx l j) (gety l j) = true) | _ => False, fun | .int k :: _ => (ilen l - k).toNat | _ => 0, ?_, ?_⟩
    · exact ⟨Int.le_refl 0, h0, fun j h0 h1 => absurd h1 (by omega)⟩
    · rintro k _ ⟨hk0, hk1, hk⟩
      simp only [ilt_t, ilt_f, ile_t, ile_f, ieq_t, ieq_f, bnot_e, band_e, bite_and, bite_or, NLt_e, NLe_e, NNe_e, NIs_e, imax_e, imin_e, irem_e, Bool.not_eq_true', Bool.not_eq_false', Bool.and_eq_true, Bool.or_eq_true, Bool.or_eq_false_iff, Bool.and_eq_false_iff, Cont.pts.injEq, Cont.ints.injEq, Cont.bools.injEq, Cont.ptss.injEq, Cont.intss.injEq, Cont.boolss.injEq, true_and, and_true, implies_true]
      refine ⟨fun hc => ⟨⟨hk0, hc⟩, fun hv => ?_, fun hv => ?_⟩, fun hc => ?_⟩
      · rw [allB_N, allN_no k hk0 hc hv]
      · rw [iadd_1 hk0 hc hl]
        exact ⟨⟨by omega, by omega, allN_up hk hv⟩, by omega⟩
      · rw [allB_N, allN_mk fun j h0 h1 => hk j h0 (by omega)]
  · cases h
def crvB (l : List Pt) : Bool := inB (ilen l) 1 4 && allB l
def g_impl_CurveValid : List AV → Option Sg
  | [.s (.view (.pts l))] => some ⟨True, [.s (.bool (crvB l))]⟩
  | _ => none
def sig_impl_CurveValid : FuncId → List AV → Option Sg := sigL [(68, g_impl_within), (69, g_impl_allPoints)]
def xs_impl_CurveValid : XS := ⟨xsigL [], ysigL []⟩
theorem sig_impl_CurveValid_ok : SigOK sig_impl_CurveValid := sigL_cons F_impl_within (sigL_cons F_impl_allPoints sigL_nil)
theorem xs_impl_CurveValid_ok : XSigOK xs_impl_CurveValid := ⟨xsigL_nil, ysigL_nil⟩
theorem V_impl_CurveValid (l : List Pt) : ((true = true) ∧ ((True) ∧ True) ∧ (true = true) ∧ ((True) ∧ (True) ∧ ((True)) ∧ (True) ∧ (NIs (inB (ilen l) (1 : Int) (4 : Int)) true → True) ∧ (NIs (inB (ilen l) (1 : Int) (4 : Int)) true → (True)) ∧ (True) ∧ (True) ∧ True) ∧ (((bite (inB (ilen l) (1 : Int) (4 : Int)) (allB l) false) : Bool) = (crvB l)) ∧ True) = ev sig_impl_CurveValid xs_impl_CurveValid Try.f26.ntmps (fun b => []) (codeOf Try.f26) 0 (initS [.s (.view (.pts l))]) (retK Try.f26.results.toList [.s (.bool (crvB l))]) := by kernel_rfl
set_option maxHeartbeats 400000 in
theorem F_impl_CurveValid : FunOK 26 g_impl_CurveValid := by
  refine fun_F (by kernel_rfl) Try.func26 rfl (by kernel_rfl) sig_impl_CurveValid_ok xs_impl_CurveValid_ok ?_
  intro avs sg h hn hl
  unfold g_impl_CurveValid at h
  split at h
  · rename_i l
    injection h with h; subst h
    refine ⟨by kernel_rfl, fun b => [], Eq.mp (V_impl_CurveValid l) ?_⟩
    simp only [true_and, and_true, implies_true, and_self, forall_const, true_implies, lenA, lenL, SV.lenOK, Cont.lenOK] at hn hl ⊢
    simp only [ilt_t, ilt_f, ile_t, ile_f, ieq_t, ieq_f, bnot_e, band_e, bite_and, bite_or, NLt_e, NLe_e, NNe_e, NIs_e, imax_e, imin_e, irem_e, Bool.not_eq_true', Bool.not_eq_false', Bool.and_eq_true, Bool.or_eq_true, Bool.or_eq_false_iff, Bool.and_eq_false_iff, Cont.pts.injEq, Cont.ints.injEq, Cont.bools.injEq, Cont.ptss.injEq, Cont.intss.injEq, Cont.boolss.injEq, true_and, and_true, implies_true]
    rfl
  · cases h
def g_spec_l1In : List AV → Option Sg
  | [.s (.int n), .s (.int lo), .s (.int hi)] => some ⟨True, [.s (.bool (inB n lo hi))]⟩
  | _ => none
def sig_spec_l1In : FuncId → List AV → Option Sg := sigL []
def xs_spec_l1In : XS := ⟨xsigL [], ysigL []⟩
theorem sig_spec_l1In_ok : SigOK sig_spec_l1In := sigL_nil
theorem xs_spec_l1In_ok : XSigOK xs_spec_l1In := ⟨xsigL_nil, ysigL_nil⟩
theorem V_spec_l1In (n : Int) (lo : Int) (hi : Int) : ((true = true) ∧ ((True) ∧ True) ∧ (true = true) ∧ ((True) ∧ (True) ∧ (True) ∧ (True) ∧ (NIs (ile lo n) true → True) ∧ (NIs (ile lo n) true → True) ∧ (NIs (ile lo n) true → True) ∧ (True) ∧ (True) ∧ True) ∧ (((bite (ile lo n) (ile n hi) false) : Bool) = (inB n lo hi)) ∧ True) = ev sig_spec_l1In xs_spec_l1In Try.f67.ntmps (fun b => []) (codeOf Try.f67) 0 (initS [.s (.int n), .s (.int lo), .s (.int hi)]) (retK Try.f67.results.toList [.s (.bool (inB n lo hi))]) := by kernel_rfl
set_option maxHeartbeats 400000 in
theorem F_spec_l1In : FunOK 67 g_spec_l1In := by
  refine fun_F (by kernel_rfl) Try.func67 rfl (by kernel_rfl) sig_spec_l1In_ok xs_spec_l1In_ok ?_
  intro avs sg h hn hl
  unfold g_spec_l1In at h
  split at h
  · rename_i n lo hi
    injection h with h; subst h
    refine ⟨by kernel_rfl, fun b => [], Eq.mp (V_spec_l1In n lo hi) ?_⟩
    simp only [true_and, and_true, implies_true, and_self, forall_const, true_implies, lenA, lenL, SV.lenOK, Cont.lenOK] at hn hl ⊢
    simp only [bite_and, inB_eq]
  · cases h
def g_spec_PointValid : List AV → Option Sg
  | [.agg [.int p1, .int p2]] => some ⟨True, [.s (.bool (vB p1 p2))]⟩
  | _ => none
def sig_spec_PointValid : FuncId → List AV → Option Sg := sigL [(67, g_spec_l1In)]
def xs_spec_PointValid : XS := ⟨xsigL [], ysigL []⟩
theorem sig_spec_PointValid_ok : SigOK sig_spec_PointValid := sigL_cons F_spec_l1In sigL_nil
theorem xs_spec_PointValid_ok : XSigOK xs_spec_PointValid := ⟨xsigL_nil, ysigL_nil⟩
theorem V_spec_PointValid (p1 : Int) (p2 : Int) : ((true = true) ∧ ((True) ∧ (True) ∧ True) ∧ (true = true) ∧ ((True) ∧ (True) ∧ ((True)) ∧ (True) ∧ (NIs (inB p1 (-10000 : Int) (10000 : Int)) true → True) ∧ (NIs (inB p1 (-10000 : Int) (10000 : Int)) true → True) ∧ (NIs (inB p1 (-10000 : Int) (10000 : Int)) true → (True)) ∧ (True) ∧ (True) ∧ True) ∧ (((bite (inB p1 (-10000 : Int) (10000 : Int)) (inB p2 (-10000 : Int) (10000 : Int)) false) : Bool) = (vB p1 p2)) ∧ True) = ev sig_spec_PointValid xs_spec_PointValid Try.f37.ntmps (fun b => []) (codeOf Try.f37) 0 (initS [.agg [.int p1, .int p2]]) (retK Try.f37.results.toList [.s (.bool (vB p1 p2))]) := by kernel_rfl
set_option maxHeartbeats 400000 in
theorem F_spec_PointValid : FunOK 37 g_spec_PointValid := by
  refine fun_F (by kernel_rfl) Try.func37 rfl (by kernel_rfl) sig_spec_PointValid_ok xs_spec_PointValid_ok ?_
  intro avs sg h hn hl
  unfold g_spec_PointValid at h
  split at h
  · rename_i p1 p2
    injection h with h; subst h
    refine ⟨by kernel_rfl, fun b => [], Eq.mp (V_spec_PointValid p1 p2) ?_⟩
    simp only [true_and, and_true, implies_true, and_self, forall_const, true_implies, lenA, lenL, SV.lenOK, Cont.lenOK] at hn hl ⊢
    simp only [bite_and, vB]
  · cases h
def g_spec_CurveValid : List AV → Option Sg
  | [.s (.view (.pts l))] => some ⟨True, [.s (.bool (crvB l))]⟩
  | _ => none
def sig_spec_CurveValid : FuncId → List AV → Option Sg := sigL [(37, g_spec_PointValid), (67, g_spec_l1In)]
def xs_spec_CurveValid : XS := ⟨xsigL [], ysigL []⟩
theorem sig_spec_CurveValid_ok : SigOK sig_spec_CurveValid := sigL_cons F_spec_PointValid (sigL_cons F_spec_l1In sigL_nil)
theorem xs_spec_CurveValid_ok : XSigOK xs_spec_CurveValid := ⟨xsigL_nil, ysigL_nil⟩
theorem V_spec_CurveValid (l : List Pt) : ((true = true) ∧ ((True) ∧ True) ∧ (true = true) ∧ ((True) ∧ True) ∧ ∃ (I1 : List GV → Prop) (μ1 : List GV → Nat), (((true = true) ∧ (((false : Bool) = false) ∧ (((0 : Int) : Int) = (0 : Int)) ∧ ((Cont.pts l) = (Cont.pts l)) ∧ True) ∧ (True)) ∧ (([GK.int, GK.bool] : List GK) = ([GK.int, GK.bool] : List GK)) ∧ I1 [GV.int (0 : Int), GV.bool false]) ∧ (∀ i1_0 : Int, ∀ b1_1 : Bool, I1 [GV.int i1_0, GV.bool b1_1] → ((true = true) ∧ ((True) ∧ (True) ∧ (True) ∧ (True) ∧ True) ∧ ((ilt i1_0 (ilen l)) = true → ((true = true) ∧ ((True) ∧ (True) ∧ (NLe 0 i1_0 ∧ NLt i1_0 (ilen l)) ∧ (True) ∧ ((True)) ∧ (True) ∧ True) ∧ ((bnot (vB (getx l i1_0) (gety l i1_0))) = true → ((true = true) ∧ ((True) ∧ True) ∧ ((false : Bool) = (crvB l)) ∧ True)) ∧ ((bnot (vB (getx l i1_0) (gety l i1_0))) = false → ((true = true) ∧ ((True) ∧ (True) ∧ (True) ∧ True) ∧ ((true = true) ∧ (((b1_1 : Bool) = b1_1) ∧ (((iadd i1_0 (1 : Int)) : Int) = (iadd i1_0 (1 : Int))) ∧ ((Cont.pts l) = (Cont.pts l)) ∧ True) ∧ (True)) ∧ ((([GK.int, GK.bool] : List GK) = ([GK.int, GK.bool] : List GK)) ∧ I1 [GV.int (iadd i1_0 (1 : Int)), GV.bool b1_1] ∧ μ1 [GV.int (iadd i1_0 (1 : Int)), GV.bool b1_1] < μ1 [GV.int i1_0, GV.bool b1_1]))))) ∧ ((ilt i1_0 (ilen l)) = false → ((true = true) ∧ ((True) ∧ (True) ∧ ((True)) ∧ (True) ∧ True) ∧ (((inB (ilen l) (1 : Int) (4 : Int)) : Bool) = (crvB l)) ∧ True))))) = ev sig_spec_CurveValid xs_spec_CurveValid Try.f27.ntmps (fun b => if b == 0 then [.v 3, .v 2] else []) (codeOf Try.f27) 0 (initS [.s (.view (.pts l))]) (retK Try.f27.results.toList [.s (.bool (crvB l))]) := by kernel_rfl
set_option maxHeartbeats 400000 in
theorem F_spec_CurveValid : FunOK 27 g_spec_CurveValid := by
  refine fun_F (by kernel_rfl) Try.func27 rfl (by kernel_rfl) sig_spec_CurveValid_ok xs_spec_CurveValid_ok ?_
  intro avs sg h hn hl
  unfold g_spec_CurveValid at h
  split at h
  · rename_i l
    injection h with h; subst h
    refine ⟨by kernel_rfl, fun b => if b == 0 then [.v 3, .v 2] else [], Eq.mp (V_spec_CurveValid l) ?_⟩
    simp only [true_and, and_true, implies_true, and_self, forall_const, true_implies, lenA, lenL, SV.lenOK, Cont.lenOK] at hn hl ⊢
    have h0 := ilen_0 l
    simp only [ilt_t, ilt_f, ile_t, ile_f, ieq_t, ieq_f, bnot_e, band_e, bite_and, bite_or, NLt_e, NLe_e, NNe_e, NIs_e, imax_e, imin_e, irem_e, Bool.not_eq_true', Bool.not_eq_false', Bool.and_eq_true, Bool.or_eq_true, Bool.or_eq_false_iff, Bool.and_eq_false_iff, Cont.pts.injEq, Cont.ints.injEq, Cont.bools.injEq, Cont.ptss.injEq, Cont.intss.injEq, Cont.boolss.injEq, true_and, and_true, implies_true]
    refine ⟨fun | .int k :: _ => 0 ≤ k ∧ k ≤ ilen l ∧ (∀ j, 0 ≤ j → j < k → vB (getx l j) (gety l j) = true) | _ => False, fun | .int k :: _ => (ilen l - k).toNat | _ => 0, ?_, ?_⟩
    · exact ⟨Int.le_refl 0, h0, fun j h0 h1 => absurd h1 (by omega)⟩
    · rintro k _ ⟨hk0, hk1, hk⟩
      simp only [ilt_t, ilt_f, ile_t, ile_f, ieq_t, ieq_f, bnot_e, band_e, bite_and, bite_or, NLt_e, NLe_e, NNe_e, NIs_e, imax_e, imin_e, irem_e, Bool.not_eq_true', Bool.not_eq_false', Bool.and_eq_true, Bool.or_eq_true, Bool.or_eq_false_iff, Bool.and_eq_false_iff, Cont.pts.injEq, Cont.ints.injEq, Cont.bools.injEq, Cont.ptss.injEq, Cont.intss.injEq, Cont.boolss.injEq, true_and, and_true, implies_true]
      refine ⟨fun hc => ⟨⟨hk0, hc⟩, fun hv => ?_, fun hv => ?_⟩, fun hc => ?_⟩
      · unfold crvB; rw [allB_N, allN_no k hk0 hc hv]; simp
      · rw [iadd_1 hk0 hc hl]
        exact ⟨⟨by omega, by omega, allN_up hk hv⟩, by omega⟩
      · unfold crvB; rw [allB_N, allN_mk fun j h0 h1 => hk j h0 (by omega)]; simp
  · cases h
def degW (d : Int) : Int := irem (iadd (irem d 360) 360) 360
def g_impl_Degrees : List AV → Option Sg
  | [.s (.int d)] => some ⟨True, [.s (.int (degW d))]⟩
  | _ => none
def sig_impl_Degrees : FuncId → List AV → Option Sg := sigL []
def xs_impl_Degrees : XS := ⟨xsigL [], ysigL []⟩
theorem sig_impl_Degrees_ok : SigOK sig_impl_Degrees := sigL_nil
theorem xs_impl_Degrees_ok : XSigOK xs_impl_Degrees := ⟨xsigL_nil, ysigL_nil⟩
theorem V_impl_Degrees (d : Int) : ((true = true) ∧ ((True) ∧ True) ∧ (true = true) ∧ ((True) ∧ (NNe (360 : Int) 0) ∧ (True) ∧ (NNe (360 : Int) 0) ∧ (True) ∧ True) ∧ (((irem (iadd (irem d (360 : Int)) (360 : Int)) (360 : Int)) : Int) = (degW d)) ∧ True) = ev sig_impl_Degrees xs_impl_Degrees Try.f73.ntmps (fun b => []) (codeOf Try.f73) 0 (initS [.s (.int d)]) (retK Try.f73.results.toList [.s (.int (degW d))]) := by kernel_rfl
set_option maxHeartbeats 400000 in
theorem F_impl_Degrees : FunOK 73 g_impl_Degrees := by
  refine fun_F (by kernel_rfl) Try.func73 rfl (by kernel_rfl) sig_impl_Degrees_ok xs_impl_Degrees_ok ?_
  intro avs sg h hn hl
  unfold g_impl_Degrees at h
  split at h
  · rename_i d
    injection h with h; subst h
    refine ⟨by kernel_rfl, fun b => [], Eq.mp (V_impl_Degrees d) ?_⟩
    simp only [true_and, and_true, implies_true, and_self, forall_const, true_implies, lenA, lenL, SV.lenOK, Cont.lenOK] at hn hl ⊢
    simp only [ilt_t, ilt_f, ile_t, ile_f, ieq_t, ieq_f, bnot_e, band_e, bite_and, bite_or, NLt_e, NLe_e, NNe_e, NIs_e, imax_e, imin_e, irem_e, Bool.not_eq_true', Bool.not_eq_false', Bool.and_eq_true, Bool.or_eq_true, Bool.or_eq_false_iff, Bool.and_eq_false_iff, Cont.pts.injEq, Cont.ints.injEq, Cont.bools.injEq, Cont.ptss.injEq, Cont.intss.injEq, Cont.boolss.injEq, true_and, and_true, implies_true]
    exact ⟨by decide, by simp [degW, irem_e]⟩
  · cases h
def g_laws_alive : List AV → Option Sg
  | [] => some ⟨True, [.s (.bool (true))]⟩
  | _ => none
def sig_laws_alive : FuncId → List AV → Option Sg := sigL [(73, g_impl_Degrees)]
def xs_laws_alive : XS := ⟨xsigL [], ysigL []⟩
theorem sig_laws_alive_ok : SigOK sig_laws_alive := sigL_cons F_impl_Degrees sigL_nil
theorem xs_laws_alive_ok : XSigOK xs_laws_alive := ⟨xsigL_nil, ysigL_nil⟩
theorem V_laws_alive  : ((true = true) ∧ ((True) ∧ True) ∧ (true = true) ∧ (((True)) ∧ (True) ∧ (True) ∧ True) ∧ (((ieq (degW (-1 : Int)) (359 : Int)) : Bool) = (true)) ∧ True) = ev sig_laws_alive xs_laws_alive Try.f23.ntmps (fun b => []) (codeOf Try.f23) 0 (initS []) (retK Try.f23.results.toList [.s (.bool (true))]) := by kernel_rfl
set_option maxHeartbeats 400000 in
theorem F_laws_alive : FunOK 23 g_laws_alive := by
  refine fun_F (by kernel_rfl) Try.func23 rfl (by kernel_rfl) sig_laws_alive_ok xs_laws_alive_ok ?_
  intro avs sg h hn hl
  unfold g_laws_alive at h
  split at h
  ·
    injection h with h; subst h
    refine ⟨by kernel_rfl, fun b => [], Eq.mp (V_laws_alive ) ?_⟩
    simp only [true_and, and_true, implies_true, and_self, forall_const, true_implies, lenA, lenL, SV.lenOK, Cont.lenOK] at hn hl ⊢
    unfold ieq degW
    rw [irem_e, irem_e, iadd_e (by decide) (by decide)]
    decide
  · cases h
theorem bxor_self (a : Bool) : bxor a a = false := by cases a <;> simp [bxor]
def g_laws_FnCurveValid : List AV → Option Sg
  | [.s (.rdr n)] => some ⟨True, [.s (.bool (true))]⟩
  | _ => none
def sig_laws_FnCurveValid : FuncId → List AV → Option Sg := sigL [(26, nilG (.pts []) g_impl_CurveValid), (27, nilG (.pts []) g_spec_CurveValid), (23, g_laws_alive)]
def xs_laws_FnCurveValid : XS := ⟨xsigL [], ysigL [(25, g_spec_DrawCurveValid)]⟩
theorem sig_laws_FnCurveValid_ok : SigOK sig_laws_FnCurveValid := sigL_cons (FunOK.nil (c := .pts []) rfl F_impl_CurveValid) (sigL_cons (FunOK.nil (c := .pts []) rfl F_spec_CurveValid) (sigL_cons F_laws_alive sigL_nil))
theorem xs_laws_FnCurveValid_ok : XSigOK xs_laws_FnCurveValid := ⟨xsigL_nil, ysigL_cons F_spec_DrawCurveValid ysigL_nil⟩
theorem V_laws_FnCurveValid (n : Int) : ((true = true) ∧ ((True) ∧ True) ∧ (true = true) ∧ ((True) ∧ (True) ∧ (True) ∧ True) ∧ ((ilt (1048576 : Int) n) = true → ((true = true) ∧ ((True) ∧ True) ∧ ((true : Bool) = (true)) ∧ True)) ∧ ((ilt (1048576 : Int) n) = false → ((true = true) ∧ ((True) ∧ True) ∧ (true = true) ∧ ((n ≤ 1048576)) ∧ (∀ l_24 : List Pt, ((ilen l_24 ≤ 5) → ((True) ∧ (true = true) ∧ ((True) ∧ ((True)) ∧ (True) ∧ True) ∧ (true = true) ∧ ((True) ∧ (True) ∧ ((True)) ∧ (True) ∧ True) ∧ ((bxor (crvB (l_24)) (crvB (l_24))) = true → ((true = true) ∧ ((True) ∧ True) ∧ ((false : Bool) = (true)) ∧ True)) ∧ ((bxor (crvB (l_24)) (crvB (l_24))) = false → ((true = true) ∧ (((True)) ∧ (True) ∧ (True) ∧ (NIs (bnot (crvB [])) true → True) ∧ (NIs (bnot (crvB [])) true → True) ∧ (NIs (bnot (crvB [])) true → True) ∧ (NIs (bnot (crvB [])) true → (NIs (bnot (crvB (l_24))) false → True)) ∧ (NIs (bnot (crvB [])) true → (NIs (bnot (crvB (l_24))) false → (NLe 0 (1 : Int) ∧ NLe (1 : Int) (ilen (l_24))))) ∧ (NIs (bnot (crvB [])) true → (NIs (bnot (crvB (l_24))) false → (True))) ∧ (NIs (bnot (crvB [])) true → True) ∧ (True) ∧ (True) ∧ (NIs (bite (bnot (crvB [])) (bite (bnot (crvB (l_24))) true (crvB (itake (l_24) (1 : Int)))) false) true → (True)) ∧ (True) ∧ (True) ∧ True) ∧ (((bite (bite (bnot (crvB [])) (bite (bnot (crvB (l_24))) true (crvB (itake (l_24) (1 : Int)))) false) (true) false) : Bool) = (true)) ∧ True)))))))) = ev sig_laws_FnCurveValid xs_laws_FnCurveValid Try.f5.ntmps (fun b => []) (codeOf Try.f5) 0 (initS [.s (.rdr n)]) (retK Try.f5.results.toList [.s (.bool (true))]) := by kernel_rfl
set_option maxHeartbeats 400000 in
theorem F_laws_FnCurveValid : FunOK 5 g_laws_FnCurveValid := by
  refine fun_F (by kernel_rfl) Try.func5 rfl (by kernel_rfl) sig_laws_FnCurveValid_ok xs_laws_FnCurveValid_ok ?_
  intro avs sg h hn hl
  unfold g_laws_FnCurveValid at h
  split at h
  · rename_i n
    injection h with h; subst h
    refine ⟨by kernel_rfl, fun b => [], Eq.mp (V_laws_FnCurveValid n) ?_⟩
    simp only [true_and, and_true, implies_true, and_self, forall_const, true_implies, lenA, lenL, SV.lenOK, Cont.lenOK] at hn hl ⊢
    simp only [ilt_t, ilt_f, ile_t, ile_f, ieq_t, ieq_f, bnot_e, band_e, bite_and, bite_or, NLt_e, NLe_e, NNe_e, NIs_e, imax_e, imin_e, irem_e, Bool.not_eq_true', Bool.not_eq_false', Bool.and_eq_true, Bool.or_eq_true, Bool.or_eq_false_iff, Bool.and_eq_false_iff, Cont.pts.injEq, Cont.ints.injEq, Cont.bools.injEq, Cont.ptss.injEq, Cont.intss.injEq, Cont.boolss.injEq, true_and, and_true, implies_true, bxor_self]
    intro h
    refine ⟨h, fun l hl => ⟨by simp, fun _ => ?_⟩⟩
    have l0 := ilen_0 l
    have e0 : crvB [] = false := by simp [crvB, inB, ilen]
    cases hc : crvB l with
    | false => simp [e0, bite]
    | true =>
      have hcl := hc
      unfold crvB at hcl
      simp only [Bool.and_eq_true] at hcl
      have hl1 := inB_true hcl.1
      have e1 : crvB (itake l 1) = true := by
        unfold crvB
        have : ilen (itake l 1) = 1 := by unfold ilen itake at *; simp; omega
        rw [this]
        have : allB (itake l 1) = true := by
          have h2 := hcl.2
          unfold allB itake at *
          rw [List.all_eq_true] at h2 ⊢
          exact fun x hx => h2 x (List.mem_of_mem_take hx)
        rw [this]; rfl
      simp [e0, e1, bite]
      omega
  · cases h
theorem fnCurveValid_walk (w : World) (v0 : Value) (x0 : Nat) (w0 : BytesArg w v0 x0) : Calls Try.prog 5 #[v0] w fun e w' => e = .returned (.bool true) ∧ Bel w w' :=
  walk_of F_laws_FnCurveValid (avs := [.s (.rdr x0)]) rfl trivial ⟨bytes_reads w0, trivial⟩
set_option maxRecDepth 100000 in
theorem fnCurveValid_lifted (os : Os) (started : os.Started) (H : Type) (enc : TypeId × Value → H) :
    ReturnsInHanded {} Try.checked os 5 .any (Rows.fnCurveValidSpec.pre6 enc Try.prog Try.f5 Rows.fnCurveValidRow.domain false) (Rows.fnCurveValidSpec.post enc Try.prog Try.f5 false true false false) := by
  have own : ownKnob Try.prog.godebug = none := by kernel_rfl
  have laidOut : laidOutB Try.prog = true := by kernel_rfl
  refine returnsInHanded_of_change (C := Try.checked) own started (by kernel_rfl) Try.func5
    (ChangeSpec.witness6 (enc := enc) (C := Try.checked) false ⟨#[], #[.slice none 0 0], []⟩ 8 (by kernel_rfl) (by kernel_rfl) (by kernel_rfl) (by kernel_rfl)) ?_
  intro W base args ds gs before hval0 hW hcnd _
  have hval : ∀ (j : Nat) t v, Try.f5.params[j]? = some t → args[j]? = some v → Value.okWide Try.prog W .any base t v := hval0
  have hW' := hW
  obtain ⟨p, q, hA0, hV, rfl, hfz, hnd⟩ := hW
  have hA : DataW.TrodAll enc Try.prog W 0 (fun _ => true) true Try.f5.params.toList args.toList ds p := hA0
  rw [Try.params5] at hA hval
  obtain ⟨v0, vs0, d0, ds0, p0, q0, hargs, rfl, rfl, h0, r0⟩ := trodAll_cons hA
  obtain ⟨rfl, rfl, rfl⟩ := trodAll_nil r0
  obtain rfl : args = #[v0] := by cases args; simp_all
  obtain ⟨rfl, rfl⟩ := trodVars_none hV
  have k0 := h0
  have lt0 : ∀ x ∈ p0, x.block < W.heap.size := by obtain ⟨m, hm⟩ := k0; exact DataW.trod_lt m _ _ _ hm
  obtain ⟨x0, w0⟩ := opn_bytes (hval 0 33 v0 rfl rfl) h0
  clear hA0 hval0
  refine (fnCurveValid_walk W v0 x0 w0).mono fun e W' ⟨he, bel⟩ => ?_
  subst he
  exact ⟨_, rfl, _, _, _, [], _, [], hW', trodAll_mk1 (shut_bool Try.underlying4 _), (trodAll_cons_mk (Below.trod laidOut (by kernel_rfl) (of_decide_eq_true (by kernel_rfl)) k0 bel lt0) trodAll_mk0), rfl, Below.frame bel _, fun h => by cases h⟩
theorem fnCurveValid_over : Rows.fnCurveValidRow.holds Try.pinned (OpenSpec.ofChange Rows.fnCurveValidSpec) :=
  OpenClaim.holds_of_wide 5 Try.f5 rfl rfl rfl rfl rfl rfl rfl ⟨rfl, rfl, rfl, rfl, rfl⟩ rfl rfl rfl rfl rfl (by kernel_rfl) Try.func5 (by kernel_rfl)
    (of_decide_eq_true (by kernel_rfl)) (by unfold Func.isWrapper; first | (rw [if_pos (by decide +kernel)]; kernel_rfl) | (rw [if_neg (by decide +kernel)]; exact ⟨rfl, rfl⟩))
    (fun os started H enc _ => fnCurveValid_lifted os started H enc)
theorem fnCurveValid_proved : Rows.FnCurveValidSaid := fnCurveValid_over
#print axioms fnCurveValid_proved
end Go.Proofs.Ytiddodphfbohmaa

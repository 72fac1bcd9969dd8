/- 'FnCurveLine': for every code the points of a curve with two drawn control points are those of the line between them, up to 1, and there are 17 of them for 16 parts. Conditions: none. -/
import Derived.Test.YtiddodphfbohmaaAxO
namespace Go.Proofs.Ytiddodphfbohmaa
open Go.ChangeShapes Go.WideShapes Go.ChangeAt Go.RowKit
set_option maxRecDepth 100000
set_option linter.unusedSimpArgs false
set_option linter.unusedVariables false
def s_spec_l20Point (r1 : Int) (r2 : Int) (n : Int) : SgX := ⟨r1 ≤ 2000 ∧ 0 ≤ r2 ∧ r2 ≤ 900000 ∧ -1000000 ≤ n ∧ n ≤ 1000000, [.int, .int, .int], (fun | [.int x, .int y, .int q] => -10001 ≤ x ∧ x ≤ 10001 ∧ -10000 ≤ y ∧ y ≤ 10000 ∧ (n ≤ 0 → -10000 ≤ x ∧ x ≤ 10000) ∧ r2 ≤ q ∧ q ≤ r2 + 10 | _ => False), (fun | [.int x, .int y, .int q] => [.agg [.int (x), .int (y)]] | _ => []), (fun | [.int x, .int y, .int q] => .box [.rdr r1, .int (q)] | _ => .box [])⟩
def g_spec_l20Point : Bx → List AV → Option SgX
  | .box [.rdr r1, .int r2], [.s (.int n)] => some (s_spec_l20Point r1 r2 n)
  | _, _ => none
def sig_spec_l20Point : FuncId → List AV → Option Sg := sigL []
def xs_spec_l20Point : XS := ⟨xsigL [(71, g_spec_l20Rd_pick), (97, g_spec_l20Rd_odd)], ysigL []⟩
theorem sig_spec_l20Point_ok : SigOK sig_spec_l20Point := sigL_nil
theorem xs_spec_l20Point_ok : XSigOK xs_spec_l20Point := ⟨xsigL_cons F_spec_l20Rd_pick (xsigL_cons F_spec_l20Rd_odd xsigL_nil), ysigL_nil⟩
def L_spec_l20Point_0 (n : Int) (r2 : Int) (k_8 : Int) (k_5 : Int) (r1 : Int) (q_7 : Int) : Prop := ∃ x : Int, ∃ y : Int, ∃ q : Int, ((-10001 ≤ x ∧ x ≤ 10001 ∧ -10000 ≤ y ∧ y ≤ 10000 ∧ (n ≤ 0 → -10000 ≤ x ∧ x ≤ 10000) ∧ r2 ≤ q ∧ q ≤ r2 + 10) ∧ (((((geti [(10001 : Int), (-10001 : Int), (10000 : Int)] (k_8)) : Int) = (x)) ∧ (((isub (imul (k_5) (4 : Int)) (500 : Int)) : Int) = (y)) ∧ True) ∧ True) ∧ ((true = true) ∧ (true = true) ∧ ((r1 : Int) = r1) ∧ ((((q_7) + 1) : Int) = (q)) ∧ True))
def L_spec_l20Point_1 (n : Int) (r2 : Int) (k_4 : Int) (k_5 : Int) (r1 : Int) (q_7 : Int) : Prop := ∃ x : Int, ∃ y : Int, ∃ q : Int, ((-10001 ≤ x ∧ x ≤ 10001 ∧ -10000 ≤ y ∧ y ≤ 10000 ∧ (n ≤ 0 → -10000 ≤ x ∧ x ≤ 10000) ∧ r2 ≤ q ∧ q ≤ r2 + 10) ∧ (((((isub (imul (k_4) (4 : Int)) (500 : Int)) : Int) = (x)) ∧ (((isub (imul (k_5) (4 : Int)) (500 : Int)) : Int) = (y)) ∧ True) ∧ True) ∧ ((true = true) ∧ (true = true) ∧ ((r1 : Int) = r1) ∧ (((q_7) : Int) = (q)) ∧ True))
def L_spec_l20Point_2 (n : Int) (r2 : Int) (k_11 : Int) (k_2 : Int) (r1 : Int) (q_10 : Int) : Prop := ∃ x : Int, ∃ y : Int, ∃ q : Int, ((-10001 ≤ x ∧ x ≤ 10001 ∧ -10000 ≤ y ∧ y ≤ 10000 ∧ (n ≤ 0 → -10000 ≤ x ∧ x ≤ 10000) ∧ r2 ≤ q ∧ q ≤ r2 + 10) ∧ (((((geti [(10001 : Int), (-10001 : Int), (10000 : Int)] (k_11)) : Int) = (x)) ∧ (((isub (k_2) (20 : Int)) : Int) = (y)) ∧ True) ∧ True) ∧ ((true = true) ∧ (true = true) ∧ ((r1 : Int) = r1) ∧ ((((q_10) + 1) : Int) = (q)) ∧ True))
def L_spec_l20Point_3 (n : Int) (r2 : Int) (k_1 : Int) (k_2 : Int) (r1 : Int) (q_10 : Int) : Prop := ∃ x : Int, ∃ y : Int, ∃ q : Int, ((-10001 ≤ x ∧ x ≤ 10001 ∧ -10000 ≤ y ∧ y ≤ 10000 ∧ (n ≤ 0 → -10000 ≤ x ∧ x ≤ 10000) ∧ r2 ≤ q ∧ q ≤ r2 + 10) ∧ (((((isub (k_1) (20 : Int)) : Int) = (x)) ∧ (((isub (k_2) (20 : Int)) : Int) = (y)) ∧ True) ∧ True) ∧ ((true = true) ∧ (true = true) ∧ ((r1 : Int) = r1) ∧ (((q_10) : Int) = (q)) ∧ True))
theorem V_spec_l20Point (r1 : Int) (r2 : Int) (n : Int) : ((true = true) ∧ ((True) ∧ True) ∧ (true = true) ∧ ((True) ∧ True) ∧ (true = true) ∧ ((r1 ≤ 2000 ∧ 0 ≤ r2 ∧ r2 ≤ 1000000)) ∧ (∀ k_1 : Int, ((pickP (41 : Int) k_1) → ((True) ∧ (True) ∧ (true = true) ∧ ((r1 ≤ 2000 ∧ 0 ≤ (r2 + 1) ∧ (r2 + 1) ≤ 1000000)) ∧ (∀ k_2 : Int, ((pickP (41 : Int) k_2) → ((True) ∧ (True) ∧ (True) ∧ (True) ∧ (true = true) ∧ ((True) ∧ True) ∧ (true = true) ∧ ((r1 ≤ 2000 ∧ 0 ≤ ((r2 + 1) + 1) ∧ ((r2 + 1) + 1) ≤ 1000000)) ∧ (∀ k_3 : Int, ((pickP (3 : Int) k_3) → ((True) ∧ ((ieq (k_3) (0 : Int)) = true → ((true = true) ∧ ((True) ∧ True) ∧ (true = true) ∧ ((r1 ≤ 2000 ∧ 0 ≤ (((r2 + 1) + 1) + 1) ∧ (((r2 + 1) + 1) + 1) ≤ 1000000)) ∧ (∀ k_4 : Int, ((pickP (256 : Int) k_4) → ((True) ∧ (True) ∧ (True) ∧ (true = true) ∧ ((r1 ≤ 2000 ∧ 0 ≤ ((((r2 + 1) + 1) + 1) + 1) ∧ ((((r2 + 1) + 1) + 1) + 1) ≤ 1000000)) ∧ (∀ k_5 : Int, ((pickP (256 : Int) k_5) → ((True) ∧ (True) ∧ (True) ∧ (True) ∧ (true = true) ∧ ((True) ∧ (True) ∧ True) ∧ (true = true) ∧ ((r1 ≤ 2000 ∧ 0 ≤ (((((r2 + 1) + 1) + 1) + 1) + 1) ∧ (((((r2 + 1) + 1) + 1) + 1) + 1) ≤ 1000000 ∧ -1000000 ≤ n ∧ n ≤ 1000000)) ∧ (∀ b_6 : Bool, ∀ q_7 : Int, (((n ≤ 0 → b_6 = false) ∧ (((((r2 + 1) + 1) + 1) + 1) + 1) ≤ q_7 ∧ q_7 ≤ (((((r2 + 1) + 1) + 1) + 1) + 1) + 1) → (((b_6) = true → ((true = true) ∧ ((True) ∧ (True) ∧ True) ∧ (true = true) ∧ ((r1 ≤ 2000 ∧ 0 ≤ (q_7) ∧ (q_7) ≤ 1000000)) ∧ (∀ k_8 : Int, ((pickP (3 : Int) k_8) → ((NLe 0 (k_8) ∧ NLt (k_8) (ilen [(10001 : Int), (-10001 : Int), (10000 : Int)])) ∧ (NLt (k_8) (ilen [(10001 : Int), (-10001 : Int), (10000 : Int)])) ∧ (True) ∧ (True) ∧ (true = true) ∧ ((True) ∧ True) ∧ (True) ∧ L_spec_l20Point_0 n r2 k_8 k_5 r1 q_7))))) ∧ ((b_6) = false → ((true = true) ∧ ((True) ∧ True) ∧ (True) ∧ L_spec_l20Point_1 n r2 k_4 k_5 r1 q_7))))))))))))) ∧ ((ieq (k_3) (0 : Int)) = false → ((true = true) ∧ ((True) ∧ (True) ∧ True) ∧ (true = true) ∧ ((r1 ≤ 2000 ∧ 0 ≤ (((r2 + 1) + 1) + 1) ∧ (((r2 + 1) + 1) + 1) ≤ 1000000 ∧ -1000000 ≤ n ∧ n ≤ 1000000)) ∧ (∀ b_9 : Bool, ∀ q_10 : Int, (((n ≤ 0 → b_9 = false) ∧ (((r2 + 1) + 1) + 1) ≤ q_10 ∧ q_10 ≤ (((r2 + 1) + 1) + 1) + 1) → (((b_9) = true → ((true = true) ∧ ((True) ∧ (True) ∧ True) ∧ (true = true) ∧ ((r1 ≤ 2000 ∧ 0 ≤ (q_10) ∧ (q_10) ≤ 1000000)) ∧ (∀ k_11 : Int, ((pickP (3 : Int) k_11) → ((NLe 0 (k_11) ∧ NLt (k_11) (ilen [(10001 : Int), (-10001 : Int), (10000 : Int)])) ∧ (NLt (k_11) (ilen [(10001 : Int), (-10001 : Int), (10000 : Int)])) ∧ (True) ∧ (True) ∧ (true = true) ∧ ((True) ∧ True) ∧ (True) ∧ L_spec_l20Point_2 n r2 k_11 k_2 r1 q_10))))) ∧ ((b_9) = false → ((true = true) ∧ ((True) ∧ True) ∧ (True) ∧ L_spec_l20Point_3 n r2 k_1 k_2 r1 q_10))))))))))))))))) = (fun sg => ev sig_spec_l20Point xs_spec_l20Point Try.f72.ntmps (fun b => []) (codeOf Try.f72) 0 (initX (.box [.rdr r1, .int r2]) [.s (.int n)]) (retX Try.f72.results.toList sg.kinds sg.post sg.ret sg.out)) (s_spec_l20Point r1 r2 n) := by kernel_rfl
set_option maxHeartbeats 4000000 in
theorem F_spec_l20Point : FunX 72 g_spec_l20Point := by
  refine fun_X (by kernel_rfl) Try.func72 rfl (by kernel_rfl) sig_spec_l20Point_ok xs_spec_l20Point_ok ?_
  intro bx avs sg h hn hl hlb
  unfold g_spec_l20Point at h
  split at h
  · rename_i r1 r2 n
    injection h with h; subst h
    refine ⟨by kernel_rfl, fun b => [], Eq.mp (V_spec_l20Point r1 r2 n) ?_⟩
    simp only [true_and, and_true, implies_true, and_self, forall_const, true_implies, lenA, lenL, SV.lenOK, Cont.lenOK, lenB, s_spec_l20Point, L_spec_l20Point_0, L_spec_l20Point_1, L_spec_l20Point_2, L_spec_l20Point_3] at hn hl hlb ⊢
    try simp only [ilt_t, ilt_f, ile_t, ile_f, ieq_t, ieq_f, bnot_e, band_e, bite_and, bite_or, NLt_e, NLe_e, NNe_e, NIs_e, imax_e, imin_e, irem_e, Bool.not_eq_true', Bool.not_eq_false', Bool.and_eq_true, Bool.or_eq_true, Bool.or_eq_false_iff, Bool.and_eq_false_iff, Cont.pts.injEq, Cont.ints.injEq, Cont.bools.injEq, Cont.ptss.injEq, Cont.intss.injEq, Cont.boolss.injEq, true_and, and_true, implies_true, pickP, iadd_u, isub_u, imul_u, ineg_u, ilen_cons, ilen_nil, geti_cons, geti_nil, exists_and_left, exists_and_right, exists_eq_left, exists_eq_left', exists_eq_right, exists_eq_right'] at hn ⊢
    repeat' (first | (intro _) | (refine ⟨_, _, _, ?_, ⟨rfl, rfl⟩, rfl⟩) | (apply And.intro) | omega | split)
    all_goals (first | (simp_all; done) | (simp_all; omega))
  · cases h
def s_spec_DrawSquaredDistance (n : Int) : SgY := ⟨n ≤ 1048576, [.int, .int, .int, .int], (fun | [.int a, .int b, .int c, .int d] => True | _ => False), (fun | [.int a, .int b, .int c, .int d] => [.agg [.int (a), .int (b)], .agg [.int (c), .int (d)]] | _ => [])⟩
def g_spec_DrawSquaredDistance : List AV → Option SgY
  | [.s (.rdr n)] => some (s_spec_DrawSquaredDistance n)
  | _ => none
def sig_spec_DrawSquaredDistance : FuncId → List AV → Option Sg := sigL [(70, g_spec_l20Open)]
def xs_spec_DrawSquaredDistance : XS := ⟨xsigL [(72, g_spec_l20Point)], ysigL []⟩
theorem sig_spec_DrawSquaredDistance_ok : SigOK sig_spec_DrawSquaredDistance := sigL_cons F_spec_l20Open sigL_nil
theorem xs_spec_DrawSquaredDistance_ok : XSigOK xs_spec_DrawSquaredDistance := ⟨xsigL_cons F_spec_l20Point xsigL_nil, ysigL_nil⟩
def L_spec_DrawSquaredDistance_0 (x_12 : Int) (y_13 : Int) (x_15 : Int) (y_16 : Int) : Prop := ∃ a : Int, ∃ b : Int, ∃ c : Int, ∃ d : Int, ((True) ∧ (((((x_12) : Int) = (a)) ∧ (((y_13) : Int) = (b)) ∧ True) ∧ ((((x_15) : Int) = (c)) ∧ (((y_16) : Int) = (d)) ∧ True) ∧ True))
def L_spec_DrawSquaredDistance_1 (x_12 : Int) (y_13 : Int) (x_18 : Int) (y_19 : Int) : Prop := ∃ a : Int, ∃ b : Int, ∃ c : Int, ∃ d : Int, ((True) ∧ (((((x_12) : Int) = (a)) ∧ (((y_13) : Int) = (b)) ∧ True) ∧ ((((x_18) : Int) = (c)) ∧ (((y_19) : Int) = (d)) ∧ True) ∧ True))
def L_spec_DrawSquaredDistance_2 (x_12 : Int) (y_13 : Int) (x_21 : Int) (y_22 : Int) : Prop := ∃ a : Int, ∃ b : Int, ∃ c : Int, ∃ d : Int, ((True) ∧ (((((x_12) : Int) = (a)) ∧ (((y_13) : Int) = (b)) ∧ True) ∧ ((((x_21) : Int) = (c)) ∧ (((y_22) : Int) = (d)) ∧ True) ∧ True))
theorem V_spec_DrawSquaredDistance (n : Int) : ((true = true) ∧ ((True) ∧ (True) ∧ True) ∧ (true = true) ∧ ((True) ∧ ((n ≤ 1048576)) ∧ (True) ∧ True) ∧ (true = true) ∧ ((True) ∧ True) ∧ (true = true) ∧ (((if n ≤ 2000 then n else 2000) ≤ 2000 ∧ 0 ≤ ((0 : Int)) ∧ ((0 : Int)) ≤ 900000 ∧ -1000000 ≤ (9 : Int) ∧ (9 : Int) ≤ 1000000)) ∧ (∀ x_12 : Int, ∀ y_13 : Int, ∀ q_14 : Int, ((-10001 ≤ x_12 ∧ x_12 ≤ 10001 ∧ -10000 ≤ y_13 ∧ y_13 ≤ 10000 ∧ ((9 : Int) ≤ 0 → -10000 ≤ x_12 ∧ x_12 ≤ 10000) ∧ ((0 : Int)) ≤ q_14 ∧ q_14 ≤ ((0 : Int)) + 10) → ((True) ∧ (True) ∧ (true = true) ∧ (((true = true) ∧ ((True) ∧ (((true = true) ∧ ((True) ∧ (((true = true) ∧ ((true = true) ∧ (((if n ≤ 2000 then n else 2000) ≤ 2000 ∧ 0 ≤ (q_14) ∧ (q_14) ≤ 900000 ∧ -1000000 ≤ (9 : Int) ∧ (9 : Int) ≤ 1000000)) ∧ (∀ x_21 : Int, ∀ y_22 : Int, ∀ q_23 : Int, ((-10001 ≤ x_21 ∧ x_21 ≤ 10001 ∧ -10000 ≤ y_22 ∧ y_22 ≤ 10000 ∧ ((9 : Int) ≤ 0 → -10000 ≤ x_21 ∧ x_21 ≤ 10000) ∧ (q_14) ≤ q_23 ∧ q_23 ≤ (q_14) + 10) → ((((true = true) ∧ ((True) ∧ (((true = true) ∧ ((True) ∧ (L_spec_DrawSquaredDistance_2 x_12 y_13 x_21 y_22))) ∧ True))) ∧ True)))))) ∧ True))) ∧ True))) ∧ ((true = true) ∧ ((True) ∧ (((true = true) ∧ ((True) ∧ (((true = true) ∧ ((true = true) ∧ (((if n ≤ 2000 then n else 2000) ≤ 2000 ∧ 0 ≤ (q_14) ∧ (q_14) ≤ 900000 ∧ -1000000 ≤ (9 : Int) ∧ (9 : Int) ≤ 1000000)) ∧ (∀ x_18 : Int, ∀ y_19 : Int, ∀ q_20 : Int, ((-10001 ≤ x_18 ∧ x_18 ≤ 10001 ∧ -10000 ≤ y_19 ∧ y_19 ≤ 10000 ∧ ((9 : Int) ≤ 0 → -10000 ≤ x_18 ∧ x_18 ≤ 10000) ∧ (q_14) ≤ q_20 ∧ q_20 ≤ (q_14) + 10) → ((((true = true) ∧ ((True) ∧ (((true = true) ∧ ((True) ∧ (L_spec_DrawSquaredDistance_1 x_12 y_13 x_18 y_19))) ∧ True))) ∧ True)))))) ∧ True))) ∧ ((true = true) ∧ ((true = true) ∧ (((if n ≤ 2000 then n else 2000) ≤ 2000 ∧ 0 ≤ (q_14) ∧ (q_14) ≤ 900000 ∧ -1000000 ≤ (9 : Int) ∧ (9 : Int) ≤ 1000000)) ∧ (∀ x_15 : Int, ∀ y_16 : Int, ∀ q_17 : Int, ((-10001 ≤ x_15 ∧ x_15 ≤ 10001 ∧ -10000 ≤ y_16 ∧ y_16 ≤ 10000 ∧ ((9 : Int) ≤ 0 → -10000 ≤ x_15 ∧ x_15 ≤ 10000) ∧ (q_14) ≤ q_17 ∧ q_17 ≤ (q_14) + 10) → ((((true = true) ∧ ((True) ∧ (((true = true) ∧ ((True) ∧ (((true = true) ∧ ((True) ∧ (L_spec_DrawSquaredDistance_0 x_12 y_13 x_15 y_16))) ∧ True))) ∧ True))) ∧ True)))))) ∧ True))) ∧ True))))) = (fun sg => ev sig_spec_DrawSquaredDistance xs_spec_DrawSquaredDistance Try.f78.ntmps (fun b => []) (codeOf Try.f78) 0 (initS [.s (.rdr n)]) (retY Try.f78.results.toList sg.kinds sg.post sg.ret)) (s_spec_DrawSquaredDistance n) := by kernel_rfl
set_option maxHeartbeats 4000000 in
theorem F_spec_DrawSquaredDistance : FunY 78 g_spec_DrawSquaredDistance := by
  refine fun_Y (by kernel_rfl) Try.func78 rfl (by kernel_rfl) sig_spec_DrawSquaredDistance_ok xs_spec_DrawSquaredDistance_ok ?_
  intro avs sg h hn hl
  unfold g_spec_DrawSquaredDistance at h
  split at h
  · rename_i n
    injection h with h; subst h
    refine ⟨by kernel_rfl, fun b => [], Eq.mp (V_spec_DrawSquaredDistance n) ?_⟩
    simp only [true_and, and_true, implies_true, and_self, forall_const, true_implies, lenA, lenL, SV.lenOK, Cont.lenOK, s_spec_DrawSquaredDistance, L_spec_DrawSquaredDistance_0, L_spec_DrawSquaredDistance_1, L_spec_DrawSquaredDistance_2] at hn hl ⊢
    try simp only [ilt_t, ilt_f, ile_t, ile_f, ieq_t, ieq_f, bnot_e, band_e, bite_and, bite_or, NLt_e, NLe_e, NNe_e, NIs_e, imax_e, imin_e, irem_e, Bool.not_eq_true', Bool.not_eq_false', Bool.and_eq_true, Bool.or_eq_true, Bool.or_eq_false_iff, Bool.and_eq_false_iff, Cont.pts.injEq, Cont.ints.injEq, Cont.bools.injEq, Cont.ptss.injEq, Cont.intss.injEq, Cont.boolss.injEq, true_and, and_true, implies_true, pickP, iadd_u, isub_u, imul_u, ineg_u, ilen_cons, ilen_nil, geti_cons, geti_nil, exists_and_left, exists_and_right, exists_eq_left, exists_eq_left', exists_eq_right, exists_eq_right'] at hn ⊢
    repeat' (first | (intro _) | (refine ⟨_, _, _, _, ?_, ⟨rfl, rfl⟩, rfl, rfl⟩) | (apply And.intro) | omega | split)
    all_goals (first | (simp_all; done) | (simp_all; omega))
  · cases h
def s_spec_DrawMidpoint (n : Int) : SgY := ⟨n ≤ 1048576, [.int, .int, .int, .int], (fun | [.int a, .int b, .int c, .int d] => True | _ => False), (fun | [.int a, .int b, .int c, .int d] => [.agg [.int (a), .int (b)], .agg [.int (c), .int (d)]] | _ => [])⟩
def g_spec_DrawMidpoint : List AV → Option SgY
  | [.s (.rdr n)] => some (s_spec_DrawMidpoint n)
  | _ => none
def sig_spec_DrawMidpoint : FuncId → List AV → Option Sg := sigL []
def xs_spec_DrawMidpoint : XS := ⟨xsigL [], ysigL [(78, g_spec_DrawSquaredDistance)]⟩
theorem sig_spec_DrawMidpoint_ok : SigOK sig_spec_DrawMidpoint := sigL_nil
theorem xs_spec_DrawMidpoint_ok : XSigOK xs_spec_DrawMidpoint := ⟨xsigL_nil, ysigL_cons F_spec_DrawSquaredDistance ysigL_nil⟩
def L_spec_DrawMidpoint_0 (a_24 : Int) (b_25 : Int) (c_26 : Int) (d_27 : Int) : Prop := ∃ a : Int, ∃ b : Int, ∃ c : Int, ∃ d : Int, ((True) ∧ (((((a_24) : Int) = (a)) ∧ (((b_25) : Int) = (b)) ∧ True) ∧ ((((c_26) : Int) = (c)) ∧ (((d_27) : Int) = (d)) ∧ True) ∧ True))
theorem V_spec_DrawMidpoint (n : Int) : ((true = true) ∧ ((True) ∧ (True) ∧ True) ∧ (true = true) ∧ ((True) ∧ True) ∧ (true = true) ∧ ((n ≤ 1048576)) ∧ (∀ a_24 : Int, ∀ b_25 : Int, ∀ c_26 : Int, ∀ d_27 : Int, ((True) → ((true = true) ∧ ((true = true) ∧ ((True) ∧ (True) ∧ L_spec_DrawMidpoint_0 a_24 b_25 c_26 d_27)))))) = (fun sg => ev sig_spec_DrawMidpoint xs_spec_DrawMidpoint Try.f36.ntmps (fun b => []) (codeOf Try.f36) 0 (initS [.s (.rdr n)]) (retY Try.f36.results.toList sg.kinds sg.post sg.ret)) (s_spec_DrawMidpoint n) := by kernel_rfl
set_option maxHeartbeats 4000000 in
theorem F_spec_DrawMidpoint : FunY 36 g_spec_DrawMidpoint := by
  refine fun_Y (by kernel_rfl) Try.func36 rfl (by kernel_rfl) sig_spec_DrawMidpoint_ok xs_spec_DrawMidpoint_ok ?_
  intro avs sg h hn hl
  unfold g_spec_DrawMidpoint at h
  split at h
  · rename_i n
    injection h with h; subst h
    refine ⟨by kernel_rfl, fun b => [], Eq.mp (V_spec_DrawMidpoint n) ?_⟩
    simp only [true_and, and_true, implies_true, and_self, forall_const, true_implies, lenA, lenL, SV.lenOK, Cont.lenOK, s_spec_DrawMidpoint, L_spec_DrawMidpoint_0] at hn hl ⊢
    try simp only [ilt_t, ilt_f, ile_t, ile_f, ieq_t, ieq_f, bnot_e, band_e, bite_and, bite_or, NLt_e, NLe_e, NNe_e, NIs_e, imax_e, imin_e, irem_e, Bool.not_eq_true', Bool.not_eq_false', Bool.and_eq_true, Bool.or_eq_true, Bool.or_eq_false_iff, Bool.and_eq_false_iff, Cont.pts.injEq, Cont.ints.injEq, Cont.bools.injEq, Cont.ptss.injEq, Cont.intss.injEq, Cont.boolss.injEq, true_and, and_true, implies_true, pickP, iadd_u, isub_u, imul_u, ineg_u, ilen_cons, ilen_nil, geti_cons, geti_nil, exists_and_left, exists_and_right, exists_eq_left, exists_eq_left', exists_eq_right, exists_eq_right'] at hn ⊢
    repeat' (first | (intro _) | (refine ⟨_, _, _, _, ?_, ⟨rfl, rfl⟩, rfl, rfl⟩) | (apply And.intro) | omega | split)
    all_goals (first | (simp_all; done) | (simp_all; omega))
  · cases h
theorem inB_eq (n lo hi : Int) : inB n lo hi = (ile lo n && ile n hi) := by
  unfold inB ile
  by_cases h1 : lo ≤ n <;> by_cases h2 : n ≤ hi <;> simp [h1, h2]
def g_spec_l1In : List AV → Option Sg
  | [.s (.int n), .s (.int lo), .s (.int hi)] => some ⟨True, [.s (.bool (inB n lo hi))]⟩
  | _ => none
def sig_spec_l1In : FuncId → List AV → Option Sg := sigL []
def xs_spec_l1In : XS := ⟨xsigL [], ysigL []⟩
theorem sig_spec_l1In_ok : SigOK sig_spec_l1In := sigL_nil
theorem xs_spec_l1In_ok : XSigOK xs_spec_l1In := ⟨xsigL_nil, ysigL_nil⟩
theorem V_spec_l1In (n : Int) (lo : Int) (hi : Int) : ((true = true) ∧ ((True) ∧ True) ∧ (true = true) ∧ ((True) ∧ (True) ∧ (True) ∧ (True) ∧ (NIs (ile lo n) true → True) ∧ (NIs (ile lo n) true → True) ∧ (NIs (ile lo n) true → True) ∧ (True) ∧ (True) ∧ True) ∧ (((bite (ile lo n) (ile n hi) false) : Bool) = (inB n lo hi)) ∧ True) = ev sig_spec_l1In xs_spec_l1In Try.f67.ntmps (fun b => []) (codeOf Try.f67) 0 (initS [.s (.int n), .s (.int lo), .s (.int hi)]) (retK Try.f67.results.toList [.s (.bool (inB n lo hi))]) := by kernel_rfl
set_option maxHeartbeats 400000 in
theorem F_spec_l1In : FunOK 67 g_spec_l1In := by
  refine fun_F (by kernel_rfl) Try.func67 rfl (by kernel_rfl) sig_spec_l1In_ok xs_spec_l1In_ok ?_
  intro avs sg h hn hl
  unfold g_spec_l1In at h
  split at h
  · rename_i n lo hi
    injection h with h; subst h
    refine ⟨by kernel_rfl, fun b => [], Eq.mp (V_spec_l1In n lo hi) ?_⟩
    simp only [true_and, and_true, implies_true, and_self, forall_const, true_implies, lenA, lenL, SV.lenOK, Cont.lenOK] at hn hl ⊢
    simp only [bite_and, inB_eq]
  · cases h
def g_spec_PointValid : List AV → Option Sg
  | [.agg [.int p1, .int p2]] => some ⟨True, [.s (.bool (vB p1 p2))]⟩
  | _ => none
def sig_spec_PointValid : FuncId → List AV → Option Sg := sigL [(67, g_spec_l1In)]
def xs_spec_PointValid : XS := ⟨xsigL [], ysigL []⟩
theorem sig_spec_PointValid_ok : SigOK sig_spec_PointValid := sigL_cons F_spec_l1In sigL_nil
theorem xs_spec_PointValid_ok : XSigOK xs_spec_PointValid := ⟨xsigL_nil, ysigL_nil⟩
theorem V_spec_PointValid (p1 : Int) (p2 : Int) : ((true = true) ∧ ((True) ∧ (True) ∧ True) ∧ (true = true) ∧ ((True) ∧ (True) ∧ ((True)) ∧ (True) ∧ (NIs (inB p1 (-10000 : Int) (10000 : Int)) true → True) ∧ (NIs (inB p1 (-10000 : Int) (10000 : Int)) true → True) ∧ (NIs (inB p1 (-10000 : Int) (10000 : Int)) true → (True)) ∧ (True) ∧ (True) ∧ True) ∧ (((bite (inB p1 (-10000 : Int) (10000 : Int)) (inB p2 (-10000 : Int) (10000 : Int)) false) : Bool) = (vB p1 p2)) ∧ True) = ev sig_spec_PointValid xs_spec_PointValid Try.f37.ntmps (fun b => []) (codeOf Try.f37) 0 (initS [.agg [.int p1, .int p2]]) (retK Try.f37.results.toList [.s (.bool (vB p1 p2))]) := by kernel_rfl
set_option maxHeartbeats 400000 in
theorem F_spec_PointValid : FunOK 37 g_spec_PointValid := by
  refine fun_F (by kernel_rfl) Try.func37 rfl (by kernel_rfl) sig_spec_PointValid_ok xs_spec_PointValid_ok ?_
  intro avs sg h hn hl
  unfold g_spec_PointValid at h
  split at h
  · rename_i p1 p2
    injection h with h; subst h
    refine ⟨by kernel_rfl, fun b => [], Eq.mp (V_spec_PointValid p1 p2) ?_⟩
    simp only [true_and, and_true, implies_true, and_self, forall_const, true_implies, lenA, lenL, SV.lenOK, Cont.lenOK] at hn hl ⊢
    simp only [bite_and, vB]
  · cases h
def degW (d : Int) : Int := irem (iadd (irem d 360) 360) 360
def g_impl_Degrees : List AV → Option Sg
  | [.s (.int d)] => some ⟨True, [.s (.int (degW d))]⟩
  | _ => none
def sig_impl_Degrees : FuncId → List AV → Option Sg := sigL []
def xs_impl_Degrees : XS := ⟨xsigL [], ysigL []⟩
theorem sig_impl_Degrees_ok : SigOK sig_impl_Degrees := sigL_nil
theorem xs_impl_Degrees_ok : XSigOK xs_impl_Degrees := ⟨xsigL_nil, ysigL_nil⟩
theorem V_impl_Degrees (d : Int) : ((true = true) ∧ ((True) ∧ True) ∧ (true = true) ∧ ((True) ∧ (NNe (360 : Int) 0) ∧ (True) ∧ (NNe (360 : Int) 0) ∧ (True) ∧ True) ∧ (((irem (iadd (irem d (360 : Int)) (360 : Int)) (360 : Int)) : Int) = (degW d)) ∧ True) = ev sig_impl_Degrees xs_impl_Degrees Try.f73.ntmps (fun b => []) (codeOf Try.f73) 0 (initS [.s (.int d)]) (retK Try.f73.results.toList [.s (.int (degW d))]) := by kernel_rfl
set_option maxHeartbeats 400000 in
theorem F_impl_Degrees : FunOK 73 g_impl_Degrees := by
  refine fun_F (by kernel_rfl) Try.func73 rfl (by kernel_rfl) sig_impl_Degrees_ok xs_impl_Degrees_ok ?_
  intro avs sg h hn hl
  unfold g_impl_Degrees at h
  split at h
  · rename_i d
    injection h with h; subst h
    refine ⟨by kernel_rfl, fun b => [], Eq.mp (V_impl_Degrees d) ?_⟩
    simp only [true_and, and_true, implies_true, and_self, forall_const, true_implies, lenA, lenL, SV.lenOK, Cont.lenOK] at hn hl ⊢
    simp only [ilt_t, ilt_f, ile_t, ile_f, ieq_t, ieq_f, bnot_e, band_e, bite_and, bite_or, NLt_e, NLe_e, NNe_e, NIs_e, imax_e, imin_e, irem_e, Bool.not_eq_true', Bool.not_eq_false', Bool.and_eq_true, Bool.or_eq_true, Bool.or_eq_false_iff, Bool.and_eq_false_iff, Cont.pts.injEq, Cont.ints.injEq, Cont.bools.injEq, Cont.ptss.injEq, Cont.intss.injEq, Cont.boolss.injEq, true_and, and_true, implies_true]
    exact ⟨by decide, by simp [degW, irem_e]⟩
  · cases h
def g_laws_alive : List AV → Option Sg
  | [] => some ⟨True, [.s (.bool (true))]⟩
  | _ => none
def sig_laws_alive : FuncId → List AV → Option Sg := sigL [(73, g_impl_Degrees)]
def xs_laws_alive : XS := ⟨xsigL [], ysigL []⟩
theorem sig_laws_alive_ok : SigOK sig_laws_alive := sigL_cons F_impl_Degrees sigL_nil
theorem xs_laws_alive_ok : XSigOK xs_laws_alive := ⟨xsigL_nil, ysigL_nil⟩
theorem V_laws_alive  : ((true = true) ∧ ((True) ∧ True) ∧ (true = true) ∧ (((True)) ∧ (True) ∧ (True) ∧ True) ∧ (((ieq (degW (-1 : Int)) (359 : Int)) : Bool) = (true)) ∧ True) = ev sig_laws_alive xs_laws_alive Try.f23.ntmps (fun b => []) (codeOf Try.f23) 0 (initS []) (retK Try.f23.results.toList [.s (.bool (true))]) := by kernel_rfl
set_option maxHeartbeats 400000 in
theorem F_laws_alive : FunOK 23 g_laws_alive := by
  refine fun_F (by kernel_rfl) Try.func23 rfl (by kernel_rfl) sig_laws_alive_ok xs_laws_alive_ok ?_
  intro avs sg h hn hl
  unfold g_laws_alive at h
  split at h
  ·
    injection h with h; subst h
    refine ⟨by kernel_rfl, fun b => [], Eq.mp (V_laws_alive ) ?_⟩
    simp only [true_and, and_true, implies_true, and_self, forall_const, true_implies, lenA, lenL, SV.lenOK, Cont.lenOK] at hn hl ⊢
    unfold ieq degW
    rw [irem_e, irem_e, iadd_e (by decide) (by decide)]
    decide
  · cases h
def g_impl_within : List AV → Option Sg
  | [.s (.int n), .s (.int lo), .s (.int hi)] => some ⟨True, [.s (.bool (inB n lo hi))]⟩
  | _ => none
def sig_impl_within : FuncId → List AV → Option Sg := sigL []
def xs_impl_within : XS := ⟨xsigL [], ysigL []⟩
theorem sig_impl_within_ok : SigOK sig_impl_within := sigL_nil
theorem xs_impl_within_ok : XSigOK xs_impl_within := ⟨xsigL_nil, ysigL_nil⟩
theorem V_impl_within (n : Int) (lo : Int) (hi : Int) : ((true = true) ∧ ((True) ∧ True) ∧ (true = true) ∧ ((True) ∧ (True) ∧ (True) ∧ (True) ∧ (NIs (ile lo n) true → True) ∧ (NIs (ile lo n) true → True) ∧ (NIs (ile lo n) true → True) ∧ (True) ∧ (True) ∧ True) ∧ (((bite (ile lo n) (ile n hi) false) : Bool) = (inB n lo hi)) ∧ True) = ev sig_impl_within xs_impl_within Try.f68.ntmps (fun b => []) (codeOf Try.f68) 0 (initS [.s (.int n), .s (.int lo), .s (.int hi)]) (retK Try.f68.results.toList [.s (.bool (inB n lo hi))]) := by kernel_rfl
set_option maxHeartbeats 400000 in
theorem F_impl_within : FunOK 68 g_impl_within := by
  refine fun_F (by kernel_rfl) Try.func68 rfl (by kernel_rfl) sig_impl_within_ok xs_impl_within_ok ?_
  intro avs sg h hn hl
  unfold g_impl_within at h
  split at h
  · rename_i n lo hi
    injection h with h; subst h
    refine ⟨by kernel_rfl, fun b => [], Eq.mp (V_impl_within n lo hi) ?_⟩
    simp only [true_and, and_true, implies_true, and_self, forall_const, true_implies, lenA, lenL, SV.lenOK, Cont.lenOK] at hn hl ⊢
    simp only [bite_and, inB_eq]
  · cases h
def g_impl_PointValid : List AV → Option Sg
  | [.agg [.int p1, .int p2]] => some ⟨True, [.s (.bool (vB p1 p2))]⟩
  | _ => none
def sig_impl_PointValid : FuncId → List AV → Option Sg := sigL [(68, g_impl_within)]
def xs_impl_PointValid : XS := ⟨xsigL [], ysigL []⟩
theorem sig_impl_PointValid_ok : SigOK sig_impl_PointValid := sigL_cons F_impl_within sigL_nil
theorem xs_impl_PointValid_ok : XSigOK xs_impl_PointValid := ⟨xsigL_nil, ysigL_nil⟩
theorem V_impl_PointValid (p1 : Int) (p2 : Int) : ((true = true) ∧ ((True) ∧ (True) ∧ True) ∧ (true = true) ∧ ((True) ∧ (True) ∧ ((True)) ∧ (True) ∧ (NIs (inB p1 (-10000 : Int) (10000 : Int)) true → True) ∧ (NIs (inB p1 (-10000 : Int) (10000 : Int)) true → True) ∧ (NIs (inB p1 (-10000 : Int) (10000 : Int)) true → (True)) ∧ (True) ∧ (True) ∧ True) ∧ (((bite (inB p1 (-10000 : Int) (10000 : Int)) (inB p2 (-10000 : Int) (10000 : Int)) false) : Bool) = (vB p1 p2)) ∧ True) = ev sig_impl_PointValid xs_impl_PointValid Try.f24.ntmps (fun b => []) (codeOf Try.f24) 0 (initS [.agg [.int p1, .int p2]]) (retK Try.f24.results.toList [.s (.bool (vB p1 p2))]) := by kernel_rfl
set_option maxHeartbeats 400000 in
theorem F_impl_PointValid : FunOK 24 g_impl_PointValid := by
  refine fun_F (by kernel_rfl) Try.func24 rfl (by kernel_rfl) sig_impl_PointValid_ok xs_impl_PointValid_ok ?_
  intro avs sg h hn hl
  unfold g_impl_PointValid at h
  split at h
  · rename_i p1 p2
    injection h with h; subst h
    refine ⟨by kernel_rfl, fun b => [], Eq.mp (V_impl_PointValid p1 p2) ?_⟩
    simp only [true_and, and_true, implies_true, and_self, forall_const, true_implies, lenA, lenL, SV.lenOK, Cont.lenOK] at hn hl ⊢
    simp only [bite_and, vB]
  · cases h
def crW (a1 a2 b1 b2 c1 c2 : Int) : Int := isub (imul (isub b1 a1) (isub c2 a2)) (imul (isub b2 a2) (isub c1 a1))
def cr (l : List Pt) (i j k : Int) : Int := crW (getx l i) (gety l i) (getx l j) (gety l j) (getx l k) (gety l k)
def nx (l : List Pt) (i : Int) : Int := (i + 1).tmod (ilen l)
def convE (l : List Pt) (i j : Int) : Bool := decide (j = i ∨ j = nx l i ∨ 0 < cr l i (nx l i) j)
def convB (l : List Pt) : Bool := inB (ilen l) 3 8 && allB l && allN (ilen l) fun i => allN (ilen l) fun j => convE l i j
theorem nx_in {l : List Pt} {i : Int} (h0 : 0 ≤ i) (h1 : i < ilen l) : 0 ≤ nx l i ∧ nx l i < ilen l ∧ ((i + 1 < ilen l ∧ nx l i = i + 1) ∨ (i + 1 = ilen l ∧ nx l i = 0)) := by
  have e : nx l i = (i + 1) % ilen l := Int.tmod_eq_emod_of_nonneg (by omega)
  rcases Int.lt_or_le (i + 1) (ilen l) with h | h
  · rw [e, Int.emod_eq_of_lt (by omega) h]; omega
  · have h2 : i + 1 = ilen l := by omega
    rw [e, h2, Int.emod_self]; omega
theorem allN_up {f : Int → Bool} {k : Int} (h : ∀ j, 0 ≤ j → j < k → f j = true) (hk : f k = true) : ∀ j, 0 ≤ j → j < k + 1 → f j = true := by
  intro j h0 h1
  rcases Int.lt_or_le j k with h2 | h2
  · exact h j h0 h2
  · rw [show j = k by omega]; exact hk
theorem upTo {P : Int → Prop} {k : Int} (h : ∀ j, 0 ≤ j → j < k → P j) (hk : P k) : ∀ j, 0 ≤ j → j < k + 1 → P j := by
  intro j h0 h1
  rcases Int.lt_or_le j k with h2 | h2
  · exact h j h0 h2
  · rw [show j = k by omega]; exact hk
theorem iadd_1 {k n : Int} (h0 : 0 ≤ k) (h1 : k < n) (h2 : n ≤ 9223372036854775807) : iadd k 1 = k + 1 := iadd_e (by omega) (by omega)
def g_impl_allPoints : List AV → Option Sg
  | [.s (.view (.pts l))] => some ⟨True, [.s (.bool (allB l))]⟩
  | _ => none
def sig_impl_allPoints : FuncId → List AV → Option Sg := sigL [(24, g_impl_PointValid)]
def xs_impl_allPoints : XS := ⟨xsigL [], ysigL []⟩
theorem sig_impl_allPoints_ok : SigOK sig_impl_allPoints := sigL_cons F_impl_PointValid sigL_nil
theorem xs_impl_allPoints_ok : XSigOK xs_impl_allPoints := ⟨xsigL_nil, ysigL_nil⟩
theorem V_impl_allPoints (l : List Pt) : ((true = true) ∧ ((True) ∧ True) ∧ (true = true) ∧ ((True) ∧ (True) ∧ (True) ∧ True) ∧ ∃ (I1 : List GV → Prop) (μ1 : List GV → Nat), (((true = true) ∧ (((false : Bool) = false) ∧ (((0 : Int) : Int) = (0 : Int)) ∧ ((Cont.pts l) = (Cont.pts l)) ∧ (((ilen l) : Int) = (ilen l)) ∧ ((Cont.pts l) = (Cont.pts l)) ∧ True) ∧ (True)) ∧ (([GK.int, GK.bool] : List GK) = ([GK.int, GK.bool] : List GK)) ∧ I1 [GV.int (0 : Int), GV.bool false]) ∧ (∀ i1_0 : Int, ∀ b1_1 : Bool, I1 [GV.int i1_0, GV.bool b1_1] → ((true = true) ∧ ((True) ∧ True) ∧ ((ilt i1_0 (ilen l)) = true → ((true = true) ∧ ((NLe 0 i1_0 ∧ NLt i1_0 (ilen l)) ∧ (True) ∧ (True) ∧ True) ∧ (True) ∧ (true = true) ∧ ((True) ∧ ((True)) ∧ (True) ∧ True) ∧ ((bnot (vB (getx l i1_0) (gety l i1_0))) = true → ((true = true) ∧ ((True) ∧ True) ∧ ((false : Bool) = (allB l)) ∧ True)) ∧ ((bnot (vB (getx l i1_0) (gety l i1_0))) = false → ((true = true) ∧ ((True) ∧ (True) ∧ True) ∧ ((true = true) ∧ (((b1_1 : Bool) = b1_1) ∧ (((iadd i1_0 (1 : Int)) : Int) = (iadd i1_0 (1 : Int))) ∧ ((Cont.pts l) = (Cont.pts l)) ∧ (((ilen l) : Int) = (ilen l)) ∧ ((Cont.pts l) = (Cont.pts l)) ∧ True) ∧ (True)) ∧ ((([GK.int, GK.bool] : List GK) = ([GK.int, GK.bool] : List GK)) ∧ I1 [GV.int (iadd i1_0 (1 : Int)), GV.bool b1_1] ∧ μ1 [GV.int (iadd i1_0 (1 : Int)), GV.bool b1_1] < μ1 [GV.int i1_0, GV.bool b1_1]))))) ∧ ((ilt i1_0 (ilen l)) = false → ((true = true) ∧ ((True) ∧ True) ∧ ((true : Bool) = (allB l)) ∧ True))))) = ev sig_impl_allPoints xs_impl_allPoints Try.f69.ntmps (fun b => if b == 0 then [.v 7, .v 2] else []) (codeOf Try.f69) 0 (initS [.s (.view (.pts l))]) (retK Try.f69.results.toList [.s (.bool (allB l))]) := by kernel_rfl
set_option maxHeartbeats 400000 in
theorem F_impl_allPoints : FunOK 69 g_impl_allPoints := by
  refine fun_F (by kernel_rfl) Try.func69 rfl (by kernel_rfl) sig_impl_allPoints_ok xs_impl_allPoints_ok ?_
  intro avs sg h hn hl
  unfold g_impl_allPoints at h
  split at h
  · rename_i l
    injection h with h; subst h
    refine ⟨by kernel_rfl, fun b => if b == 0 then [.v 7, .v 2] else [], Eq.mp (V_impl_allPoints l) ?_⟩
    simp only [true_and, and_true, implies_true, and_self, forall_const, true_implies, lenA, lenL, SV.lenOK, Cont.lenOK] at hn hl ⊢
    have h0 := ilen_0 l
    simp only [ilt_t, ilt_f, ile_t, ile_f, ieq_t, ieq_f, bnot_e, band_e, bite_and, bite_or, NLt_e, NLe_e, NNe_e, NIs_e, imax_e, imin_e, irem_e, Bool.not_eq_true', Bool.not_eq_false', Bool.and_eq_true, Bool.or_eq_true, Bool.or_eq_false_iff, Bool.and_eq_false_iff, Cont.pts.injEq, Cont.ints.injEq, Cont.bools.injEq, Cont.ptss.injEq, Cont.intss.injEq, Cont.boolss.injEq, true_and, and_true, implies_true]
    refine ⟨fun | .int k :: _ => 0 ≤ k ∧ k ≤ ilen l ∧ (∀ j, 0 ≤ j → j < k → vB (getx l j) (gety l j) = true) | _ => False, fun | .int k :: _ => (ilen l - k).toNat | _ => 0, ?_, ?_⟩
    · exact ⟨Int.le_refl 0, h0, fun j h0 h1 => absurd h1 (by omega)⟩
    · rintro k _ ⟨hk0, hk1, hk⟩
      simp only [ilt_t, ilt_f, ile_t, ile_f, ieq_t, ieq_f, bnot_e, band_e, bite_and, bite_or, NLt_e, NLe_e, NNe_e, NIs_e, imax_e, imin_e, irem_e, Bool.not_eq_true', Bool.not_eq_false', Bool.and_eq_true, Bool.or_eq_true, Bool.or_eq_false_iff, Bool.and_eq_false_iff, Cont.pts.injEq, Cont.ints.injEq, Cont.bools.injEq, Cont.ptss.injEq, Cont.intss.injEq, Cont.boolss.injEq, true_and, and_true, implies_true]
      refine ⟨fun hc => ⟨⟨hk0, hc⟩, fun hv => ?_, fun hv => ?_⟩, fun hc => ?_⟩
      · rw [allB_N, allN_no k hk0 hc hv]
      · rw [iadd_1 hk0 hc hl]
        exact ⟨⟨by omega, by omega, allN_up hk hv⟩, by omega⟩
      · rw [allB_N, allN_mk fun j h0 h1 => hk j h0 (by omega)]
  · cases h
def crvB (l : List Pt) : Bool := inB (ilen l) 1 4 && allB l
def g_impl_CurveValid : List AV → Option Sg
  | [.s (.view (.pts l))] => some ⟨True, [.s (.bool (crvB l))]⟩
  | _ => none
def sig_impl_CurveValid : FuncId → List AV → Option Sg := sigL [(68, g_impl_within), (69, g_impl_allPoints)]
def xs_impl_CurveValid : XS := ⟨xsigL [], ysigL []⟩
theorem sig_impl_CurveValid_ok : SigOK sig_impl_CurveValid := sigL_cons F_impl_within (sigL_cons F_impl_allPoints sigL_nil)
theorem xs_impl_CurveValid_ok : XSigOK xs_impl_CurveValid := ⟨xsigL_nil, ysigL_nil⟩
theorem V_impl_CurveValid (l : List Pt) : ((true = true) ∧ ((True) ∧ True) ∧ (true = true) ∧ ((True) ∧ (True) ∧ ((True)) ∧ (True) ∧ (NIs (inB (ilen l) (1 : Int) (4 : Int)) true → True) ∧ (NIs (inB (ilen l) (1 : Int) (4 : Int)) true → (True)) ∧ (True) ∧ (True) ∧ True) ∧ (((bite (inB (ilen l) (1 : Int) (4 : Int)) (allB l) false) : Bool) = (crvB l)) ∧ True) = ev sig_impl_CurveValid xs_impl_CurveValid Try.f26.ntmps (fun b => []) (codeOf Try.f26) 0 (initS [.s (.view (.pts l))]) (retK Try.f26.results.toList [.s (.bool (crvB l))]) := by kernel_rfl
set_option maxHeartbeats 400000 in
theorem F_impl_CurveValid : FunOK 26 g_impl_CurveValid := by
  refine fun_F (by kernel_rfl) Try.func26 rfl (by kernel_rfl) sig_impl_CurveValid_ok xs_impl_CurveValid_ok ?_
  intro avs sg h hn hl
  unfold g_impl_CurveValid at h
  split at h
  · rename_i l
    injection h with h; subst h
    refine ⟨by kernel_rfl, fun b => [], Eq.mp (V_impl_CurveValid l) ?_⟩
    simp only [true_and, and_true, implies_true, and_self, forall_const, true_implies, lenA, lenL, SV.lenOK, Cont.lenOK] at hn hl ⊢
    simp only [ilt_t, ilt_f, ile_t, ile_f, ieq_t, ieq_f, bnot_e, band_e, bite_and, bite_or, NLt_e, NLe_e, NNe_e, NIs_e, imax_e, imin_e, irem_e, Bool.not_eq_true', Bool.not_eq_false', Bool.and_eq_true, Bool.or_eq_true, Bool.or_eq_false_iff, Bool.and_eq_false_iff, Cont.pts.injEq, Cont.ints.injEq, Cont.bools.injEq, Cont.ptss.injEq, Cont.intss.injEq, Cont.boolss.injEq, true_and, and_true, implies_true]
    rfl
  · cases h
def g_slices_Clone_Simpl_Point_impl_Point : List AV → Option Sg
  | [.s (.view (.pts l))] => some ⟨ilen l ≤ 1000000000, [.nrow 25 (.pts (l))]⟩
  | _ => none
def sig_slices_Clone_Simpl_Point_impl_Point : FuncId → List AV → Option Sg := sigL []
def xs_slices_Clone_Simpl_Point_impl_Point : XS := ⟨xsigL [], ysigL []⟩
theorem sig_slices_Clone_Simpl_Point_impl_Point_ok : SigOK sig_slices_Clone_Simpl_Point_impl_Point := sigL_nil
theorem xs_slices_Clone_Simpl_Point_impl_Point_ok : XSigOK xs_slices_Clone_Simpl_Point_impl_Point := ⟨xsigL_nil, ysigL_nil⟩
theorem V_slices_Clone_Simpl_Point_impl_Point (l : List Pt) : ((true = true) ∧ ((True) ∧ True) ∧ (true = true) ∧ ((True) ∧ True) ∧ (true = true) ∧ (∀ nb_1 : Bool, (nb_1 = true → (ilen l) = 0) → ((nb_1 = true → ((true = true) ∧ ((True) ∧ True) ∧ ((true = true) ∧ ((Cont.pts []) = (Cont.pts (l)))) ∧ True)) ∧ (nb_1 = false → ((true = true) ∧ ((True) ∧ (True) ∧ True) ∧ (NLe (ilen ([] : List Pt)) 1000000000 ∧ NLe (ilen l) 1000000000) ∧ (True) ∧ ((true = true) ∧ ((Cont.pts (iapp [] l)) = (Cont.pts (l)))) ∧ True))))) = ev sig_slices_Clone_Simpl_Point_impl_Point xs_slices_Clone_Simpl_Point_impl_Point Try.f76.ntmps (fun b => []) (codeOf Try.f76) 0 (initS [.s (.view (.pts l))]) (retK Try.f76.results.toList [.nrow 25 (.pts (l))]) := by kernel_rfl
set_option maxHeartbeats 400000 in
theorem F_slices_Clone_Simpl_Point_impl_Point : FunOK 76 g_slices_Clone_Simpl_Point_impl_Point := by
  refine fun_F (by kernel_rfl) Try.func76 rfl (by kernel_rfl) sig_slices_Clone_Simpl_Point_impl_Point_ok xs_slices_Clone_Simpl_Point_impl_Point_ok ?_
  intro avs sg h hn hl
  unfold g_slices_Clone_Simpl_Point_impl_Point at h
  split at h
  · rename_i l
    injection h with h; subst h
    refine ⟨by kernel_rfl, fun b => [], Eq.mp (V_slices_Clone_Simpl_Point_impl_Point l) ?_⟩
    simp only [true_and, and_true, implies_true, and_self, forall_const, true_implies, lenA, lenL, SV.lenOK, Cont.lenOK] at hn hl ⊢
    have h0 := ilen_0 l
    simp only [ilt_t, ilt_f, ile_t, ile_f, ieq_t, ieq_f, bnot_e, band_e, bite_and, bite_or, NLt_e, NLe_e, NNe_e, NIs_e, imax_e, imin_e, irem_e, Bool.not_eq_true', Bool.not_eq_false', Bool.and_eq_true, Bool.or_eq_true, Bool.or_eq_false_iff, Bool.and_eq_false_iff, Cont.pts.injEq, Cont.ints.injEq, Cont.bools.injEq, Cont.ptss.injEq, Cont.intss.injEq, Cont.boolss.injEq, true_and, and_true, implies_true]
    intro b hb
    refine ⟨fun h => ?_, fun h => ⟨⟨by rw [ilen_nil]; omega, hn⟩, by simp [iapp]⟩⟩
    have := hb h
    have : l.length = 0 := by unfold ilen at this; omega
    exact (List.length_eq_zero_iff.1 this).symm
  · cases h
theorem floor_e {a b : Int} (hb : 1 ≤ b) : (a.tmod b < 0 → a.tdiv b - 1 = a / b) ∧ (0 ≤ a.tmod b → a.tdiv b = a / b) := by
  rcases Int.le_total 0 a with h | h
  · have e1 : a.tmod b = a % b := Int.tmod_eq_emod_of_nonneg h
    have e2 : a.tdiv b = a / b := Int.tdiv_eq_ediv_of_nonneg h
    have := Int.emod_nonneg a (show b ≠ 0 by omega)
    exact ⟨fun h => by omega, fun _ => e2⟩
  · obtain ⟨c, rfl⟩ : ∃ c, a = -c := ⟨-a, by omega⟩
    have hc : 0 ≤ c := by omega
    have e1 : (-c).tmod b = -(c % b) := by rw [Int.neg_tmod, Int.tmod_eq_emod_of_nonneg hc]
    have e2 : (-c).tdiv b = -(c / b) := by rw [Int.neg_tdiv, Int.tdiv_eq_ediv_of_nonneg hc]
    have m0 := Int.emod_nonneg c (show b ≠ 0 by omega)
    have m1 := Int.emod_lt_of_pos c (show 0 < b by omega)
    have m2 := Int.emod_add_mul_ediv c b
    rw [e1, e2]
    refine ⟨fun h => ?_, fun h => ?_⟩
    · refine (((Int.ediv_emod_unique (r := b - c % b) (q := -(c / b) - 1) (show 0 < b by omega)).2 ⟨?_, by omega, by omega⟩).1).symm
      rw [Int.mul_sub, Int.mul_neg]; omega
    · refine (((Int.ediv_emod_unique (r := 0) (q := -(c / b)) (show 0 < b by omega)).2 ⟨?_, by omega, by omega⟩).1).symm
      rw [Int.mul_neg]; omega
theorem tdiv_bd {a b : Int} (hb : 1 ≤ b) (h1 : -9223372036854775807 ≤ a) (h2 : a ≤ 9223372036854775807) : iquo a b = a.tdiv b ∧ (a.tmod b < 0 → isub (a.tdiv b) 1 = a.tdiv b - 1) := by
  refine ⟨iquo_e (by omega) (by omega) hb, fun _ => ?_⟩
  have : -9223372036854775807 ≤ a.tdiv b ∧ a.tdiv b ≤ 9223372036854775807 := by
    rcases Int.le_total 0 a with h | h
    · rw [Int.tdiv_eq_ediv_of_nonneg h]
      have := Int.ediv_nonneg h (show 0 ≤ b by omega)
      have := Int.ediv_le_self b h
      omega
    · obtain ⟨c, rfl⟩ : ∃ c, a = -c := ⟨-a, by omega⟩
      rw [Int.neg_tdiv, Int.tdiv_eq_ediv_of_nonneg (show 0 ≤ c by omega)]
      have := Int.ediv_nonneg (show 0 ≤ c by omega) (show 0 ≤ b by omega)
      have := Int.ediv_le_self b (show 0 ≤ c by omega)
      omega
  exact isub_e (by omega) (by omega)
def g_impl_floor : List AV → Option Sg
  | [.s (.int a), .s (.int b)] => some ⟨1 ≤ b ∧ -9223372036854775807 ≤ a ∧ a ≤ 9223372036854775807, [.s (.int (a / b))]⟩
  | _ => none
def sig_impl_floor : FuncId → List AV → Option Sg := sigL []
def xs_impl_floor : XS := ⟨xsigL [], ysigL []⟩
theorem sig_impl_floor_ok : SigOK sig_impl_floor := sigL_nil
theorem xs_impl_floor_ok : XSigOK xs_impl_floor := ⟨xsigL_nil, ysigL_nil⟩
theorem V_impl_floor (a : Int) (b : Int) : ((true = true) ∧ ((True) ∧ True) ∧ (true = true) ∧ ((True) ∧ (True) ∧ (NNe b 0) ∧ (True) ∧ True) ∧ (true = true) ∧ ((True) ∧ (True) ∧ (NNe b 0) ∧ (True) ∧ True) ∧ ((ilt (irem a b) (0 : Int)) = true → ((true = true) ∧ ((True) ∧ (True) ∧ (True) ∧ True) ∧ (true = true) ∧ ((True) ∧ (True) ∧ True) ∧ (((isub (iquo a b) (1 : Int)) : Int) = (a / b)) ∧ True)) ∧ ((ilt (irem a b) (0 : Int)) = false → ((true = true) ∧ ((True) ∧ (True) ∧ True) ∧ (((iquo a b) : Int) = (a / b)) ∧ True))) = ev sig_impl_floor xs_impl_floor Try.f79.ntmps (fun b => []) (codeOf Try.f79) 0 (initS [.s (.int a), .s (.int b)]) (retK Try.f79.results.toList [.s (.int (a / b))]) := by kernel_rfl
set_option maxHeartbeats 400000 in
theorem F_impl_floor : FunOK 79 g_impl_floor := by
  refine fun_F (by kernel_rfl) Try.func79 rfl (by kernel_rfl) sig_impl_floor_ok xs_impl_floor_ok ?_
  intro avs sg h hn hl
  unfold g_impl_floor at h
  split at h
  · rename_i a b
    injection h with h; subst h
    refine ⟨by kernel_rfl, fun b => [], Eq.mp (V_impl_floor a b) ?_⟩
    simp only [true_and, and_true, implies_true, and_self, forall_const, true_implies, lenA, lenL, SV.lenOK, Cont.lenOK] at hn hl ⊢
    obtain ⟨n1, n2, n3⟩ := hn
    obtain ⟨q1, q2⟩ := tdiv_bd n1 n2 n3
    obtain ⟨f1, f2⟩ := floor_e (a := a) n1
    simp only [ilt_t, ilt_f, ile_t, ile_f, ieq_t, ieq_f, bnot_e, band_e, bite_and, bite_or, NLt_e, NLe_e, NNe_e, NIs_e, imax_e, imin_e, irem_e, Bool.not_eq_true', Bool.not_eq_false', Bool.and_eq_true, Bool.or_eq_true, Bool.or_eq_false_iff, Bool.and_eq_false_iff, Cont.pts.injEq, Cont.ints.injEq, Cont.bools.injEq, Cont.ptss.injEq, Cont.intss.injEq, Cont.boolss.injEq, true_and, and_true, implies_true]
    refine ⟨by omega, by omega, fun h => ?_, fun h => ?_⟩
    · rw [q1, q2 h, f1 h]
    · rw [q1, f2 h]
  · cases h
def dcv (t : Int) (f : Int → Int) : Nat → Int → Int
  | 0, k => f k
  | m + 1, k => (64 - t) * dcv t f m k + t * dcv t f m (k + 1)
def p64 : Nat → Int
  | 0 => 1
  | m + 1 => p64 m * 64
theorem p64_pos : ∀ m, 1 ≤ p64 m
  | 0 => by decide
  | m + 1 => by have := p64_pos m; unfold p64; omega
theorem p64_le {m : Nat} (h : m ≤ 3) : p64 m ≤ 262144 := by
  rcases (by omega : m = 0 ∨ m = 1 ∨ m = 2 ∨ m = 3) with rfl | rfl | rfl | rfl <;> decide
theorem p64_even {m : Nat} (h : 1 ≤ m) : ∃ c, p64 m = 2 * c ∧ 1 ≤ c := by
  obtain ⟨q, rfl⟩ : ∃ q, m = q + 1 := ⟨m - 1, by omega⟩
  have := p64_pos q
  exact ⟨p64 q * 32, by show p64 q * 64 = _; omega, by omega⟩
theorem dcv_bd {t : Int} {f : Int → Int} {n lo hi : Int} (ht0 : 0 ≤ t) (ht1 : t ≤ 64) (hf : ∀ j, 0 ≤ j → j < n → lo ≤ f j ∧ f j ≤ hi) :
    ∀ (m : Nat) (k : Int), 0 ≤ k → k + m < n → lo * p64 m ≤ dcv t f m k ∧ dcv t f m k ≤ hi * p64 m
  | 0, k, h0, h1 => by
    have := hf k h0 (by omega)
    unfold dcv p64; omega
  | m + 1, k, h0, h1 => by
    obtain ⟨a1, a2⟩ := dcv_bd ht0 ht1 hf m k h0 (by omega)
    obtain ⟨b1, b2⟩ := dcv_bd ht0 ht1 hf m (k + 1) (by omega) (by omega)
    unfold dcv p64
    have e : ∀ x : Int, x * (p64 m * 64) = (64 - t) * (x * p64 m) + t * (x * p64 m) := fun x => by
      rw [← Int.add_mul, show 64 - t + t = 64 by omega, Int.mul_comm 64, Int.mul_assoc]
    rw [e lo, e hi]
    exact ⟨Int.add_le_add (Int.mul_le_mul_of_nonneg_left a1 (by omega)) (Int.mul_le_mul_of_nonneg_left b1 ht0),
      Int.add_le_add (Int.mul_le_mul_of_nonneg_left a2 (by omega)) (Int.mul_le_mul_of_nonneg_left b2 ht0)⟩
/-- the parts of a step stay small -/
theorem dcv_parts {t : Int} {f : Int → Int} {n : Int} (ht0 : 0 ≤ t) (ht1 : t ≤ 64) (hn : n ≤ 4) (hf : ∀ j, 0 ≤ j → j < n → -10000 ≤ f j ∧ f j ≤ 10000) {m : Nat} {k : Int} (h0 : 0 ≤ k) (h1 : k + m < n) :
    (-2621440000 ≤ dcv t f m k ∧ dcv t f m k ≤ 2621440000) ∧ (-167772160000 ≤ (64 - t) * dcv t f m k ∧ (64 - t) * dcv t f m k ≤ 167772160000) ∧ (-167772160000 ≤ t * dcv t f m k ∧ t * dcv t f m k ≤ 167772160000) := by
  obtain ⟨a1, a2⟩ := dcv_bd ht0 ht1 hf m k h0 h1
  have hp := p64_le (m := m) (by omega)
  have hp0 := p64_pos m
  have b1 : -2621440000 ≤ dcv t f m k := by omega
  have b2 : dcv t f m k ≤ 2621440000 := by omega
  have key : ∀ s : Int, 0 ≤ s → s ≤ 64 → -167772160000 ≤ s * dcv t f m k ∧ s * dcv t f m k ≤ 167772160000 := fun s s0 s1 => by
    have c1 := Int.mul_le_mul_of_nonneg_left b1 s0
    have c2 := Int.mul_le_mul_of_nonneg_left b2 s0
    constructor
    · refine Int.le_trans ?_ c1; omega
    · refine Int.le_trans c2 ?_; omega
  exact ⟨⟨b1, b2⟩, key _ (by omega) (by omega), key _ ht0 ht1⟩
theorem dcv_0 (f : Int → Int) : ∀ (m : Nat) (k : Int), dcv 0 f m k = f k * p64 m
  | 0, k => by unfold dcv p64; omega
  | m + 1, k => by
    show (64 - 0) * dcv 0 f m k + 0 * dcv 0 f m (k + 1) = f k * (p64 m * 64)
    rw [dcv_0 f m k]; generalize f k = x; generalize p64 m = y; grind
theorem dcv_64 (f : Int → Int) : ∀ (m : Nat) (k : Int), dcv 64 f m k = f (k + m) * p64 m
  | 0, k => by simp [dcv, p64]
  | m + 1, k => by
    show (64 - 64) * dcv 64 f m k + 64 * dcv 64 f m (k + 1) = f (k + ((m + 1 : Nat) : Int)) * (p64 m * 64)
    rw [dcv_64 f m k, dcv_64 f m (k + 1), show k + 1 + (m : Int) = k + ((m + 1 : Nat) : Int) by omega]; generalize f (k + ((m + 1 : Nat) : Int)) = x; generalize p64 m = y; grind
theorem dcv_rev (t c : Int) (f g : Int → Int) (n : Int) (hg : ∀ j, 0 ≤ j → j < n → g j = f (n - 1 - j)) : ∀ (m : Nat) (k : Int), 0 ≤ k → k + m < n → dcv (64 - t) g m k = dcv t f m (n - 1 - m - k)
  | 0, k, h0, h1 => by unfold dcv; rw [hg k h0 (by omega)]; congr 1; omega
  | m + 1, k, h0, h1 => by
    unfold dcv
    rw [dcv_rev t c f g n hg m k h0 (by omega), dcv_rev t c f g n hg m (k + 1) (by omega) (by omega)]
    rw [show 64 - (64 - t) = t by omega, show n - 1 - ((m + 1 : Nat) : Int) - k = n - 1 - m - (k + 1) by omega, show n - 1 - (m : Int) - (k + 1) + 1 = n - 1 - m - k by omega]
    omega
theorem dcv_congr {t n : Int} {f g : Int → Int} (h : ∀ j, 0 ≤ j → j < n → f j = g j) : ∀ (m : Nat) (k : Int), 0 ≤ k → k + m < n → dcv t f m k = dcv t g m k
  | 0, k, h0, h1 => h k h0 (by omega)
  | m + 1, k, h0, h1 => by unfold dcv; rw [dcv_congr h m k h0 (by omega), dcv_congr h m (k + 1) (by omega) (by omega)]
/-- the rounded value -/
def rnd (a b : Int) : Int := (2 * a + b) / (2 * b)
def cvN (n t : Int) (f : Int → Int) : Int := rnd (dcv t f (n - 1).toNat 0) (p64 (n - 1).toNat)
theorem rnd_even {a b c : Int} (hb : b = 2 * c) : rnd a b = (a + b / 2) / b := by
  unfold rnd
  subst hb
  rw [show 2 * c / 2 = c by omega, show 2 * a + 2 * c = 2 * (a + c) by omega, Int.mul_ediv_mul_of_pos _ _ (by omega : (0:Int) < 2)]
theorem rnd_1 (a : Int) : rnd a 1 = a := by unfold rnd; omega
theorem rnd_mul {x p : Int} (hp : 1 ≤ p) : rnd (x * p) p = x := by
  unfold rnd
  have : 2 * (x * p) + p = p + x * (2 * p) := by rw [Int.mul_left_comm]; omega
  rw [this, Int.add_mul_ediv_right _ _ (by omega), Int.ediv_eq_zero_of_lt (by omega) (by omega)]; omega
theorem rnd_mono {a b p : Int} (hp : 1 ≤ p) (h : a ≤ b) : rnd a p ≤ rnd b p := Int.ediv_le_ediv (by omega) (by omega)
theorem cvN_in {n t lo hi : Int} {f : Int → Int} (hn : 1 ≤ n) (ht0 : 0 ≤ t) (ht1 : t ≤ 64) (hf : ∀ j, 0 ≤ j → j < n → lo ≤ f j ∧ f j ≤ hi) : lo ≤ cvN n t f ∧ cvN n t f ≤ hi := by
  obtain ⟨a1, a2⟩ := dcv_bd ht0 ht1 hf (n - 1).toNat 0 (by omega) (by omega)
  have hp := p64_pos (n - 1).toNat
  unfold cvN
  exact ⟨by have := rnd_mono hp a1; rwa [rnd_mul hp] at this, by have := rnd_mono hp a2; rwa [rnd_mul hp] at this⟩
theorem cvN_0 {n : Int} (f : Int → Int) : cvN n 0 f = f 0 := by unfold cvN; rw [dcv_0, rnd_mul (p64_pos _)]
theorem cvN_64 {n : Int} (hn : 1 ≤ n) (f : Int → Int) : cvN n 64 f = f (n - 1) := by unfold cvN; rw [dcv_64, rnd_mul (p64_pos _)]; congr 1; omega
theorem cvN_rev {n t : Int} {f g : Int → Int} (hn : 1 ≤ n) (hg : ∀ j, 0 ≤ j → j < n → g j = f (n - 1 - j)) : cvN n (64 - t) g = cvN n t f := by
  unfold cvN; rw [dcv_rev t 0 f g n hg _ 0 (by omega) (by omega)]; congr 2; omega
/-- two control points: a line -/
theorem cvN_line {a b k : Int} (f : Int → Int) (h0 : f 0 = a) (h1 : f 1 = b) : cvN 2 (4 * k) f = a + (k * (b - a) + 8) / 16 := by
  unfold cvN
  have e : dcv (4 * k) f (2 - 1 : Int).toNat 0 = 64 * a + 4 * (k * (b - a)) := by
    show (64 - 4 * k) * f 0 + 4 * k * f (0 + 1) = _
    rw [show (0 : Int) + 1 = 1 from rfl, h0, h1, Int.sub_mul, Int.mul_sub, Int.mul_assoc, Int.mul_assoc]; omega
  rw [e, show p64 (2 - 1 : Int).toNat = 64 from rfl]
  unfold rnd
  generalize k * (b - a) = d
  omega
def g_impl_nearest : List AV → Option Sg
  | [.s (.int a), .s (.int b)] => some ⟨1 ≤ b ∧ b ≤ 1000000 ∧ -1000000000000 ≤ a ∧ a ≤ 1000000000000, [.s (.int (rnd a b))]⟩
  | _ => none
def sig_impl_nearest : FuncId → List AV → Option Sg := sigL [(79, g_impl_floor)]
def xs_impl_nearest : XS := ⟨xsigL [], ysigL []⟩
theorem sig_impl_nearest_ok : SigOK sig_impl_nearest := sigL_cons F_impl_floor sigL_nil
theorem xs_impl_nearest_ok : XSigOK xs_impl_nearest := ⟨xsigL_nil, ysigL_nil⟩
theorem V_impl_nearest (a : Int) (b : Int) : ((true = true) ∧ ((True) ∧ True) ∧ (true = true) ∧ ((True) ∧ (True) ∧ (True) ∧ (True) ∧ (True) ∧ (True) ∧ ((1 ≤ (imul (2 : Int) b) ∧ -9223372036854775807 ≤ (iadd (imul (2 : Int) a) b) ∧ (iadd (imul (2 : Int) a) b) ≤ 9223372036854775807)) ∧ (True) ∧ True) ∧ ((((iadd (imul (2 : Int) a) b) / (imul (2 : Int) b)) : Int) = (rnd a b)) ∧ True) = ev sig_impl_nearest xs_impl_nearest Try.f77.ntmps (fun b => []) (codeOf Try.f77) 0 (initS [.s (.int a), .s (.int b)]) (retK Try.f77.results.toList [.s (.int (rnd a b))]) := by kernel_rfl
set_option maxHeartbeats 400000 in
theorem F_impl_nearest : FunOK 77 g_impl_nearest := by
  refine fun_F (by kernel_rfl) Try.func77 rfl (by kernel_rfl) sig_impl_nearest_ok xs_impl_nearest_ok ?_
  intro avs sg h hn hl
  unfold g_impl_nearest at h
  split at h
  · rename_i a b
    injection h with h; subst h
    refine ⟨by kernel_rfl, fun b => [], Eq.mp (V_impl_nearest a b) ?_⟩
    simp only [true_and, and_true, implies_true, and_self, forall_const, true_implies, lenA, lenL, SV.lenOK, Cont.lenOK] at hn hl ⊢
    rw [imul_e (by omega) (by omega), imul_e (by omega) (by omega), iadd_e (by omega) (by omega)]
    exact ⟨by omega, rfl⟩
  · cases h
def cpB (l : List Pt) (t : Int) : Bool := crvB l && inB t 0 64
def cpx (l : List Pt) (t : Int) : Int := if cpB l t then cvN (ilen l) t (getx l) else 0
def cpy (l : List Pt) (t : Int) : Int := if cpB l t then cvN (ilen l) t (gety l) else 0
theorem crv_parts {l : List Pt} (h : crvB l = true) : (1 ≤ ilen l ∧ ilen l ≤ 4) ∧ (∀ j, 0 ≤ j → j < ilen l → -10000 ≤ getx l j ∧ getx l j ≤ 10000) ∧ (∀ j, 0 ≤ j → j < ilen l → -10000 ≤ gety l j ∧ gety l j ≤ 10000) := by
  unfold crvB at h
  simp only [Bool.and_eq_true] at h
  have h1 := h.2
  rw [allB_N] at h1
  have h2 : ∀ j, 0 ≤ j → j < ilen l → (-10000 ≤ getx l j ∧ getx l j ≤ 10000) ∧ (-10000 ≤ gety l j ∧ gety l j ≤ 10000) := fun j j0 j1 => by
    have := allN_iff.1 h1 j j0 j1
    unfold vB at this
    simp only [Bool.and_eq_true] at this
    exact ⟨inB_true this.1, inB_true this.2⟩
  exact ⟨inB_true h.1, fun j j0 j1 => (h2 j j0 j1).1, fun j j0 j1 => (h2 j j0 j1).2⟩
theorem step_w {t x y a b : Int} (ht0 : 0 ≤ t) (ht1 : t ≤ 64) (ha : -167772160000 ≤ (64 - t) * x ∧ (64 - t) * x ≤ 167772160000) (hb : -167772160000 ≤ t * y ∧ t * y ≤ 167772160000) :
    iadd (imul (isub 64 t) x) (imul t y) = (64 - t) * x + t * y := by
  rw [isub_e (by omega) (by omega), imul_e (by omega) (by omega), imul_e (by omega) (by omega), iadd_e (by omega) (by omega)]
theorem itake_get {l : List Int} {n j : Int} (h0 : 0 ≤ j) (h1 : j < n) : geti (itake l n) j = geti l j := by
  unfold geti itake
  simp only [List.getD_eq_getElem?_getD, List.getElem?_take]
  rw [if_pos (by omega)]
theorem itake_getx {l : List Pt} {n j : Int} (h0 : 0 ≤ j) (h1 : j < n) : getx (itake l n) j = getx l j := by
  unfold getx itake
  simp only [List.getD_eq_getElem?_getD, List.getElem?_take]
  rw [if_pos (by omega)]
theorem itake_gety {l : List Pt} {n j : Int} (h0 : 0 ≤ j) (h1 : j < n) : gety (itake l n) j = gety l j := by
  unfold gety itake
  simp only [List.getD_eq_getElem?_getD, List.getElem?_take]
  rw [if_pos (by omega)]
theorem itake_len {α : Type} {l : List α} {n : Int} (h0 : 0 ≤ n) (h1 : n ≤ ilen l) : ilen (itake l n) = n := by
  unfold ilen itake at *
  simp; omega
theorem p64_s (m : Nat) : p64 (m + 1) = p64 m * 64 := rfl
theorem dcv_s (t : Int) (f : Int → Int) (m : Nat) (k : Int) : dcv t f (m + 1) k = (64 - t) * dcv t f m k + t * dcv t f m (k + 1) := rfl
def g_impl_CurvePoint : List AV → Option Sg
  | [.s (.view (.pts l)), .s (.int t)] => some ⟨True, [.agg [.int (cpx l t), .int (cpy l t)]]⟩
  | _ => none
def sig_impl_CurvePoint : FuncId → List AV → Option Sg := sigL [(26, nilG (.pts []) g_impl_CurveValid), (68, g_impl_within), (76, g_slices_Clone_Simpl_Point_impl_Point), (77, g_impl_nearest)]
def xs_impl_CurvePoint : XS := ⟨xsigL [], ysigL []⟩
theorem sig_impl_CurvePoint_ok : SigOK sig_impl_CurvePoint := sigL_cons (FunOK.nil (c := .pts []) rfl F_impl_CurveValid) (sigL_cons F_impl_within (sigL_cons F_slices_Clone_Simpl_Point_impl_Point (sigL_cons F_impl_nearest sigL_nil)))
theorem xs_impl_CurvePoint_ok : XSigOK xs_impl_CurvePoint := ⟨xsigL_nil, ysigL_nil⟩
theorem V_impl_CurvePoint (l : List Pt) (t : Int) : ((true = true) ∧ ((True) ∧ True) ∧ (true = true) ∧ ((True) ∧ ((True)) ∧ (True) ∧ (True) ∧ (NIs (bnot (crvB l)) false → True) ∧ (NIs (bnot (crvB l)) false → (True)) ∧ (NIs (bnot (crvB l)) false → True) ∧ (True) ∧ True) ∧ ((bite (bnot (crvB l)) true (bnot (inB t (0 : Int) (64 : Int)))) = true → ((true = true) ∧ ((True) ∧ True) ∧ (True) ∧ ((((0 : Int) : Int) = (cpx l t)) ∧ (((0 : Int) : Int) = (cpy l t)) ∧ True) ∧ True)) ∧ ((bite (bnot (crvB l)) true (bnot (inB t (0 : Int) (64 : Int)))) = false → ((true = true) ∧ ((True) ∧ ((ilen l ≤ 1000000000)) ∧ (True) ∧ True) ∧ (true = true) ∧ ((True) ∧ True) ∧ ∃ (I1 : List GV → Prop) (μ1 : List GV → Nat), (((true = true) ∧ ((((1 : Int) : Int) = (1 : Int)) ∧ ((Cont.pts l) = (Cont.pts l)) ∧ (true = true) ∧ ((Cont.pts l) = (Cont.pts l)) ∧ (((crvB l) : Bool) = (crvB l)) ∧ (((bnot (crvB l)) : Bool) = (bnot (crvB l))) ∧ (((bnot (crvB l)) : Bool) = (bnot (crvB l))) ∧ (((bite (bnot (crvB l)) true (bnot (inB t (0 : Int) (64 : Int)))) : Bool) = (bite (bnot (crvB l)) true (bnot (inB t (0 : Int) (64 : Int))))) ∧ (true = true) ∧ ((Cont.pts l) = (Cont.pts l)) ∧ ((t : Int) = t) ∧ True) ∧ (((true = true) ∧ ((Cont.pts (l)) = (Cont.pts (l)))) ∧ ((((0 : Int) : Int) = (0 : Int)) ∧ (((0 : Int) : Int) = (0 : Int)) ∧ True) ∧ True)) ∧ (([GK.int, GK.pts] : List GK) = ([GK.int, GK.pts] : List GK)) ∧ I1 [GV.int (1 : Int), GV.pts (l)]) ∧ (∀ i1_0 : Int, ∀ l1_1 : List Pt, I1 [GV.int i1_0, GV.pts l1_1] → ((true = true) ∧ ((True) ∧ (True) ∧ (True) ∧ True) ∧ ((ilt (1 : Int) (ilen l1_1)) = true → ((true = true) ∧ ((True) ∧ (True) ∧ (True) ∧ (True) ∧ True) ∧ ∃ (I2 : List GV → Prop) (μ2 : List GV → Nat), (((true = true) ∧ ((((0 : Int) : Int) = (0 : Int)) ∧ (((ilen l1_1) : Int) = (ilen l1_1)) ∧ (((isub (ilen l1_1) (1 : Int)) : Int) = (isub (ilen l1_1) (1 : Int))) ∧ (((ilen l1_1) : Int) = (ilen l1_1)) ∧ (((ilt (1 : Int) (ilen l1_1)) : Bool) = (ilt (1 : Int) (ilen l1_1))) ∧ ((i1_0 : Int) = i1_0) ∧ ((Cont.pts l) = (Cont.pts l)) ∧ (true = true) ∧ ((Cont.pts l) = (Cont.pts l)) ∧ (((crvB l) : Bool) = (crvB l)) ∧ (((bnot (crvB l)) : Bool) = (bnot (crvB l))) ∧ (((bnot (crvB l)) : Bool) = (bnot (crvB l))) ∧ (((bite (bnot (crvB l)) true (bnot (inB t (0 : Int) (64 : Int)))) : Bool) = (bite (bnot (crvB l)) true (bnot (inB t (0 : Int) (64 : Int))))) ∧ (true = true) ∧ ((Cont.pts l) = (Cont.pts l)) ∧ ((t : Int) = t) ∧ True) ∧ (((true = true) ∧ ((Cont.pts l1_1) = (Cont.pts l1_1))) ∧ ((((0 : Int) : Int) = (0 : Int)) ∧ (((0 : Int) : Int) = (0 : Int)) ∧ True) ∧ True)) ∧ (([GK.int, GK.pts] : List GK) = ([GK.int, GK.pts] : List GK)) ∧ I2 [GV.int (0 : Int), GV.pts l1_1]) ∧ (∀ i2_0 : Int, ∀ l2_1 : List Pt, I2 [GV.int i2_0, GV.pts l2_1] → ((true = true) ∧ ((True) ∧ True) ∧ ((ilt i2_0 (isub (ilen l1_1) (1 : Int))) = true → ((true = true) ∧ ((True) ∧ (True) ∧ True) ∧ (true = true) ∧ ((True) ∧ (True) ∧ (True) ∧ (True) ∧ (True) ∧ (True) ∧ (NLe 0 i2_0 ∧ NLt i2_0 (ilen l2_1)) ∧ (NLt i2_0 (ilen l2_1)) ∧ (NLt i2_0 (ilen l2_1)) ∧ (True) ∧ (True) ∧ (True) ∧ (True) ∧ (True) ∧ (NLe 0 (iadd i2_0 (1 : Int)) ∧ NLt (iadd i2_0 (1 : Int)) (ilen l2_1)) ∧ (NLt (iadd i2_0 (1 : Int)) (ilen l2_1)) ∧ (NLt (iadd i2_0 (1 : Int)) (ilen l2_1)) ∧ (True) ∧ (True) ∧ (True) ∧ (True) ∧ (True) ∧ (True) ∧ (NLe 0 i2_0 ∧ NLt i2_0 (ilen l2_1)) ∧ (NLt i2_0 (ilen l2_1)) ∧ (NLt i2_0 (ilen l2_1)) ∧ (True) ∧ (True) ∧ (True) ∧ (True) ∧ (True) ∧ (NLe 0 (iadd i2_0 (1 : Int)) ∧ NLt (iadd i2_0 (1 : Int)) (ilen l2_1)) ∧ (NLt (iadd i2_0 (1 : Int)) (ilen l2_1)) ∧ (NLt (iadd i2_0 (1 : Int)) (ilen l2_1)) ∧ (True) ∧ (True) ∧ (True) ∧ (NLe 0 i2_0 ∧ NLt i2_0 (ilen l2_1)) ∧ True) ∧ (NLt i2_0 (ilen l2_1)) ∧ (true = true) ∧ ((True) ∧ (True) ∧ True) ∧ ((true = true) ∧ ((((iadd i2_0 (1 : Int)) : Int) = (iadd i2_0 (1 : Int))) ∧ (((ilen l1_1) : Int) = (ilen l1_1)) ∧ (((isub (ilen l1_1) (1 : Int)) : Int) = (isub (ilen l1_1) (1 : Int))) ∧ (((ilen l1_1) : Int) = (ilen l1_1)) ∧ (((ilt (1 : Int) (ilen l1_1)) : Bool) = (ilt (1 : Int) (ilen l1_1))) ∧ ((i1_0 : Int) = i1_0) ∧ ((Cont.pts l) = (Cont.pts l)) ∧ (true = true) ∧ ((Cont.pts l) = (Cont.pts l)) ∧ (((crvB l) : Bool) = (crvB l)) ∧ (((bnot (crvB l)) : Bool) = (bnot (crvB l))) ∧ (((bnot (crvB l)) : Bool) = (bnot (crvB l))) ∧ (((bite (bnot (crvB l)) true (bnot (inB t (0 : Int) (64 : Int)))) : Bool) = (bite (bnot (crvB l)) true (bnot (inB t (0 : Int) (64 : Int))))) ∧ (true = true) ∧ ((Cont.pts l) = (Cont.pts l)) ∧ ((t : Int) = t) ∧ True) ∧ (((true = true) ∧ ((Cont.pts (setp l2_1 i2_0 (iadd (imul (isub (64 : Int) t) (getx l2_1 i2_0)) (imul t (getx l2_1 (iadd i2_0 (1 : Int))))) (iadd (imul (isub (64 : Int) t) (gety l2_1 i2_0)) (imul t (gety l2_1 (iadd i2_0 (1 : Int))))))) = (Cont.pts (setp l2_1 i2_0 (iadd (imul (isub (64 : Int) t) (getx l2_1 i2_0)) (imul t (getx l2_1 (iadd i2_0 (1 : Int))))) (iadd (imul (isub (64 : Int) t) (gety l2_1 i2_0)) (imul t (gety l2_1 (iadd i2_0 (1 : Int))))))))) ∧ ((((0 : Int) : Int) = (0 : Int)) ∧ (((0 : Int) : Int) = (0 : Int)) ∧ True) ∧ True)) ∧ ((([GK.int, GK.pts] : List GK) = ([GK.int, GK.pts] : List GK)) ∧ I2 [GV.int (iadd i2_0 (1 : Int)), GV.pts (setp l2_1 i2_0 (iadd (imul (isub (64 : Int) t) (getx l2_1 i2_0)) (imul t (getx l2_1 (iadd i2_0 (1 : Int))))) (iadd (imul (isub (64 : Int) t) (gety l2_1 i2_0)) (imul t (gety l2_1 (iadd i2_0 (1 : Int))))))] ∧ μ2 [GV.int (iadd i2_0 (1 : Int)), GV.pts (setp l2_1 i2_0 (iadd (imul (isub (64 : Int) t) (getx l2_1 i2_0)) (imul t (getx l2_1 (iadd i2_0 (1 : Int))))) (iadd (imul (isub (64 : Int) t) (gety l2_1 i2_0)) (imul t (gety l2_1 (iadd i2_0 (1 : Int))))))] < μ2 [GV.int i2_0, GV.pts l2_1]))) ∧ ((ilt i2_0 (isub (ilen l1_1) (1 : Int))) = false → ((true = true) ∧ ((True) ∧ (True) ∧ (True) ∧ (True) ∧ True) ∧ (NLe 0 (isub (ilen l2_1) (1 : Int)) ∧ NLe (isub (ilen l2_1) (1 : Int)) (ilen l2_1)) ∧ (True) ∧ (true = true) ∧ ((True) ∧ (True) ∧ (True) ∧ True) ∧ ((true = true) ∧ ((((imul i1_0 (64 : Int)) : Int) = (imul i1_0 (64 : Int))) ∧ ((Cont.pts l) = (Cont.pts l)) ∧ (true = true) ∧ ((Cont.pts l) = (Cont.pts l)) ∧ (((crvB l) : Bool) = (crvB l)) ∧ (((bnot (crvB l)) : Bool) = (bnot (crvB l))) ∧ (((bnot (crvB l)) : Bool) = (bnot (crvB l))) ∧ (((bite (bnot (crvB l)) true (bnot (inB t (0 : Int) (64 : Int)))) : Bool) = (bite (bnot (crvB l)) true (bnot (inB t (0 : Int) (64 : Int))))) ∧ (true = true) ∧ ((Cont.pts l) = (Cont.pts l)) ∧ ((t : Int) = t) ∧ True) ∧ (((true = true) ∧ ((Cont.pts (itake l2_1 (isub (ilen l2_1) (1 : Int)))) = (Cont.pts (itake l2_1 (isub (ilen l2_1) (1 : Int)))))) ∧ ((((0 : Int) : Int) = (0 : Int)) ∧ (((0 : Int) : Int) = (0 : Int)) ∧ True) ∧ True)) ∧ ((([GK.int, GK.pts] : List GK) = ([GK.int, GK.pts] : List GK)) ∧ I1 [GV.int (imul i1_0 (64 : Int)), GV.pts (itake l2_1 (isub (ilen l2_1) (1 : Int)))] ∧ μ1 [GV.int (imul i1_0 (64 : Int)), GV.pts (itake l2_1 (isub (ilen l2_1) (1 : Int)))] < μ1 [GV.int i1_0, GV.pts l1_1]))))))) ∧ ((ilt (1 : Int) (ilen l1_1)) = false → ((true = true) ∧ ((True) ∧ (NLe 0 (0 : Int) ∧ NLt (0 : Int) (ilen l1_1)) ∧ (NLt (0 : Int) (ilen l1_1)) ∧ (NLt (0 : Int) (ilen l1_1)) ∧ (True) ∧ ((1 ≤ i1_0 ∧ i1_0 ≤ 1000000 ∧ -1000000000000 ≤ (getx l1_1 (0 : Int)) ∧ (getx l1_1 (0 : Int)) ≤ 1000000000000)) ∧ (True) ∧ (NLe 0 (0 : Int) ∧ NLt (0 : Int) (ilen l1_1)) ∧ (NLt (0 : Int) (ilen l1_1)) ∧ (NLt (0 : Int) (ilen l1_1)) ∧ (True) ∧ ((1 ≤ i1_0 ∧ i1_0 ≤ 1000000 ∧ -1000000000000 ≤ (gety l1_1 (0 : Int)) ∧ (gety l1_1 (0 : Int)) ≤ 1000000000000)) ∧ (True) ∧ True) ∧ (True) ∧ ((((rnd (getx l1_1 (0 : Int)) i1_0) : Int) = (cpx l t)) ∧ (((rnd (gety l1_1 (0 : Int)) i1_0) : Int) = (cpy l t)) ∧ True) ∧ True))))))) = ev sig_impl_CurvePoint xs_impl_CurvePoint Try.f29.ntmps (fun b => if b == 0 then [.v 6, .b 5] else if b == 2 then [.v 25, .b 5] else []) (codeOf Try.f29) 0 (initS [.s (.view (.pts l)), .s (.int t)]) (retK Try.f29.results.toList [.agg [.int (cpx l t), .int (cpy l t)]]) := by kernel_rfl
set_option maxHeartbeats 1000000 in
theorem F_impl_CurvePoint : FunOK 29 g_impl_CurvePoint := by
  refine fun_F (by kernel_rfl) Try.func29 rfl (by kernel_rfl) sig_impl_CurvePoint_ok xs_impl_CurvePoint_ok ?_
  intro avs sg h hn hl
  unfold g_impl_CurvePoint at h
  split at h
  · rename_i l t
    injection h with h; subst h
    refine ⟨by kernel_rfl, fun b => if b == 0 then [.v 6, .b 5] else if b == 2 then [.v 25, .b 5] else [], Eq.mp (V_impl_CurvePoint l t) ?_⟩
    simp only [true_and, and_true, implies_true, and_self, forall_const, true_implies, lenA, lenL, SV.lenOK, Cont.lenOK] at hn hl ⊢
    have h0 := ilen_0 l
    simp only [ilt_t, ilt_f, ile_t, ile_f, ieq_t, ieq_f, bnot_e, band_e, bite_and, bite_or, NLt_e, NLe_e, NNe_e, NIs_e, imax_e, imin_e, irem_e, Bool.not_eq_true', Bool.not_eq_false', Bool.and_eq_true, Bool.or_eq_true, Bool.or_eq_false_iff, Bool.and_eq_false_iff, Cont.pts.injEq, Cont.ints.injEq, Cont.bools.injEq, Cont.ptss.injEq, Cont.intss.injEq, Cont.boolss.injEq, true_and, and_true, implies_true]
    refine ⟨fun h => ?_, fun h => ?_⟩
    · have : cpB l t = false := by unfold cpB; rcases h with h | h <;> simp [h]
      unfold cpx cpy; simp [this]
    have hcp : cpB l t = true := by unfold cpB; simp [h]
    obtain ⟨⟨n1, n4⟩, bx, bY⟩ := crv_parts h.1
    obtain ⟨t0, t1⟩ := inB_true h.2
    unfold cpx cpy
    rw [if_pos hcp, if_pos hcp]
    refine ⟨by omega, fun | [.int s, .pts q] => 1 ≤ ilen q ∧ ilen q ≤ ilen l ∧ s = p64 (ilen l - ilen q).toNat ∧ ∀ j, 0 ≤ j → j < ilen q → getx q j = dcv t (getx l) (ilen l - ilen q).toNat j ∧ gety q j = dcv t (gety l) (ilen l - ilen q).toNat j | _ => False, fun | [.int _, .pts q] => (ilen q).toNat | _ => 0, ?_, ?_⟩
    · refine ⟨n1, Int.le_refl _, ?_, fun j _ _ => ?_⟩
      · rw [Int.sub_self]; rfl
      · rw [Int.sub_self]; exact ⟨rfl, rfl⟩
    rintro s q ⟨q1, q2, hs, hq⟩
    obtain ⟨m, hm⟩ : ∃ m : Nat, m = (ilen l - ilen q).toNat := ⟨_, rfl⟩
    rw [← hm] at hs hq
    have hp0 := p64_pos m
    have hp1 := p64_le (m := m) (by omega)
    refine ⟨fun hlt => ?_, fun hlt => ?_⟩
    · have es : isub (ilen q) 1 = ilen q - 1 := isub_e (by omega) (by omega)
      simp only [es]
      refine ⟨fun | [.int i, .pts q'] => 0 ≤ i ∧ i ≤ ilen q - 1 ∧ ilen q' = ilen q ∧ (∀ j, 0 ≤ j → j < i → getx q' j = dcv t (getx l) (m + 1) j ∧ gety q' j = dcv t (gety l) (m + 1) j) ∧ (∀ j, i ≤ j → j < ilen q → getx q' j = dcv t (getx l) m j ∧ gety q' j = dcv t (gety l) m j) | _ => False, fun | [.int i, .pts _] => (ilen q - i).toNat | _ => 0, ?_, ?_⟩
      · exact ⟨Int.le_refl 0, by omega, rfl, fun j h0 h1 => by omega, fun j j0 j1 => hq j j0 j1⟩
      rintro i q' ⟨i0, i1, hl', ha, hb⟩
      simp only [hl']
      have ei : iadd i 1 = i + 1 := iadd_e (by omega) (by omega)
      simp only [ei]
      refine ⟨fun hi => ?_, fun hi => ?_⟩
      · obtain ⟨x1, y1⟩ := hb i (Int.le_refl _) (by omega)
        obtain ⟨x2, y2⟩ := hb (i + 1) (by omega) (by omega)
        have px := dcv_parts t0 t1 n4 bx (m := m) (k := i) i0 (by omega)
        have px' := dcv_parts t0 t1 n4 bx (m := m) (k := i + 1) (by omega) (by omega)
        have py := dcv_parts t0 t1 n4 bY (m := m) (k := i) i0 (by omega)
        have py' := dcv_parts t0 t1 n4 bY (m := m) (k := i + 1) (by omega) (by omega)
        rw [x1, x2, y1, y2, step_w (a := 0) (b := 0) t0 t1 px.2.1 px'.2.2, step_w (a := 0) (b := 0) t0 t1 py.2.1 py'.2.2, ← dcv_s, ← dcv_s]
        refine ⟨by omega, by omega, ⟨by omega, by omega, by rw [ilen_setp, hl'], fun j j0 j1 => ?_, fun j j0 j1 => ?_⟩, by omega⟩
        · rw [getx_setp i0 (by omega) j0, gety_setp i0 (by omega) j0]
          by_cases hj : j = i
          · rw [if_pos hj, if_pos hj, hj]; exact ⟨rfl, rfl⟩
          · rw [if_neg hj, if_neg hj]; exact ha j j0 (by omega)
        · rw [getx_setp i0 (by omega) (by omega), gety_setp i0 (by omega) (by omega), if_neg (by omega), if_neg (by omega)]
          exact hb j (by omega) j1
      · rw [es, itake_len (by omega) (by omega)]
        have ep : imul s 64 = s * 64 := imul_e (by omega) (by omega)
        rw [ep]
        have em : (ilen l - (ilen q - 1)).toNat = m + 1 := by omega
        refine ⟨by omega, ⟨by omega, by omega, ?_, fun j j0 j1 => ?_⟩, by omega⟩
        · rw [em, hs, p64_s]
        · rw [em, itake_getx j0 (by omega), itake_gety j0 (by omega)]
          exact ha j j0 (by omega)
    · have e1 : ilen q = 1 := by omega
      have em : m = (ilen l - 1).toNat := by omega
      obtain ⟨x1, y1⟩ := hq 0 (by omega) (by omega)
      have px := dcv_parts t0 t1 n4 bx (m := m) (k := 0) (by omega) (by omega)
      have py := dcv_parts t0 t1 n4 bY (m := m) (k := 0) (by omega) (by omega)
      rw [x1, y1, hs]
      refine ⟨by omega, by unfold cvN; rw [em], by unfold cvN; rw [em]⟩
  · cases h
def cpsB (l : List Pt) (n : Int) : Bool := crvB l && inB n 1 64 && decide ((64 : Int).tmod n = 0)
def cpsP (l : List Pt) (d k : Int) : Pt := (cvN (ilen l) (k * d) (getx l), cvN (ilen l) (k * d) (gety l))
def cpsK (l : List Pt) (d k : Int) : List Pt := (List.range k.toNat).map fun (j : Nat) => cpsP l d j
def cpsL (l : List Pt) (n : Int) : List Pt := if cpsB l n then cpsK l ((64 : Int) / n) (n + 1) else []
theorem cpsK_len {l : List Pt} {d k : Int} (h : 0 ≤ k) : ilen (cpsK l d k) = k := by
  unfold ilen cpsK
  simp; omega
theorem cpsK_s {l : List Pt} {d k : Int} (h : 0 ≤ k) : iapp (cpsK l d k) [cpsP l d k] = cpsK l d (k + 1) := by
  unfold iapp cpsK
  rw [show (k + 1).toNat = k.toNat + 1 by omega, List.range_succ, List.map_append]
  simp [Int.toNat_of_nonneg h]
theorem cpsK_get {l : List Pt} {d n k : Int} (h0 : 0 ≤ k) (h1 : k < n) : getx (cpsK l d n) k = (cpsP l d k).1 ∧ gety (cpsK l d n) k = (cpsP l d k).2 := by
  obtain ⟨h, e1, e2⟩ := get_at (l := cpsK l d n) h0 (by rw [cpsK_len (by omega)]; exact h1)
  have e : (cpsK l d n)[k.toNat] = cpsP l d k := by simp [cpsK, Int.toNat_of_nonneg h0]
  rw [e1, e2, e]
  exact ⟨rfl, rfl⟩
theorem div64 {n : Int} (h1 : 1 ≤ n) (h2 : n ≤ 64) (h3 : (64 : Int).tmod n = 0) : n * ((64 : Int) / n) = 64 ∧ 1 ≤ (64 : Int) / n ∧ (64 : Int) / n ≤ 64 ∧ iquo 64 n = (64 : Int) / n := by
  have hd : n ∣ 64 := Int.dvd_of_tmod_eq_zero h3
  have e := Int.mul_ediv_cancel' hd
  have hq : iquo 64 n = (64 : Int) / n := by rw [iquo_e (by omega) (by omega) h1, Int.tdiv_eq_ediv_of_nonneg (by omega)]
  have h4 : (64 : Int) / n ≤ 64 := Int.ediv_le_self _ (by omega)
  have h5 : 1 ≤ (64 : Int) / n := by
    rcases Int.lt_or_le ((64 : Int) / n) 1 with h | h
    · have : (64 : Int) / n = 0 := by have := Int.ediv_nonneg (show (0:Int) ≤ 64 by omega) (show 0 ≤ n by omega); omega
      rw [this] at e; omega
    · exact h
  exact ⟨e, h5, h4, hq⟩
theorem cps_no {l : List Pt} {n : Int} (h : (crvB l = false ∨ inB n 1 64 = false) ∨ ¬ (64 : Int).tmod n = 0) : cpsL l n = [] := by
  unfold cpsL cpsB
  rcases h with (h | h) | h <;> simp [h]
theorem cps_yes {l : List Pt} {n : Int} (h1 : crvB l = true) (h2 : inB n 1 64 = true) (h3 : (64 : Int).tmod n = 0) : cpsL l n = cpsK l ((64 : Int) / n) (n + 1) := by
  unfold cpsL cpsB
  simp [h1, h2, h3]
def g_impl_CurvePoints : List AV → Option Sg
  | [.s (.view (.pts l)), .s (.int n)] => some ⟨True, [.nrow 25 (.pts (cpsL l n))]⟩
  | _ => none
def sig_impl_CurvePoints : FuncId → List AV → Option Sg := sigL [(26, nilG (.pts []) g_impl_CurveValid), (68, g_impl_within), (29, g_impl_CurvePoint)]
def xs_impl_CurvePoints : XS := ⟨xsigL [], ysigL []⟩
theorem sig_impl_CurvePoints_ok : SigOK sig_impl_CurvePoints := sigL_cons (FunOK.nil (c := .pts []) rfl F_impl_CurveValid) (sigL_cons F_impl_within (sigL_cons F_impl_CurvePoint sigL_nil))
theorem xs_impl_CurvePoints_ok : XSigOK xs_impl_CurvePoints := ⟨xsigL_nil, ysigL_nil⟩
theorem V_impl_CurvePoints (l : List Pt) (n : Int) : ((true = true) ∧ ((True) ∧ True) ∧ (true = true) ∧ ((True) ∧ ((True)) ∧ (True) ∧ (True) ∧ (NIs (bnot (crvB l)) false → True) ∧ (NIs (bnot (crvB l)) false → (True)) ∧ (NIs (bnot (crvB l)) false → True) ∧ (True) ∧ (True) ∧ (NIs (bite (bnot (crvB l)) true (bnot (inB n (1 : Int) (64 : Int)))) false → True) ∧ (NIs (bite (bnot (crvB l)) true (bnot (inB n (1 : Int) (64 : Int)))) false → NNe n 0) ∧ (NIs (bite (bnot (crvB l)) true (bnot (inB n (1 : Int) (64 : Int)))) false → True) ∧ (True) ∧ True) ∧ ((bite (bite (bnot (crvB l)) true (bnot (inB n (1 : Int) (64 : Int)))) true (bnot (ieq (irem (64 : Int) n) (0 : Int)))) = true → ((true = true) ∧ ((True) ∧ True) ∧ ((true = true) ∧ ((Cont.pts []) = (Cont.pts (cpsL l n)))) ∧ True)) ∧ ((bite (bite (bnot (crvB l)) true (bnot (inB n (1 : Int) (64 : Int)))) true (bnot (ieq (irem (64 : Int) n) (0 : Int)))) = false → ((true = true) ∧ ((True) ∧ True) ∧ (true = true) ∧ ((True) ∧ True) ∧ ∃ (I1 : List GV → Prop) (μ1 : List GV → Nat), (((true = true) ∧ ((((0 : Int) : Int) = (0 : Int)) ∧ (true = true) ∧ ((Cont.pts l) = (Cont.pts l)) ∧ (((crvB l) : Bool) = (crvB l)) ∧ (((bnot (crvB l)) : Bool) = (bnot (crvB l))) ∧ (((bnot (crvB l)) : Bool) = (bnot (crvB l))) ∧ (((bite (bnot (crvB l)) true (bnot (inB n (1 : Int) (64 : Int)))) : Bool) = (bite (bnot (crvB l)) true (bnot (inB n (1 : Int) (64 : Int))))) ∧ (((bite (bnot (crvB l)) true (bnot (inB n (1 : Int) (64 : Int)))) : Bool) = (bite (bnot (crvB l)) true (bnot (inB n (1 : Int) (64 : Int))))) ∧ (((bite (bite (bnot (crvB l)) true (bnot (inB n (1 : Int) (64 : Int)))) true (bnot (ieq (irem (64 : Int) n) (0 : Int)))) : Bool) = (bite (bite (bnot (crvB l)) true (bnot (inB n (1 : Int) (64 : Int)))) true (bnot (ieq (irem (64 : Int) n) (0 : Int))))) ∧ (true = true) ∧ ((Cont.pts l) = (Cont.pts l)) ∧ ((n : Int) = n) ∧ True) ∧ (((true = true) ∧ ((Cont.pts []) = (Cont.pts []))) ∧ ((true = true) ∧ ((Cont.pts []) = (Cont.pts []))) ∧ True)) ∧ (([GK.int, GK.pts] : List GK) = ([GK.int, GK.pts] : List GK)) ∧ I1 [GV.int (0 : Int), GV.pts []]) ∧ (∀ i1_0 : Int, ∀ l1_1 : List Pt, I1 [GV.int i1_0, GV.pts l1_1] → ((true = true) ∧ ((True) ∧ (True) ∧ True) ∧ ((ile i1_0 (64 : Int)) = true → ((true = true) ∧ ((True) ∧ (True) ∧ (True) ∧ ((True)) ∧ (True) ∧ True) ∧ (NLe (ilen l1_1) 1000000000 ∧ NLe (ilen [((cpx l i1_0), (cpy l i1_0))]) 1000000000) ∧ (True) ∧ (true = true) ∧ ((True) ∧ (True) ∧ (NNe n 0) ∧ (True) ∧ (True) ∧ True) ∧ ((true = true) ∧ ((((iadd i1_0 (iquo (64 : Int) n)) : Int) = (iadd i1_0 (iquo (64 : Int) n))) ∧ (true = true) ∧ ((Cont.pts l) = (Cont.pts l)) ∧ (((crvB l) : Bool) = (crvB l)) ∧ (((bnot (crvB l)) : Bool) = (bnot (crvB l))) ∧ (((bnot (crvB l)) : Bool) = (bnot (crvB l))) ∧ (((bite (bnot (crvB l)) true (bnot (inB n (1 : Int) (64 : Int)))) : Bool) = (bite (bnot (crvB l)) true (bnot (inB n (1 : Int) (64 : Int))))) ∧ (((bite (bnot (crvB l)) true (bnot (inB n (1 : Int) (64 : Int)))) : Bool) = (bite (bnot (crvB l)) true (bnot (inB n (1 : Int) (64 : Int))))) ∧ (((bite (bite (bnot (crvB l)) true (bnot (inB n (1 : Int) (64 : Int)))) true (bnot (ieq (irem (64 : Int) n) (0 : Int)))) : Bool) = (bite (bite (bnot (crvB l)) true (bnot (inB n (1 : Int) (64 : Int)))) true (bnot (ieq (irem (64 : Int) n) (0 : Int))))) ∧ (true = true) ∧ ((Cont.pts l) = (Cont.pts l)) ∧ ((n : Int) = n) ∧ True) ∧ (((true = true) ∧ ((Cont.pts (iapp l1_1 [((cpx l i1_0), (cpy l i1_0))])) = (Cont.pts (iapp l1_1 [((cpx l i1_0), (cpy l i1_0))])))) ∧ ((true = true) ∧ ((Cont.pts []) = (Cont.pts []))) ∧ True)) ∧ ((([GK.int, GK.pts] : List GK) = ([GK.int, GK.pts] : List GK)) ∧ I1 [GV.int (iadd i1_0 (iquo (64 : Int) n)), GV.pts (iapp l1_1 [((cpx l i1_0), (cpy l i1_0))])] ∧ μ1 [GV.int (iadd i1_0 (iquo (64 : Int) n)), GV.pts (iapp l1_1 [((cpx l i1_0), (cpy l i1_0))])] < μ1 [GV.int i1_0, GV.pts l1_1]))) ∧ ((ile i1_0 (64 : Int)) = false → ((true = true) ∧ ((True) ∧ (True) ∧ True) ∧ ((true = true) ∧ ((Cont.pts l1_1) = (Cont.pts (cpsL l n)))) ∧ True))))))) = ev sig_impl_CurvePoints xs_impl_CurvePoints Try.f31.ntmps (fun b => if b == 0 then [.v 6, .b 5] else []) (codeOf Try.f31) 0 (initS [.s (.view (.pts l)), .s (.int n)]) (retK Try.f31.results.toList [.nrow 25 (.pts (cpsL l n))]) := by kernel_rfl
set_option maxHeartbeats 400000 in
theorem F_impl_CurvePoints : FunOK 31 g_impl_CurvePoints := by
  refine fun_F (by kernel_rfl) Try.func31 rfl (by kernel_rfl) sig_impl_CurvePoints_ok xs_impl_CurvePoints_ok ?_
  intro avs sg h hn hl
  unfold g_impl_CurvePoints at h
  split at h
  · rename_i l n
    injection h with h; subst h
    refine ⟨by kernel_rfl, fun b => if b == 0 then [.v 6, .b 5] else [], Eq.mp (V_impl_CurvePoints l n) ?_⟩
    simp only [true_and, and_true, implies_true, and_self, forall_const, true_implies, lenA, lenL, SV.lenOK, Cont.lenOK] at hn hl ⊢
    have h0 := ilen_0 l
    simp only [ilt_t, ilt_f, ile_t, ile_f, ieq_t, ieq_f, bnot_e, band_e, bite_and, bite_or, NLt_e, NLe_e, NNe_e, NIs_e, imax_e, imin_e, irem_e, Bool.not_eq_true', Bool.not_eq_false', Bool.and_eq_true, Bool.or_eq_true, Bool.or_eq_false_iff, Bool.and_eq_false_iff, Cont.pts.injEq, Cont.ints.injEq, Cont.bools.injEq, Cont.ptss.injEq, Cont.intss.injEq, Cont.boolss.injEq, true_and, and_true, implies_true]
    refine ⟨fun hh => by have := inB_true hh.2; omega, fun h => (cps_no (l := l) (n := n) (by rcases h with (h | h) | h <;> simp [h])).symm, fun h => ?_⟩
    obtain ⟨⟨hc, hn⟩, hd⟩ := h
    have hn' := inB_true hn
    obtain ⟨d0, d1, d2, d3⟩ := div64 hn'.1 hn'.2 hd
    rw [cps_yes hc hn hd, d3]
    generalize (64 : Int) / n = d at d0 d1 d2 ⊢
    refine ⟨fun | [.int t, .pts o] => ∃ k, 0 ≤ k ∧ k ≤ n + 1 ∧ t = k * d ∧ o = cpsK l d k | _ => False, fun | .int t :: _ => (65 - t).toNat | _ => 0, ⟨0, by omega, by omega, by omega, rfl⟩, ?_⟩
    rintro t o ⟨k, k0, k1, rfl, rfl⟩
    refine ⟨fun ht => ?_, fun ht => ?_⟩
    · have hkn : k ≤ n := by
        rcases Int.lt_or_le n k with h | h
        · have := Int.mul_le_mul_of_nonneg_right (show n + 1 ≤ k by omega) (show 0 ≤ d by omega)
          rw [Int.add_mul, d0] at this; omega
        · exact h
      have hkd : 0 ≤ k * d := Int.mul_nonneg k0 (by omega)
      have ecp : cpB l (k * d) = true := by unfold cpB; rw [hc]; unfold inB; simp; omega
      have ex : (cpx l (k * d), cpy l (k * d)) = cpsP l d k := by unfold cpx cpy cpsP; rw [if_pos ecp, if_pos ecp]
      rw [ex, cpsK_len k0, iadd_e (by omega) (by omega)]
      refine ⟨⟨by omega, by rw [ilen_one]; omega⟩, by omega, ⟨k + 1, by omega, by omega, by rw [Int.add_mul]; omega, cpsK_s k0⟩, by show (65 - (k * d + d)).toNat < (65 - k * d).toNat; omega⟩
    · have : k = n + 1 := by
        rcases Int.lt_or_le n k with h | h
        · omega
        · have := Int.mul_le_mul_of_nonneg_right h (show 0 ≤ d by omega)
          rw [d0] at this; omega
      rw [this]
  · cases h
theorem mul20 {x y : Int} (hx : -20000 ≤ x ∧ x ≤ 20000) (hy : -20000 ≤ y ∧ y ≤ 20000) : -400000000 ≤ x * y ∧ x * y ≤ 400000000 := by
  have h := mul_box hx.1 hx.2 hy.1 hy.2
  generalize x * y = z at *
  have e1 : min (min ((-20000 : Int) * -20000) (-20000 * 20000)) (min (20000 * -20000) (20000 * 20000)) = -400000000 := by decide
  have e2 : max (max ((-20000 : Int) * -20000) (-20000 * 20000)) (max (20000 * -20000) (20000 * 20000)) = 400000000 := by decide
  rw [e1, e2] at h
  exact h
theorem crW_e {a1 a2 b1 b2 c1 c2 : Int} (ha : vB a1 a2 = true) (hb : vB b1 b2 = true) (hc : vB c1 c2 = true) : crW a1 a2 b1 b2 c1 c2 = crs (a1, a2) (b1, b2) (c1, c2) := by
  unfold vB at ha hb hc
  simp only [Bool.and_eq_true] at ha hb hc
  have a1' := inB_true ha.1; have a2' := inB_true ha.2; have b1' := inB_true hb.1; have b2' := inB_true hb.2; have c1' := inB_true hc.1; have c2' := inB_true hc.2
  unfold crW crs
  rw [isub_e (a := b1) (by omega) (by omega), isub_e (a := c2) (by omega) (by omega), isub_e (a := b2) (by omega) (by omega), isub_e (a := c1) (by omega) (by omega)]
  have m1 := mul20 (x := b1 - a1) (y := c2 - a2) (by omega) (by omega)
  have m2 := mul20 (x := b2 - a2) (y := c1 - a1) (by omega) (by omega)
  rw [imul_e (a := b1 - a1) (by omega) (by omega), imul_e (a := b2 - a2) (by omega) (by omega), isub_e (by omega) (by omega)]
def P (l : List Pt) (i : Int) : Pt := (getx l i, gety l i)
theorem sgn_01 (z : Int) : -1 ≤ sgn z ∧ sgn z ≤ 1 := by unfold sgn; split <;> (try split) <;> omega
theorem ieq_sgn (z : Int) : ieq (sgn z) 0 = decide (z = 0) := by
  unfold ieq
  congr 1
  simp only [eq_iff_iff]
  unfold sgn; split <;> (try split) <;> omega
theorem imul_sgn (x y : Int) : imul (sgn x) (sgn y) = sgn x * sgn y := by
  have s1 := sgn_01 x; have s2 := sgn_01 y
  have := mul20 (x := sgn x) (y := sgn y) (by omega) (by omega)
  exact imul_e (by omega) (by omega)
theorem sgn_0 (z : Int) : sgn z = 0 ↔ z = 0 := by unfold sgn; split <;> (try split) <;> omega
def btW (a1 a2 b1 b2 p1 p2 : Int) : Bool := inB p1 (min a1 b1) (max a1 b1) && inB p2 (min a2 b2) (max a2 b2)
theorem btW_e (a1 a2 b1 b2 p1 p2 : Int) : btW a1 a2 b1 b2 p1 p2 = btw (a1, a2) (b1, b2) (p1, p2) := by
  unfold btW btw inB
  simp only [← Bool.decide_and]
  congr 1
  simp only [eq_iff_iff]
  constructor
  · rintro ⟨⟨h1, h2⟩, h3, h4⟩; exact ⟨h1, h2, h3, h4⟩
  · rintro ⟨h1, h2, h3, h4⟩; exact ⟨⟨h1, h2⟩, h3, h4⟩
def nearB (x y : Int) : Bool := inB x (-1000) 1000 && inB y (-1000) 1000
def idxN (n : Int) (f : Int → Bool) : Int := foldN n (fun s i => if s < 0 ∧ f i = true then i else s) (-1)
theorem idxN_no {f : Int → Bool} {k : Nat} (h : ∀ j, 0 ≤ j → j < (k : Int) → f j = false) : idxN k f = -1 := by
  induction k with
  | zero => rfl
  | succ k ih =>
    have e : ((k + 1 : Nat) : Int) = (k : Int) + 1 := by omega
    have := ih (fun j h0 h1 => h j h0 (by omega))
    unfold idxN at this ⊢
    rw [e, foldN_1 (by omega), this, h k (by omega) (by omega)]
    simp
theorem idxN_keep {f : Int → Bool} {i : Int} (hi : 0 ≤ i) {n : Nat} (h : idxN n f = i) (m : Nat) : idxN ((n + m : Nat) : Int) f = i := by
  induction m with
  | zero => exact h
  | succ m ih =>
    have e : ((n + (m + 1) : Nat) : Int) = ((n + m : Nat) : Int) + 1 := by omega
    unfold idxN at ih ⊢
    rw [e, foldN_1 (by omega), ih, if_neg (by omega)]
theorem idxN_at {f : Int → Bool} {k n : Int} (h0 : 0 ≤ k) (h1 : k < n) (h : ∀ j, 0 ≤ j → j < k → f j = false) (hk : f k = true) : idxN n f = k := by
  obtain ⟨a, rfl⟩ := Int.eq_ofNat_of_zero_le h0
  obtain ⟨b, hb⟩ := Int.eq_ofNat_of_zero_le (show 0 ≤ n - (a + 1) by omega)
  have e : n = ((a + 1 + b : Nat) : Int) := by omega
  rw [e]
  refine idxN_keep h0 ?_ b
  have := idxN_no h
  have e2 : ((a + 1 : Nat) : Int) = (a : Int) + 1 := by omega
  unfold idxN at this ⊢
  rw [e2, foldN_1 (by omega), this, if_pos ⟨by omega, hk⟩]
theorem idxN_any {f : Int → Bool} {n : Int} (h0 : 0 ≤ n) : ile 0 (idxN n f) = anyN n f := by
  obtain ⟨a, rfl⟩ := Int.eq_ofNat_of_zero_le h0
  clear h0
  induction a with
  | zero => simp [idxN, foldN, anyN, ile]
  | succ a ih =>
    have e : ((a + 1 : Nat) : Int) = (a : Int) + 1 := by omega
    have hs : anyN ((a + 1 : Nat) : Int) f = (anyN a f || f a) := by
      unfold anyN
      rw [show ((a + 1 : Nat) : Int).toNat = a + 1 by omega, show ((a : Nat) : Int).toNat = a by omega, List.range_succ, List.any_append]
      simp
    rw [hs, ← ih]
    unfold idxN
    rw [e, foldN_1 (by omega)]
    generalize foldN (a : Int) (fun s i => if s < 0 ∧ f i = true then i else s) (-1) = s
    unfold ile
    by_cases hs0 : s < 0
    · cases hf : f a with
      | true => simp [hs0, hf]
      | false => simp [hs0, hf]
    · simp [hs0]; omega
def sqE (a1 a2 b1 b2 : Int) : Int := (a1 - b1) * (a1 - b1) + (a2 - b2) * (a2 - b2)
def alE (p1 p2 a1 a2 b1 b2 : Int) : Int := (p1 - a1) * (b1 - a1) + (p2 - a2) * (b2 - a2)
def ssqE (p1 p2 a1 a2 b1 b2 : Int) : Int := if alE p1 p2 a1 a2 b1 b2 ≤ 0 then sqE p1 p2 a1 a2 else if sqE a1 a2 b1 b2 ≤ alE p1 p2 a1 a2 b1 b2 then sqE p1 p2 b1 b2 else (crs (a1, a2) (b1, b2) (p1, p2) * crs (a1, a2) (b1, b2) (p1, p2)).tdiv (sqE a1 a2 b1 b2)
theorem near_bd {x y : Int} (h : nearB x y = true) : -1000 ≤ x ∧ x ≤ 1000 ∧ -1000 ≤ y ∧ y ≤ 1000 := by
  unfold nearB at h
  simp only [Bool.and_eq_true] at h
  have a1 := inB_true h.1; have a2 := inB_true h.2
  omega
theorem mul4 {x y : Int} (hx : -8000000 ≤ x ∧ x ≤ 8000000) (hy : -8000000 ≤ y ∧ y ≤ 8000000) : imul x y = x * y := by
  have h := mul_box hx.1 hx.2 hy.1 hy.2
  have e1 : min (min ((-8000000 : Int) * -8000000) (-8000000 * 8000000)) (min (8000000 * -8000000) (8000000 * 8000000)) = -64000000000000 := by decide
  have e2 : max (max ((-8000000 : Int) * -8000000) (-8000000 * 8000000)) (max (8000000 * -8000000) (8000000 * 8000000)) = 64000000000000 := by decide
  rw [e1, e2] at h
  exact imul_e (by omega) (by omega)
theorem mul2 {x y : Int} (hx : -2000 ≤ x ∧ x ≤ 2000) (hy : -2000 ≤ y ∧ y ≤ 2000) : imul x y = x * y ∧ -4000000 ≤ x * y ∧ x * y ≤ 4000000 := by
  refine ⟨mul4 (by omega) (by omega), ?_⟩
  have h := mul_box hx.1 hx.2 hy.1 hy.2
  generalize x * y = z at *
  have e1 : min (min ((-2000 : Int) * -2000) (-2000 * 2000)) (min (2000 * -2000) (2000 * 2000)) = -4000000 := by decide
  have e2 : max (max ((-2000 : Int) * -2000) (-2000 * 2000)) (max (2000 * -2000) (2000 * 2000)) = 4000000 := by decide
  rw [e1, e2] at h
  exact h
theorem sub_n {x y : Int} (hx : -1000 ≤ x ∧ x ≤ 1000) (hy : -1000 ≤ y ∧ y ≤ 1000) : isub x y = x - y := isub_e (by omega) (by omega)
theorem near_v {x y : Int} (h : nearB x y = true) : vB x y = true := by
  have := near_bd h
  exact vB_mk (by omega)
theorem crs_bd {a1 a2 b1 b2 c1 c2 : Int} (ha : nearB a1 a2 = true) (hb : nearB b1 b2 = true) (hc : nearB c1 c2 = true) : -8000000 ≤ crs (a1, a2) (b1, b2) (c1, c2) ∧ crs (a1, a2) (b1, b2) (c1, c2) ≤ 8000000 := by
  have := near_bd ha; have := near_bd hb; have := near_bd hc
  have m1 := mul2 (x := b1 - a1) (y := c2 - a2) (by omega) (by omega)
  have m2 := mul2 (x := b2 - a2) (y := c1 - a1) (by omega) (by omega)
  unfold crs
  dsimp only
  omega
theorem sq_w {a1 a2 b1 b2 : Int} (ha : nearB a1 a2 = true) (hb : nearB b1 b2 = true) : iadd (imul (isub a1 b1) (isub a1 b1)) (imul (isub a2 b2) (isub a2 b2)) = sqE a1 a2 b1 b2 ∧ 0 ≤ sqE a1 a2 b1 b2 ∧ sqE a1 a2 b1 b2 ≤ 8000000 := by
  have := near_bd ha; have := near_bd hb
  have m1 := mul2 (x := a1 - b1) (y := a1 - b1) (by omega) (by omega)
  have m2 := mul2 (x := a2 - b2) (y := a2 - b2) (by omega) (by omega)
  have q1 : 0 ≤ (a1 - b1) * (a1 - b1) := by rcases Int.le_total 0 (a1 - b1) with h | h; exact Int.mul_nonneg h h; exact Int.mul_nonneg_of_nonpos_of_nonpos h h
  have q2 : 0 ≤ (a2 - b2) * (a2 - b2) := by rcases Int.le_total 0 (a2 - b2) with h | h; exact Int.mul_nonneg h h; exact Int.mul_nonneg_of_nonpos_of_nonpos h h
  rw [sub_n (by omega) (by omega), sub_n (by omega) (by omega), m1.1, m2.1]
  unfold sqE
  exact ⟨iadd_e (by omega) (by omega), by omega, by omega⟩
theorem al_w {p1 p2 a1 a2 b1 b2 : Int} (hp : nearB p1 p2 = true) (ha : nearB a1 a2 = true) (hb : nearB b1 b2 = true) : iadd (imul (isub p1 a1) (isub b1 a1)) (imul (isub p2 a2) (isub b2 a2)) = alE p1 p2 a1 a2 b1 b2 := by
  have := near_bd ha; have := near_bd hb; have := near_bd hp
  have m1 := mul2 (x := p1 - a1) (y := b1 - a1) (by omega) (by omega)
  have m2 := mul2 (x := p2 - a2) (y := b2 - a2) (by omega) (by omega)
  rw [sub_n (by omega) (by omega), sub_n (x := b1) (by omega) (by omega), sub_n (x := p2) (by omega) (by omega), sub_n (x := b2) (by omega) (by omega), m1.1, m2.1]
  unfold alE
  exact iadd_e (by omega) (by omega)
theorem sqE_comm (a1 a2 b1 b2 : Int) : sqE a1 a2 b1 b2 = sqE b1 b2 a1 a2 := by unfold sqE; grind
theorem mul4b {x y : Int} (hx : -8000000 ≤ x ∧ x ≤ 8000000) (hy : -8000000 ≤ y ∧ y ≤ 8000000) : -64000000000000 ≤ x * y ∧ x * y ≤ 64000000000000 := by
  have h := mul_box hx.1 hx.2 hy.1 hy.2
  have e1 : min (min ((-8000000 : Int) * -8000000) (-8000000 * 8000000)) (min (8000000 * -8000000) (8000000 * 8000000)) = -64000000000000 := by decide
  have e2 : max (max ((-8000000 : Int) * -8000000) (-8000000 * 8000000)) (max (8000000 * -8000000) (8000000 * 8000000)) = 64000000000000 := by decide
  rw [e1, e2] at h
  exact h
theorem sqE_0 (a1 a2 b1 b2 : Int) : 0 ≤ sqE a1 a2 b1 b2 := by
  have q : ∀ x : Int, 0 ≤ x * x := fun x => by rcases Int.le_total 0 x with h | h; exact Int.mul_nonneg h h; exact Int.mul_nonneg_of_nonpos_of_nonpos h h
  have := q (a1 - b1); have := q (a2 - b2)
  unfold sqE; omega
theorem ssqE_0 (p1 p2 a1 a2 b1 b2 : Int) : 0 ≤ ssqE p1 p2 a1 a2 b1 b2 := by
  have q : ∀ x : Int, 0 ≤ x * x := fun x => by rcases Int.le_total 0 x with h | h; exact Int.mul_nonneg h h; exact Int.mul_nonneg_of_nonpos_of_nonpos h h
  unfold ssqE
  split
  · exact sqE_0 ..
  · split
    · exact sqE_0 ..
    · exact Int.tdiv_nonneg (q _) (sqE_0 ..)
def ssQ (p1 p2 a1 a2 b1 b2 : Int) : Int := if nearB p1 p2 && nearB a1 a2 && nearB b1 b2 then ssqE p1 p2 a1 a2 b1 b2 else -1
theorem ssQ_e {p1 p2 a1 a2 b1 b2 : Int} (hp : nearB p1 p2 = true) (ha : nearB a1 a2 = true) (hb : nearB b1 b2 = true) : ssQ p1 p2 a1 a2 b1 b2 = ssqE p1 p2 a1 a2 b1 b2 := by unfold ssQ; rw [hp, ha, hb]; rfl
theorem ssQ_0 {p1 p2 a1 a2 b1 b2 : Int} (h : 0 ≤ ssQ p1 p2 a1 a2 b1 b2) : nearB p1 p2 = true ∧ nearB a1 a2 = true ∧ nearB b1 b2 = true := by
  unfold ssQ at h
  cases h1 : nearB p1 p2 <;> cases h2 : nearB a1 a2 <;> cases h3 : nearB b1 b2 <;> simp [h1, h2, h3] at h ⊢
theorem vB_bd {x y : Int} (h : vB x y = true) : -10000 ≤ x ∧ x ≤ 10000 ∧ -10000 ≤ y ∧ y ≤ 10000 := by
  unfold vB at h
  simp only [Bool.and_eq_true] at h
  have a1 := inB_true h.1; have a2 := inB_true h.2
  omega
theorem sq_v {a1 a2 b1 b2 : Int} (ha : vB a1 a2 = true) (hb : vB b1 b2 = true) : iadd (imul (isub a1 b1) (isub a1 b1)) (imul (isub a2 b2) (isub a2 b2)) = sqE a1 a2 b1 b2 ∧ sqE a1 a2 b1 b2 ≤ 800000000 := by
  have := vB_bd ha; have := vB_bd hb
  have m1 := mul20 (x := a1 - b1) (y := a1 - b1) (by omega) (by omega)
  have m2 := mul20 (x := a2 - b2) (y := a2 - b2) (by omega) (by omega)
  rw [isub_e (by omega) (by omega), isub_e (by omega) (by omega), imul_e (by omega) (by omega), imul_e (by omega) (by omega)]
  unfold sqE
  exact ⟨iadd_e (by omega) (by omega), by omega⟩
def lpP (a1 a2 b1 b2 n j : Int) : Pt := (a1 + (j * (b1 - a1)) / n, a2 + (j * (b2 - a2)) / n)
def lpK (a1 a2 b1 b2 n k : Int) : List Pt := (List.range k.toNat).map fun (j : Nat) => lpP a1 a2 b1 b2 n j
def lpB (a1 a2 b1 b2 n : Int) : Bool := (vB a1 a2 && vB b1 b2) && inB n 1 400
def lpL (a1 a2 b1 b2 n : Int) : List Pt := if lpB a1 a2 b1 b2 n then lpK a1 a2 b1 b2 n (n + 1) else []
theorem lpK_len {a1 a2 b1 b2 n k : Int} (h : 0 ≤ k) : ilen (lpK a1 a2 b1 b2 n k) = k := by
  unfold ilen lpK
  simp; omega
theorem lpK_s {a1 a2 b1 b2 n k : Int} (h : 0 ≤ k) : iapp (lpK a1 a2 b1 b2 n k) [lpP a1 a2 b1 b2 n k] = lpK a1 a2 b1 b2 n (k + 1) := by
  unfold iapp lpK
  rw [show (k + 1).toNat = k.toNat + 1 by omega, List.range_succ, List.map_append]
  simp [Int.toNat_of_nonneg h]
theorem lpK_get {a1 a2 b1 b2 n k m : Int} (h0 : 0 ≤ k) (h1 : k < m) : getx (lpK a1 a2 b1 b2 n m) k = (lpP a1 a2 b1 b2 n k).1 ∧ gety (lpK a1 a2 b1 b2 n m) k = (lpP a1 a2 b1 b2 n k).2 := by
  obtain ⟨h, e1, e2⟩ := get_at (l := lpK a1 a2 b1 b2 n m) h0 (by rw [lpK_len (by omega)]; exact h1)
  have e : (lpK a1 a2 b1 b2 n m)[k.toNat] = lpP a1 a2 b1 b2 n k := by simp [lpK, Int.toNat_of_nonneg h0]
  rw [e1, e2, e]
  exact ⟨rfl, rfl⟩
def insE (l : List Pt) (p1 p2 i : Int) : Bool := decide (0 ≤ crW (getx l i) (gety l i) (getx l (nx l i)) (gety l (nx l i)) p1 p2)
def insB (l : List Pt) (p1 p2 : Int) : Bool := allN (ilen l) (insE l p1 p2)
def hitE (l : List Pt) (a1 a2 b1 b2 i : Int) : Bool := meetB (a1, a2) (b1, b2) (getx l i, gety l i) (getx l (nx l i), gety l (nx l i))
def hitB (l : List Pt) (a1 a2 b1 b2 : Int) : Bool := insB l a1 a2 || insB l b1 b2 || anyN (ilen l) (hitE l a1 a2 b1 b2)
theorem allB_at {l : List Pt} (h : allB l = true) {i : Int} (h0 : 0 ≤ i) (h1 : i < ilen l) : vB (getx l i) (gety l i) = true := by
  rw [allB_N] at h; exact allN_iff.1 h i h0 h1
theorem convB_all {l : List Pt} (h : convB l = true) : 3 ≤ ilen l ∧ ilen l ≤ 8 ∧ allB l = true := by
  unfold convB at h
  simp only [Bool.and_eq_true] at h
  exact ⟨(inB_true h.1.1).1, (inB_true h.1.1).2, h.1.2⟩
theorem allB_2 (a1 a2 b1 b2 : Int) : allB [(a1, a2), (b1, b2)] = (vB a1 a2 && vB b1 b2) := by simp [allB]
def g_impl_LinePoints : List AV → Option Sg
  | [.agg [.int a1, .int a2], .agg [.int b1, .int b2], .s (.int n)] => some ⟨True, [.nrow 25 (.pts (lpL a1 a2 b1 b2 n))]⟩
  | _ => none
def sig_impl_LinePoints : FuncId → List AV → Option Sg := sigL [(69, g_impl_allPoints), (68, g_impl_within), (79, g_impl_floor)]
def xs_impl_LinePoints : XS := ⟨xsigL [], ysigL []⟩
theorem sig_impl_LinePoints_ok : SigOK sig_impl_LinePoints := sigL_cons F_impl_allPoints (sigL_cons F_impl_within (sigL_cons F_impl_floor sigL_nil))
theorem xs_impl_LinePoints_ok : XSigOK xs_impl_LinePoints := ⟨xsigL_nil, ysigL_nil⟩
theorem V_impl_LinePoints (a1 : Int) (a2 : Int) (b1 : Int) (b2 : Int) (n : Int) : ((true = true) ∧ ((True) ∧ (True) ∧ (True) ∧ True) ∧ (true = true) ∧ ((True) ∧ (True) ∧ (True) ∧ ((True)) ∧ (True) ∧ (True) ∧ (NIs (bnot (allB [(a1, a2), (b1, b2)])) false → True) ∧ (NIs (bnot (allB [(a1, a2), (b1, b2)])) false → (True)) ∧ (NIs (bnot (allB [(a1, a2), (b1, b2)])) false → True) ∧ (True) ∧ True) ∧ ((bite (bnot (allB [(a1, a2), (b1, b2)])) true (bnot (inB n (1 : Int) (400 : Int)))) = true → ((true = true) ∧ ((True) ∧ True) ∧ ((true = true) ∧ ((Cont.pts []) = (Cont.pts (lpL a1 a2 b1 b2 n)))) ∧ True)) ∧ ((bite (bnot (allB [(a1, a2), (b1, b2)])) true (bnot (inB n (1 : Int) (400 : Int)))) = false → ((true = true) ∧ ((True) ∧ True) ∧ (true = true) ∧ ((True) ∧ (True) ∧ (True) ∧ True) ∧ ∃ (I1 : List GV → Prop) (μ1 : List GV → Nat), (((true = true) ∧ ((((0 : Int) : Int) = (0 : Int)) ∧ ((n : Int) = n) ∧ (((iadd n (1 : Int)) : Int) = (iadd n (1 : Int))) ∧ (true = true) ∧ (((a1 : Int) = a1) ∧ ((a2 : Int) = a2) ∧ True) ∧ (((b1 : Int) = b1) ∧ ((b2 : Int) = b2) ∧ True) ∧ (true = true) ∧ (((allB [(a1, a2), (b1, b2)]) : Bool) = (allB [(a1, a2), (b1, b2)])) ∧ (((bnot (allB [(a1, a2), (b1, b2)])) : Bool) = (bnot (allB [(a1, a2), (b1, b2)]))) ∧ (((bnot (allB [(a1, a2), (b1, b2)])) : Bool) = (bnot (allB [(a1, a2), (b1, b2)]))) ∧ (((bite (bnot (allB [(a1, a2), (b1, b2)])) true (bnot (inB n (1 : Int) (400 : Int)))) : Bool) = (bite (bnot (allB [(a1, a2), (b1, b2)])) true (bnot (inB n (1 : Int) (400 : Int))))) ∧ (true = true) ∧ (true = true) ∧ (true = true) ∧ (((a1 : Int) = a1) ∧ ((a2 : Int) = a2) ∧ True) ∧ (((b1 : Int) = b1) ∧ ((b2 : Int) = b2) ∧ True) ∧ ((n : Int) = n) ∧ True) ∧ (((true = true) ∧ ((Cont.pts []) = (Cont.pts []))) ∧ ((true = true) ∧ ((Cont.pts [(a1, a2), (b1, b2)]) = (Cont.pts [(a1, a2), (b1, b2)]))) ∧ (((a1 : Int) = a1) ∧ ((a2 : Int) = a2) ∧ True) ∧ (((b1 : Int) = b1) ∧ ((b2 : Int) = b2) ∧ True) ∧ ((true = true) ∧ ((Cont.pts []) = (Cont.pts []))) ∧ True)) ∧ (([GK.int, GK.pts] : List GK) = ([GK.int, GK.pts] : List GK)) ∧ I1 [GV.int (0 : Int), GV.pts []]) ∧ (∀ i1_0 : Int, ∀ l1_1 : List Pt, I1 [GV.int i1_0, GV.pts l1_1] → ((true = true) ∧ ((True) ∧ True) ∧ ((ilt i1_0 (iadd n (1 : Int))) = true → ((true = true) ∧ ((True) ∧ (True) ∧ True) ∧ (true = true) ∧ ((True) ∧ (True) ∧ (True) ∧ (True) ∧ (True) ∧ (True) ∧ (True) ∧ (True) ∧ (True) ∧ (True) ∧ (True) ∧ ((1 ≤ n ∧ -9223372036854775807 ≤ (imul i1_0 (isub b1 a1)) ∧ (imul i1_0 (isub b1 a1)) ≤ 9223372036854775807)) ∧ (True) ∧ (True) ∧ (True) ∧ (True) ∧ (True) ∧ (True) ∧ (True) ∧ (True) ∧ (True) ∧ (True) ∧ (True) ∧ ((1 ≤ n ∧ -9223372036854775807 ≤ (imul i1_0 (isub b2 a2)) ∧ (imul i1_0 (isub b2 a2)) ≤ 9223372036854775807)) ∧ (True) ∧ (True) ∧ (True) ∧ True) ∧ (NLe (ilen l1_1) 1000000000 ∧ NLe (ilen [((iadd a1 ((imul i1_0 (isub b1 a1)) / n)), (iadd a2 ((imul i1_0 (isub b2 a2)) / n)))]) 1000000000) ∧ (True) ∧ (true = true) ∧ ((True) ∧ (True) ∧ True) ∧ ((true = true) ∧ ((((iadd i1_0 (1 : Int)) : Int) = (iadd i1_0 (1 : Int))) ∧ ((n : Int) = n) ∧ (((iadd n (1 : Int)) : Int) = (iadd n (1 : Int))) ∧ (true = true) ∧ (((a1 : Int) = a1) ∧ ((a2 : Int) = a2) ∧ True) ∧ (((b1 : Int) = b1) ∧ ((b2 : Int) = b2) ∧ True) ∧ (true = true) ∧ (((allB [(a1, a2), (b1, b2)]) : Bool) = (allB [(a1, a2), (b1, b2)])) ∧ (((bnot (allB [(a1, a2), (b1, b2)])) : Bool) = (bnot (allB [(a1, a2), (b1, b2)]))) ∧ (((bnot (allB [(a1, a2), (b1, b2)])) : Bool) = (bnot (allB [(a1, a2), (b1, b2)]))) ∧ (((bite (bnot (allB [(a1, a2), (b1, b2)])) true (bnot (inB n (1 : Int) (400 : Int)))) : Bool) = (bite (bnot (allB [(a1, a2), (b1, b2)])) true (bnot (inB n (1 : Int) (400 : Int))))) ∧ (true = true) ∧ (true = true) ∧ (true = true) ∧ (((a1 : Int) = a1) ∧ ((a2 : Int) = a2) ∧ True) ∧ (((b1 : Int) = b1) ∧ ((b2 : Int) = b2) ∧ True) ∧ ((n : Int) = n) ∧ True) ∧ (((true = true) ∧ ((Cont.pts (iapp l1_1 [((iadd a1 ((imul i1_0 (isub b1 a1)) / n)), (iadd a2 ((imul i1_0 (isub b2 a2)) / n)))])) = (Cont.pts (iapp l1_1 [((iadd a1 ((imul i1_0 (isub b1 a1)) / n)), (iadd a2 ((imul i1_0 (isub b2 a2)) / n)))])))) ∧ ((true = true) ∧ ((Cont.pts [(a1, a2), (b1, b2)]) = (Cont.pts [(a1, a2), (b1, b2)]))) ∧ (((a1 : Int) = a1) ∧ ((a2 : Int) = a2) ∧ True) ∧ (((b1 : Int) = b1) ∧ ((b2 : Int) = b2) ∧ True) ∧ ((true = true) ∧ ((Cont.pts []) = (Cont.pts []))) ∧ True)) ∧ ((([GK.int, GK.pts] : List GK) = ([GK.int, GK.pts] : List GK)) ∧ I1 [GV.int (iadd i1_0 (1 : Int)), GV.pts (iapp l1_1 [((iadd a1 ((imul i1_0 (isub b1 a1)) / n)), (iadd a2 ((imul i1_0 (isub b2 a2)) / n)))])] ∧ μ1 [GV.int (iadd i1_0 (1 : Int)), GV.pts (iapp l1_1 [((iadd a1 ((imul i1_0 (isub b1 a1)) / n)), (iadd a2 ((imul i1_0 (isub b2 a2)) / n)))])] < μ1 [GV.int i1_0, GV.pts l1_1]))) ∧ ((ilt i1_0 (iadd n (1 : Int))) = false → ((true = true) ∧ ((True) ∧ (True) ∧ True) ∧ ((true = true) ∧ ((Cont.pts l1_1) = (Cont.pts (lpL a1 a2 b1 b2 n)))) ∧ True))))))) = ev sig_impl_LinePoints xs_impl_LinePoints Try.f38.ntmps (fun b => if b == 0 then [.v 21, .b 7] else []) (codeOf Try.f38) 0 (initS [.agg [.int a1, .int a2], .agg [.int b1, .int b2], .s (.int n)]) (retK Try.f38.results.toList [.nrow 25 (.pts (lpL a1 a2 b1 b2 n))]) := by kernel_rfl
set_option maxHeartbeats 400000 in
theorem F_impl_LinePoints : FunOK 38 g_impl_LinePoints := by
  refine fun_F (by kernel_rfl) Try.func38 rfl (by kernel_rfl) sig_impl_LinePoints_ok xs_impl_LinePoints_ok ?_
  intro avs sg h hn hl
  unfold g_impl_LinePoints at h
  split at h
  · rename_i a1 a2 b1 b2 n
    injection h with h; subst h
    refine ⟨by kernel_rfl, fun b => if b == 0 then [.v 21, .b 7] else [], Eq.mp (V_impl_LinePoints a1 a2 b1 b2 n) ?_⟩
    simp only [true_and, and_true, implies_true, and_self, forall_const, true_implies, lenA, lenL, SV.lenOK, Cont.lenOK] at hn hl ⊢
    simp only [ilt_t, ilt_f, ile_t, ile_f, ieq_t, ieq_f, bnot_e, band_e, bite_and, bite_or, NLt_e, NLe_e, NNe_e, NIs_e, imax_e, imin_e, irem_e, Bool.not_eq_true', Bool.not_eq_false', Bool.and_eq_true, Bool.or_eq_true, Bool.or_eq_false_iff, Bool.and_eq_false_iff, Cont.pts.injEq, Cont.ints.injEq, Cont.bools.injEq, Cont.ptss.injEq, Cont.intss.injEq, Cont.boolss.injEq, true_and, and_true, implies_true, allB_2]
    refine ⟨fun h => ?_, fun h => ?_⟩
    · have : lpB a1 a2 b1 b2 n = false := by unfold lpB; rcases h with (h | h) | h <;> simp [h]
      unfold lpL; simp [this]
    obtain ⟨hv, hn⟩ := h
    have hB : lpB a1 a2 b1 b2 n = true := by unfold lpB; rw [hv.1, hv.2, hn]; rfl
    have hn' := inB_true hn
    have va := vB_bd hv.1; have vb := vB_bd hv.2
    have e1 : iadd n 1 = n + 1 := iadd_e (by omega) (by omega)
    rw [e1]
    unfold lpL
    rw [if_pos hB]
    refine ⟨fun | [.int k, .pts o] => 0 ≤ k ∧ k ≤ n + 1 ∧ o = lpK a1 a2 b1 b2 n k | _ => False, fun | .int k :: _ => (n + 1 - k).toNat | _ => 0, ⟨by omega, by omega, rfl⟩, ?_⟩
    rintro k o ⟨k0, k1, rfl⟩
    have e2 : iadd k 1 = k + 1 := iadd_e (by omega) (by omega)
    rw [e2, lpK_len k0]
    refine ⟨fun hk => ?_, fun hk => ?_⟩
    · have bd : ∀ c : Int, -20000 ≤ c → c ≤ 20000 → (-8020000 ≤ k * c ∧ k * c ≤ 8020000) ∧ (-20000 ≤ (k * c) / n ∧ (k * c) / n ≤ 20000) := fun c c0 c1 => by
          have u1 := Int.mul_le_mul_of_nonneg_left c0 k0
          have u2 := Int.mul_le_mul_of_nonneg_left c1 k0
          refine ⟨⟨by omega, by omega⟩, ?_, ?_⟩
          · refine (Int.le_ediv_iff_mul_le (by omega)).2 ?_
            have : n * 20000 ≥ k * 20000 := by omega
            omega
          · have h1 : k * c / n ≤ (20000 * n) / n := Int.ediv_le_ediv (by omega) (by omega)
            rwa [Int.mul_ediv_cancel _ (by omega)] at h1
      have s1 : isub b1 a1 = b1 - a1 := isub_e (by omega) (by omega)
      have s2 : isub b2 a2 = b2 - a2 := isub_e (by omega) (by omega)
      obtain ⟨p1, p2⟩ := bd (b1 - a1) (by omega) (by omega)
      obtain ⟨p3, p4⟩ := bd (b2 - a2) (by omega) (by omega)
      rw [s1, s2, imul_e (by omega) (by omega), imul_e (by omega) (by omega), iadd_e (by omega) (by omega), iadd_e (by omega) (by omega)]
      have ex : (a1 + k * (b1 - a1) / n, a2 + k * (b2 - a2) / n) = lpP a1 a2 b1 b2 n k := rfl
      rw [ex, lpK_s k0]
      exact ⟨⟨⟨by omega, by omega, by omega⟩, by omega, by omega, by omega⟩, ⟨by omega, by rw [ilen_one]; omega⟩, ⟨by omega, by omega, rfl⟩, by show (n + 1 - (k + 1)).toNat < (n + 1 - k).toNat; omega⟩
    · rw [show k = n + 1 by omega]
  · cases h
def g_spec_CurveValid : List AV → Option Sg
  | [.s (.view (.pts l))] => some ⟨True, [.s (.bool (crvB l))]⟩
  | _ => none
def sig_spec_CurveValid : FuncId → List AV → Option Sg := sigL [(37, g_spec_PointValid), (67, g_spec_l1In)]
def xs_spec_CurveValid : XS := ⟨xsigL [], ysigL []⟩
theorem sig_spec_CurveValid_ok : SigOK sig_spec_CurveValid := sigL_cons F_spec_PointValid (sigL_cons F_spec_l1In sigL_nil)
theorem xs_spec_CurveValid_ok : XSigOK xs_spec_CurveValid := ⟨xsigL_nil, ysigL_nil⟩
theorem V_spec_CurveValid (l : List Pt) : ((true = true) ∧ ((True) ∧ True) ∧ (true = true) ∧ ((True) ∧ True) ∧ ∃ (I1 : List GV → Prop) (μ1 : List GV → Nat), (((true = true) ∧ (((false : Bool) = false) ∧ (((0 : Int) : Int) = (0 : Int)) ∧ ((Cont.pts l) = (Cont.pts l)) ∧ True) ∧ (True)) ∧ (([GK.int, GK.bool] : List GK) = ([GK.int, GK.bool] : List GK)) ∧ I1 [GV.int (0 : Int), GV.bool false]) ∧ (∀ i1_0 : Int, ∀ b1_1 : Bool, I1 [GV.int i1_0, GV.bool b1_1] → ((true = true) ∧ ((True) ∧ (True) ∧ (True) ∧ (True) ∧ True) ∧ ((ilt i1_0 (ilen l)) = true → ((true = true) ∧ ((True) ∧ (True) ∧ (NLe 0 i1_0 ∧ NLt i1_0 (ilen l)) ∧ (True) ∧ ((True)) ∧ (True) ∧ True) ∧ ((bnot (vB (getx l i1_0) (gety l i1_0))) = true → ((true = true) ∧ ((True) ∧ True) ∧ ((false : Bool) = (crvB l)) ∧ True)) ∧ ((bnot (vB (getx l i1_0) (gety l i1_0))) = false → ((true = true) ∧ ((True) ∧ (True) ∧ (True) ∧ True) ∧ ((true = true) ∧ (((b1_1 : Bool) = b1_1) ∧ (((iadd i1_0 (1 : Int)) : Int) = (iadd i1_0 (1 : Int))) ∧ ((Cont.pts l) = (Cont.pts l)) ∧ True) ∧ (True)) ∧ ((([GK.int, GK.bool] : List GK) = ([GK.int, GK.bool] : List GK)) ∧ I1 [GV.int (iadd i1_0 (1 : Int)), GV.bool b1_1] ∧ μ1 [GV.int (iadd i1_0 (1 : Int)), GV.bool b1_1] < μ1 [GV.int i1_0, GV.bool b1_1]))))) ∧ ((ilt i1_0 (ilen l)) = false → ((true = true) ∧ ((True) ∧ (True) ∧ ((True)) ∧ (True) ∧ True) ∧ (((inB (ilen l) (1 : Int) (4 : Int)) : Bool) = (crvB l)) ∧ True))))) = ev sig_spec_CurveValid xs_spec_CurveValid Try.f27.ntmps (fun b => if b == 0 then [.v 3, .v 2] else []) (codeOf Try.f27) 0 (initS [.s (.view (.pts l))]) (retK Try.f27.results.toList [.s (.bool (crvB l))]) := by kernel_rfl
set_option maxHeartbeats 400000 in
theorem F_spec_CurveValid : FunOK 27 g_spec_CurveValid := by
  refine fun_F (by kernel_rfl) Try.func27 rfl (by kernel_rfl) sig_spec_CurveValid_ok xs_spec_CurveValid_ok ?_
  intro avs sg h hn hl
  unfold g_spec_CurveValid at h
  split at h
  · rename_i l
    injection h with h; subst h
    refine ⟨by kernel_rfl, fun b => if b == 0 then [.v 3, .v 2] else [], Eq.mp (V_spec_CurveValid l) ?_⟩
    simp only [true_and, and_true, implies_true, and_self, forall_const, true_implies, lenA, lenL, SV.lenOK, Cont.lenOK] at hn hl ⊢
    have h0 := ilen_0 l
    simp only [ilt_t, ilt_f, ile_t, ile_f, ieq_t, ieq_f, bnot_e, band_e, bite_and, bite_or, NLt_e, NLe_e, NNe_e, NIs_e, imax_e, imin_e, irem_e, Bool.not_eq_true', Bool.not_eq_false', Bool.and_eq_true, Bool.or_eq_true, Bool.or_eq_false_iff, Bool.and_eq_false_iff, Cont.pts.injEq, Cont.ints.injEq, Cont.bools.injEq, Cont.ptss.injEq, Cont.intss.injEq, Cont.boolss.injEq, true_and, and_true, implies_true]
    refine ⟨fun | .int k :: _ => 0 ≤ k ∧ k ≤ ilen l ∧ (∀ j, 0 ≤ j → j < k → vB (getx l j) (gety l j) = true) | _ => False, fun | .int k :: _ => (ilen l - k).toNat | _ => 0, ?_, ?_⟩
    · exact ⟨Int.le_refl 0, h0, fun j h0 h1 => absurd h1 (by omega)⟩
    · rintro k _ ⟨hk0, hk1, hk⟩
      simp only [ilt_t, ilt_f, ile_t, ile_f, ieq_t, ieq_f, bnot_e, band_e, bite_and, bite_or, NLt_e, NLe_e, NNe_e, NIs_e, imax_e, imin_e, irem_e, Bool.not_eq_true', Bool.not_eq_false', Bool.and_eq_true, Bool.or_eq_true, Bool.or_eq_false_iff, Bool.and_eq_false_iff, Cont.pts.injEq, Cont.ints.injEq, Cont.bools.injEq, Cont.ptss.injEq, Cont.intss.injEq, Cont.boolss.injEq, true_and, and_true, implies_true]
      refine ⟨fun hc => ⟨⟨hk0, hc⟩, fun hv => ?_, fun hv => ?_⟩, fun hc => ?_⟩
      · unfold crvB; rw [allB_N, allN_no k hk0 hc hv]; simp
      · rw [iadd_1 hk0 hc hl]
        exact ⟨⟨by omega, by omega, allN_up hk hv⟩, by omega⟩
      · unfold crvB; rw [allB_N, allN_mk fun j h0 h1 => hk j h0 (by omega)]; simp
  · cases h
def g_spec_l7Value : List AV → Option Sg
  | [.s (.view (.ints l)), .s (.int t)] => some ⟨1 ≤ ilen l ∧ ilen l ≤ 4 ∧ 0 ≤ t ∧ t ≤ 64 ∧ ∀ j, 0 ≤ j → j < ilen l → -10000 ≤ geti l j ∧ geti l j ≤ 10000, [.s (.int (dcv t (geti l) (ilen l - 1).toNat 0))]⟩
  | _ => none
def sig_spec_l7Value : FuncId → List AV → Option Sg := sigL []
def xs_spec_l7Value : XS := ⟨xsigL [], ysigL []⟩
theorem sig_spec_l7Value_ok : SigOK sig_spec_l7Value := sigL_nil
theorem xs_spec_l7Value_ok : XSigOK xs_spec_l7Value := ⟨xsigL_nil, ysigL_nil⟩
theorem V_spec_l7Value (l : List Int) (t : Int) : ((true = true) ∧ ((True) ∧ True) ∧ (true = true) ∧ ((True) ∧ (True) ∧ True) ∧ (NLe (ilen ([] : List Int)) 1000000000 ∧ NLe (ilen l) 1000000000) ∧ (True) ∧ ∃ (I1 : List GV → Prop) (μ1 : List GV → Nat), (((true = true) ∧ ((true = true) ∧ ((Cont.ints l) = (Cont.ints l)) ∧ (((0 : Int) : Int) = (0 : Int)) ∧ ((Cont.ints l) = (Cont.ints l)) ∧ ((t : Int) = t) ∧ True) ∧ (((true = true) ∧ ((Cont.ints (iapp [] l)) = (Cont.ints (iapp [] l)))) ∧ True)) ∧ (([GK.ints] : List GK) = ([GK.ints] : List GK)) ∧ I1 [GV.ints (iapp [] l)]) ∧ (∀ l1_0 : List Int, I1 [GV.ints l1_0] → ((true = true) ∧ ((True) ∧ (True) ∧ (True) ∧ True) ∧ ((ilt (1 : Int) (ilen l1_0)) = true → ((true = true) ∧ ((True) ∧ (True) ∧ True) ∧ (true = true) ∧ ((True) ∧ True) ∧ ∃ (I2 : List GV → Prop) (μ2 : List GV → Nat), (((true = true) ∧ ((((0 : Int) : Int) = (0 : Int)) ∧ (true = true) ∧ (true = true) ∧ (((ilen l1_0) : Int) = (ilen l1_0)) ∧ (((ilt (1 : Int) (ilen l1_0)) : Bool) = (ilt (1 : Int) (ilen l1_0))) ∧ (true = true) ∧ ((Cont.ints l) = (Cont.ints l)) ∧ (((0 : Int) : Int) = (0 : Int)) ∧ ((Cont.ints l) = (Cont.ints l)) ∧ ((t : Int) = t) ∧ True) ∧ (((true = true) ∧ ((Cont.ints []) = (Cont.ints []))) ∧ ((true = true) ∧ ((Cont.ints l1_0) = (Cont.ints l1_0))) ∧ True)) ∧ (([GK.int, GK.ints] : List GK) = ([GK.int, GK.ints] : List GK)) ∧ I2 [GV.int (0 : Int), GV.ints []]) ∧ (∀ i2_0 : Int, ∀ l2_1 : List Int, I2 [GV.int i2_0, GV.ints l2_1] → ((true = true) ∧ ((True) ∧ (True) ∧ (True) ∧ (True) ∧ (True) ∧ True) ∧ ((ilt (iadd i2_0 (1 : Int)) (ilen l1_0)) = true → ((true = true) ∧ ((True) ∧ (True) ∧ (True) ∧ (NLe 0 i2_0 ∧ NLt i2_0 (ilen l1_0)) ∧ (NLt i2_0 (ilen l1_0)) ∧ (True) ∧ (True) ∧ (True) ∧ (True) ∧ (True) ∧ (True) ∧ (NLe 0 (iadd i2_0 (1 : Int)) ∧ NLt (iadd i2_0 (1 : Int)) (ilen l1_0)) ∧ (NLt (iadd i2_0 (1 : Int)) (ilen l1_0)) ∧ (True) ∧ (True) ∧ (True) ∧ (True) ∧ True) ∧ (NLe (ilen l2_1) 1000000000 ∧ NLe (ilen [(iadd (imul (geti l1_0 i2_0) (isub (64 : Int) t)) (imul (geti l1_0 (iadd i2_0 (1 : Int))) t))]) 1000000000) ∧ (True) ∧ (true = true) ∧ ((True) ∧ (True) ∧ (True) ∧ True) ∧ ((true = true) ∧ ((((iadd i2_0 (1 : Int)) : Int) = (iadd i2_0 (1 : Int))) ∧ (true = true) ∧ (true = true) ∧ (((ilen l1_0) : Int) = (ilen l1_0)) ∧ (((ilt (1 : Int) (ilen l1_0)) : Bool) = (ilt (1 : Int) (ilen l1_0))) ∧ (true = true) ∧ ((Cont.ints l) = (Cont.ints l)) ∧ (((0 : Int) : Int) = (0 : Int)) ∧ ((Cont.ints l) = (Cont.ints l)) ∧ ((t : Int) = t) ∧ True) ∧ (((true = true) ∧ ((Cont.ints (iapp l2_1 [(iadd (imul (geti l1_0 i2_0) (isub (64 : Int) t)) (imul (geti l1_0 (iadd i2_0 (1 : Int))) t))])) = (Cont.ints (iapp l2_1 [(iadd (imul (geti l1_0 i2_0) (isub (64 : Int) t)) (imul (geti l1_0 (iadd i2_0 (1 : Int))) t))])))) ∧ ((true = true) ∧ ((Cont.ints l1_0) = (Cont.ints l1_0))) ∧ True)) ∧ ((([GK.int, GK.ints] : List GK) = ([GK.int, GK.ints] : List GK)) ∧ I2 [GV.int (iadd i2_0 (1 : Int)), GV.ints (iapp l2_1 [(iadd (imul (geti l1_0 i2_0) (isub (64 : Int) t)) (imul (geti l1_0 (iadd i2_0 (1 : Int))) t))])] ∧ μ2 [GV.int (iadd i2_0 (1 : Int)), GV.ints (iapp l2_1 [(iadd (imul (geti l1_0 i2_0) (isub (64 : Int) t)) (imul (geti l1_0 (iadd i2_0 (1 : Int))) t))])] < μ2 [GV.int i2_0, GV.ints l2_1]))) ∧ ((ilt (iadd i2_0 (1 : Int)) (ilen l1_0)) = false → ((true = true) ∧ ((True) ∧ (True) ∧ True) ∧ ((true = true) ∧ ((true = true) ∧ ((Cont.ints l) = (Cont.ints l)) ∧ (((0 : Int) : Int) = (0 : Int)) ∧ ((Cont.ints l) = (Cont.ints l)) ∧ ((t : Int) = t) ∧ True) ∧ (((true = true) ∧ ((Cont.ints l2_1) = (Cont.ints l2_1))) ∧ True)) ∧ ((([GK.ints] : List GK) = ([GK.ints] : List GK)) ∧ I1 [GV.ints l2_1] ∧ μ1 [GV.ints l2_1] < μ1 [GV.ints l1_0]))))))) ∧ ((ilt (1 : Int) (ilen l1_0)) = false → ((true = true) ∧ ((True) ∧ (NLe 0 (0 : Int) ∧ NLt (0 : Int) (ilen l1_0)) ∧ (NLt (0 : Int) (ilen l1_0)) ∧ (True) ∧ True) ∧ (((geti l1_0 (0 : Int)) : Int) = (dcv t (geti l) (ilen l - 1).toNat 0)) ∧ True))))) = ev sig_spec_l7Value xs_spec_l7Value Try.f104.ntmps (fun b => if b == 0 then [.b 5] else if b == 2 then [.v 7, .b 6] else []) (codeOf Try.f104) 0 (initS [.s (.view (.ints l)), .s (.int t)]) (retK Try.f104.results.toList [.s (.int (dcv t (geti l) (ilen l - 1).toNat 0))]) := by kernel_rfl
set_option maxHeartbeats 1000000 in
theorem F_spec_l7Value : FunOK 104 g_spec_l7Value := by
  refine fun_F (by kernel_rfl) Try.func104 rfl (by kernel_rfl) sig_spec_l7Value_ok xs_spec_l7Value_ok ?_
  intro avs sg h hn hl
  unfold g_spec_l7Value at h
  split at h
  · rename_i l t
    injection h with h; subst h
    refine ⟨by kernel_rfl, fun b => if b == 0 then [.b 5] else if b == 2 then [.v 7, .b 6] else [], Eq.mp (V_spec_l7Value l t) ?_⟩
    simp only [true_and, and_true, implies_true, and_self, forall_const, true_implies, lenA, lenL, SV.lenOK, Cont.lenOK] at hn hl ⊢
    have h0 := ilen_0 l
    obtain ⟨n1, n4, t0, t1, bx⟩ := hn
    simp only [ilt_t, ilt_f, ile_t, ile_f, ieq_t, ieq_f, bnot_e, band_e, bite_and, bite_or, NLt_e, NLe_e, NNe_e, NIs_e, imax_e, imin_e, irem_e, Bool.not_eq_true', Bool.not_eq_false', Bool.and_eq_true, Bool.or_eq_true, Bool.or_eq_false_iff, Bool.and_eq_false_iff, Cont.pts.injEq, Cont.ints.injEq, Cont.bools.injEq, Cont.ptss.injEq, Cont.intss.injEq, Cont.boolss.injEq, true_and, and_true, implies_true]
    refine ⟨by rw [ilen_nil]; omega, fun | [.ints q] => 1 ≤ ilen q ∧ ilen q ≤ ilen l ∧ ∀ j, 0 ≤ j → j < ilen q → geti q j = dcv t (geti l) (ilen l - ilen q).toNat j | _ => False, fun | [.ints q] => (ilen q).toNat | _ => 0, ?_, ?_⟩
    · have : iapp [] l = l := by simp [iapp]
      rw [this]
      refine ⟨n1, Int.le_refl _, fun j _ _ => ?_⟩
      rw [Int.sub_self]; rfl
    rintro q ⟨q1, q2, hq⟩
    obtain ⟨m, hm⟩ : ∃ m : Nat, m = (ilen l - ilen q).toNat := ⟨_, rfl⟩
    rw [← hm] at hq
    refine ⟨fun hlt => ?_, fun hlt => ?_⟩
    · refine ⟨fun | [.int i, .ints q'] => 0 ≤ i ∧ i ≤ ilen q - 1 ∧ ilen q' = i ∧ (∀ j, 0 ≤ j → j < i → geti q' j = dcv t (geti l) (m + 1) j) | _ => False, fun | [.int i, .ints _] => (ilen q - i).toNat | _ => 0, ?_, ?_⟩
      · exact ⟨Int.le_refl 0, by omega, ilen_nil, fun j h0 h1 => by omega⟩
      rintro i q' ⟨i0, i1, hl', ha⟩
      have ei : iadd i 1 = i + 1 := iadd_e (by omega) (by omega)
      simp only [ei]
      refine ⟨fun hi => ?_, fun hi => ?_⟩
      · have x1 := hq i i0 (by omega)
        have x2 := hq (i + 1) (by omega) (by omega)
        have px := dcv_parts t0 t1 n4 bx (m := m) (k := i) i0 (by omega)
        have px' := dcv_parts t0 t1 n4 bx (m := m) (k := i + 1) (by omega) (by omega)
        have ev : iadd (imul (geti q i) (isub 64 t)) (imul (geti q (i + 1)) t) = dcv t (geti l) (m + 1) i := by
          rw [x1, x2, isub_e (by omega) (by omega), dcv_s, Int.mul_comm (64 - t), Int.mul_comm t]
          rw [Int.mul_comm (64 - t), Int.mul_comm t] at *
          have := px.2.1; have := px'.2.2
          rw [imul_e (by omega) (by omega), imul_e (by omega) (by omega), iadd_e (by omega) (by omega)]
        rw [ev]
        refine ⟨by omega, by rw [ilen_one]; omega, ⟨by omega, by omega, by rw [ilen_app, ilen_one]; omega, fun j j0 j1 => ?_⟩, by omega⟩
        rw [geti_app j0]
        by_cases hj : j < ilen q'
        · rw [if_pos hj]; exact ha j j0 (by omega)
        · rw [if_neg hj, show j - ilen q' = 0 by omega, geti_one, show j = i by omega]
      · have em : (ilen l - ilen q').toNat = m + 1 := by omega
        refine ⟨⟨by omega, by omega, fun j j0 j1 => ?_⟩, by omega⟩
        rw [em]
        exact ha j j0 (by omega)
    · have e1 : ilen q = 1 := by omega
      have em : m = (ilen l - 1).toNat := by omega
      rw [hq 0 (by omega) (by omega), em]
      exact ⟨by omega, rfl⟩
  · cases h
def g_spec_l1Floor : List AV → Option Sg
  | [.s (.int a), .s (.int b)] => some ⟨1 ≤ b ∧ -9223372036854775807 ≤ a ∧ a ≤ 9223372036854775807, [.s (.int (a / b))]⟩
  | _ => none
def sig_spec_l1Floor : FuncId → List AV → Option Sg := sigL []
def xs_spec_l1Floor : XS := ⟨xsigL [], ysigL []⟩
theorem sig_spec_l1Floor_ok : SigOK sig_spec_l1Floor := sigL_nil
theorem xs_spec_l1Floor_ok : XSigOK xs_spec_l1Floor := ⟨xsigL_nil, ysigL_nil⟩
theorem V_spec_l1Floor (a : Int) (b : Int) : ((true = true) ∧ ((True) ∧ True) ∧ (true = true) ∧ ((True) ∧ (True) ∧ (NNe b 0) ∧ (True) ∧ True) ∧ (true = true) ∧ ((True) ∧ (True) ∧ (NNe b 0) ∧ (True) ∧ True) ∧ ((ilt (irem a b) (0 : Int)) = true → ((true = true) ∧ ((True) ∧ (True) ∧ (True) ∧ True) ∧ (true = true) ∧ ((True) ∧ (True) ∧ True) ∧ (((isub (iquo a b) (1 : Int)) : Int) = (a / b)) ∧ True)) ∧ ((ilt (irem a b) (0 : Int)) = false → ((true = true) ∧ ((True) ∧ (True) ∧ True) ∧ (((iquo a b) : Int) = (a / b)) ∧ True))) = ev sig_spec_l1Floor xs_spec_l1Floor Try.f114.ntmps (fun b => []) (codeOf Try.f114) 0 (initS [.s (.int a), .s (.int b)]) (retK Try.f114.results.toList [.s (.int (a / b))]) := by kernel_rfl
set_option maxHeartbeats 400000 in
theorem F_spec_l1Floor : FunOK 114 g_spec_l1Floor := by
  refine fun_F (by kernel_rfl) Try.func114 rfl (by kernel_rfl) sig_spec_l1Floor_ok xs_spec_l1Floor_ok ?_
  intro avs sg h hn hl
  unfold g_spec_l1Floor at h
  split at h
  · rename_i a b
    injection h with h; subst h
    refine ⟨by kernel_rfl, fun b => [], Eq.mp (V_spec_l1Floor a b) ?_⟩
    simp only [true_and, and_true, implies_true, and_self, forall_const, true_implies, lenA, lenL, SV.lenOK, Cont.lenOK] at hn hl ⊢
    obtain ⟨n1, n2, n3⟩ := hn
    obtain ⟨q1, q2⟩ := tdiv_bd n1 n2 n3
    obtain ⟨f1, f2⟩ := floor_e (a := a) n1
    simp only [ilt_t, ilt_f, ile_t, ile_f, ieq_t, ieq_f, bnot_e, band_e, bite_and, bite_or, NLt_e, NLe_e, NNe_e, NIs_e, imax_e, imin_e, irem_e, Bool.not_eq_true', Bool.not_eq_false', Bool.and_eq_true, Bool.or_eq_true, Bool.or_eq_false_iff, Bool.and_eq_false_iff, Cont.pts.injEq, Cont.ints.injEq, Cont.bools.injEq, Cont.ptss.injEq, Cont.intss.injEq, Cont.boolss.injEq, true_and, and_true, implies_true]
    refine ⟨by omega, by omega, fun h => ?_, fun h => ?_⟩
    · rw [q1, q2 h, f1 h]
    · rw [q1, f2 h]
  · cases h
def g_spec_l1Round : List AV → Option Sg
  | [.s (.int a), .s (.int b)] => some ⟨1 ≤ b ∧ b ≤ 1000000 ∧ -1000000000000 ≤ a ∧ a ≤ 1000000000000, [.s (.int ((a + b / 2) / b))]⟩
  | _ => none
def sig_spec_l1Round : FuncId → List AV → Option Sg := sigL [(114, g_spec_l1Floor)]
def xs_spec_l1Round : XS := ⟨xsigL [], ysigL []⟩
theorem sig_spec_l1Round_ok : SigOK sig_spec_l1Round := sigL_cons F_spec_l1Floor sigL_nil
theorem xs_spec_l1Round_ok : XSigOK xs_spec_l1Round := ⟨xsigL_nil, ysigL_nil⟩
theorem V_spec_l1Round (a : Int) (b : Int) : ((true = true) ∧ ((True) ∧ True) ∧ (true = true) ∧ ((True) ∧ (True) ∧ (NNe (2 : Int) 0) ∧ (True) ∧ (True) ∧ ((1 ≤ b ∧ -9223372036854775807 ≤ (iadd a (iquo b (2 : Int))) ∧ (iadd a (iquo b (2 : Int))) ≤ 9223372036854775807)) ∧ (True) ∧ True) ∧ ((((iadd a (iquo b (2 : Int))) / b) : Int) = ((a + b / 2) / b)) ∧ True) = ev sig_spec_l1Round xs_spec_l1Round Try.f103.ntmps (fun b => []) (codeOf Try.f103) 0 (initS [.s (.int a), .s (.int b)]) (retK Try.f103.results.toList [.s (.int ((a + b / 2) / b))]) := by kernel_rfl
set_option maxHeartbeats 400000 in
theorem F_spec_l1Round : FunOK 103 g_spec_l1Round := by
  refine fun_F (by kernel_rfl) Try.func103 rfl (by kernel_rfl) sig_spec_l1Round_ok xs_spec_l1Round_ok ?_
  intro avs sg h hn hl
  unfold g_spec_l1Round at h
  split at h
  · rename_i a b
    injection h with h; subst h
    refine ⟨by kernel_rfl, fun b => [], Eq.mp (V_spec_l1Round a b) ?_⟩
    simp only [true_and, and_true, implies_true, and_self, forall_const, true_implies, lenA, lenL, SV.lenOK, Cont.lenOK] at hn hl ⊢
    simp only [ilt_t, ilt_f, ile_t, ile_f, ieq_t, ieq_f, bnot_e, band_e, bite_and, bite_or, NLt_e, NLe_e, NNe_e, NIs_e, imax_e, imin_e, irem_e, Bool.not_eq_true', Bool.not_eq_false', Bool.and_eq_true, Bool.or_eq_true, Bool.or_eq_false_iff, Bool.and_eq_false_iff, Cont.pts.injEq, Cont.ints.injEq, Cont.bools.injEq, Cont.ptss.injEq, Cont.intss.injEq, Cont.boolss.injEq, true_and, and_true, implies_true]
    have e : iquo b 2 = b / 2 := by rw [iquo_e (by omega) (by omega) (by omega), Int.tdiv_eq_ediv_of_nonneg (by omega)]
    rw [e, iadd_e (by omega) (by omega)]
    exact ⟨by omega, rfl⟩
  · cases h
def g_spec_l7Point : List AV → Option Sg
  | [.s (.view (.pts l)), .s (.int t)] => some ⟨crvB l = true ∧ 0 ≤ t ∧ t ≤ 64, [.agg [.int (cvN (ilen l) t (getx l)), .int (cvN (ilen l) t (gety l))]]⟩
  | _ => none
def sig_spec_l7Point : FuncId → List AV → Option Sg := sigL [(104, g_spec_l7Value), (103, g_spec_l1Round)]
def xs_spec_l7Point : XS := ⟨xsigL [], ysigL []⟩
theorem sig_spec_l7Point_ok : SigOK sig_spec_l7Point := sigL_cons F_spec_l7Value (sigL_cons F_spec_l1Round sigL_nil)
theorem xs_spec_l7Point_ok : XSigOK xs_spec_l7Point := ⟨xsigL_nil, ysigL_nil⟩
theorem V_spec_l7Point (l : List Pt) (t : Int) : ((true = true) ∧ ((True) ∧ True) ∧ (true = true) ∧ ((True) ∧ (True) ∧ True) ∧ (true = true) ∧ ((True) ∧ (True) ∧ True) ∧ (true = true) ∧ ((True) ∧ True) ∧ (true = true) ∧ ((True) ∧ True) ∧ ∃ (I1 : List GV → Prop) (μ1 : List GV → Nat), (((true = true) ∧ ((((1 : Int) : Int) = (1 : Int)) ∧ (((0 : Int) : Int) = (0 : Int)) ∧ (true = true) ∧ (true = true) ∧ (true = true) ∧ ((Cont.pts l) = (Cont.pts l)) ∧ ((t : Int) = t) ∧ True) ∧ (((true = true) ∧ ((Cont.ints []) = (Cont.ints []))) ∧ ((true = true) ∧ ((Cont.ints []) = (Cont.ints []))) ∧ ((((0 : Int) : Int) = (0 : Int)) ∧ (((0 : Int) : Int) = (0 : Int)) ∧ True) ∧ True)) ∧ (([GK.int, GK.int, GK.ints, GK.ints] : List GK) = ([GK.int, GK.int, GK.ints, GK.ints] : List GK)) ∧ I1 [GV.int (0 : Int), GV.int (1 : Int), GV.ints [], GV.ints []]) ∧ (∀ i1_0 : Int, ∀ i1_1 : Int, ∀ l1_2 : List Int, ∀ l1_3 : List Int, I1 [GV.int i1_0, GV.int i1_1, GV.ints l1_2, GV.ints l1_3] → ((true = true) ∧ ((True) ∧ (True) ∧ (True) ∧ (True) ∧ True) ∧ ((ilt i1_0 (ilen l)) = true → ((true = true) ∧ ((True) ∧ (True) ∧ (True) ∧ (NLe 0 i1_0 ∧ NLt i1_0 (ilen l)) ∧ (True) ∧ (True) ∧ (True) ∧ True) ∧ (NLe (ilen l1_3) 1000000000 ∧ NLe (ilen [(getx l i1_0)]) 1000000000) ∧ (True) ∧ (true = true) ∧ ((True) ∧ (True) ∧ (True) ∧ (NLe 0 i1_0 ∧ NLt i1_0 (ilen l)) ∧ (True) ∧ (True) ∧ (True) ∧ True) ∧ (NLe (ilen l1_2) 1000000000 ∧ NLe (ilen [(gety l i1_0)]) 1000000000) ∧ (True) ∧ (true = true) ∧ ((True) ∧ (True) ∧ True) ∧ ((ilt (0 : Int) i1_0) = true → ((true = true) ∧ ((True) ∧ (True) ∧ (True) ∧ True) ∧ (true = true) ∧ ((True) ∧ (True) ∧ (True) ∧ True) ∧ ((true = true) ∧ ((((imul i1_1 (64 : Int)) : Int) = (imul i1_1 (64 : Int))) ∧ (((iadd i1_0 (1 : Int)) : Int) = (iadd i1_0 (1 : Int))) ∧ (true = true) ∧ (true = true) ∧ (true = true) ∧ ((Cont.pts l) = (Cont.pts l)) ∧ ((t : Int) = t) ∧ True) ∧ (((true = true) ∧ ((Cont.ints (iapp l1_3 [(getx l i1_0)])) = (Cont.ints (iapp l1_3 [(getx l i1_0)])))) ∧ ((true = true) ∧ ((Cont.ints (iapp l1_2 [(gety l i1_0)])) = (Cont.ints (iapp l1_2 [(gety l i1_0)])))) ∧ ((((0 : Int) : Int) = (0 : Int)) ∧ (((0 : Int) : Int) = (0 : Int)) ∧ True) ∧ True)) ∧ ((([GK.int, GK.int, GK.ints, GK.ints] : List GK) = ([GK.int, GK.int, GK.ints, GK.ints] : List GK)) ∧ I1 [GV.int (iadd i1_0 (1 : Int)), GV.int (imul i1_1 (64 : Int)), GV.ints (iapp l1_2 [(gety l i1_0)]), GV.ints (iapp l1_3 [(getx l i1_0)])] ∧ μ1 [GV.int (iadd i1_0 (1 : Int)), GV.int (imul i1_1 (64 : Int)), GV.ints (iapp l1_2 [(gety l i1_0)]), GV.ints (iapp l1_3 [(getx l i1_0)])] < μ1 [GV.int i1_0, GV.int i1_1, GV.ints l1_2, GV.ints l1_3]))) ∧ ((ilt (0 : Int) i1_0) = false → ((true = true) ∧ ((True) ∧ (True) ∧ (True) ∧ True) ∧ ((true = true) ∧ (((i1_1 : Int) = i1_1) ∧ (((iadd i1_0 (1 : Int)) : Int) = (iadd i1_0 (1 : Int))) ∧ (true = true) ∧ (true = true) ∧ (true = true) ∧ ((Cont.pts l) = (Cont.pts l)) ∧ ((t : Int) = t) ∧ True) ∧ (((true = true) ∧ ((Cont.ints (iapp l1_3 [(getx l i1_0)])) = (Cont.ints (iapp l1_3 [(getx l i1_0)])))) ∧ ((true = true) ∧ ((Cont.ints (iapp l1_2 [(gety l i1_0)])) = (Cont.ints (iapp l1_2 [(gety l i1_0)])))) ∧ ((((0 : Int) : Int) = (0 : Int)) ∧ (((0 : Int) : Int) = (0 : Int)) ∧ True) ∧ True)) ∧ ((([GK.int, GK.int, GK.ints, GK.ints] : List GK) = ([GK.int, GK.int, GK.ints, GK.ints] : List GK)) ∧ I1 [GV.int (iadd i1_0 (1 : Int)), GV.int i1_1, GV.ints (iapp l1_2 [(gety l i1_0)]), GV.ints (iapp l1_3 [(getx l i1_0)])] ∧ μ1 [GV.int (iadd i1_0 (1 : Int)), GV.int i1_1, GV.ints (iapp l1_2 [(gety l i1_0)]), GV.ints (iapp l1_3 [(getx l i1_0)])] < μ1 [GV.int i1_0, GV.int i1_1, GV.ints l1_2, GV.ints l1_3]))))) ∧ ((ilt i1_0 (ilen l)) = false → ((true = true) ∧ ((True) ∧ (True) ∧ True) ∧ ((ieq i1_1 (1 : Int)) = true → ((true = true) ∧ ((True) ∧ (NLe 0 (0 : Int) ∧ NLt (0 : Int) (ilen l)) ∧ (True) ∧ True) ∧ (True) ∧ ((((getx l (0 : Int)) : Int) = (cvN (ilen l) t (getx l))) ∧ (((gety l (0 : Int)) : Int) = (cvN (ilen l) t (gety l))) ∧ True) ∧ True)) ∧ ((ieq i1_1 (1 : Int)) = false → ((true = true) ∧ ((True) ∧ (True) ∧ ((1 ≤ ilen l1_3 ∧ ilen l1_3 ≤ 4 ∧ 0 ≤ t ∧ t ≤ 64 ∧ ∀ j, 0 ≤ j → j < ilen l1_3 → -10000 ≤ geti l1_3 j ∧ geti l1_3 j ≤ 10000)) ∧ (True) ∧ ((1 ≤ i1_1 ∧ i1_1 ≤ 1000000 ∧ -1000000000000 ≤ (dcv t (geti l1_3) (ilen l1_3 - 1).toNat 0) ∧ (dcv t (geti l1_3) (ilen l1_3 - 1).toNat 0) ≤ 1000000000000)) ∧ (True) ∧ (True) ∧ ((1 ≤ ilen l1_2 ∧ ilen l1_2 ≤ 4 ∧ 0 ≤ t ∧ t ≤ 64 ∧ ∀ j, 0 ≤ j → j < ilen l1_2 → -10000 ≤ geti l1_2 j ∧ geti l1_2 j ≤ 10000)) ∧ (True) ∧ ((1 ≤ i1_1 ∧ i1_1 ≤ 1000000 ∧ -1000000000000 ≤ (dcv t (geti l1_2) (ilen l1_2 - 1).toNat 0) ∧ (dcv t (geti l1_2) (ilen l1_2 - 1).toNat 0) ≤ 1000000000000)) ∧ (True) ∧ True) ∧ (True) ∧ ((((((dcv t (geti l1_3) (ilen l1_3 - 1).toNat 0) + i1_1 / 2) / i1_1) : Int) = (cvN (ilen l) t (getx l))) ∧ (((((dcv t (geti l1_2) (ilen l1_2 - 1).toNat 0) + i1_1 / 2) / i1_1) : Int) = (cvN (ilen l) t (gety l))) ∧ True) ∧ True))))))) = ev sig_spec_l7Point xs_spec_l7Point Try.f75.ntmps (fun b => if b == 0 then [.v 8, .v 7, .b 6, .b 5] else []) (codeOf Try.f75) 0 (initS [.s (.view (.pts l)), .s (.int t)]) (retK Try.f75.results.toList [.agg [.int (cvN (ilen l) t (getx l)), .int (cvN (ilen l) t (gety l))]]) := by kernel_rfl
set_option maxHeartbeats 1000000 in
theorem F_spec_l7Point : FunOK 75 g_spec_l7Point := by
  refine fun_F (by kernel_rfl) Try.func75 rfl (by kernel_rfl) sig_spec_l7Point_ok xs_spec_l7Point_ok ?_
  intro avs sg h hn hl
  unfold g_spec_l7Point at h
  split at h
  · rename_i l t
    injection h with h; subst h
    refine ⟨by kernel_rfl, fun b => if b == 0 then [.v 8, .v 7, .b 6, .b 5] else [], Eq.mp (V_spec_l7Point l t) ?_⟩
    simp only [true_and, and_true, implies_true, and_self, forall_const, true_implies, lenA, lenL, SV.lenOK, Cont.lenOK] at hn hl ⊢
    have h0 := ilen_0 l
    obtain ⟨hc, t0, t1⟩ := hn
    obtain ⟨⟨n1, n4⟩, bx, bY⟩ := crv_parts hc
    simp only [ilt_t, ilt_f, ile_t, ile_f, ieq_t, ieq_f, bnot_e, band_e, bite_and, bite_or, NLt_e, NLe_e, NNe_e, NIs_e, imax_e, imin_e, irem_e, Bool.not_eq_true', Bool.not_eq_false', Bool.and_eq_true, Bool.or_eq_true, Bool.or_eq_false_iff, Bool.and_eq_false_iff, Cont.pts.injEq, Cont.ints.injEq, Cont.bools.injEq, Cont.ptss.injEq, Cont.intss.injEq, Cont.boolss.injEq, true_and, and_true, implies_true]
    refine ⟨fun | [.int i, .int s, .ints y, .ints x] => 0 ≤ i ∧ i ≤ ilen l ∧ s = p64 (i - 1).toNat ∧ ilen x = i ∧ ilen y = i ∧ ∀ j, 0 ≤ j → j < i → geti x j = getx l j ∧ geti y j = gety l j | _ => False, fun | .int i :: _ => (ilen l - i).toNat | _ => 0, ?_, ?_⟩
    · exact ⟨Int.le_refl 0, h0, rfl, ilen_nil, ilen_nil, fun j j0 j1 => by omega⟩
    rintro i s y x ⟨i0, i1, hs, hx, hy, hg⟩
    have ei : iadd i 1 = i + 1 := iadd_e (by omega) (by omega)
    simp only [ei]
    refine ⟨fun hi => ?_, fun hi => ?_⟩
    · have hnew : ∀ j, 0 ≤ j → j < i + 1 → geti (iapp x [getx l i]) j = getx l j ∧ geti (iapp y [gety l i]) j = gety l j := fun j j0 j1 => by
        rw [geti_app j0, geti_app j0, hx, hy]
        by_cases hj : j < i
        · rw [if_pos hj, if_pos hj]; exact hg j j0 hj
        · rw [if_neg hj, if_neg hj, show j - i = 0 by omega, geti_one, geti_one, show j = i by omega]; exact ⟨rfl, rfl⟩
      have hp0 := p64_pos (i - 1).toNat
      have hp1 := p64_le (m := (i - 1).toNat) (by omega)
      refine ⟨by omega, by rw [ilen_one]; omega, by omega, by rw [ilen_one]; omega, fun hi0 => ⟨⟨by omega, by omega, ?_, by rw [ilen_app, ilen_one]; omega, by rw [ilen_app, ilen_one]; omega, hnew⟩, by omega⟩, fun hi0 => ⟨⟨by omega, by omega, ?_, by rw [ilen_app, ilen_one]; omega, by rw [ilen_app, ilen_one]; omega, hnew⟩, by omega⟩⟩
      · rw [imul_e (by omega) (by omega), hs, ← p64_s]; congr 1; omega
      · rw [hs, show i = 0 by omega]; rfl
    · have e1 : i = ilen l := by omega
      subst e1
      have hp0 := p64_pos (ilen l - 1).toNat
      have hp1 := p64_le (m := (ilen l - 1).toNat) (by omega)
      refine ⟨fun hs1 => ⟨by omega, ?_⟩, fun hs1 => ?_⟩
      · have : (ilen l - 1).toNat = 0 := by
          rcases Nat.eq_zero_or_pos (ilen l - 1).toNat with h | h
          · exact h
          · obtain ⟨c, hc1, hc2⟩ := p64_even h; omega
        unfold cvN
        rw [this]
        exact ⟨(rnd_1 _).symm, (rnd_1 _).symm⟩
      · have cx : dcv t (geti x) (ilen l - 1).toNat 0 = dcv t (getx l) (ilen l - 1).toNat 0 := dcv_congr (n := ilen l) (fun j j0 j1 => (hg j j0 j1).1) _ 0 (by omega) (by omega)
        have cy : dcv t (geti y) (ilen l - 1).toNat 0 = dcv t (gety l) (ilen l - 1).toNat 0 := dcv_congr (n := ilen l) (fun j j0 j1 => (hg j j0 j1).2) _ 0 (by omega) (by omega)
        have px := dcv_parts t0 t1 n4 bx (m := (ilen l - 1).toNat) (k := 0) (by omega) (by omega)
        have py := dcv_parts t0 t1 n4 bY (m := (ilen l - 1).toNat) (k := 0) (by omega) (by omega)
        rw [hx, hy, cx, cy]
        have hm : 1 ≤ (ilen l - 1).toNat := by
          rcases Nat.eq_zero_or_pos (ilen l - 1).toNat with h | h
          · rw [h] at hs; exact absurd hs hs1
          · exact h
        obtain ⟨c, hc1, hc2⟩ := p64_even hm
        refine ⟨⟨⟨n1, n4, t0, t1, fun j j0 j1 => by rw [(hg j j0 j1).1]; exact bx j j0 j1⟩, by omega, ⟨n1, n4, t0, t1, fun j j0 j1 => by rw [(hg j j0 j1).2]; exact bY j j0 j1⟩, by omega⟩, ?_, ?_⟩
        · unfold cvN; rw [← hs, rnd_even (c := c) (by omega)]
        · unfold cvN; rw [← hs, rnd_even (c := c) (by omega)]
  · cases h
def g_spec_CurvePoints : List AV → Option Sg
  | [.s (.view (.pts l)), .s (.int n)] => some ⟨True, [.nrow 25 (.pts (cpsL l n))]⟩
  | _ => none
def sig_spec_CurvePoints : FuncId → List AV → Option Sg := sigL [(27, nilG (.pts []) g_spec_CurveValid), (67, g_spec_l1In), (75, g_spec_l7Point)]
def xs_spec_CurvePoints : XS := ⟨xsigL [], ysigL []⟩
theorem sig_spec_CurvePoints_ok : SigOK sig_spec_CurvePoints := sigL_cons (FunOK.nil (c := .pts []) rfl F_spec_CurveValid) (sigL_cons F_spec_l1In (sigL_cons F_spec_l7Point sigL_nil))
theorem xs_spec_CurvePoints_ok : XSigOK xs_spec_CurvePoints := ⟨xsigL_nil, ysigL_nil⟩
theorem V_spec_CurvePoints (l : List Pt) (n : Int) : ((true = true) ∧ ((True) ∧ True) ∧ (true = true) ∧ ((True) ∧ (True) ∧ True) ∧ (true = true) ∧ ((True) ∧ ((True)) ∧ (True) ∧ (True) ∧ (NIs (bnot (crvB l)) false → True) ∧ (NIs (bnot (crvB l)) false → (True)) ∧ (NIs (bnot (crvB l)) false → True) ∧ (True) ∧ (True) ∧ (NIs (bite (bnot (crvB l)) true (bnot (inB n (1 : Int) (64 : Int)))) false → True) ∧ (NIs (bite (bnot (crvB l)) true (bnot (inB n (1 : Int) (64 : Int)))) false → NNe n 0) ∧ (NIs (bite (bnot (crvB l)) true (bnot (inB n (1 : Int) (64 : Int)))) false → True) ∧ (True) ∧ True) ∧ ((bite (bite (bnot (crvB l)) true (bnot (inB n (1 : Int) (64 : Int)))) true (bnot (ieq (irem (64 : Int) n) (0 : Int)))) = true → ((true = true) ∧ ((True) ∧ (True) ∧ True) ∧ ((true = true) ∧ ((Cont.pts []) = (Cont.pts (cpsL l n)))) ∧ True)) ∧ ((bite (bite (bnot (crvB l)) true (bnot (inB n (1 : Int) (64 : Int)))) true (bnot (ieq (irem (64 : Int) n) (0 : Int)))) = false → ((true = true) ∧ ((True) ∧ True) ∧ ∃ (I1 : List GV → Prop) (μ1 : List GV → Nat), (((true = true) ∧ ((((0 : Int) : Int) = (0 : Int)) ∧ ((Cont.pts l) = (Cont.pts l)) ∧ (((crvB l) : Bool) = (crvB l)) ∧ (((bnot (crvB l)) : Bool) = (bnot (crvB l))) ∧ (((bnot (crvB l)) : Bool) = (bnot (crvB l))) ∧ (((bite (bnot (crvB l)) true (bnot (inB n (1 : Int) (64 : Int)))) : Bool) = (bite (bnot (crvB l)) true (bnot (inB n (1 : Int) (64 : Int))))) ∧ (((bite (bnot (crvB l)) true (bnot (inB n (1 : Int) (64 : Int)))) : Bool) = (bite (bnot (crvB l)) true (bnot (inB n (1 : Int) (64 : Int))))) ∧ (((bite (bite (bnot (crvB l)) true (bnot (inB n (1 : Int) (64 : Int)))) true (bnot (ieq (irem (64 : Int) n) (0 : Int)))) : Bool) = (bite (bite (bnot (crvB l)) true (bnot (inB n (1 : Int) (64 : Int)))) true (bnot (ieq (irem (64 : Int) n) (0 : Int))))) ∧ (true = true) ∧ (true = true) ∧ ((Cont.pts l) = (Cont.pts l)) ∧ ((n : Int) = n) ∧ True) ∧ (((true = true) ∧ ((Cont.pts []) = (Cont.pts []))) ∧ ((true = true) ∧ ((Cont.pts []) = (Cont.pts []))) ∧ True)) ∧ (([GK.int, GK.pts] : List GK) = ([GK.int, GK.pts] : List GK)) ∧ I1 [GV.int (0 : Int), GV.pts []]) ∧ (∀ i1_0 : Int, ∀ l1_1 : List Pt, I1 [GV.int i1_0, GV.pts l1_1] → ((true = true) ∧ ((True) ∧ (True) ∧ (True) ∧ True) ∧ ((ile i1_0 n) = true → ((true = true) ∧ ((True) ∧ (True) ∧ (True) ∧ (True) ∧ (NNe n 0) ∧ (True) ∧ ((crvB l = true ∧ 0 ≤ (imul i1_0 (iquo (64 : Int) n)) ∧ (imul i1_0 (iquo (64 : Int) n)) ≤ 64)) ∧ (True) ∧ True) ∧ (NLe (ilen l1_1) 1000000000 ∧ NLe (ilen [((cvN (ilen l) (imul i1_0 (iquo (64 : Int) n)) (getx l)), (cvN (ilen l) (imul i1_0 (iquo (64 : Int) n)) (gety l)))]) 1000000000) ∧ (True) ∧ (true = true) ∧ ((True) ∧ (True) ∧ (True) ∧ True) ∧ ((true = true) ∧ ((((iadd i1_0 (1 : Int)) : Int) = (iadd i1_0 (1 : Int))) ∧ ((Cont.pts l) = (Cont.pts l)) ∧ (((crvB l) : Bool) = (crvB l)) ∧ (((bnot (crvB l)) : Bool) = (bnot (crvB l))) ∧ (((bnot (crvB l)) : Bool) = (bnot (crvB l))) ∧ (((bite (bnot (crvB l)) true (bnot (inB n (1 : Int) (64 : Int)))) : Bool) = (bite (bnot (crvB l)) true (bnot (inB n (1 : Int) (64 : Int))))) ∧ (((bite (bnot (crvB l)) true (bnot (inB n (1 : Int) (64 : Int)))) : Bool) = (bite (bnot (crvB l)) true (bnot (inB n (1 : Int) (64 : Int))))) ∧ (((bite (bite (bnot (crvB l)) true (bnot (inB n (1 : Int) (64 : Int)))) true (bnot (ieq (irem (64 : Int) n) (0 : Int)))) : Bool) = (bite (bite (bnot (crvB l)) true (bnot (inB n (1 : Int) (64 : Int)))) true (bnot (ieq (irem (64 : Int) n) (0 : Int))))) ∧ (true = true) ∧ (true = true) ∧ ((Cont.pts l) = (Cont.pts l)) ∧ ((n : Int) = n) ∧ True) ∧ (((true = true) ∧ ((Cont.pts (iapp l1_1 [((cvN (ilen l) (imul i1_0 (iquo (64 : Int) n)) (getx l)), (cvN (ilen l) (imul i1_0 (iquo (64 : Int) n)) (gety l)))])) = (Cont.pts (iapp l1_1 [((cvN (ilen l) (imul i1_0 (iquo (64 : Int) n)) (getx l)), (cvN (ilen l) (imul i1_0 (iquo (64 : Int) n)) (gety l)))])))) ∧ ((true = true) ∧ ((Cont.pts []) = (Cont.pts []))) ∧ True)) ∧ ((([GK.int, GK.pts] : List GK) = ([GK.int, GK.pts] : List GK)) ∧ I1 [GV.int (iadd i1_0 (1 : Int)), GV.pts (iapp l1_1 [((cvN (ilen l) (imul i1_0 (iquo (64 : Int) n)) (getx l)), (cvN (ilen l) (imul i1_0 (iquo (64 : Int) n)) (gety l)))])] ∧ μ1 [GV.int (iadd i1_0 (1 : Int)), GV.pts (iapp l1_1 [((cvN (ilen l) (imul i1_0 (iquo (64 : Int) n)) (getx l)), (cvN (ilen l) (imul i1_0 (iquo (64 : Int) n)) (gety l)))])] < μ1 [GV.int i1_0, GV.pts l1_1]))) ∧ ((ile i1_0 n) = false → ((true = true) ∧ ((True) ∧ (True) ∧ True) ∧ ((true = true) ∧ ((Cont.pts l1_1) = (Cont.pts (cpsL l n)))) ∧ True))))))) = ev sig_spec_CurvePoints xs_spec_CurvePoints Try.f30.ntmps (fun b => if b == 0 then [.v 6, .b 5] else []) (codeOf Try.f30) 0 (initS [.s (.view (.pts l)), .s (.int n)]) (retK Try.f30.results.toList [.nrow 25 (.pts (cpsL l n))]) := by kernel_rfl
set_option maxHeartbeats 400000 in
theorem F_spec_CurvePoints : FunOK 30 g_spec_CurvePoints := by
  refine fun_F (by kernel_rfl) Try.func30 rfl (by kernel_rfl) sig_spec_CurvePoints_ok xs_spec_CurvePoints_ok ?_
  intro avs sg h hn hl
  unfold g_spec_CurvePoints at h
  split at h
  · rename_i l n
    injection h with h; subst h
    refine ⟨by kernel_rfl, fun b => if b == 0 then [.v 6, .b 5] else [], Eq.mp (V_spec_CurvePoints l n) ?_⟩
    simp only [true_and, and_true, implies_true, and_self, forall_const, true_implies, lenA, lenL, SV.lenOK, Cont.lenOK] at hn hl ⊢
    have h0 := ilen_0 l
    simp only [ilt_t, ilt_f, ile_t, ile_f, ieq_t, ieq_f, bnot_e, band_e, bite_and, bite_or, NLt_e, NLe_e, NNe_e, NIs_e, imax_e, imin_e, irem_e, Bool.not_eq_true', Bool.not_eq_false', Bool.and_eq_true, Bool.or_eq_true, Bool.or_eq_false_iff, Bool.and_eq_false_iff, Cont.pts.injEq, Cont.ints.injEq, Cont.bools.injEq, Cont.ptss.injEq, Cont.intss.injEq, Cont.boolss.injEq, true_and, and_true, implies_true]
    refine ⟨fun hh => by have := inB_true hh.2; omega, fun h => (cps_no (l := l) (n := n) (by rcases h with (h | h) | h <;> simp [h])).symm, fun h => ?_⟩
    obtain ⟨⟨hc, hn⟩, hd⟩ := h
    have hn' := inB_true hn
    obtain ⟨d0, d1, d2, d3⟩ := div64 hn'.1 hn'.2 hd
    rw [cps_yes hc hn hd, d3]
    generalize (64 : Int) / n = d at d0 d1 d2 ⊢
    refine ⟨fun | [.int k, .pts o] => 0 ≤ k ∧ k ≤ n + 1 ∧ o = cpsK l d k | _ => False, fun | .int k :: _ => (n + 1 - k).toNat | _ => 0, ⟨by omega, by omega, rfl⟩, ?_⟩
    rintro k o ⟨k0, k1, rfl⟩
    refine ⟨fun ht => ?_, fun ht => ?_⟩
    · have hkd : 0 ≤ k * d := Int.mul_nonneg k0 (by omega)
      have hkd2 : k * d ≤ 64 := by
        have := Int.mul_le_mul_of_nonneg_right ht (show 0 ≤ d by omega)
        omega
      have ex : (cvN (ilen l) (k * d) (getx l), cvN (ilen l) (k * d) (gety l)) = cpsP l d k := rfl
      rw [imul_e (by omega) (by omega), ex, cpsK_len k0, iadd_e (by omega) (by omega)]
      refine ⟨⟨by omega, hc, by omega, by omega⟩, ⟨by omega, by rw [ilen_one]; omega⟩, ⟨by omega, by omega, cpsK_s k0⟩, by show (n + 1 - (k + 1)).toNat < (n + 1 - k).toNat; omega⟩
    · have : k = n + 1 := by omega
      rw [this]
  · cases h
def eqPt (p1 p2 q1 q2 : Int) : Bool := decide (p1 = q1) && decide (p2 = q2)
theorem eqPt_same (p q : Int) : eqPt p q p q = true := by simp [eqPt]
def eqL (l m : List Pt) : Bool := decide (ilen l = ilen m) && allN (ilen l) fun j => eqPt (getx l j) (gety l j) (getx m j) (gety m j)
theorem eqL_same (l : List Pt) : eqL l l = true := by
  unfold eqL
  rw [allN_mk fun j _ _ => eqPt_same _ _]
  simp
def g_laws_samePoints : List AV → Option Sg
  | [.s (.view (.pts l)), .s (.view (.pts m))] => some ⟨True, [.s (.bool (eqL l m))]⟩
  | _ => none
def sig_laws_samePoints : FuncId → List AV → Option Sg := sigL []
def xs_laws_samePoints : XS := ⟨xsigL [], ysigL []⟩
theorem sig_laws_samePoints_ok : SigOK sig_laws_samePoints := sigL_nil
theorem xs_laws_samePoints_ok : XSigOK xs_laws_samePoints := ⟨xsigL_nil, ysigL_nil⟩
theorem V_laws_samePoints (l : List Pt) (m : List Pt) : ((true = true) ∧ ((True) ∧ True) ∧ (true = true) ∧ ((True) ∧ (True) ∧ (True) ∧ (True) ∧ (True) ∧ True) ∧ ((bnot (ieq (ilen l) (ilen m))) = true → ((true = true) ∧ ((True) ∧ True) ∧ ((false : Bool) = (eqL l m)) ∧ True)) ∧ ((bnot (ieq (ilen l) (ilen m))) = false → ((true = true) ∧ ((True) ∧ True) ∧ ∃ (I1 : List GV → Prop) (μ1 : List GV → Nat), (((true = true) ∧ (((false : Bool) = false) ∧ (((0 : Int) : Int) = (0 : Int)) ∧ ((Cont.pts l) = (Cont.pts l)) ∧ (((ilen l) : Int) = (ilen l)) ∧ ((Cont.pts m) = (Cont.pts m)) ∧ (((ilen m) : Int) = (ilen m)) ∧ (((bnot (ieq (ilen l) (ilen m))) : Bool) = (bnot (ieq (ilen l) (ilen m)))) ∧ ((Cont.pts l) = (Cont.pts l)) ∧ ((Cont.pts m) = (Cont.pts m)) ∧ True) ∧ (True)) ∧ (([GK.int, GK.bool] : List GK) = ([GK.int, GK.bool] : List GK)) ∧ I1 [GV.int (0 : Int), GV.bool false]) ∧ (∀ i1_0 : Int, ∀ b1_1 : Bool, I1 [GV.int i1_0, GV.bool b1_1] → ((true = true) ∧ ((True) ∧ (True) ∧ (True) ∧ (True) ∧ True) ∧ ((ilt i1_0 (ilen l)) = true → ((true = true) ∧ ((True) ∧ (True) ∧ (NLe 0 i1_0 ∧ NLt i1_0 (ilen l)) ∧ (True) ∧ (True) ∧ (True) ∧ (NLe 0 i1_0 ∧ NLt i1_0 (ilen m)) ∧ (True) ∧ (True) ∧ True) ∧ ((bnot (band (ieq (getx l i1_0) (getx m i1_0)) (ieq (gety l i1_0) (gety m i1_0)))) = true → ((true = true) ∧ ((True) ∧ True) ∧ ((false : Bool) = (eqL l m)) ∧ True)) ∧ ((bnot (band (ieq (getx l i1_0) (getx m i1_0)) (ieq (gety l i1_0) (gety m i1_0)))) = false → ((true = true) ∧ ((True) ∧ (True) ∧ (True) ∧ True) ∧ ((true = true) ∧ (((b1_1 : Bool) = b1_1) ∧ (((iadd i1_0 (1 : Int)) : Int) = (iadd i1_0 (1 : Int))) ∧ ((Cont.pts l) = (Cont.pts l)) ∧ (((ilen l) : Int) = (ilen l)) ∧ ((Cont.pts m) = (Cont.pts m)) ∧ (((ilen m) : Int) = (ilen m)) ∧ (((bnot (ieq (ilen l) (ilen m))) : Bool) = (bnot (ieq (ilen l) (ilen m)))) ∧ ((Cont.pts l) = (Cont.pts l)) ∧ ((Cont.pts m) = (Cont.pts m)) ∧ True) ∧ (True)) ∧ ((([GK.int, GK.bool] : List GK) = ([GK.int, GK.bool] : List GK)) ∧ I1 [GV.int (iadd i1_0 (1 : Int)), GV.bool b1_1] ∧ μ1 [GV.int (iadd i1_0 (1 : Int)), GV.bool b1_1] < μ1 [GV.int i1_0, GV.bool b1_1]))))) ∧ ((ilt i1_0 (ilen l)) = false → ((true = true) ∧ ((True) ∧ True) ∧ ((true : Bool) = (eqL l m)) ∧ True))))))) = ev sig_laws_samePoints xs_laws_samePoints Try.f39.ntmps (fun b => if b == 0 then [.v 5, .v 4] else []) (codeOf Try.f39) 0 (initS [.s (.view (.pts l)), .s (.view (.pts m))]) (retK Try.f39.results.toList [.s (.bool (eqL l m))]) := by kernel_rfl
set_option maxHeartbeats 400000 in
theorem F_laws_samePoints : FunOK 39 g_laws_samePoints := by
  refine fun_F (by kernel_rfl) Try.func39 rfl (by kernel_rfl) sig_laws_samePoints_ok xs_laws_samePoints_ok ?_
  intro avs sg h hn hl
  unfold g_laws_samePoints at h
  split at h
  · rename_i l m
    injection h with h; subst h
    refine ⟨by kernel_rfl, fun b => if b == 0 then [.v 5, .v 4] else [], Eq.mp (V_laws_samePoints l m) ?_⟩
    simp only [true_and, and_true, implies_true, and_self, forall_const, true_implies, lenA, lenL, SV.lenOK, Cont.lenOK] at hn hl ⊢
    have h0 := ilen_0 l
    simp only [ilt_t, ilt_f, ile_t, ile_f, ieq_t, ieq_f, bnot_e, band_e, bite_and, bite_or, NLt_e, NLe_e, NNe_e, NIs_e, imax_e, imin_e, irem_e, Bool.not_eq_true', Bool.not_eq_false', Bool.and_eq_true, Bool.or_eq_true, Bool.or_eq_false_iff, Bool.and_eq_false_iff, Cont.pts.injEq, Cont.ints.injEq, Cont.bools.injEq, Cont.ptss.injEq, Cont.intss.injEq, Cont.boolss.injEq, true_and, and_true, implies_true]
    unfold eqL
    refine ⟨fun h => by simp [h], fun h => ?_⟩
    refine ⟨fun | .int k :: _ => 0 ≤ k ∧ k ≤ ilen l ∧ ∀ j, 0 ≤ j → j < k → eqPt (getx l j) (gety l j) (getx m j) (gety m j) = true | _ => False, fun | .int k :: _ => (ilen l - k).toNat | _ => 0, ?_, ?_⟩
    · exact ⟨Int.le_refl 0, h0, fun j h0 h1 => absurd h1 (by omega)⟩
    · rintro k _ ⟨hk0, hk1, hk⟩
      simp only [ilt_t, ilt_f, ile_t, ile_f, ieq_t, ieq_f, bnot_e, band_e, bite_and, bite_or, NLt_e, NLe_e, NNe_e, NIs_e, imax_e, imin_e, irem_e, Bool.not_eq_true', Bool.not_eq_false', Bool.and_eq_true, Bool.or_eq_true, Bool.or_eq_false_iff, Bool.and_eq_false_iff, Cont.pts.injEq, Cont.ints.injEq, Cont.bools.injEq, Cont.ptss.injEq, Cont.intss.injEq, Cont.boolss.injEq, true_and, and_true, implies_true]
      refine ⟨fun hc => ⟨⟨⟨hk0, hc⟩, hk0, by omega⟩, fun hv => ?_, fun hv => ?_⟩, fun hc => ?_⟩
      · rw [allN_no k hk0 hc (by unfold eqPt; rcases hv with h | h <;> simp [h])]; simp
      · rw [iadd_1 hk0 hc hl.1]
        exact ⟨⟨by omega, by omega, allN_up hk (by unfold eqPt; simp [hv])⟩, by omega⟩
      · rw [allN_mk fun j h0 h1 => hk j h0 (by omega)]; simp [h]
  · cases h
def g_laws_abs : List AV → Option Sg
  | [.s (.int n)] => some ⟨True, [.s (.int (max n (ineg n)))]⟩
  | _ => none
def sig_laws_abs : FuncId → List AV → Option Sg := sigL []
def xs_laws_abs : XS := ⟨xsigL [], ysigL []⟩
theorem sig_laws_abs_ok : SigOK sig_laws_abs := sigL_nil
theorem xs_laws_abs_ok : XSigOK xs_laws_abs := ⟨xsigL_nil, ysigL_nil⟩
theorem V_laws_abs (n : Int) : ((true = true) ∧ ((True) ∧ True) ∧ (true = true) ∧ ((True) ∧ (True) ∧ (True) ∧ (True) ∧ (True) ∧ True) ∧ (((imax n (ineg n)) : Int) = (max n (ineg n))) ∧ True) = ev sig_laws_abs xs_laws_abs Try.f35.ntmps (fun b => []) (codeOf Try.f35) 0 (initS [.s (.int n)]) (retK Try.f35.results.toList [.s (.int (max n (ineg n)))]) := by kernel_rfl
set_option maxHeartbeats 400000 in
theorem F_laws_abs : FunOK 35 g_laws_abs := by
  refine fun_F (by kernel_rfl) Try.func35 rfl (by kernel_rfl) sig_laws_abs_ok xs_laws_abs_ok ?_
  intro avs sg h hn hl
  unfold g_laws_abs at h
  split at h
  · rename_i n
    injection h with h; subst h
    refine ⟨by kernel_rfl, fun b => [], Eq.mp (V_laws_abs n) ?_⟩
    simp only [true_and, and_true, implies_true, and_self, forall_const, true_implies, lenA, lenL, SV.lenOK, Cont.lenOK] at hn hl ⊢
    simp only [ilt_t, ilt_f, ile_t, ile_f, ieq_t, ieq_f, bnot_e, band_e, bite_and, bite_or, NLt_e, NLe_e, NNe_e, NIs_e, imax_e, imin_e, irem_e, Bool.not_eq_true', Bool.not_eq_false', Bool.and_eq_true, Bool.or_eq_true, Bool.or_eq_false_iff, Bool.and_eq_false_iff, Cont.pts.injEq, Cont.ints.injEq, Cont.bools.injEq, Cont.ptss.injEq, Cont.intss.injEq, Cont.boolss.injEq, true_and, and_true, implies_true]
  · cases h
theorem bxor_self (a : Bool) : bxor a a = false := by cases a <;> simp [bxor]
theorem cpsL_len (l : List Pt) (n : Int) : ilen (cpsL l n) ≤ 65 ∧ (cpsL l n ≠ [] → cpsB l n = true ∧ ilen (cpsL l n) = n + 1) := by
  unfold cpsL
  split
  · rename_i h
    have h1 : 1 ≤ n ∧ n ≤ 64 := by
      unfold cpsB at h
      simp only [Bool.and_eq_true] at h
      exact inB_true h.1.2
    rw [cpsK_len (by omega)]
    exact ⟨by omega, fun _ => ⟨h, rfl⟩⟩
  · exact ⟨by rw [ilen_nil]; omega, fun h => absurd rfl h⟩
theorem half64 {m : Int} (h1 : 1 ≤ m) (h2 : m < 64) (h3 : (64 : Int).tmod m = 0) : (64 : Int).tmod (2 * m) = 0 ∧ (64 : Int) / m = 2 * ((64 : Int) / (2 * m)) := by
  have key : ∀ a : Nat, a < 64 → 64 % a = 0 → 1 ≤ a → 64 % (2 * a) = 0 ∧ 64 / a = 2 * (64 / (2 * a)) := by decide
  obtain ⟨a, rfl⟩ := Int.eq_ofNat_of_zero_le (show 0 ≤ m by omega)
  have e1 : (64 : Int).tmod (a : Int) = ((64 % a : Nat) : Int) := by rw [Int.tmod_eq_emod_of_nonneg (by omega)]; rfl
  have e2 : (64 : Int).tmod (2 * (a : Int)) = ((64 % (2 * a) : Nat) : Int) := by rw [Int.tmod_eq_emod_of_nonneg (by omega)]; rfl
  rw [e1] at h3
  obtain ⟨k1, k2⟩ := key a (by omega) (by omega) (by omega)
  rw [e2, k1]
  refine ⟨rfl, ?_⟩
  have := congrArg (fun x : Nat => (x : Int)) k2
  exact this
theorem cpsB_parts {l : List Pt} {n : Int} (h : cpsB l n = true) : crvB l = true ∧ (1 ≤ n ∧ n ≤ 64) ∧ (64 : Int).tmod n = 0 := by
  unfold cpsB at h
  simp only [Bool.and_eq_true, decide_eq_true_eq] at h
  exact ⟨h.1.1, inB_true h.1.2, h.2⟩
theorem cpsL_e {l : List Pt} {n : Int} (h : cpsB l n = true) : cpsL l n = cpsK l ((64 : Int) / n) (n + 1) := by unfold cpsL; rw [if_pos h]
theorem cps_fine {l : List Pt} {m : Int} (h : cpsB l m = true) : (m = 64 ∧ cpsL l (2 * m) = []) ∨ (cpsB l (2 * m) = true ∧ ∀ k, 0 ≤ k → k < m + 1 → getx (cpsL l (2 * m)) (2 * k) = getx (cpsL l m) k ∧ gety (cpsL l (2 * m)) (2 * k) = gety (cpsL l m) k) := by
  obtain ⟨h1, h2, h3⟩ := cpsB_parts h
  by_cases hm : m = 64
  · subst hm
    refine .inl ⟨rfl, ?_⟩
    unfold cpsL cpsB inB; simp
  · obtain ⟨k1, k2⟩ := half64 h2.1 (by omega) h3
    have hB : cpsB l (2 * m) = true := by
      unfold cpsB; rw [h1]; simp only [Bool.true_and, Bool.and_eq_true, decide_eq_true_eq]
      refine ⟨?_, k1⟩
      have : 2 * m ≤ 64 := by
        obtain ⟨d0, d1, d2, d3⟩ := div64 h2.1 h2.2 h3
        have h5 : 0 ≤ (64 : Int) / (2 * m) := Int.ediv_nonneg (by omega) (by omega)
        have h4 : 2 ≤ (64 : Int) / m := by omega
        have := Int.mul_le_mul_of_nonneg_left h4 (show 0 ≤ m by omega)
        omega
      unfold inB; simp; omega
    refine .inr ⟨hB, fun k k0 k1 => ?_⟩
    rw [cpsL_e h, cpsL_e hB]
    obtain ⟨a1, a2⟩ := cpsK_get (l := l) (d := (64 : Int) / (2 * m)) (n := 2 * m + 1) (k := 2 * k) (by omega) (by omega)
    obtain ⟨b1, b2⟩ := cpsK_get (l := l) (d := (64 : Int) / m) (n := m + 1) (k := k) (by omega) (by omega)
    rw [a1, a2, b1, b2]
    unfold cpsP
    rw [k2, show k * (2 * ((64 : Int) / (2 * m))) = 2 * k * ((64 : Int) / (2 * m)) by rw [Int.mul_left_comm, ← Int.mul_assoc]]
    exact ⟨rfl, rfl⟩
theorem cln_b {a1 a2 b1 b2 : Int} (h : vB a1 a2 = true ∧ vB b1 b2 = true) : cpsB [(a1, a2), (b1, b2)] 16 = true := by
  unfold cpsB crvB
  rw [allB_2, h.1, h.2]
  simp [inB, ilen]
theorem cln_get {a1 a2 b1 b2 k : Int} (h : vB a1 a2 = true ∧ vB b1 b2 = true) (h0 : 0 ≤ k) (h1 : k < 17) :
    getx (cpsL [(a1, a2), (b1, b2)] 16) k = a1 + (k * (b1 - a1) + 8) / 16 ∧ gety (cpsL [(a1, a2), (b1, b2)] 16) k = a2 + (k * (b2 - a2) + 8) / 16 := by
  rw [cpsL_e (cln_b h)]
  obtain ⟨e1, e2⟩ := cpsK_get (l := [(a1, a2), (b1, b2)]) (d := (64 : Int) / 16) (n := 16 + 1) h0 (by omega)
  rw [e1, e2]
  unfold cpsP
  have hl : ilen [(a1, a2), (b1, b2)] = 2 := by simp [ilen]
  rw [hl, show k * ((64 : Int) / 16) = 4 * k by rw [Int.mul_comm]; rfl]
  exact ⟨cvN_line _ (by simp [getx]) (by simp [getx]), cvN_line _ (by simp [gety]) (by simp [gety])⟩
theorem lin_get {a1 a2 b1 b2 k : Int} (h : vB a1 a2 = true ∧ vB b1 b2 = true) (h0 : 0 ≤ k) (h1 : k < 17) :
    getx (lpL a1 a2 b1 b2 16) k = a1 + (k * (b1 - a1)) / 16 ∧ gety (lpL a1 a2 b1 b2 16) k = a2 + (k * (b2 - a2)) / 16 := by
  have : lpB a1 a2 b1 b2 16 = true := by unfold lpB; rw [h.1, h.2]; rfl
  unfold lpL
  rw [if_pos this]
  exact lpK_get h0 h1
theorem cln_len {a1 a2 b1 b2 : Int} (h : vB a1 a2 = true ∧ vB b1 b2 = true) : ilen (cpsL [(a1, a2), (b1, b2)] 16) = 17 ∧ ilen (lpL a1 a2 b1 b2 16) = 17 := by
  have : lpB a1 a2 b1 b2 16 = true := by unfold lpB; rw [h.1, h.2]; rfl
  refine ⟨by rw [cpsL_e (cln_b h)]; exact cpsK_len (by omega), ?_⟩
  unfold lpL
  rw [if_pos this]
  exact lpK_len (by omega)
def g_laws_FnCurveLine : List AV → Option Sg
  | [.s (.rdr n)] => some ⟨True, [.s (.bool (true))]⟩
  | _ => none
def sig_laws_FnCurveLine : FuncId → List AV → Option Sg := sigL [(37, g_spec_PointValid), (23, g_laws_alive), (31, g_impl_CurvePoints), (38, g_impl_LinePoints), (30, g_spec_CurvePoints), (39, g_laws_samePoints), (35, g_laws_abs)]
def xs_laws_FnCurveLine : XS := ⟨xsigL [], ysigL [(36, g_spec_DrawMidpoint)]⟩
theorem sig_laws_FnCurveLine_ok : SigOK sig_laws_FnCurveLine := sigL_cons F_spec_PointValid (sigL_cons F_laws_alive (sigL_cons F_impl_CurvePoints (sigL_cons F_impl_LinePoints (sigL_cons F_spec_CurvePoints (sigL_cons F_laws_samePoints (sigL_cons F_laws_abs sigL_nil))))))
theorem xs_laws_FnCurveLine_ok : XSigOK xs_laws_FnCurveLine := ⟨xsigL_nil, ysigL_cons F_spec_DrawMidpoint ysigL_nil⟩
theorem V_laws_FnCurveLine (n : Int) : ((true = true) ∧ ((True) ∧ True) ∧ (true = true) ∧ ((True) ∧ (True) ∧ (True) ∧ True) ∧ ((ilt (1048576 : Int) n) = true → ((true = true) ∧ ((True) ∧ True) ∧ ((true : Bool) = (true)) ∧ True)) ∧ ((ilt (1048576 : Int) n) = false → ((true = true) ∧ ((True) ∧ True) ∧ (true = true) ∧ ((n ≤ 1048576)) ∧ (∀ a_28 : Int, ∀ b_29 : Int, ∀ c_30 : Int, ∀ d_31 : Int, ((True) → ((true = true) ∧ ((true = true) ∧ ((true = true) ∧ ((True) ∧ (True) ∧ (True) ∧ (True) ∧ (true = true) ∧ ((True) ∧ ((True)) ∧ (True) ∧ (True) ∧ (NIs (bnot (vB (a_28) (b_29))) false → True) ∧ (NIs (bnot (vB (a_28) (b_29))) false → (True)) ∧ (NIs (bnot (vB (a_28) (b_29))) false → True) ∧ (True) ∧ True) ∧ ((bite (bnot (vB (a_28) (b_29))) true (bnot (vB (c_30) (d_31)))) = true → ((true = true) ∧ (((True)) ∧ (True) ∧ True) ∧ (((true) : Bool) = (true)) ∧ True)) ∧ ((bite (bnot (vB (a_28) (b_29))) true (bnot (vB (c_30) (d_31)))) = false → ((true = true) ∧ ((True) ∧ (True) ∧ (True) ∧ ((True)) ∧ (True) ∧ True) ∧ (true = true) ∧ ((True) ∧ (True) ∧ ((True)) ∧ (True) ∧ True) ∧ (true = true) ∧ ((True) ∧ (True) ∧ (True) ∧ (True) ∧ ((True)) ∧ ((True)) ∧ (True) ∧ (True) ∧ (NIs (bnot (eqL (cpsL [((a_28), (b_29)), ((c_30), (d_31))] (16 : Int)) (cpsL [((a_28), (b_29)), ((c_30), (d_31))] (16 : Int)))) false → True) ∧ (NIs (bnot (eqL (cpsL [((a_28), (b_29)), ((c_30), (d_31))] (16 : Int)) (cpsL [((a_28), (b_29)), ((c_30), (d_31))] (16 : Int)))) false → True) ∧ (NIs (bnot (eqL (cpsL [((a_28), (b_29)), ((c_30), (d_31))] (16 : Int)) (cpsL [((a_28), (b_29)), ((c_30), (d_31))] (16 : Int)))) false → True) ∧ (NIs (bnot (eqL (cpsL [((a_28), (b_29)), ((c_30), (d_31))] (16 : Int)) (cpsL [((a_28), (b_29)), ((c_30), (d_31))] (16 : Int)))) false → True) ∧ (NIs (bnot (eqL (cpsL [((a_28), (b_29)), ((c_30), (d_31))] (16 : Int)) (cpsL [((a_28), (b_29)), ((c_30), (d_31))] (16 : Int)))) false → True) ∧ (True) ∧ True) ∧ ((bite (bnot (eqL (cpsL [((a_28), (b_29)), ((c_30), (d_31))] (16 : Int)) (cpsL [((a_28), (b_29)), ((c_30), (d_31))] (16 : Int)))) true (bnot (ieq (ilen (cpsL [((a_28), (b_29)), ((c_30), (d_31))] (16 : Int))) (ilen (lpL (a_28) (b_29) (c_30) (d_31) (16 : Int)))))) = true → ((true = true) ∧ ((True) ∧ True) ∧ ((false : Bool) = (true)) ∧ True)) ∧ ((bite (bnot (eqL (cpsL [((a_28), (b_29)), ((c_30), (d_31))] (16 : Int)) (cpsL [((a_28), (b_29)), ((c_30), (d_31))] (16 : Int)))) true (bnot (ieq (ilen (cpsL [((a_28), (b_29)), ((c_30), (d_31))] (16 : Int))) (ilen (lpL (a_28) (b_29) (c_30) (d_31) (16 : Int)))))) = false → ((true = true) ∧ ((True) ∧ True) ∧ ∃ (I1 : List GV → Prop) (μ1 : List GV → Nat), (((true = true) ∧ (((false : Bool) = false) ∧ (((0 : Int) : Int) = (0 : Int)) ∧ (true = true) ∧ ((((a_28) : Int) = (a_28)) ∧ (((b_29) : Int) = (b_29)) ∧ True) ∧ ((((c_30) : Int) = (c_30)) ∧ (((d_31) : Int) = (d_31)) ∧ True) ∧ (true = true) ∧ (true = true) ∧ (((eqL (cpsL [((a_28), (b_29)), ((c_30), (d_31))] (16 : Int)) (cpsL [((a_28), (b_29)), ((c_30), (d_31))] (16 : Int))) : Bool) = (eqL (cpsL [((a_28), (b_29)), ((c_30), (d_31))] (16 : Int)) (cpsL [((a_28), (b_29)), ((c_30), (d_31))] (16 : Int)))) ∧ (((bnot (eqL (cpsL [((a_28), (b_29)), ((c_30), (d_31))] (16 : Int)) (cpsL [((a_28), (b_29)), ((c_30), (d_31))] (16 : Int)))) : Bool) = (bnot (eqL (cpsL [((a_28), (b_29)), ((c_30), (d_31))] (16 : Int)) (cpsL [((a_28), (b_29)), ((c_30), (d_31))] (16 : Int))))) ∧ (((bnot (eqL (cpsL [((a_28), (b_29)), ((c_30), (d_31))] (16 : Int)) (cpsL [((a_28), (b_29)), ((c_30), (d_31))] (16 : Int)))) : Bool) = (bnot (eqL (cpsL [((a_28), (b_29)), ((c_30), (d_31))] (16 : Int)) (cpsL [((a_28), (b_29)), ((c_30), (d_31))] (16 : Int))))) ∧ (((bite (bnot (eqL (cpsL [((a_28), (b_29)), ((c_30), (d_31))] (16 : Int)) (cpsL [((a_28), (b_29)), ((c_30), (d_31))] (16 : Int)))) true (bnot (ieq (ilen (cpsL [((a_28), (b_29)), ((c_30), (d_31))] (16 : Int))) (ilen (lpL (a_28) (b_29) (c_30) (d_31) (16 : Int)))))) : Bool) = (bite (bnot (eqL (cpsL [((a_28), (b_29)), ((c_30), (d_31))] (16 : Int)) (cpsL [((a_28), (b_29)), ((c_30), (d_31))] (16 : Int)))) true (bnot (ieq (ilen (cpsL [((a_28), (b_29)), ((c_30), (d_31))] (16 : Int))) (ilen (lpL (a_28) (b_29) (c_30) (d_31) (16 : Int))))))) ∧ ((((a_28) : Int) = (a_28)) ∧ (((b_29) : Int) = (b_29)) ∧ True) ∧ ((((c_30) : Int) = (c_30)) ∧ (((d_31) : Int) = (d_31)) ∧ True) ∧ (true = true) ∧ (true = true) ∧ ((((a_28) : Int) = (a_28)) ∧ (((b_29) : Int) = (b_29)) ∧ True) ∧ ((((c_30) : Int) = (c_30)) ∧ (((d_31) : Int) = (d_31)) ∧ True) ∧ (true = true) ∧ (true = true) ∧ (true = true) ∧ ((((a_28) : Int) = (a_28)) ∧ (((b_29) : Int) = (b_29)) ∧ True) ∧ (((vB (a_28) (b_29)) : Bool) = (vB (a_28) (b_29))) ∧ (((bnot (vB (a_28) (b_29))) : Bool) = (bnot (vB (a_28) (b_29)))) ∧ (((bnot (vB (a_28) (b_29))) : Bool) = (bnot (vB (a_28) (b_29)))) ∧ (((bite (bnot (vB (a_28) (b_29))) true (bnot (vB (c_30) (d_31)))) : Bool) = (bite (bnot (vB (a_28) (b_29))) true (bnot (vB (c_30) (d_31))))) ∧ (true = true) ∧ (true = true) ∧ ((((c_30) : Int) = (c_30)) ∧ (((d_31) : Int) = (d_31)) ∧ True) ∧ ((((a_28) : Int) = (a_28)) ∧ (((b_29) : Int) = (b_29)) ∧ True) ∧ ((n : Int) = n) ∧ ((n : Int) = n) ∧ ((n : Int) = n) ∧ (((ilt (1048576 : Int) n) : Bool) = (ilt (1048576 : Int) n)) ∧ ((n : Int) = n) ∧ True) ∧ (((true = true) ∧ ((Cont.pts [((a_28), (b_29)), ((c_30), (d_31))]) = (Cont.pts [((a_28), (b_29)), ((c_30), (d_31))]))) ∧ ((true = true) ∧ ((Cont.pts (cpsL [((a_28), (b_29)), ((c_30), (d_31))] (16 : Int))) = (Cont.pts (cpsL [((a_28), (b_29)), ((c_30), (d_31))] (16 : Int))))) ∧ ((true = true) ∧ ((Cont.pts (lpL (a_28) (b_29) (c_30) (d_31) (16 : Int))) = (Cont.pts (lpL (a_28) (b_29) (c_30) (d_31) (16 : Int))))) ∧ ((true = true) ∧ ((Cont.pts [((a_28), (b_29)), ((c_30), (d_31))]) = (Cont.pts [((a_28), (b_29)), ((c_30), (d_31))]))) ∧ ((true = true) ∧ ((Cont.pts (cpsL [((a_28), (b_29)), ((c_30), (d_31))] (16 : Int))) = (Cont.pts (cpsL [((a_28), (b_29)), ((c_30), (d_31))] (16 : Int))))) ∧ ((((c_30) : Int) = (c_30)) ∧ (((d_31) : Int) = (d_31)) ∧ True) ∧ ((((a_28) : Int) = (a_28)) ∧ (((b_29) : Int) = (b_29)) ∧ True) ∧ True)) ∧ (([GK.int, GK.bool] : List GK) = ([GK.int, GK.bool] : List GK)) ∧ I1 [GV.int (0 : Int), GV.bool false]) ∧ (∀ i1_0 : Int, ∀ b1_1 : Bool, I1 [GV.int i1_0, GV.bool b1_1] → ((true = true) ∧ ((True) ∧ (True) ∧ (True) ∧ (True) ∧ True) ∧ ((ilt i1_0 (ilen (cpsL [((a_28), (b_29)), ((c_30), (d_31))] (16 : Int)))) = true → ((true = true) ∧ ((True) ∧ (True) ∧ (NLe 0 i1_0 ∧ NLt i1_0 (ilen (cpsL [((a_28), (b_29)), ((c_30), (d_31))] (16 : Int)))) ∧ (NLt i1_0 (ilen (cpsL [((a_28), (b_29)), ((c_30), (d_31))] (16 : Int)))) ∧ (NLt i1_0 (ilen (cpsL [((a_28), (b_29)), ((c_30), (d_31))] (16 : Int)))) ∧ (True) ∧ (True) ∧ (NLe 0 i1_0 ∧ NLt i1_0 (ilen (lpL (a_28) (b_29) (c_30) (d_31) (16 : Int)))) ∧ (NLt i1_0 (ilen (lpL (a_28) (b_29) (c_30) (d_31) (16 : Int)))) ∧ (NLt i1_0 (ilen (lpL (a_28) (b_29) (c_30) (d_31) (16 : Int)))) ∧ (True) ∧ ((True)) ∧ (True) ∧ (True) ∧ (NIs (ilt (1 : Int) (max (isub (getx (cpsL [((a_28), (b_29)), ((c_30), (d_31))] (16 : Int)) i1_0) (getx (lpL (a_28) (b_29) (c_30) (d_31) (16 : Int)) i1_0)) (ineg (isub (getx (cpsL [((a_28), (b_29)), ((c_30), (d_31))] (16 : Int)) i1_0) (getx (lpL (a_28) (b_29) (c_30) (d_31) (16 : Int)) i1_0))))) false → True) ∧ (NIs (ilt (1 : Int) (max (isub (getx (cpsL [((a_28), (b_29)), ((c_30), (d_31))] (16 : Int)) i1_0) (getx (lpL (a_28) (b_29) (c_30) (d_31) (16 : Int)) i1_0)) (ineg (isub (getx (cpsL [((a_28), (b_29)), ((c_30), (d_31))] (16 : Int)) i1_0) (getx (lpL (a_28) (b_29) (c_30) (d_31) (16 : Int)) i1_0))))) false → True) ∧ (NIs (ilt (1 : Int) (max (isub (getx (cpsL [((a_28), (b_29)), ((c_30), (d_31))] (16 : Int)) i1_0) (getx (lpL (a_28) (b_29) (c_30) (d_31) (16 : Int)) i1_0)) (ineg (isub (getx (cpsL [((a_28), (b_29)), ((c_30), (d_31))] (16 : Int)) i1_0) (getx (lpL (a_28) (b_29) (c_30) (d_31) (16 : Int)) i1_0))))) false → (NLe 0 i1_0 ∧ NLt i1_0 (ilen (cpsL [((a_28), (b_29)), ((c_30), (d_31))] (16 : Int))))) ∧ (NIs (ilt (1 : Int) (max (isub (getx (cpsL [((a_28), (b_29)), ((c_30), (d_31))] (16 : Int)) i1_0) (getx (lpL (a_28) (b_29) (c_30) (d_31) (16 : Int)) i1_0)) (ineg (isub (getx (cpsL [((a_28), (b_29)), ((c_30), (d_31))] (16 : Int)) i1_0) (getx (lpL (a_28) (b_29) (c_30) (d_31) (16 : Int)) i1_0))))) false → NLt i1_0 (ilen (cpsL [((a_28), (b_29)), ((c_30), (d_31))] (16 : Int)))) ∧ (NIs (ilt (1 : Int) (max (isub (getx (cpsL [((a_28), (b_29)), ((c_30), (d_31))] (16 : Int)) i1_0) (getx (lpL (a_28) (b_29) (c_30) (d_31) (16 : Int)) i1_0)) (ineg (isub (getx (cpsL [((a_28), (b_29)), ((c_30), (d_31))] (16 : Int)) i1_0) (getx (lpL (a_28) (b_29) (c_30) (d_31) (16 : Int)) i1_0))))) false → NLt i1_0 (ilen (cpsL [((a_28), (b_29)), ((c_30), (d_31))] (16 : Int)))) ∧ (NIs (ilt (1 : Int) (max (isub (getx (cpsL [((a_28), (b_29)), ((c_30), (d_31))] (16 : Int)) i1_0) (getx (lpL (a_28) (b_29) (c_30) (d_31) (16 : Int)) i1_0)) (ineg (isub (getx (cpsL [((a_28), (b_29)), ((c_30), (d_31))] (16 : Int)) i1_0) (getx (lpL (a_28) (b_29) (c_30) (d_31) (16 : Int)) i1_0))))) false → True) ∧ (NIs (ilt (1 : Int) (max (isub (getx (cpsL [((a_28), (b_29)), ((c_30), (d_31))] (16 : Int)) i1_0) (getx (lpL (a_28) (b_29) (c_30) (d_31) (16 : Int)) i1_0)) (ineg (isub (getx (cpsL [((a_28), (b_29)), ((c_30), (d_31))] (16 : Int)) i1_0) (getx (lpL (a_28) (b_29) (c_30) (d_31) (16 : Int)) i1_0))))) false → True) ∧ (NIs (ilt (1 : Int) (max (isub (getx (cpsL [((a_28), (b_29)), ((c_30), (d_31))] (16 : Int)) i1_0) (getx (lpL (a_28) (b_29) (c_30) (d_31) (16 : Int)) i1_0)) (ineg (isub (getx (cpsL [((a_28), (b_29)), ((c_30), (d_31))] (16 : Int)) i1_0) (getx (lpL (a_28) (b_29) (c_30) (d_31) (16 : Int)) i1_0))))) false → (NLe 0 i1_0 ∧ NLt i1_0 (ilen (lpL (a_28) (b_29) (c_30) (d_31) (16 : Int))))) ∧ (NIs (ilt (1 : Int) (max (isub (getx (cpsL [((a_28), (b_29)), ((c_30), (d_31))] (16 : Int)) i1_0) (getx (lpL (a_28) (b_29) (c_30) (d_31) (16 : Int)) i1_0)) (ineg (isub (getx (cpsL [((a_28), (b_29)), ((c_30), (d_31))] (16 : Int)) i1_0) (getx (lpL (a_28) (b_29) (c_30) (d_31) (16 : Int)) i1_0))))) false → NLt i1_0 (ilen (lpL (a_28) (b_29) (c_30) (d_31) (16 : Int)))) ∧ (NIs (ilt (1 : Int) (max (isub (getx (cpsL [((a_28), (b_29)), ((c_30), (d_31))] (16 : Int)) i1_0) (getx (lpL (a_28) (b_29) (c_30) (d_31) (16 : Int)) i1_0)) (ineg (isub (getx (cpsL [((a_28), (b_29)), ((c_30), (d_31))] (16 : Int)) i1_0) (getx (lpL (a_28) (b_29) (c_30) (d_31) (16 : Int)) i1_0))))) false → NLt i1_0 (ilen (lpL (a_28) (b_29) (c_30) (d_31) (16 : Int)))) ∧ (NIs (ilt (1 : Int) (max (isub (getx (cpsL [((a_28), (b_29)), ((c_30), (d_31))] (16 : Int)) i1_0) (getx (lpL (a_28) (b_29) (c_30) (d_31) (16 : Int)) i1_0)) (ineg (isub (getx (cpsL [((a_28), (b_29)), ((c_30), (d_31))] (16 : Int)) i1_0) (getx (lpL (a_28) (b_29) (c_30) (d_31) (16 : Int)) i1_0))))) false → True) ∧ (NIs (ilt (1 : Int) (max (isub (getx (cpsL [((a_28), (b_29)), ((c_30), (d_31))] (16 : Int)) i1_0) (getx (lpL (a_28) (b_29) (c_30) (d_31) (16 : Int)) i1_0)) (ineg (isub (getx (cpsL [((a_28), (b_29)), ((c_30), (d_31))] (16 : Int)) i1_0) (getx (lpL (a_28) (b_29) (c_30) (d_31) (16 : Int)) i1_0))))) false → (True)) ∧ (NIs (ilt (1 : Int) (max (isub (getx (cpsL [((a_28), (b_29)), ((c_30), (d_31))] (16 : Int)) i1_0) (getx (lpL (a_28) (b_29) (c_30) (d_31) (16 : Int)) i1_0)) (ineg (isub (getx (cpsL [((a_28), (b_29)), ((c_30), (d_31))] (16 : Int)) i1_0) (getx (lpL (a_28) (b_29) (c_30) (d_31) (16 : Int)) i1_0))))) false → True) ∧ (True) ∧ True) ∧ ((bite (ilt (1 : Int) (max (isub (getx (cpsL [((a_28), (b_29)), ((c_30), (d_31))] (16 : Int)) i1_0) (getx (lpL (a_28) (b_29) (c_30) (d_31) (16 : Int)) i1_0)) (ineg (isub (getx (cpsL [((a_28), (b_29)), ((c_30), (d_31))] (16 : Int)) i1_0) (getx (lpL (a_28) (b_29) (c_30) (d_31) (16 : Int)) i1_0))))) true (ilt (1 : Int) (max (isub (gety (cpsL [((a_28), (b_29)), ((c_30), (d_31))] (16 : Int)) i1_0) (gety (lpL (a_28) (b_29) (c_30) (d_31) (16 : Int)) i1_0)) (ineg (isub (gety (cpsL [((a_28), (b_29)), ((c_30), (d_31))] (16 : Int)) i1_0) (gety (lpL (a_28) (b_29) (c_30) (d_31) (16 : Int)) i1_0)))))) = true → ((true = true) ∧ ((True) ∧ True) ∧ ((false : Bool) = (true)) ∧ True)) ∧ ((bite (ilt (1 : Int) (max (isub (getx (cpsL [((a_28), (b_29)), ((c_30), (d_31))] (16 : Int)) i1_0) (getx (lpL (a_28) (b_29) (c_30) (d_31) (16 : Int)) i1_0)) (ineg (isub (getx (cpsL [((a_28), (b_29)), ((c_30), (d_31))] (16 : Int)) i1_0) (getx (lpL (a_28) (b_29) (c_30) (d_31) (16 : Int)) i1_0))))) true (ilt (1 : Int) (max (isub (gety (cpsL [((a_28), (b_29)), ((c_30), (d_31))] (16 : Int)) i1_0) (gety (lpL (a_28) (b_29) (c_30) (d_31) (16 : Int)) i1_0)) (ineg (isub (gety (cpsL [((a_28), (b_29)), ((c_30), (d_31))] (16 : Int)) i1_0) (gety (lpL (a_28) (b_29) (c_30) (d_31) (16 : Int)) i1_0)))))) = false → ((true = true) ∧ ((True) ∧ (True) ∧ (True) ∧ True) ∧ ((true = true) ∧ (((b1_1 : Bool) = b1_1) ∧ (((iadd i1_0 (1 : Int)) : Int) = (iadd i1_0 (1 : Int))) ∧ (true = true) ∧ ((((a_28) : Int) = (a_28)) ∧ (((b_29) : Int) = (b_29)) ∧ True) ∧ ((((c_30) : Int) = (c_30)) ∧ (((d_31) : Int) = (d_31)) ∧ True) ∧ (true = true) ∧ (true = true) ∧ (((eqL (cpsL [((a_28), (b_29)), ((c_30), (d_31))] (16 : Int)) (cpsL [((a_28), (b_29)), ((c_30), (d_31))] (16 : Int))) : Bool) = (eqL (cpsL [((a_28), (b_29)), ((c_30), (d_31))] (16 : Int)) (cpsL [((a_28), (b_29)), ((c_30), (d_31))] (16 : Int)))) ∧ (((bnot (eqL (cpsL [((a_28), (b_29)), ((c_30), (d_31))] (16 : Int)) (cpsL [((a_28), (b_29)), ((c_30), (d_31))] (16 : Int)))) : Bool) = (bnot (eqL (cpsL [((a_28), (b_29)), ((c_30), (d_31))] (16 : Int)) (cpsL [((a_28), (b_29)), ((c_30), (d_31))] (16 : Int))))) ∧ (((bnot (eqL (cpsL [((a_28), (b_29)), ((c_30), (d_31))] (16 : Int)) (cpsL [((a_28), (b_29)), ((c_30), (d_31))] (16 : Int)))) : Bool) = (bnot (eqL (cpsL [((a_28), (b_29)), ((c_30), (d_31))] (16 : Int)) (cpsL [((a_28), (b_29)), ((c_30), (d_31))] (16 : Int))))) ∧ (((bite (bnot (eqL (cpsL [((a_28), (b_29)), ((c_30), (d_31))] (16 : Int)) (cpsL [((a_28), (b_29)), ((c_30), (d_31))] (16 : Int)))) true (bnot (ieq (ilen (cpsL [((a_28), (b_29)), ((c_30), (d_31))] (16 : Int))) (ilen (lpL (a_28) (b_29) (c_30) (d_31) (16 : Int)))))) : Bool) = (bite (bnot (eqL (cpsL [((a_28), (b_29)), ((c_30), (d_31))] (16 : Int)) (cpsL [((a_28), (b_29)), ((c_30), (d_31))] (16 : Int)))) true (bnot (ieq (ilen (cpsL [((a_28), (b_29)), ((c_30), (d_31))] (16 : Int))) (ilen (lpL (a_28) (b_29) (c_30) (d_31) (16 : Int))))))) ∧ ((((a_28) : Int) = (a_28)) ∧ (((b_29) : Int) = (b_29)) ∧ True) ∧ ((((c_30) : Int) = (c_30)) ∧ (((d_31) : Int) = (d_31)) ∧ True) ∧ (true = true) ∧ (true = true) ∧ ((((a_28) : Int) = (a_28)) ∧ (((b_29) : Int) = (b_29)) ∧ True) ∧ ((((c_30) : Int) = (c_30)) ∧ (((d_31) : Int) = (d_31)) ∧ True) ∧ (true = true) ∧ (true = true) ∧ (true = true) ∧ ((((a_28) : Int) = (a_28)) ∧ (((b_29) : Int) = (b_29)) ∧ True) ∧ (((vB (a_28) (b_29)) : Bool) = (vB (a_28) (b_29))) ∧ (((bnot (vB (a_28) (b_29))) : Bool) = (bnot (vB (a_28) (b_29)))) ∧ (((bnot (vB (a_28) (b_29))) : Bool) = (bnot (vB (a_28) (b_29)))) ∧ (((bite (bnot (vB (a_28) (b_29))) true (bnot (vB (c_30) (d_31)))) : Bool) = (bite (bnot (vB (a_28) (b_29))) true (bnot (vB (c_30) (d_31))))) ∧ (true = true) ∧ (true = true) ∧ ((((c_30) : Int) = (c_30)) ∧ (((d_31) : Int) = (d_31)) ∧ True) ∧ ((((a_28) : Int) = (a_28)) ∧ (((b_29) : Int) = (b_29)) ∧ True) ∧ ((n : Int) = n) ∧ ((n : Int) = n) ∧ ((n : Int) = n) ∧ (((ilt (1048576 : Int) n) : Bool) = (ilt (1048576 : Int) n)) ∧ ((n : Int) = n) ∧ True) ∧ (((true = true) ∧ ((Cont.pts [((a_28), (b_29)), ((c_30), (d_31))]) = (Cont.pts [((a_28), (b_29)), ((c_30), (d_31))]))) ∧ ((true = true) ∧ ((Cont.pts (cpsL [((a_28), (b_29)), ((c_30), (d_31))] (16 : Int))) = (Cont.pts (cpsL [((a_28), (b_29)), ((c_30), (d_31))] (16 : Int))))) ∧ ((true = true) ∧ ((Cont.pts (lpL (a_28) (b_29) (c_30) (d_31) (16 : Int))) = (Cont.pts (lpL (a_28) (b_29) (c_30) (d_31) (16 : Int))))) ∧ ((true = true) ∧ ((Cont.pts [((a_28), (b_29)), ((c_30), (d_31))]) = (Cont.pts [((a_28), (b_29)), ((c_30), (d_31))]))) ∧ ((true = true) ∧ ((Cont.pts (cpsL [((a_28), (b_29)), ((c_30), (d_31))] (16 : Int))) = (Cont.pts (cpsL [((a_28), (b_29)), ((c_30), (d_31))] (16 : Int))))) ∧ ((((c_30) : Int) = (c_30)) ∧ (((d_31) : Int) = (d_31)) ∧ True) ∧ ((((a_28) : Int) = (a_28)) ∧ (((b_29) : Int) = (b_29)) ∧ True) ∧ True)) ∧ ((([GK.int, GK.bool] : List GK) = ([GK.int, GK.bool] : List GK)) ∧ I1 [GV.int (iadd i1_0 (1 : Int)), GV.bool b1_1] ∧ μ1 [GV.int (iadd i1_0 (1 : Int)), GV.bool b1_1] < μ1 [GV.int i1_0, GV.bool b1_1]))))) ∧ ((ilt i1_0 (ilen (cpsL [((a_28), (b_29)), ((c_30), (d_31))] (16 : Int)))) = false → ((true = true) ∧ ((True) ∧ (True) ∧ (True) ∧ (True) ∧ True) ∧ (((ieq (ilen (cpsL [((a_28), (b_29)), ((c_30), (d_31))] (16 : Int))) (17 : Int)) : Bool) = (true)) ∧ True))))))))))))))))) = ev sig_laws_FnCurveLine xs_laws_FnCurveLine Try.f9.ntmps (fun b => if b == 0 then [.v 7, .v 2] else []) (codeOf Try.f9) 0 (initS [.s (.rdr n)]) (retK Try.f9.results.toList [.s (.bool (true))]) := by kernel_rfl
set_option maxHeartbeats 400000 in
theorem F_laws_FnCurveLine : FunOK 9 g_laws_FnCurveLine := by
  refine fun_F (by kernel_rfl) Try.func9 rfl (by kernel_rfl) sig_laws_FnCurveLine_ok xs_laws_FnCurveLine_ok ?_
  intro avs sg h hn hl
  unfold g_laws_FnCurveLine at h
  split at h
  · rename_i n
    injection h with h; subst h
    refine ⟨by kernel_rfl, fun b => if b == 0 then [.v 7, .v 2] else [], Eq.mp (V_laws_FnCurveLine n) ?_⟩
    simp only [true_and, and_true, implies_true, and_self, forall_const, true_implies, lenA, lenL, SV.lenOK, Cont.lenOK] at hn hl ⊢
    simp only [ilt_t, ilt_f, ile_t, ile_f, ieq_t, ieq_f, bnot_e, band_e, bite_and, bite_or, NLt_e, NLe_e, NNe_e, NIs_e, imax_e, imin_e, irem_e, Bool.not_eq_true', Bool.not_eq_false', Bool.and_eq_true, Bool.or_eq_true, Bool.or_eq_false_iff, Bool.and_eq_false_iff, Cont.pts.injEq, Cont.ints.injEq, Cont.bools.injEq, Cont.ptss.injEq, Cont.intss.injEq, Cont.boolss.injEq, true_and, and_true, implies_true, eqL_same]
    intro h
    refine ⟨h, fun a b c d hv => ⟨fun hh => ?_, fun _ => ?_⟩⟩
    · obtain ⟨l1, l2⟩ := cln_len hv
      rw [l1, l2] at hh
      rcases hh with hh | hh
      · cases hh
      · exact absurd rfl hh
    obtain ⟨l1, l2⟩ := cln_len hv
    rw [l1, l2]
    refine ⟨fun | .int k :: _ => 0 ≤ k ∧ k ≤ 17 | _ => False, fun | .int k :: _ => (17 - k).toNat | _ => 0, ⟨by omega, by omega⟩, ?_⟩
    rintro k b' ⟨k0, k1⟩
    refine ⟨fun hk => ?_, fun hk => by omega⟩
    obtain ⟨x1, y1⟩ := cln_get hv k0 hk
    obtain ⟨x2, y2⟩ := lin_get hv k0 hk
    have va := vB_bd hv.1; have vb := vB_bd hv.2
    have bd : ∀ s t : Int, -10000 ≤ s → s ≤ 10000 → -10000 ≤ t → t ≤ 10000 → max (isub (s + (k * (t - s) + 8) / 16) (s + k * (t - s) / 16)) (ineg (isub (s + (k * (t - s) + 8) / 16) (s + k * (t - s) / 16))) ≤ 1 := fun s t s0 s1 t0 t1 => by
      have u1 := Int.mul_le_mul_of_nonneg_left (show -20000 ≤ t - s by omega) k0
      have u2 := Int.mul_le_mul_of_nonneg_left (show t - s ≤ 20000 by omega) k0
      generalize k * (t - s) = u at *
      rw [isub_e (by omega) (by omega)]
      have : ineg (s + (u + 8) / 16 - (s + u / 16)) = -(s + (u + 8) / 16 - (s + u / 16)) := by unfold ineg; exact IntWalk.i64_in _ (by omega)
      rw [this]; omega
    have bx := bd a c (by omega) (by omega) (by omega) (by omega)
    have bY := bd b d (by omega) (by omega) (by omega) (by omega)
    rw [x1, y1, x2, y2]
    have e4 : iadd k 1 = k + 1 := iadd_e (by omega) (by omega)
    rw [e4]
    generalize max (isub (a + (k * (c - a) + 8) / 16) (a + k * (c - a) / 16)) (ineg (isub (a + (k * (c - a) + 8) / 16) (a + k * (c - a) / 16))) = M1 at *
    generalize max (isub (b + (k * (d - b) + 8) / 16) (b + k * (d - b) / 16)) (ineg (isub (b + (k * (d - b) + 8) / 16) (b + k * (d - b) / 16))) = M2 at *
    refine ⟨?_, fun hh => ?_, fun hh => ⟨⟨by omega, by omega⟩, by show (17 - (k + 1)).toNat < (17 - k).toNat; omega⟩⟩
    · repeat' constructor
      all_goals (first | omega | (intro _; omega))
    · rcases hh with hh | hh <;> omega
  · cases h
theorem fnCurveLine_walk (w : World) (v0 : Value) (x0 : Nat) (w0 : BytesArg w v0 x0) : Calls Try.prog 9 #[v0] w fun e w' => e = .returned (.bool true) ∧ Bel w w' :=
  walk_of F_laws_FnCurveLine (avs := [.s (.rdr x0)]) rfl trivial ⟨bytes_reads w0, trivial⟩
set_option maxRecDepth 100000 in
theorem fnCurveLine_lifted (os : Os) (started : os.Started) (H : Type) (enc : TypeId × Value → H) :
    ReturnsInHanded {} Try.checked os 9 .any (Rows.fnCurveLineSpec.pre6 enc Try.prog Try.f9 Rows.fnCurveLineRow.domain false) (Rows.fnCurveLineSpec.post enc Try.prog Try.f9 false true false false) := by
  have own : ownKnob Try.prog.godebug = none := by kernel_rfl
  have laidOut : laidOutB Try.prog = true := by kernel_rfl
  refine returnsInHanded_of_change (C := Try.checked) own started (by kernel_rfl) Try.func9
    (ChangeSpec.witness6 (enc := enc) (C := Try.checked) false ⟨#[], #[.slice none 0 0], []⟩ 8 (by kernel_rfl) (by kernel_rfl) (by kernel_rfl) (by kernel_rfl)) ?_
  intro W base args ds gs before hval0 hW hcnd _
  have hval : ∀ (j : Nat) t v, Try.f9.params[j]? = some t → args[j]? = some v → Value.okWide Try.prog W .any base t v := hval0
  have hW' := hW
  obtain ⟨p, q, hA0, hV, rfl, hfz, hnd⟩ := hW
  have hA : DataW.TrodAll enc Try.prog W 0 (fun _ => true) true Try.f9.params.toList args.toList ds p := hA0
  rw [Try.params9] at hA hval
  obtain ⟨v0, vs0, d0, ds0, p0, q0, hargs, rfl, rfl, h0, r0⟩ := trodAll_cons hA
  obtain ⟨rfl, rfl, rfl⟩ := trodAll_nil r0
  obtain rfl : args = #[v0] := by cases args; simp_all
  obtain ⟨rfl, rfl⟩ := trodVars_none hV
  have k0 := h0
  have lt0 : ∀ x ∈ p0, x.block < W.heap.size := by obtain ⟨m, hm⟩ := k0; exact DataW.trod_lt m _ _ _ hm
  obtain ⟨x0, w0⟩ := opn_bytes (hval 0 33 v0 rfl rfl) h0
  clear hA0 hval0
  refine (fnCurveLine_walk W v0 x0 w0).mono fun e W' ⟨he, bel⟩ => ?_
  subst he
  exact ⟨_, rfl, _, _, _, [], _, [], hW', trodAll_mk1 (shut_bool Try.underlying4 _), (trodAll_cons_mk (Below.trod laidOut (by kernel_rfl) (of_decide_eq_true (by kernel_rfl)) k0 bel lt0) trodAll_mk0), rfl, Below.frame bel _, fun h => by cases h⟩
theorem fnCurveLine_over : Rows.fnCurveLineRow.holds Try.pinned (OpenSpec.ofChange Rows.fnCurveLineSpec) :=
  OpenClaim.holds_of_wide 9 Try.f9 rfl rfl rfl rfl rfl rfl rfl ⟨rfl, rfl, rfl, rfl, rfl⟩ rfl rfl rfl rfl rfl (by kernel_rfl) Try.func9 (by kernel_rfl)
    (of_decide_eq_true (by kernel_rfl)) (by unfold Func.isWrapper; first | (rw [if_pos (by decide +kernel)]; kernel_rfl) | (rw [if_neg (by decide +kernel)]; exact ⟨rfl, rfl⟩))
    (fun os started H enc _ => fnCurveLine_lifted os started H enc)
theorem fnCurveLine_proved : Rows.FnCurveLineSaid := fnCurveLine_over
#print axioms fnCurveLine_proved
end Go.Proofs.Ytiddodphfbohmaa

/- 'FnArcPoints': for every code both sides tell the same points of a drawn arc; each is at the distance of the radius from the center, up to 1; and there is one for every step. Conditions: none. -/
import Derived.Test.YtdkpnlhcodogeaaDoorAxM
namespace Go.Proofs.YtdkpnlhcodogeaaDoor
open Go.ChangeShapes Go.WideShapes Go.ChangeAt Go.RowKit
set_option maxRecDepth 100000
set_option linter.unusedSimpArgs false
set_option linter.unusedVariables false
def s_spec_l20Point (r1 : Int) (r2 : Int) (n : Int) : SgX := ⟨r1 ≤ 2000 ∧ 0 ≤ r2 ∧ r2 ≤ 900000 ∧ -1000000 ≤ n ∧ n ≤ 1000000, [.int, .int, .int], (fun | [.int x, .int y, .int q] => -10001 ≤ x ∧ x ≤ 10001 ∧ -10000 ≤ y ∧ y ≤ 10000 ∧ (n ≤ 0 → -10000 ≤ x ∧ x ≤ 10000) ∧ r2 ≤ q ∧ q ≤ r2 + 10 | _ => False), (fun | [.int x, .int y, .int q] => [.agg [.int (x), .int (y)]] | _ => []), (fun | [.int x, .int y, .int q] => .box [.rdr r1, .int (q)] | _ => .box [])⟩
def g_spec_l20Point : Bx → List AV → Option SgX
  | .box [.rdr r1, .int r2], [.s (.int n)] => some (s_spec_l20Point r1 r2 n)
  | _, _ => none
def sig_spec_l20Point : FuncId → List AV → Option Sg := sigL []
def xs_spec_l20Point : XS := ⟨xsigL [(60, g_spec_l20Rd_pick), (94, g_spec_l20Rd_odd)], ysigL []⟩
theorem sig_spec_l20Point_ok : SigOK sig_spec_l20Point := sigL_nil
theorem xs_spec_l20Point_ok : XSigOK xs_spec_l20Point := ⟨xsigL_cons F_spec_l20Rd_pick (xsigL_cons F_spec_l20Rd_odd xsigL_nil), ysigL_nil⟩
def L_spec_l20Point_0 (n : Int) (r2 : Int) (k_8 : Int) (k_5 : Int) (r1 : Int) (q_7 : Int) : Prop := ∃ x : Int, ∃ y : Int, ∃ q : Int, ((-10001 ≤ x ∧ x ≤ 10001 ∧ -10000 ≤ y ∧ y ≤ 10000 ∧ (n ≤ 0 → -10000 ≤ x ∧ x ≤ 10000) ∧ r2 ≤ q ∧ q ≤ r2 + 10) ∧ (((((geti [(10001 : Int), (-10001 : Int), (10000 : Int)] (k_8)) : Int) = (x)) ∧ (((isub (imul (k_5) (4 : Int)) (500 : Int)) : Int) = (y)) ∧ True) ∧ True) ∧ ((true = true) ∧ (true = true) ∧ ((r1 : Int) = r1) ∧ ((((q_7) + 1) : Int) = (q)) ∧ True))
def L_spec_l20Point_1 (n : Int) (r2 : Int) (k_4 : Int) (k_5 : Int) (r1 : Int) (q_7 : Int) : Prop := ∃ x : Int, ∃ y : Int, ∃ q : Int, ((-10001 ≤ x ∧ x ≤ 10001 ∧ -10000 ≤ y ∧ y ≤ 10000 ∧ (n ≤ 0 → -10000 ≤ x ∧ x ≤ 10000) ∧ r2 ≤ q ∧ q ≤ r2 + 10) ∧ (((((isub (imul (k_4) (4 : Int)) (500 : Int)) : Int) = (x)) ∧ (((isub (imul (k_5) (4 : Int)) (500 : Int)) : Int) = (y)) ∧ True) ∧ True) ∧ ((true = true) ∧ (true = true) ∧ ((r1 : Int) = r1) ∧ (((q_7) : Int) = (q)) ∧ True))
def L_spec_l20Point_2 (n : Int) (r2 : Int) (k_11 : Int) (k_2 : Int) (r1 : Int) (q_10 : Int) : Prop := ∃ x : Int, ∃ y : Int, ∃ q : Int, ((-10001 ≤ x ∧ x ≤ 10001 ∧ -10000 ≤ y ∧ y ≤ 10000 ∧ (n ≤ 0 → -10000 ≤ x ∧ x ≤ 10000) ∧ r2 ≤ q ∧ q ≤ r2 + 10) ∧ (((((geti [(10001 : Int), (-10001 : Int), (10000 : Int)] (k_11)) : Int) = (x)) ∧ (((isub (k_2) (20 : Int)) : Int) = (y)) ∧ True) ∧ True) ∧ ((true = true) ∧ (true = true) ∧ ((r1 : Int) = r1) ∧ ((((q_10) + 1) : Int) = (q)) ∧ True))
def L_spec_l20Point_3 (n : Int) (r2 : Int) (k_1 : Int) (k_2 : Int) (r1 : Int) (q_10 : Int) : Prop := ∃ x : Int, ∃ y : Int, ∃ q : Int, ((-10001 ≤ x ∧ x ≤ 10001 ∧ -10000 ≤ y ∧ y ≤ 10000 ∧ (n ≤ 0 → -10000 ≤ x ∧ x ≤ 10000) ∧ r2 ≤ q ∧ q ≤ r2 + 10) ∧ (((((isub (k_1) (20 : Int)) : Int) = (x)) ∧ (((isub (k_2) (20 : Int)) : Int) = (y)) ∧ True) ∧ True) ∧ ((true = true) ∧ (true = true) ∧ ((r1 : Int) = r1) ∧ (((q_10) : Int) = (q)) ∧ True))
theorem V_spec_l20Point (r1 : Int) (r2 : Int) (n : Int) : ((true = true) ∧ ((True) ∧ True) ∧ (true = true) ∧ ((True) ∧ True) ∧ (true = true) ∧ ((r1 ≤ 2000 ∧ 0 ≤ r2 ∧ r2 ≤ 1000000)) ∧ (∀ k_1 : Int, ((pickP (41 : Int) k_1) → ((True) ∧ (True) ∧ (true = true) ∧ ((r1 ≤ 2000 ∧ 0 ≤ (r2 + 1) ∧ (r2 + 1) ≤ 1000000)) ∧ (∀ k_2 : Int, ((pickP (41 : Int) k_2) → ((True) ∧ (True) ∧ (True) ∧ (True) ∧ (true = true) ∧ ((True) ∧ True) ∧ (true = true) ∧ ((r1 ≤ 2000 ∧ 0 ≤ ((r2 + 1) + 1) ∧ ((r2 + 1) + 1) ≤ 1000000)) ∧ (∀ k_3 : Int, ((pickP (3 : Int) k_3) → ((True) ∧ ((ieq (k_3) (0 : Int)) = true → ((true = true) ∧ ((True) ∧ True) ∧ (true = true) ∧ ((r1 ≤ 2000 ∧ 0 ≤ (((r2 + 1) + 1) + 1) ∧ (((r2 + 1) + 1) + 1) ≤ 1000000)) ∧ (∀ k_4 : Int, ((pickP (256 : Int) k_4) → ((True) ∧ (True) ∧ (True) ∧ (true = true) ∧ ((r1 ≤ 2000 ∧ 0 ≤ ((((r2 + 1) + 1) + 1) + 1) ∧ ((((r2 + 1) + 1) + 1) + 1) ≤ 1000000)) ∧ (∀ k_5 : Int, ((pickP (256 : Int) k_5) → ((True) ∧ (True) ∧ (True) ∧ (True) ∧ (true = true) ∧ ((True) ∧ (True) ∧ True) ∧ (true = true) ∧ ((r1 ≤ 2000 ∧ 0 ≤ (((((r2 + 1) + 1) + 1) + 1) + 1) ∧ (((((r2 + 1) + 1) + 1) + 1) + 1) ≤ 1000000 ∧ -1000000 ≤ n ∧ n ≤ 1000000)) ∧ (∀ b_6 : Bool, ∀ q_7 : Int, (((n ≤ 0 → b_6 = false) ∧ (((((r2 + 1) + 1) + 1) + 1) + 1) ≤ q_7 ∧ q_7 ≤ (((((r2 + 1) + 1) + 1) + 1) + 1) + 1) → (((b_6) = true → ((true = true) ∧ ((True) ∧ (True) ∧ True) ∧ (true = true) ∧ ((r1 ≤ 2000 ∧ 0 ≤ (q_7) ∧ (q_7) ≤ 1000000)) ∧ (∀ k_8 : Int, ((pickP (3 : Int) k_8) → ((NLe 0 (k_8) ∧ NLt (k_8) (ilen [(10001 : Int), (-10001 : Int), (10000 : Int)])) ∧ (NLt (k_8) (ilen [(10001 : Int), (-10001 : Int), (10000 : Int)])) ∧ (True) ∧ (True) ∧ (true = true) ∧ ((True) ∧ True) ∧ (True) ∧ L_spec_l20Point_0 n r2 k_8 k_5 r1 q_7))))) ∧ ((b_6) = false → ((true = true) ∧ ((True) ∧ True) ∧ (True) ∧ L_spec_l20Point_1 n r2 k_4 k_5 r1 q_7))))))))))))) ∧ ((ieq (k_3) (0 : Int)) = false → ((true = true) ∧ ((True) ∧ (True) ∧ True) ∧ (true = true) ∧ ((r1 ≤ 2000 ∧ 0 ≤ (((r2 + 1) + 1) + 1) ∧ (((r2 + 1) + 1) + 1) ≤ 1000000 ∧ -1000000 ≤ n ∧ n ≤ 1000000)) ∧ (∀ b_9 : Bool, ∀ q_10 : Int, (((n ≤ 0 → b_9 = false) ∧ (((r2 + 1) + 1) + 1) ≤ q_10 ∧ q_10 ≤ (((r2 + 1) + 1) + 1) + 1) → (((b_9) = true → ((true = true) ∧ ((True) ∧ (True) ∧ True) ∧ (true = true) ∧ ((r1 ≤ 2000 ∧ 0 ≤ (q_10) ∧ (q_10) ≤ 1000000)) ∧ (∀ k_11 : Int, ((pickP (3 : Int) k_11) → ((NLe 0 (k_11) ∧ NLt (k_11) (ilen [(10001 : Int), (-10001 : Int), (10000 : Int)])) ∧ (NLt (k_11) (ilen [(10001 : Int), (-10001 : Int), (10000 : Int)])) ∧ (True) ∧ (True) ∧ (true = true) ∧ ((True) ∧ True) ∧ (True) ∧ L_spec_l20Point_2 n r2 k_11 k_2 r1 q_10))))) ∧ ((b_9) = false → ((true = true) ∧ ((True) ∧ True) ∧ (True) ∧ L_spec_l20Point_3 n r2 k_1 k_2 r1 q_10))))))))))))))))) = (fun sg => ev sig_spec_l20Point xs_spec_l20Point Tryd.f87.ntmps (fun b => []) (codeOf Tryd.f87) 0 (initX (.box [.rdr r1, .int r2]) [.s (.int n)]) (retX Tryd.f87.results.toList sg.kinds sg.post sg.ret sg.out)) (s_spec_l20Point r1 r2 n) := by kernel_rfl
set_option maxHeartbeats 4000000 in
theorem F_spec_l20Point : FunX 87 g_spec_l20Point := by
  refine fun_X (by kernel_rfl) Tryd.func87 rfl (by kernel_rfl) sig_spec_l20Point_ok xs_spec_l20Point_ok ?_
  intro bx avs sg h hn hl hlb
  unfold g_spec_l20Point at h
  split at h
  · rename_i r1 r2 n
    injection h with h; subst h
    refine ⟨by kernel_rfl, fun b => [], Eq.mp (V_spec_l20Point r1 r2 n) ?_⟩
    simp only [true_and, and_true, implies_true, and_self, forall_const, true_implies, lenA, lenL, SV.lenOK, Cont.lenOK, lenB, s_spec_l20Point, L_spec_l20Point_0, L_spec_l20Point_1, L_spec_l20Point_2, L_spec_l20Point_3] at hn hl hlb ⊢
    try simp only [ilt_t, ilt_f, ile_t, ile_f, ieq_t, ieq_f, bnot_e, band_e, bite_and, bite_or, NLt_e, NLe_e, NNe_e, NIs_e, imax_e, imin_e, irem_e, Bool.not_eq_true', Bool.not_eq_false', Bool.and_eq_true, Bool.or_eq_true, Bool.or_eq_false_iff, Bool.and_eq_false_iff, Cont.pts.injEq, Cont.ints.injEq, Cont.bools.injEq, Cont.ptss.injEq, Cont.intss.injEq, Cont.boolss.injEq, true_and, and_true, implies_true, pickP, iadd_u, isub_u, imul_u, ineg_u, ilen_cons, ilen_nil, geti_cons, geti_nil, exists_and_left, exists_and_right, exists_eq_left, exists_eq_left', exists_eq_right, exists_eq_right'] at hn ⊢
    repeat' (first | (intro _) | (refine ⟨_, _, _, ?_, ⟨rfl, rfl⟩, rfl⟩) | (apply And.intro) | omega | split)
    all_goals (first | (simp_all; done) | (simp_all; omega))
  · cases h
def s_spec_DrawArcPoints (n : Int) : SgY := ⟨n ≤ 1048576, [.int, .int, .int, .int, .int, .int], (fun | [.int x, .int y, .int r, .int f, .int t, .int s] => -100000 ≤ x ∧ x ≤ 100000 ∧ -100000 ≤ y ∧ y ≤ 100000 ∧ -1000 ≤ r ∧ r ≤ 1000 ∧ -1000 ≤ f ∧ f ≤ 1000 ∧ -1000 ≤ t ∧ t ≤ 1000 ∧ -1000 ≤ s ∧ s ≤ 1000 | _ => False), (fun | [.int x, .int y, .int r, .int f, .int t, .int s] => [.agg [.int (x), .int (y)], .s (.int (r)), .s (.int (f)), .s (.int (t)), .s (.int (s))] | _ => [])⟩
def g_spec_DrawArcPoints : List AV → Option SgY
  | [.s (.rdr n)] => some (s_spec_DrawArcPoints n)
  | _ => none
def sig_spec_DrawArcPoints : FuncId → List AV → Option Sg := sigL [(58, g_spec_l20Open)]
def xs_spec_DrawArcPoints : XS := ⟨xsigL [(87, g_spec_l20Point), (60, g_spec_l20Rd_pick)], ysigL []⟩
theorem sig_spec_DrawArcPoints_ok : SigOK sig_spec_DrawArcPoints := sigL_cons F_spec_l20Open sigL_nil
theorem xs_spec_DrawArcPoints_ok : XSigOK xs_spec_DrawArcPoints := ⟨xsigL_cons F_spec_l20Point (xsigL_cons F_spec_l20Rd_pick xsigL_nil), ysigL_nil⟩
def L_spec_DrawArcPoints_0 (x_12 : Int) (y_13 : Int) (k_18 : Int) (k_19 : Int) (k_15 : Int) (k_16 : Int) (k_17 : Int) (k_20 : Int) (k_21 : Int) : Prop := ∃ x : Int, ∃ y : Int, ∃ r : Int, ∃ f : Int, ∃ t : Int, ∃ s : Int, ((-100000 ≤ x ∧ x ≤ 100000 ∧ -100000 ≤ y ∧ y ≤ 100000 ∧ -1000 ≤ r ∧ r ≤ 1000 ∧ -1000 ≤ f ∧ f ≤ 1000 ∧ -1000 ≤ t ∧ t ≤ 1000 ∧ -1000 ≤ s ∧ s ≤ 1000) ∧ (((((x_12) : Int) = (x)) ∧ (((y_13) : Int) = (y)) ∧ True) ∧ (((geti [(iadd (1 : Int) (k_18)), (0 : Int), (501 : Int)] (geti [(0 : Int), (0 : Int), (0 : Int), (0 : Int), (0 : Int), (1 : Int), (2 : Int)] (k_19))) : Int) = (r)) ∧ (((isub (k_15) (128 : Int)) : Int) = (f)) ∧ (((isub (iadd (isub (k_15) (128 : Int)) (k_16)) (imul (iquo (k_17) (11 : Int)) (300 : Int))) : Int) = (t)) ∧ (((geti [(iadd (1 : Int) (k_20)), (0 : Int)] (iquo (k_21) (11 : Int))) : Int) = (s)) ∧ True))
theorem V_spec_DrawArcPoints (n : Int) : ((true = true) ∧ ((True) ∧ (True) ∧ (True) ∧ (True) ∧ (True) ∧ True) ∧ (true = true) ∧ ((True) ∧ ((n ≤ 1048576)) ∧ (True) ∧ True) ∧ (true = true) ∧ ((True) ∧ True) ∧ (true = true) ∧ (((if n ≤ 2000 then n else 2000) ≤ 2000 ∧ 0 ≤ ((0 : Int)) ∧ ((0 : Int)) ≤ 900000 ∧ -1000000 ≤ (12 : Int) ∧ (12 : Int) ≤ 1000000)) ∧ (∀ x_12 : Int, ∀ y_13 : Int, ∀ q_14 : Int, ((-10001 ≤ x_12 ∧ x_12 ≤ 10001 ∧ -10000 ≤ y_13 ∧ y_13 ≤ 10000 ∧ ((12 : Int) ≤ 0 → -10000 ≤ x_12 ∧ x_12 ≤ 10000) ∧ ((0 : Int)) ≤ q_14 ∧ q_14 ≤ ((0 : Int)) + 10) → ((True) ∧ (True) ∧ (true = true) ∧ ((True) ∧ True) ∧ (true = true) ∧ (((if n ≤ 2000 then n else 2000) ≤ 2000 ∧ 0 ≤ (q_14) ∧ (q_14) ≤ 1000000)) ∧ (∀ k_15 : Int, ((pickP (256 : Int) k_15) → ((True) ∧ (True) ∧ (true = true) ∧ ((True) ∧ (True) ∧ True) ∧ (true = true) ∧ (((if n ≤ 2000 then n else 2000) ≤ 2000 ∧ 0 ≤ ((q_14) + 1) ∧ ((q_14) + 1) ≤ 1000000)) ∧ (∀ k_16 : Int, ((pickP (200 : Int) k_16) → ((True) ∧ (True) ∧ (true = true) ∧ (((if n ≤ 2000 then n else 2000) ≤ 2000 ∧ 0 ≤ (((q_14) + 1) + 1) ∧ (((q_14) + 1) + 1) ≤ 1000000)) ∧ (∀ k_17 : Int, ((pickP (12 : Int) k_17) → ((NNe (11 : Int) 0) ∧ (True) ∧ (True) ∧ (True) ∧ (true = true) ∧ ((true = true) ∧ (True) ∧ ((true = true) ∧ (True) ∧ ((true = true) ∧ (True) ∧ ((true = true) ∧ (True) ∧ ((true = true) ∧ (True) ∧ ((true = true) ∧ (True) ∧ ((true = true) ∧ (True) ∧ ((true = true) ∧ (True) ∧ ((true = true) ∧ (((if n ≤ 2000 then n else 2000) ≤ 2000 ∧ 0 ≤ ((((q_14) + 1) + 1) + 1) ∧ ((((q_14) + 1) + 1) + 1) ≤ 1000000)) ∧ (∀ k_18 : Int, ((pickP (200 : Int) k_18) → ((true = true) ∧ (True) ∧ ((true = true) ∧ (True) ∧ ((true = true) ∧ (((if n ≤ 2000 then n else 2000) ≤ 2000 ∧ 0 ≤ (((((q_14) + 1) + 1) + 1) + 1) ∧ (((((q_14) + 1) + 1) + 1) + 1) ≤ 1000000)) ∧ (∀ k_19 : Int, ((pickP (7 : Int) k_19) → ((true = true) ∧ (NLe 0 (k_19) ∧ NLt (k_19) (ilen [(0 : Int), (0 : Int), (0 : Int), (0 : Int), (0 : Int), (1 : Int), (2 : Int)])) ∧ ((true = true) ∧ (True) ∧ ((true = true) ∧ (NLe 0 (geti [(0 : Int), (0 : Int), (0 : Int), (0 : Int), (0 : Int), (1 : Int), (2 : Int)] (k_19)) ∧ NLt (geti [(0 : Int), (0 : Int), (0 : Int), (0 : Int), (0 : Int), (1 : Int), (2 : Int)] (k_19)) (ilen [(iadd (1 : Int) (k_18)), (0 : Int), (501 : Int)])) ∧ ((true = true) ∧ (True) ∧ ((true = true) ∧ (((if n ≤ 2000 then n else 2000) ≤ 2000 ∧ 0 ≤ ((((((q_14) + 1) + 1) + 1) + 1) + 1) ∧ ((((((q_14) + 1) + 1) + 1) + 1) + 1) ≤ 1000000)) ∧ (∀ k_20 : Int, ((pickP (60 : Int) k_20) → ((true = true) ∧ (True) ∧ ((true = true) ∧ (True) ∧ ((true = true) ∧ (((if n ≤ 2000 then n else 2000) ≤ 2000 ∧ 0 ≤ (((((((q_14) + 1) + 1) + 1) + 1) + 1) + 1) ∧ (((((((q_14) + 1) + 1) + 1) + 1) + 1) + 1) ≤ 1000000)) ∧ (∀ k_21 : Int, ((pickP (12 : Int) k_21) → ((true = true) ∧ (NNe (11 : Int) 0) ∧ ((true = true) ∧ (NLe 0 (iquo (k_21) (11 : Int)) ∧ NLt (iquo (k_21) (11 : Int)) (ilen [(iadd (1 : Int) (k_20)), (0 : Int)])) ∧ ((true = true) ∧ (True) ∧ ((true = true) ∧ (True) ∧ ((true = true) ∧ (True) ∧ ((true = true) ∧ (True) ∧ ((true = true) ∧ (True) ∧ ((True) ∧ L_spec_DrawArcPoints_0 x_12 y_13 k_18 k_19 k_15 k_16 k_17 k_20 k_21))))))))))))))))))))))))))))))))))))))))))))))))) = (fun sg => ev sig_spec_DrawArcPoints xs_spec_DrawArcPoints Tryd.f40.ntmps (fun b => []) (codeOf Tryd.f40) 0 (initS [.s (.rdr n)]) (retY Tryd.f40.results.toList sg.kinds sg.post sg.ret)) (s_spec_DrawArcPoints n) := by kernel_rfl
set_option maxHeartbeats 400000 in
theorem F_spec_DrawArcPoints : FunY 40 g_spec_DrawArcPoints := by
  refine fun_Y (by kernel_rfl) Tryd.func40 rfl (by kernel_rfl) sig_spec_DrawArcPoints_ok xs_spec_DrawArcPoints_ok ?_
  intro avs sg h hn hl
  unfold g_spec_DrawArcPoints at h
  split at h
  · rename_i n
    injection h with h; subst h
    refine ⟨by kernel_rfl, fun b => [], Eq.mp (V_spec_DrawArcPoints n) ?_⟩
    simp only [true_and, and_true, implies_true, and_self, forall_const, true_implies, lenA, lenL, SV.lenOK, Cont.lenOK, s_spec_DrawArcPoints, L_spec_DrawArcPoints_0] at hn hl ⊢
    simp only [ilt_t, ilt_f, ile_t, ile_f, ieq_t, ieq_f, bnot_e, band_e, bite_and, bite_or, NLt_e, NLe_e, NNe_e, NIs_e, imax_e, imin_e, irem_e, Bool.not_eq_true', Bool.not_eq_false', Bool.and_eq_true, Bool.or_eq_true, Bool.or_eq_false_iff, Bool.and_eq_false_iff, Cont.pts.injEq, Cont.ints.injEq, Cont.bools.injEq, Cont.ptss.injEq, Cont.intss.injEq, Cont.boolss.injEq, true_and, and_true, implies_true, pickP]
    have q11 : ∀ k : Int, 0 ≤ k → k < 12 → 0 ≤ iquo k 11 ∧ iquo k 11 ≤ 1 := fun k h0 h1 => by
      rw [iquo_e (by omega) (by omega) (by omega), Int.tdiv_eq_ediv_of_nonneg h0]; omega
    have g7 : ∀ k : Int, 0 ≤ k → k < 7 → geti [0, 0, 0, 0, 0, 1, 2] k = 0 ∨ geti [0, 0, 0, 0, 0, 1, 2] k = 1 ∨ geti [0, 0, 0, 0, 0, 1, 2] k = 2 := fun k h0 h1 => by
      rcases (by omega : k = 0 ∨ k = 1 ∨ k = 2 ∨ k = 3 ∨ k = 4 ∨ k = 5 ∨ k = 6) with rfl | rfl | rfl | rfl | rfl | rfl | rfl <;> decide +kernel
    refine ⟨hn, by split <;> omega, fun x y q hp => ⟨by split <;> omega, fun k1 h1 => ⟨by split <;> omega, fun k2 h2 => ⟨by split <;> omega, fun k3 h3 => ⟨by omega, by split <;> omega, fun k4 h4 => ⟨by split <;> omega, fun k5 h5 => ?_⟩⟩⟩⟩⟩⟩
    have p1 := h1.2 (by omega); have p2 := h2.2 (by omega); have p3 := h3.2 (by omega); have p4 := h4.2 (by omega); have p5 := h5.2 (by omega)
    have w3 := q11 k3 (by omega) (by omega)
    have w5 := g7 k5 (by omega) (by omega)
    generalize geti [0, 0, 0, 0, 0, 1, 2] k5 = g5 at *
    have e4 : iadd 1 k4 = 1 + k4 := iadd_e (by omega) (by omega)
    have e1 : isub k1 128 = k1 - 128 := isub_e (by omega) (by omega)
    have e2 : iadd (k1 - 128) k2 = k1 - 128 + k2 := iadd_e (by omega) (by omega)
    have e3 : imul (iquo k3 11) 300 = iquo k3 11 * 300 := imul_e (by omega) (by omega)
    have e6 : isub (k1 - 128 + k2) (iquo k3 11 * 300) = k1 - 128 + k2 - iquo k3 11 * 300 := isub_e (by omega) (by omega)
    rw [e4, e1, e2, e3, e6]
    have g3 : 0 ≤ geti [1 + k4, 0, 501] g5 ∧ geti [1 + k4, 0, 501] g5 ≤ 501 := by
      rcases w5 with rfl | rfl | rfl
      · simp [geti]; omega
      · simp [geti]
      · simp [geti]
    refine ⟨⟨by omega, by simp [ilen]; omega⟩, ⟨by omega, by simp [ilen]; omega⟩, by split <;> omega, fun k6 h6 => ⟨by split <;> omega, fun k7 h7 => ?_⟩⟩
    have p6 := h6.2 (by omega); have p7 := h7.2 (by omega)
    have w7 := q11 k7 (by omega) (by omega)
    generalize iquo k7 11 = g8 at *
    have e7 : iadd 1 k6 = 1 + k6 := iadd_e (by omega) (by omega)
    rw [e7]
    have g2 : 0 ≤ geti [1 + k6, 0] g8 ∧ geti [1 + k6, 0] g8 ≤ 60 := by
      rcases (by omega : g8 = 0 ∨ g8 = 1) with rfl | rfl
      · simp [geti]; omega
      · simp [geti]
    exact ⟨by omega, ⟨by omega, by simp [ilen]; omega⟩, _, _, _, _, _, _, by omega, ⟨rfl, rfl⟩, rfl, rfl, rfl, rfl⟩
  · cases h
theorem inB_eq (n lo hi : Int) : inB n lo hi = (ile lo n && ile n hi) := by
  unfold inB ile
  by_cases h1 : lo ≤ n <;> by_cases h2 : n ≤ hi <;> simp [h1, h2]
def g_impl_within : List AV → Option Sg
  | [.s (.int n), .s (.int lo), .s (.int hi)] => some ⟨True, [.s (.bool (inB n lo hi))]⟩
  | _ => none
def sig_impl_within : FuncId → List AV → Option Sg := sigL []
def xs_impl_within : XS := ⟨xsigL [], ysigL []⟩
theorem sig_impl_within_ok : SigOK sig_impl_within := sigL_nil
theorem xs_impl_within_ok : XSigOK xs_impl_within := ⟨xsigL_nil, ysigL_nil⟩
theorem V_impl_within (n : Int) (lo : Int) (hi : Int) : ((true = true) ∧ ((True) ∧ True) ∧ (true = true) ∧ ((True) ∧ (True) ∧ (True) ∧ (True) ∧ (NIs (ile lo n) true → True) ∧ (NIs (ile lo n) true → True) ∧ (NIs (ile lo n) true → True) ∧ (True) ∧ (True) ∧ True) ∧ (((bite (ile lo n) (ile n hi) false) : Bool) = (inB n lo hi)) ∧ True) = ev sig_impl_within xs_impl_within Tryd.f67.ntmps (fun b => []) (codeOf Tryd.f67) 0 (initS [.s (.int n), .s (.int lo), .s (.int hi)]) (retK Tryd.f67.results.toList [.s (.bool (inB n lo hi))]) := by kernel_rfl
set_option maxHeartbeats 400000 in
theorem F_impl_within : FunOK 67 g_impl_within := by
  refine fun_F (by kernel_rfl) Tryd.func67 rfl (by kernel_rfl) sig_impl_within_ok xs_impl_within_ok ?_
  intro avs sg h hn hl
  unfold g_impl_within at h
  split at h
  · rename_i n lo hi
    injection h with h; subst h
    refine ⟨by kernel_rfl, fun b => [], Eq.mp (V_impl_within n lo hi) ?_⟩
    simp only [true_and, and_true, implies_true, and_self, forall_const, true_implies, lenA, lenL, SV.lenOK, Cont.lenOK] at hn hl ⊢
    simp only [bite_and, inB_eq]
  · cases h
def g_impl_PointValid : List AV → Option Sg
  | [.agg [.int p1, .int p2]] => some ⟨True, [.s (.bool (vB p1 p2))]⟩
  | _ => none
def sig_impl_PointValid : FuncId → List AV → Option Sg := sigL [(67, g_impl_within)]
def xs_impl_PointValid : XS := ⟨xsigL [], ysigL []⟩
theorem sig_impl_PointValid_ok : SigOK sig_impl_PointValid := sigL_cons F_impl_within sigL_nil
theorem xs_impl_PointValid_ok : XSigOK xs_impl_PointValid := ⟨xsigL_nil, ysigL_nil⟩
theorem V_impl_PointValid (p1 : Int) (p2 : Int) : ((true = true) ∧ ((True) ∧ (True) ∧ True) ∧ (true = true) ∧ ((True) ∧ (True) ∧ ((True)) ∧ (True) ∧ (NIs (inB p1 (-10000 : Int) (10000 : Int)) true → True) ∧ (NIs (inB p1 (-10000 : Int) (10000 : Int)) true → True) ∧ (NIs (inB p1 (-10000 : Int) (10000 : Int)) true → (True)) ∧ (True) ∧ (True) ∧ True) ∧ (((bite (inB p1 (-10000 : Int) (10000 : Int)) (inB p2 (-10000 : Int) (10000 : Int)) false) : Bool) = (vB p1 p2)) ∧ True) = ev sig_impl_PointValid xs_impl_PointValid Tryd.f84.ntmps (fun b => []) (codeOf Tryd.f84) 0 (initS [.agg [.int p1, .int p2]]) (retK Tryd.f84.results.toList [.s (.bool (vB p1 p2))]) := by kernel_rfl
set_option maxHeartbeats 400000 in
theorem F_impl_PointValid : FunOK 84 g_impl_PointValid := by
  refine fun_F (by kernel_rfl) Tryd.func84 rfl (by kernel_rfl) sig_impl_PointValid_ok xs_impl_PointValid_ok ?_
  intro avs sg h hn hl
  unfold g_impl_PointValid at h
  split at h
  · rename_i p1 p2
    injection h with h; subst h
    refine ⟨by kernel_rfl, fun b => [], Eq.mp (V_impl_PointValid p1 p2) ?_⟩
    simp only [true_and, and_true, implies_true, and_self, forall_const, true_implies, lenA, lenL, SV.lenOK, Cont.lenOK] at hn hl ⊢
    simp only [bite_and, vB]
  · cases h
def degW (d : Int) : Int := irem (iadd (irem d 360) 360) 360
def g_impl_Degrees : List AV → Option Sg
  | [.s (.int d)] => some ⟨True, [.s (.int (degW d))]⟩
  | _ => none
def sig_impl_Degrees : FuncId → List AV → Option Sg := sigL []
def xs_impl_Degrees : XS := ⟨xsigL [], ysigL []⟩
theorem sig_impl_Degrees_ok : SigOK sig_impl_Degrees := sigL_nil
theorem xs_impl_Degrees_ok : XSigOK xs_impl_Degrees := ⟨xsigL_nil, ysigL_nil⟩
theorem V_impl_Degrees (d : Int) : ((true = true) ∧ ((True) ∧ True) ∧ (true = true) ∧ ((True) ∧ (NNe (360 : Int) 0) ∧ (True) ∧ (NNe (360 : Int) 0) ∧ (True) ∧ True) ∧ (((irem (iadd (irem d (360 : Int)) (360 : Int)) (360 : Int)) : Int) = (degW d)) ∧ True) = ev sig_impl_Degrees xs_impl_Degrees Tryd.f68.ntmps (fun b => []) (codeOf Tryd.f68) 0 (initS [.s (.int d)]) (retK Tryd.f68.results.toList [.s (.int (degW d))]) := by kernel_rfl
set_option maxHeartbeats 400000 in
theorem F_impl_Degrees : FunOK 68 g_impl_Degrees := by
  refine fun_F (by kernel_rfl) Tryd.func68 rfl (by kernel_rfl) sig_impl_Degrees_ok xs_impl_Degrees_ok ?_
  intro avs sg h hn hl
  unfold g_impl_Degrees at h
  split at h
  · rename_i d
    injection h with h; subst h
    refine ⟨by kernel_rfl, fun b => [], Eq.mp (V_impl_Degrees d) ?_⟩
    simp only [true_and, and_true, implies_true, and_self, forall_const, true_implies, lenA, lenL, SV.lenOK, Cont.lenOK] at hn hl ⊢
    simp only [ilt_t, ilt_f, ile_t, ile_f, ieq_t, ieq_f, bnot_e, band_e, bite_and, bite_or, NLt_e, NLe_e, NNe_e, NIs_e, imax_e, imin_e, irem_e, Bool.not_eq_true', Bool.not_eq_false', Bool.and_eq_true, Bool.or_eq_true, Bool.or_eq_false_iff, Bool.and_eq_false_iff, Cont.pts.injEq, Cont.ints.injEq, Cont.bools.injEq, Cont.ptss.injEq, Cont.intss.injEq, Cont.boolss.injEq, true_and, and_true, implies_true]
    exact ⟨by decide, by simp [degW, irem_e]⟩
  · cases h
def crW (a1 a2 b1 b2 c1 c2 : Int) : Int := isub (imul (isub b1 a1) (isub c2 a2)) (imul (isub b2 a2) (isub c1 a1))
def cr (l : List Pt) (i j k : Int) : Int := crW (getx l i) (gety l i) (getx l j) (gety l j) (getx l k) (gety l k)
def nx (l : List Pt) (i : Int) : Int := (i + 1).tmod (ilen l)
def convE (l : List Pt) (i j : Int) : Bool := decide (j = i ∨ j = nx l i ∨ 0 < cr l i (nx l i) j)
def convB (l : List Pt) : Bool := inB (ilen l) 3 8 && allB l && allN (ilen l) fun i => allN (ilen l) fun j => convE l i j
theorem nx_in {l : List Pt} {i : Int} (h0 : 0 ≤ i) (h1 : i < ilen l) : 0 ≤ nx l i ∧ nx l i < ilen l ∧ ((i + 1 < ilen l ∧ nx l i = i + 1) ∨ (i + 1 = ilen l ∧ nx l i = 0)) := by
  have e : nx l i = (i + 1) % ilen l := Int.tmod_eq_emod_of_nonneg (by omega)
  rcases Int.lt_or_le (i + 1) (ilen l) with h | h
  · rw [e, Int.emod_eq_of_lt (by omega) h]; omega
  · have h2 : i + 1 = ilen l := by omega
    rw [e, h2, Int.emod_self]; omega
theorem allN_up {f : Int → Bool} {k : Int} (h : ∀ j, 0 ≤ j → j < k → f j = true) (hk : f k = true) : ∀ j, 0 ≤ j → j < k + 1 → f j = true := by
  intro j h0 h1
  rcases Int.lt_or_le j k with h2 | h2
  · exact h j h0 h2
  · rw [show j = k by omega]; exact hk
theorem upTo {P : Int → Prop} {k : Int} (h : ∀ j, 0 ≤ j → j < k → P j) (hk : P k) : ∀ j, 0 ≤ j → j < k + 1 → P j := by
  intro j h0 h1
  rcases Int.lt_or_le j k with h2 | h2
  · exact h j h0 h2
  · rw [show j = k by omega]; exact hk
theorem iadd_1 {k n : Int} (h0 : 0 ≤ k) (h1 : k < n) (h2 : n ≤ 9223372036854775807) : iadd k 1 = k + 1 := iadd_e (by omega) (by omega)
theorem mul20 {x y : Int} (hx : -20000 ≤ x ∧ x ≤ 20000) (hy : -20000 ≤ y ∧ y ≤ 20000) : -400000000 ≤ x * y ∧ x * y ≤ 400000000 := by
  have h := mul_box hx.1 hx.2 hy.1 hy.2
  generalize x * y = z at *
  have e1 : min (min ((-20000 : Int) * -20000) (-20000 * 20000)) (min (20000 * -20000) (20000 * 20000)) = -400000000 := by decide
  have e2 : max (max ((-20000 : Int) * -20000) (-20000 * 20000)) (max (20000 * -20000) (20000 * 20000)) = 400000000 := by decide
  rw [e1, e2] at h
  exact h
theorem crW_e {a1 a2 b1 b2 c1 c2 : Int} (ha : vB a1 a2 = true) (hb : vB b1 b2 = true) (hc : vB c1 c2 = true) : crW a1 a2 b1 b2 c1 c2 = crs (a1, a2) (b1, b2) (c1, c2) := by
  unfold vB at ha hb hc
  simp only [Bool.and_eq_true] at ha hb hc
  have a1' := inB_true ha.1; have a2' := inB_true ha.2; have b1' := inB_true hb.1; have b2' := inB_true hb.2; have c1' := inB_true hc.1; have c2' := inB_true hc.2
  unfold crW crs
  rw [isub_e (a := b1) (by omega) (by omega), isub_e (a := c2) (by omega) (by omega), isub_e (a := b2) (by omega) (by omega), isub_e (a := c1) (by omega) (by omega)]
  have m1 := mul20 (x := b1 - a1) (y := c2 - a2) (by omega) (by omega)
  have m2 := mul20 (x := b2 - a2) (y := c1 - a1) (by omega) (by omega)
  rw [imul_e (a := b1 - a1) (by omega) (by omega), imul_e (a := b2 - a2) (by omega) (by omega), isub_e (by omega) (by omega)]
def P (l : List Pt) (i : Int) : Pt := (getx l i, gety l i)
theorem sgn_01 (z : Int) : -1 ≤ sgn z ∧ sgn z ≤ 1 := by unfold sgn; split <;> (try split) <;> omega
theorem ieq_sgn (z : Int) : ieq (sgn z) 0 = decide (z = 0) := by
  unfold ieq
  congr 1
  simp only [eq_iff_iff]
  unfold sgn; split <;> (try split) <;> omega
theorem imul_sgn (x y : Int) : imul (sgn x) (sgn y) = sgn x * sgn y := by
  have s1 := sgn_01 x; have s2 := sgn_01 y
  have := mul20 (x := sgn x) (y := sgn y) (by omega) (by omega)
  exact imul_e (by omega) (by omega)
theorem sgn_0 (z : Int) : sgn z = 0 ↔ z = 0 := by unfold sgn; split <;> (try split) <;> omega
def btW (a1 a2 b1 b2 p1 p2 : Int) : Bool := inB p1 (min a1 b1) (max a1 b1) && inB p2 (min a2 b2) (max a2 b2)
theorem btW_e (a1 a2 b1 b2 p1 p2 : Int) : btW a1 a2 b1 b2 p1 p2 = btw (a1, a2) (b1, b2) (p1, p2) := by
  unfold btW btw inB
  simp only [← Bool.decide_and]
  congr 1
  simp only [eq_iff_iff]
  constructor
  · rintro ⟨⟨h1, h2⟩, h3, h4⟩; exact ⟨h1, h2, h3, h4⟩
  · rintro ⟨h1, h2, h3, h4⟩; exact ⟨⟨h1, h2⟩, h3, h4⟩
def nearB (x y : Int) : Bool := inB x (-1000) 1000 && inB y (-1000) 1000
def idxN (n : Int) (f : Int → Bool) : Int := foldN n (fun s i => if s < 0 ∧ f i = true then i else s) (-1)
theorem idxN_no {f : Int → Bool} {k : Nat} (h : ∀ j, 0 ≤ j → j < (k : Int) → f j = false) : idxN k f = -1 := by
  induction k with
  | zero => rfl
  | succ k ih =>
    have e : ((k + 1 : Nat) : Int) = (k : Int) + 1 := by omega
    have := ih (fun j h0 h1 => h j h0 (by omega))
    unfold idxN at this ⊢
    rw [e, foldN_1 (by omega), this, h k (by omega) (by omega)]
    simp
theorem idxN_keep {f : Int → Bool} {i : Int} (hi : 0 ≤ i) {n : Nat} (h : idxN n f = i) (m : Nat) : idxN ((n + m : Nat) : Int) f = i := by
  induction m with
  | zero => exact h
  | succ m ih =>
    have e : ((n + (m + 1) : Nat) : Int) = ((n + m : Nat) : Int) + 1 := by omega
    unfold idxN at ih ⊢
    rw [e, foldN_1 (by omega), ih, if_neg (by omega)]
theorem idxN_at {f : Int → Bool} {k n : Int} (h0 : 0 ≤ k) (h1 : k < n) (h : ∀ j, 0 ≤ j → j < k → f j = false) (hk : f k = true) : idxN n f = k := by
  obtain ⟨a, rfl⟩ := Int.eq_ofNat_of_zero_le h0
  obtain ⟨b, hb⟩ := Int.eq_ofNat_of_zero_le (show 0 ≤ n - (a + 1) by omega)
  have e : n = ((a + 1 + b : Nat) : Int) := by omega
  rw [e]
  refine idxN_keep h0 ?_ b
  have := idxN_no h
  have e2 : ((a + 1 : Nat) : Int) = (a : Int) + 1 := by omega
  unfold idxN at this ⊢
  rw [e2, foldN_1 (by omega), this, if_pos ⟨by omega, hk⟩]
theorem idxN_any {f : Int → Bool} {n : Int} (h0 : 0 ≤ n) : ile 0 (idxN n f) = anyN n f := by
  obtain ⟨a, rfl⟩ := Int.eq_ofNat_of_zero_le h0
  clear h0
  induction a with
  | zero => simp [idxN, foldN, anyN, ile]
  | succ a ih =>
    have e : ((a + 1 : Nat) : Int) = (a : Int) + 1 := by omega
    have hs : anyN ((a + 1 : Nat) : Int) f = (anyN a f || f a) := by
      unfold anyN
      rw [show ((a + 1 : Nat) : Int).toNat = a + 1 by omega, show ((a : Nat) : Int).toNat = a by omega, List.range_succ, List.any_append]
      simp
    rw [hs, ← ih]
    unfold idxN
    rw [e, foldN_1 (by omega)]
    generalize foldN (a : Int) (fun s i => if s < 0 ∧ f i = true then i else s) (-1) = s
    unfold ile
    by_cases hs0 : s < 0
    · cases hf : f a with
      | true => simp [hs0, hf]
      | false => simp [hs0, hf]
    · simp [hs0]; omega
def sqE (a1 a2 b1 b2 : Int) : Int := (a1 - b1) * (a1 - b1) + (a2 - b2) * (a2 - b2)
def alE (p1 p2 a1 a2 b1 b2 : Int) : Int := (p1 - a1) * (b1 - a1) + (p2 - a2) * (b2 - a2)
def ssqE (p1 p2 a1 a2 b1 b2 : Int) : Int := if alE p1 p2 a1 a2 b1 b2 ≤ 0 then sqE p1 p2 a1 a2 else if sqE a1 a2 b1 b2 ≤ alE p1 p2 a1 a2 b1 b2 then sqE p1 p2 b1 b2 else (crs (a1, a2) (b1, b2) (p1, p2) * crs (a1, a2) (b1, b2) (p1, p2)).tdiv (sqE a1 a2 b1 b2)
theorem near_bd {x y : Int} (h : nearB x y = true) : -1000 ≤ x ∧ x ≤ 1000 ∧ -1000 ≤ y ∧ y ≤ 1000 := by
  unfold nearB at h
  simp only [Bool.and_eq_true] at h
  have a1 := inB_true h.1; have a2 := inB_true h.2
  omega
theorem mul4 {x y : Int} (hx : -8000000 ≤ x ∧ x ≤ 8000000) (hy : -8000000 ≤ y ∧ y ≤ 8000000) : imul x y = x * y := by
  have h := mul_box hx.1 hx.2 hy.1 hy.2
  have e1 : min (min ((-8000000 : Int) * -8000000) (-8000000 * 8000000)) (min (8000000 * -8000000) (8000000 * 8000000)) = -64000000000000 := by decide
  have e2 : max (max ((-8000000 : Int) * -8000000) (-8000000 * 8000000)) (max (8000000 * -8000000) (8000000 * 8000000)) = 64000000000000 := by decide
  rw [e1, e2] at h
  exact imul_e (by omega) (by omega)
theorem mul2 {x y : Int} (hx : -2000 ≤ x ∧ x ≤ 2000) (hy : -2000 ≤ y ∧ y ≤ 2000) : imul x y = x * y ∧ -4000000 ≤ x * y ∧ x * y ≤ 4000000 := by
  refine ⟨mul4 (by omega) (by omega), ?_⟩
  have h := mul_box hx.1 hx.2 hy.1 hy.2
  generalize x * y = z at *
  have e1 : min (min ((-2000 : Int) * -2000) (-2000 * 2000)) (min (2000 * -2000) (2000 * 2000)) = -4000000 := by decide
  have e2 : max (max ((-2000 : Int) * -2000) (-2000 * 2000)) (max (2000 * -2000) (2000 * 2000)) = 4000000 := by decide
  rw [e1, e2] at h
  exact h
theorem sub_n {x y : Int} (hx : -1000 ≤ x ∧ x ≤ 1000) (hy : -1000 ≤ y ∧ y ≤ 1000) : isub x y = x - y := isub_e (by omega) (by omega)
theorem near_v {x y : Int} (h : nearB x y = true) : vB x y = true := by
  have := near_bd h
  exact vB_mk (by omega)
theorem crs_bd {a1 a2 b1 b2 c1 c2 : Int} (ha : nearB a1 a2 = true) (hb : nearB b1 b2 = true) (hc : nearB c1 c2 = true) : -8000000 ≤ crs (a1, a2) (b1, b2) (c1, c2) ∧ crs (a1, a2) (b1, b2) (c1, c2) ≤ 8000000 := by
  have := near_bd ha; have := near_bd hb; have := near_bd hc
  have m1 := mul2 (x := b1 - a1) (y := c2 - a2) (by omega) (by omega)
  have m2 := mul2 (x := b2 - a2) (y := c1 - a1) (by omega) (by omega)
  unfold crs
  dsimp only
  omega
theorem sq_w {a1 a2 b1 b2 : Int} (ha : nearB a1 a2 = true) (hb : nearB b1 b2 = true) : iadd (imul (isub a1 b1) (isub a1 b1)) (imul (isub a2 b2) (isub a2 b2)) = sqE a1 a2 b1 b2 ∧ 0 ≤ sqE a1 a2 b1 b2 ∧ sqE a1 a2 b1 b2 ≤ 8000000 := by
  have := near_bd ha; have := near_bd hb
  have m1 := mul2 (x := a1 - b1) (y := a1 - b1) (by omega) (by omega)
  have m2 := mul2 (x := a2 - b2) (y := a2 - b2) (by omega) (by omega)
  have q1 : 0 ≤ (a1 - b1) * (a1 - b1) := by rcases Int.le_total 0 (a1 - b1) with h | h; exact Int.mul_nonneg h h; exact Int.mul_nonneg_of_nonpos_of_nonpos h h
  have q2 : 0 ≤ (a2 - b2) * (a2 - b2) := by rcases Int.le_total 0 (a2 - b2) with h | h; exact Int.mul_nonneg h h; exact Int.mul_nonneg_of_nonpos_of_nonpos h h
  rw [sub_n (by omega) (by omega), sub_n (by omega) (by omega), m1.1, m2.1]
  unfold sqE
  exact ⟨iadd_e (by omega) (by omega), by omega, by omega⟩
theorem al_w {p1 p2 a1 a2 b1 b2 : Int} (hp : nearB p1 p2 = true) (ha : nearB a1 a2 = true) (hb : nearB b1 b2 = true) : iadd (imul (isub p1 a1) (isub b1 a1)) (imul (isub p2 a2) (isub b2 a2)) = alE p1 p2 a1 a2 b1 b2 := by
  have := near_bd ha; have := near_bd hb; have := near_bd hp
  have m1 := mul2 (x := p1 - a1) (y := b1 - a1) (by omega) (by omega)
  have m2 := mul2 (x := p2 - a2) (y := b2 - a2) (by omega) (by omega)
  rw [sub_n (by omega) (by omega), sub_n (x := b1) (by omega) (by omega), sub_n (x := p2) (by omega) (by omega), sub_n (x := b2) (by omega) (by omega), m1.1, m2.1]
  unfold alE
  exact iadd_e (by omega) (by omega)
theorem sqE_comm (a1 a2 b1 b2 : Int) : sqE a1 a2 b1 b2 = sqE b1 b2 a1 a2 := by unfold sqE; grind
theorem mul4b {x y : Int} (hx : -8000000 ≤ x ∧ x ≤ 8000000) (hy : -8000000 ≤ y ∧ y ≤ 8000000) : -64000000000000 ≤ x * y ∧ x * y ≤ 64000000000000 := by
  have h := mul_box hx.1 hx.2 hy.1 hy.2
  have e1 : min (min ((-8000000 : Int) * -8000000) (-8000000 * 8000000)) (min (8000000 * -8000000) (8000000 * 8000000)) = -64000000000000 := by decide
  have e2 : max (max ((-8000000 : Int) * -8000000) (-8000000 * 8000000)) (max (8000000 * -8000000) (8000000 * 8000000)) = 64000000000000 := by decide
  rw [e1, e2] at h
  exact h
theorem sqE_0 (a1 a2 b1 b2 : Int) : 0 ≤ sqE a1 a2 b1 b2 := by
  have q : ∀ x : Int, 0 ≤ x * x := fun x => by rcases Int.le_total 0 x with h | h; exact Int.mul_nonneg h h; exact Int.mul_nonneg_of_nonpos_of_nonpos h h
  have := q (a1 - b1); have := q (a2 - b2)
  unfold sqE; omega
theorem ssqE_0 (p1 p2 a1 a2 b1 b2 : Int) : 0 ≤ ssqE p1 p2 a1 a2 b1 b2 := by
  have q : ∀ x : Int, 0 ≤ x * x := fun x => by rcases Int.le_total 0 x with h | h; exact Int.mul_nonneg h h; exact Int.mul_nonneg_of_nonpos_of_nonpos h h
  unfold ssqE
  split
  · exact sqE_0 ..
  · split
    · exact sqE_0 ..
    · exact Int.tdiv_nonneg (q _) (sqE_0 ..)
def ssQ (p1 p2 a1 a2 b1 b2 : Int) : Int := if nearB p1 p2 && nearB a1 a2 && nearB b1 b2 then ssqE p1 p2 a1 a2 b1 b2 else -1
theorem ssQ_e {p1 p2 a1 a2 b1 b2 : Int} (hp : nearB p1 p2 = true) (ha : nearB a1 a2 = true) (hb : nearB b1 b2 = true) : ssQ p1 p2 a1 a2 b1 b2 = ssqE p1 p2 a1 a2 b1 b2 := by unfold ssQ; rw [hp, ha, hb]; rfl
theorem ssQ_0 {p1 p2 a1 a2 b1 b2 : Int} (h : 0 ≤ ssQ p1 p2 a1 a2 b1 b2) : nearB p1 p2 = true ∧ nearB a1 a2 = true ∧ nearB b1 b2 = true := by
  unfold ssQ at h
  cases h1 : nearB p1 p2 <;> cases h2 : nearB a1 a2 <;> cases h3 : nearB b1 b2 <;> simp [h1, h2, h3] at h ⊢
theorem vB_bd {x y : Int} (h : vB x y = true) : -10000 ≤ x ∧ x ≤ 10000 ∧ -10000 ≤ y ∧ y ≤ 10000 := by
  unfold vB at h
  simp only [Bool.and_eq_true] at h
  have a1 := inB_true h.1; have a2 := inB_true h.2
  omega
theorem sq_v {a1 a2 b1 b2 : Int} (ha : vB a1 a2 = true) (hb : vB b1 b2 = true) : iadd (imul (isub a1 b1) (isub a1 b1)) (imul (isub a2 b2) (isub a2 b2)) = sqE a1 a2 b1 b2 ∧ sqE a1 a2 b1 b2 ≤ 800000000 := by
  have := vB_bd ha; have := vB_bd hb
  have m1 := mul20 (x := a1 - b1) (y := a1 - b1) (by omega) (by omega)
  have m2 := mul20 (x := a2 - b2) (y := a2 - b2) (by omega) (by omega)
  rw [isub_e (by omega) (by omega), isub_e (by omega) (by omega), imul_e (by omega) (by omega), imul_e (by omega) (by omega)]
  unfold sqE
  exact ⟨iadd_e (by omega) (by omega), by omega⟩
def dcv (t : Int) (f : Int → Int) : Nat → Int → Int
  | 0, k => f k
  | m + 1, k => (64 - t) * dcv t f m k + t * dcv t f m (k + 1)
def p64 : Nat → Int
  | 0 => 1
  | m + 1 => p64 m * 64
theorem p64_pos : ∀ m, 1 ≤ p64 m
  | 0 => by decide
  | m + 1 => by have := p64_pos m; unfold p64; omega
theorem p64_le {m : Nat} (h : m ≤ 3) : p64 m ≤ 262144 := by
  rcases (by omega : m = 0 ∨ m = 1 ∨ m = 2 ∨ m = 3) with rfl | rfl | rfl | rfl <;> decide
theorem p64_even {m : Nat} (h : 1 ≤ m) : ∃ c, p64 m = 2 * c ∧ 1 ≤ c := by
  obtain ⟨q, rfl⟩ : ∃ q, m = q + 1 := ⟨m - 1, by omega⟩
  have := p64_pos q
  exact ⟨p64 q * 32, by show p64 q * 64 = _; omega, by omega⟩
theorem dcv_bd {t : Int} {f : Int → Int} {n lo hi : Int} (ht0 : 0 ≤ t) (ht1 : t ≤ 64) (hf : ∀ j, 0 ≤ j → j < n → lo ≤ f j ∧ f j ≤ hi) :
    ∀ (m : Nat) (k : Int), 0 ≤ k → k + m < n → lo * p64 m ≤ dcv t f m k ∧ dcv t f m k ≤ hi * p64 m
  | 0, k, h0, h1 => by
    have := hf k h0 (by omega)
    unfold dcv p64; omega
  | m + 1, k, h0, h1 => by
    obtain ⟨a1, a2⟩ := dcv_bd ht0 ht1 hf m k h0 (by omega)
    obtain ⟨b1, b2⟩ := dcv_bd ht0 ht1 hf m (k + 1) (by omega) (by omega)
    unfold dcv p64
    have e : ∀ x : Int, x * (p64 m * 64) = (64 - t) * (x * p64 m) + t * (x * p64 m) := fun x => by
      rw [← Int.add_mul, show 64 - t + t = 64 by omega, Int.mul_comm 64, Int.mul_assoc]
    rw [e lo, e hi]
    exact ⟨Int.add_le_add (Int.mul_le_mul_of_nonneg_left a1 (by omega)) (Int.mul_le_mul_of_nonneg_left b1 ht0),
      Int.add_le_add (Int.mul_le_mul_of_nonneg_left a2 (by omega)) (Int.mul_le_mul_of_nonneg_left b2 ht0)⟩
/-- the parts of a step stay small -/
theorem dcv_parts {t : Int} {f : Int → Int} {n : Int} (ht0 : 0 ≤ t) (ht1 : t ≤ 64) (hn : n ≤ 4) (hf : ∀ j, 0 ≤ j → j < n → -10000 ≤ f j ∧ f j ≤ 10000) {m : Nat} {k : Int} (h0 : 0 ≤ k) (h1 : k + m < n) :
    (-2621440000 ≤ dcv t f m k ∧ dcv t f m k ≤ 2621440000) ∧ (-167772160000 ≤ (64 - t) * dcv t f m k ∧ (64 - t) * dcv t f m k ≤ 167772160000) ∧ (-167772160000 ≤ t * dcv t f m k ∧ t * dcv t f m k ≤ 167772160000) := by
  obtain ⟨a1, a2⟩ := dcv_bd ht0 ht1 hf m k h0 h1
  have hp := p64_le (m := m) (by omega)
  have hp0 := p64_pos m
  have b1 : -2621440000 ≤ dcv t f m k := by omega
  have b2 : dcv t f m k ≤ 2621440000 := by omega
  have key : ∀ s : Int, 0 ≤ s → s ≤ 64 → -167772160000 ≤ s * dcv t f m k ∧ s * dcv t f m k ≤ 167772160000 := fun s s0 s1 => by
    have c1 := Int.mul_le_mul_of_nonneg_left b1 s0
    have c2 := Int.mul_le_mul_of_nonneg_left b2 s0
    constructor
    · refine Int.le_trans ?_ c1; omega
    · refine Int.le_trans c2 ?_; omega
  exact ⟨⟨b1, b2⟩, key _ (by omega) (by omega), key _ ht0 ht1⟩
theorem dcv_0 (f : Int → Int) : ∀ (m : Nat) (k : Int), dcv 0 f m k = f k * p64 m
  | 0, k => by unfold dcv p64; omega
  | m + 1, k => by
    show (64 - 0) * dcv 0 f m k + 0 * dcv 0 f m (k + 1) = f k * (p64 m * 64)
    rw [dcv_0 f m k]; generalize f k = x; generalize p64 m = y; grind
theorem dcv_64 (f : Int → Int) : ∀ (m : Nat) (k : Int), dcv 64 f m k = f (k + m) * p64 m
  | 0, k => by simp [dcv, p64]
  | m + 1, k => by
    show (64 - 64) * dcv 64 f m k + 64 * dcv 64 f m (k + 1) = f (k + ((m + 1 : Nat) : Int)) * (p64 m * 64)
    rw [dcv_64 f m k, dcv_64 f m (k + 1), show k + 1 + (m : Int) = k + ((m + 1 : Nat) : Int) by omega]; generalize f (k + ((m + 1 : Nat) : Int)) = x; generalize p64 m = y; grind
theorem dcv_rev (t c : Int) (f g : Int → Int) (n : Int) (hg : ∀ j, 0 ≤ j → j < n → g j = f (n - 1 - j)) : ∀ (m : Nat) (k : Int), 0 ≤ k → k + m < n → dcv (64 - t) g m k = dcv t f m (n - 1 - m - k)
  | 0, k, h0, h1 => by unfold dcv; rw [hg k h0 (by omega)]; congr 1; omega
  | m + 1, k, h0, h1 => by
    unfold dcv
    rw [dcv_rev t c f g n hg m k h0 (by omega), dcv_rev t c f g n hg m (k + 1) (by omega) (by omega)]
    rw [show 64 - (64 - t) = t by omega, show n - 1 - ((m + 1 : Nat) : Int) - k = n - 1 - m - (k + 1) by omega, show n - 1 - (m : Int) - (k + 1) + 1 = n - 1 - m - k by omega]
    omega
theorem dcv_congr {t n : Int} {f g : Int → Int} (h : ∀ j, 0 ≤ j → j < n → f j = g j) : ∀ (m : Nat) (k : Int), 0 ≤ k → k + m < n → dcv t f m k = dcv t g m k
  | 0, k, h0, h1 => h k h0 (by omega)
  | m + 1, k, h0, h1 => by unfold dcv; rw [dcv_congr h m k h0 (by omega), dcv_congr h m (k + 1) (by omega) (by omega)]
/-- the rounded value -/
def rnd (a b : Int) : Int := (2 * a + b) / (2 * b)
def cvN (n t : Int) (f : Int → Int) : Int := rnd (dcv t f (n - 1).toNat 0) (p64 (n - 1).toNat)
theorem rnd_even {a b c : Int} (hb : b = 2 * c) : rnd a b = (a + b / 2) / b := by
  unfold rnd
  subst hb
  rw [show 2 * c / 2 = c by omega, show 2 * a + 2 * c = 2 * (a + c) by omega, Int.mul_ediv_mul_of_pos _ _ (by omega : (0:Int) < 2)]
theorem rnd_1 (a : Int) : rnd a 1 = a := by unfold rnd; omega
theorem rnd_mul {x p : Int} (hp : 1 ≤ p) : rnd (x * p) p = x := by
  unfold rnd
  have : 2 * (x * p) + p = p + x * (2 * p) := by rw [Int.mul_left_comm]; omega
  rw [this, Int.add_mul_ediv_right _ _ (by omega), Int.ediv_eq_zero_of_lt (by omega) (by omega)]; omega
theorem rnd_mono {a b p : Int} (hp : 1 ≤ p) (h : a ≤ b) : rnd a p ≤ rnd b p := Int.ediv_le_ediv (by omega) (by omega)
theorem cvN_in {n t lo hi : Int} {f : Int → Int} (hn : 1 ≤ n) (ht0 : 0 ≤ t) (ht1 : t ≤ 64) (hf : ∀ j, 0 ≤ j → j < n → lo ≤ f j ∧ f j ≤ hi) : lo ≤ cvN n t f ∧ cvN n t f ≤ hi := by
  obtain ⟨a1, a2⟩ := dcv_bd ht0 ht1 hf (n - 1).toNat 0 (by omega) (by omega)
  have hp := p64_pos (n - 1).toNat
  unfold cvN
  exact ⟨by have := rnd_mono hp a1; rwa [rnd_mul hp] at this, by have := rnd_mono hp a2; rwa [rnd_mul hp] at this⟩
theorem cvN_0 {n : Int} (f : Int → Int) : cvN n 0 f = f 0 := by unfold cvN; rw [dcv_0, rnd_mul (p64_pos _)]
theorem cvN_64 {n : Int} (hn : 1 ≤ n) (f : Int → Int) : cvN n 64 f = f (n - 1) := by unfold cvN; rw [dcv_64, rnd_mul (p64_pos _)]; congr 1; omega
theorem cvN_rev {n t : Int} {f g : Int → Int} (hn : 1 ≤ n) (hg : ∀ j, 0 ≤ j → j < n → g j = f (n - 1 - j)) : cvN n (64 - t) g = cvN n t f := by
  unfold cvN; rw [dcv_rev t 0 f g n hg _ 0 (by omega) (by omega)]; congr 2; omega
/-- two control points: a line -/
theorem cvN_line {a b k : Int} (f : Int → Int) (h0 : f 0 = a) (h1 : f 1 = b) : cvN 2 (4 * k) f = a + (k * (b - a) + 8) / 16 := by
  unfold cvN
  have e : dcv (4 * k) f (2 - 1 : Int).toNat 0 = 64 * a + 4 * (k * (b - a)) := by
    show (64 - 4 * k) * f 0 + 4 * k * f (0 + 1) = _
    rw [show (0 : Int) + 1 = 1 from rfl, h0, h1, Int.sub_mul, Int.mul_sub, Int.mul_assoc, Int.mul_assoc]; omega
  rw [e, show p64 (2 - 1 : Int).toNat = 64 from rfl]
  unfold rnd
  generalize k * (b - a) = d
  omega
theorem floor_e {a b : Int} (hb : 1 ≤ b) : (a.tmod b < 0 → a.tdiv b - 1 = a / b) ∧ (0 ≤ a.tmod b → a.tdiv b = a / b) := by
  rcases Int.le_total 0 a with h | h
  · have e1 : a.tmod b = a % b := Int.tmod_eq_emod_of_nonneg h
    have e2 : a.tdiv b = a / b := Int.tdiv_eq_ediv_of_nonneg h
    have := Int.emod_nonneg a (show b ≠ 0 by omega)
    exact ⟨fun h => by omega, fun _ => e2⟩
  · obtain ⟨c, rfl⟩ : ∃ c, a = -c := ⟨-a, by omega⟩
    have hc : 0 ≤ c := by omega
    have e1 : (-c).tmod b = -(c % b) := by rw [Int.neg_tmod, Int.tmod_eq_emod_of_nonneg hc]
    have e2 : (-c).tdiv b = -(c / b) := by rw [Int.neg_tdiv, Int.tdiv_eq_ediv_of_nonneg hc]
    have m0 := Int.emod_nonneg c (show b ≠ 0 by omega)
    have m1 := Int.emod_lt_of_pos c (show 0 < b by omega)
    have m2 := Int.emod_add_mul_ediv c b
    rw [e1, e2]
    refine ⟨fun h => ?_, fun h => ?_⟩
    · refine (((Int.ediv_emod_unique (r := b - c % b) (q := -(c / b) - 1) (show 0 < b by omega)).2 ⟨?_, by omega, by omega⟩).1).symm
      rw [Int.mul_sub, Int.mul_neg]; omega
    · refine (((Int.ediv_emod_unique (r := 0) (q := -(c / b)) (show 0 < b by omega)).2 ⟨?_, by omega, by omega⟩).1).symm
      rw [Int.mul_neg]; omega
theorem tdiv_bd {a b : Int} (hb : 1 ≤ b) (h1 : -9223372036854775807 ≤ a) (h2 : a ≤ 9223372036854775807) : iquo a b = a.tdiv b ∧ (a.tmod b < 0 → isub (a.tdiv b) 1 = a.tdiv b - 1) := by
  refine ⟨iquo_e (by omega) (by omega) hb, fun _ => ?_⟩
  have : -9223372036854775807 ≤ a.tdiv b ∧ a.tdiv b ≤ 9223372036854775807 := by
    rcases Int.le_total 0 a with h | h
    · rw [Int.tdiv_eq_ediv_of_nonneg h]
      have := Int.ediv_nonneg h (show 0 ≤ b by omega)
      have := Int.ediv_le_self b h
      omega
    · obtain ⟨c, rfl⟩ : ∃ c, a = -c := ⟨-a, by omega⟩
      rw [Int.neg_tdiv, Int.tdiv_eq_ediv_of_nonneg (show 0 ≤ c by omega)]
      have := Int.ediv_nonneg (show 0 ≤ c by omega) (show 0 ≤ b by omega)
      have := Int.ediv_le_self b (show 0 ≤ c by omega)
      omega
  exact isub_e (by omega) (by omega)
theorem tmod_emod (d : Int) : (-360 < d.tmod 360 ∧ d.tmod 360 < 360) ∧ (d.tmod 360 < 0 → d.tmod 360 + 360 = d % 360) ∧ (0 ≤ d.tmod 360 → d.tmod 360 = d % 360) := by
  rcases Int.le_total 0 d with h | h
  · have := Int.tmod_eq_emod_of_nonneg (b := 360) h; omega
  · obtain ⟨c, rfl⟩ : ∃ c, d = -c := ⟨-d, by omega⟩
    have e1 : (-c).tmod 360 = -(c % 360) := by rw [Int.neg_tmod, Int.tmod_eq_emod_of_nonneg (by omega)]
    omega
theorem degW_e (d : Int) : degW d = d % 360 := by
  obtain ⟨h1, h2, h3⟩ := tmod_emod d
  unfold degW
  rw [irem_e, irem_e, iadd_e (by omega) (by omega), Int.tmod_eq_emod_of_nonneg (by omega)]
  omega
def cosF (d : Int) : Int := sinF (d % 360 + 90)
theorem sinF_bd (d : Int) : -4096 ≤ sinF d ∧ sinF d ≤ 4096 := by
  have m0 := Int.emod_nonneg d (show (360 : Int) ≠ 0 by omega)
  have m1 := Int.emod_lt_of_pos d (show (0 : Int) < 360 by omega)
  unfold sinF
  split
  · have := sinN_in (k := d % 360) (by omega) (by omega); omega
  · split
    · have := sinN_in (k := 180 - d % 360) (by omega) (by omega); omega
    · split
      · have := sinN_in (k := d % 360 - 180) (by omega) (by omega); omega
      · have := sinN_in (k := 360 - d % 360) (by omega) (by omega); omega
theorem cosF_bd (d : Int) : -4096 ≤ cosF d ∧ cosF d ≤ 4096 := sinF_bd _
def rnd4 (n : Int) : Int := (n + 2048) / 4096
theorem rnd_4 (n : Int) : rnd n 4096 = rnd4 n := by unfold rnd rnd4; omega
theorem mul40 {x y a : Int} (h0 : 0 ≤ a) (hx : -a ≤ x ∧ x ≤ a) (hy : -4096 ≤ y ∧ y ≤ 4096) : -(a * 4096) ≤ x * y ∧ x * y ≤ a * 4096 := by
  have h := mul_box hx.1 hx.2 hy.1 hy.2
  have e1 : (-a) * (-4096 : Int) = a * 4096 := by omega
  have e2 : (-a) * (4096 : Int) = -(a * 4096) := by omega
  have e3 : a * (-4096 : Int) = -(a * 4096) := by omega
  rw [e1, e2, e3] at h
  omega
def rotX (x y d : Int) : Int := rnd4 (x * cosF d - y * sinF d)
def rotY (x y d : Int) : Int := rnd4 (x * sinF d + y * cosF d)
theorem rot_0 (x d : Int) : rotX x 0 d = rnd4 (x * cosF d) ∧ rotY x 0 d = rnd4 (x * sinF d) := by
  unfold rotX rotY; simp
theorem rnd4_bd {x s a : Int} (h0 : 0 ≤ a) (hx : -a ≤ x ∧ x ≤ a) (hs : -4096 ≤ s ∧ s ≤ 4096) : -a ≤ rnd4 (x * s) ∧ rnd4 (x * s) ≤ a := by
  have := mul40 h0 hx hs
  unfold rnd4
  omega
def g_impl_Cosine : List AV → Option Sg
  | [.s (.int d)] => some ⟨True, [.s (.int (cosF d))]⟩
  | _ => none
def sig_impl_Cosine : FuncId → List AV → Option Sg := sigL [(68, g_impl_Degrees), (104, g_impl_Sine)]
def xs_impl_Cosine : XS := ⟨xsigL [], ysigL []⟩
theorem sig_impl_Cosine_ok : SigOK sig_impl_Cosine := sigL_cons F_impl_Degrees (sigL_cons F_impl_Sine sigL_nil)
theorem xs_impl_Cosine_ok : XSigOK xs_impl_Cosine := ⟨xsigL_nil, ysigL_nil⟩
theorem V_impl_Cosine (d : Int) : ((true = true) ∧ ((True) ∧ True) ∧ (true = true) ∧ ((True) ∧ ((True)) ∧ (True) ∧ ((True)) ∧ (True) ∧ True) ∧ (((sinF (iadd (degW d) (90 : Int))) : Int) = (cosF d)) ∧ True) = ev sig_impl_Cosine xs_impl_Cosine Tryd.f105.ntmps (fun b => []) (codeOf Tryd.f105) 0 (initS [.s (.int d)]) (retK Tryd.f105.results.toList [.s (.int (cosF d))]) := by kernel_rfl
set_option maxHeartbeats 400000 in
theorem F_impl_Cosine : FunOK 105 g_impl_Cosine := by
  refine fun_F (by kernel_rfl) Tryd.func105 rfl (by kernel_rfl) sig_impl_Cosine_ok xs_impl_Cosine_ok ?_
  intro avs sg h hn hl
  unfold g_impl_Cosine at h
  split at h
  · rename_i d
    injection h with h; subst h
    refine ⟨by kernel_rfl, fun b => [], Eq.mp (V_impl_Cosine d) ?_⟩
    simp only [true_and, and_true, implies_true, and_self, forall_const, true_implies, lenA, lenL, SV.lenOK, Cont.lenOK] at hn hl ⊢
    try simp only [ilt_t, ilt_f, ile_t, ile_f, ieq_t, ieq_f, bnot_e, band_e, bite_and, bite_or, NLt_e, NLe_e, NNe_e, NIs_e, imax_e, imin_e, irem_e, Bool.not_eq_true', Bool.not_eq_false', Bool.and_eq_true, Bool.or_eq_true, Bool.or_eq_false_iff, Bool.and_eq_false_iff, Cont.pts.injEq, Cont.ints.injEq, Cont.bools.injEq, Cont.ptss.injEq, Cont.intss.injEq, Cont.boolss.injEq, true_and, and_true, implies_true]
    rw [degW_e]
    unfold cosF
    rw [iadd_e (by omega) (by omega)]
  · cases h
def g_impl_floor : List AV → Option Sg
  | [.s (.int a), .s (.int b)] => some ⟨1 ≤ b ∧ -9223372036854775807 ≤ a ∧ a ≤ 9223372036854775807, [.s (.int (a / b))]⟩
  | _ => none
def sig_impl_floor : FuncId → List AV → Option Sg := sigL []
def xs_impl_floor : XS := ⟨xsigL [], ysigL []⟩
theorem sig_impl_floor_ok : SigOK sig_impl_floor := sigL_nil
theorem xs_impl_floor_ok : XSigOK xs_impl_floor := ⟨xsigL_nil, ysigL_nil⟩
theorem V_impl_floor (a : Int) (b : Int) : ((true = true) ∧ ((True) ∧ True) ∧ (true = true) ∧ ((True) ∧ (True) ∧ (NNe b 0) ∧ (True) ∧ True) ∧ (true = true) ∧ ((True) ∧ (True) ∧ (NNe b 0) ∧ (True) ∧ True) ∧ ((ilt (irem a b) (0 : Int)) = true → ((true = true) ∧ ((True) ∧ (True) ∧ (True) ∧ True) ∧ (true = true) ∧ ((True) ∧ (True) ∧ True) ∧ (((isub (iquo a b) (1 : Int)) : Int) = (a / b)) ∧ True)) ∧ ((ilt (irem a b) (0 : Int)) = false → ((true = true) ∧ ((True) ∧ (True) ∧ True) ∧ (((iquo a b) : Int) = (a / b)) ∧ True))) = ev sig_impl_floor xs_impl_floor Tryd.f125.ntmps (fun b => []) (codeOf Tryd.f125) 0 (initS [.s (.int a), .s (.int b)]) (retK Tryd.f125.results.toList [.s (.int (a / b))]) := by kernel_rfl
set_option maxHeartbeats 400000 in
theorem F_impl_floor : FunOK 125 g_impl_floor := by
  refine fun_F (by kernel_rfl) Tryd.func125 rfl (by kernel_rfl) sig_impl_floor_ok xs_impl_floor_ok ?_
  intro avs sg h hn hl
  unfold g_impl_floor at h
  split at h
  · rename_i a b
    injection h with h; subst h
    refine ⟨by kernel_rfl, fun b => [], Eq.mp (V_impl_floor a b) ?_⟩
    simp only [true_and, and_true, implies_true, and_self, forall_const, true_implies, lenA, lenL, SV.lenOK, Cont.lenOK] at hn hl ⊢
    obtain ⟨n1, n2, n3⟩ := hn
    obtain ⟨q1, q2⟩ := tdiv_bd n1 n2 n3
    obtain ⟨f1, f2⟩ := floor_e (a := a) n1
    simp only [ilt_t, ilt_f, ile_t, ile_f, ieq_t, ieq_f, bnot_e, band_e, bite_and, bite_or, NLt_e, NLe_e, NNe_e, NIs_e, imax_e, imin_e, irem_e, Bool.not_eq_true', Bool.not_eq_false', Bool.and_eq_true, Bool.or_eq_true, Bool.or_eq_false_iff, Bool.and_eq_false_iff, Cont.pts.injEq, Cont.ints.injEq, Cont.bools.injEq, Cont.ptss.injEq, Cont.intss.injEq, Cont.boolss.injEq, true_and, and_true, implies_true]
    refine ⟨by omega, by omega, fun h => ?_, fun h => ?_⟩
    · rw [q1, q2 h, f1 h]
    · rw [q1, f2 h]
  · cases h
def g_impl_nearest : List AV → Option Sg
  | [.s (.int a), .s (.int b)] => some ⟨1 ≤ b ∧ b ≤ 1000000 ∧ -1000000000000 ≤ a ∧ a ≤ 1000000000000, [.s (.int (rnd a b))]⟩
  | _ => none
def sig_impl_nearest : FuncId → List AV → Option Sg := sigL [(125, g_impl_floor)]
def xs_impl_nearest : XS := ⟨xsigL [], ysigL []⟩
theorem sig_impl_nearest_ok : SigOK sig_impl_nearest := sigL_cons F_impl_floor sigL_nil
theorem xs_impl_nearest_ok : XSigOK xs_impl_nearest := ⟨xsigL_nil, ysigL_nil⟩
theorem V_impl_nearest (a : Int) (b : Int) : ((true = true) ∧ ((True) ∧ True) ∧ (true = true) ∧ ((True) ∧ (True) ∧ (True) ∧ (True) ∧ (True) ∧ (True) ∧ ((1 ≤ (imul (2 : Int) b) ∧ -9223372036854775807 ≤ (iadd (imul (2 : Int) a) b) ∧ (iadd (imul (2 : Int) a) b) ≤ 9223372036854775807)) ∧ (True) ∧ True) ∧ ((((iadd (imul (2 : Int) a) b) / (imul (2 : Int) b)) : Int) = (rnd a b)) ∧ True) = ev sig_impl_nearest xs_impl_nearest Tryd.f106.ntmps (fun b => []) (codeOf Tryd.f106) 0 (initS [.s (.int a), .s (.int b)]) (retK Tryd.f106.results.toList [.s (.int (rnd a b))]) := by kernel_rfl
set_option maxHeartbeats 400000 in
theorem F_impl_nearest : FunOK 106 g_impl_nearest := by
  refine fun_F (by kernel_rfl) Tryd.func106 rfl (by kernel_rfl) sig_impl_nearest_ok xs_impl_nearest_ok ?_
  intro avs sg h hn hl
  unfold g_impl_nearest at h
  split at h
  · rename_i a b
    injection h with h; subst h
    refine ⟨by kernel_rfl, fun b => [], Eq.mp (V_impl_nearest a b) ?_⟩
    simp only [true_and, and_true, implies_true, and_self, forall_const, true_implies, lenA, lenL, SV.lenOK, Cont.lenOK] at hn hl ⊢
    rw [imul_e (by omega) (by omega), imul_e (by omega) (by omega), iadd_e (by omega) (by omega)]
    exact ⟨by omega, rfl⟩
  · cases h
def g_impl_RotatePoint : List AV → Option Sg
  | [.agg [.int p1, .int p2], .s (.int d)] => some ⟨vB p1 p2 = true, [.agg [.int (rotX p1 p2 d), .int (rotY p1 p2 d)]]⟩
  | _ => none
def sig_impl_RotatePoint : FuncId → List AV → Option Sg := sigL [(84, g_impl_PointValid), (104, g_impl_Sine), (105, g_impl_Cosine), (106, g_impl_nearest)]
def xs_impl_RotatePoint : XS := ⟨xsigL [], ysigL []⟩
theorem sig_impl_RotatePoint_ok : SigOK sig_impl_RotatePoint := sigL_cons F_impl_PointValid (sigL_cons F_impl_Sine (sigL_cons F_impl_Cosine (sigL_cons F_impl_nearest sigL_nil)))
theorem xs_impl_RotatePoint_ok : XSigOK xs_impl_RotatePoint := ⟨xsigL_nil, ysigL_nil⟩
theorem V_impl_RotatePoint (p1 : Int) (p2 : Int) (d : Int) : ((true = true) ∧ ((True) ∧ (True) ∧ True) ∧ (true = true) ∧ ((True) ∧ ((True)) ∧ (True) ∧ True) ∧ ((bnot (vB p1 p2)) = true → ((true = true) ∧ ((True) ∧ True) ∧ (True) ∧ ((((0 : Int) : Int) = (rotX p1 p2 d)) ∧ (((0 : Int) : Int) = (rotY p1 p2 d)) ∧ True) ∧ True)) ∧ ((bnot (vB p1 p2)) = false → ((true = true) ∧ ((True) ∧ ((True)) ∧ (True) ∧ ((True)) ∧ (True) ∧ (True) ∧ True) ∧ (true = true) ∧ ((True) ∧ (True) ∧ (True) ∧ (True) ∧ (True) ∧ (True) ∧ (True) ∧ (True) ∧ (True) ∧ ((1 ≤ (4096 : Int) ∧ (4096 : Int) ≤ 1000000 ∧ -1000000000000 ≤ (isub (imul p1 (cosF d)) (imul p2 (sinF d))) ∧ (isub (imul p1 (cosF d)) (imul p2 (sinF d))) ≤ 1000000000000)) ∧ (True) ∧ (True) ∧ (True) ∧ (True) ∧ (True) ∧ (True) ∧ (True) ∧ (True) ∧ (True) ∧ ((1 ≤ (4096 : Int) ∧ (4096 : Int) ≤ 1000000 ∧ -1000000000000 ≤ (iadd (imul p1 (sinF d)) (imul p2 (cosF d))) ∧ (iadd (imul p1 (sinF d)) (imul p2 (cosF d))) ≤ 1000000000000)) ∧ (True) ∧ True) ∧ (True) ∧ ((((rnd (isub (imul p1 (cosF d)) (imul p2 (sinF d))) (4096 : Int)) : Int) = (rotX p1 p2 d)) ∧ (((rnd (iadd (imul p1 (sinF d)) (imul p2 (cosF d))) (4096 : Int)) : Int) = (rotY p1 p2 d)) ∧ True) ∧ True))) = ev sig_impl_RotatePoint xs_impl_RotatePoint Tryd.f85.ntmps (fun b => []) (codeOf Tryd.f85) 0 (initS [.agg [.int p1, .int p2], .s (.int d)]) (retK Tryd.f85.results.toList [.agg [.int (rotX p1 p2 d), .int (rotY p1 p2 d)]]) := by kernel_rfl
set_option maxHeartbeats 400000 in
theorem F_impl_RotatePoint : FunOK 85 g_impl_RotatePoint := by
  refine fun_F (by kernel_rfl) Tryd.func85 rfl (by kernel_rfl) sig_impl_RotatePoint_ok xs_impl_RotatePoint_ok ?_
  intro avs sg h hn hl
  unfold g_impl_RotatePoint at h
  split at h
  · rename_i p1 p2 d
    injection h with h; subst h
    refine ⟨by kernel_rfl, fun b => [], Eq.mp (V_impl_RotatePoint p1 p2 d) ?_⟩
    simp only [true_and, and_true, implies_true, and_self, forall_const, true_implies, lenA, lenL, SV.lenOK, Cont.lenOK] at hn hl ⊢
    have c := cosF_bd d; have s := sinF_bd d
    have hv := vB_bd hn
    have q1 := mul40 (x := p1) (y := cosF d) (a := 10000) (by omega) (by omega) c
    have q2 := mul40 (x := p2) (y := sinF d) (a := 10000) (by omega) (by omega) s
    have q3 := mul40 (x := p1) (y := sinF d) (a := 10000) (by omega) (by omega) s
    have q4 := mul40 (x := p2) (y := cosF d) (a := 10000) (by omega) (by omega) c
    simp only [ilt_t, ilt_f, ile_t, ile_f, ieq_t, ieq_f, bnot_e, band_e, bite_and, bite_or, NLt_e, NLe_e, NNe_e, NIs_e, imax_e, imin_e, irem_e, Bool.not_eq_true', Bool.not_eq_false', Bool.and_eq_true, Bool.or_eq_true, Bool.or_eq_false_iff, Bool.and_eq_false_iff, Cont.pts.injEq, Cont.ints.injEq, Cont.bools.injEq, Cont.ptss.injEq, Cont.intss.injEq, Cont.boolss.injEq, true_and, and_true, implies_true]
    refine ⟨fun h => (by rw [hn] at h; cases h), fun _ => ?_⟩
    rw [imul_e (a := p1) (b := cosF d) (by omega) (by omega), imul_e (a := p2) (b := sinF d) (by omega) (by omega), imul_e (a := p1) (b := sinF d) (by omega) (by omega), imul_e (a := p2) (b := cosF d) (by omega) (by omega), isub_e (by omega) (by omega), iadd_e (by omega) (by omega)]
    exact ⟨⟨⟨by omega, by omega, by omega, by omega⟩, by omega, by omega, by omega, by omega⟩, by rw [rnd_4]; rfl, by rw [rnd_4]; rfl⟩
  · cases h
def arcB (c1 c2 r f t s : Int) : Bool := vB c1 c2 && inB r 1 500 && inB f (-360) 360 && inB t f 360 && inB s 1 360
def arcP (c1 c2 r d : Int) : Pt := (c1 + rotX r 0 d, c2 + rotY r 0 d)
def arcK (c1 c2 r f s k : Int) : List Pt := (List.range k.toNat).map fun (j : Nat) => arcP c1 c2 r (f + j * s)
def arcL (c1 c2 r f t s : Int) : List Pt := if arcB c1 c2 r f t s then arcK c1 c2 r f s ((t - f) / s + 1) else []
theorem arcK_len {c1 c2 r f s k : Int} (h : 0 ≤ k) : ilen (arcK c1 c2 r f s k) = k := by unfold ilen arcK; simp; omega
theorem arcK_s {c1 c2 r f s k : Int} (h : 0 ≤ k) : iapp (arcK c1 c2 r f s k) [arcP c1 c2 r (f + k * s)] = arcK c1 c2 r f s (k + 1) := by
  unfold iapp arcK
  rw [show (k + 1).toNat = k.toNat + 1 by omega, List.range_succ, List.map_append]
  simp [Int.toNat_of_nonneg h]
theorem arcP_bd {c1 c2 r d : Int} (hv : vB c1 c2 = true) (hr : inB r 1 500 = true) : (-10500 ≤ (arcP c1 c2 r d).1 ∧ (arcP c1 c2 r d).1 ≤ 10500) ∧ (-10500 ≤ (arcP c1 c2 r d).2 ∧ (arcP c1 c2 r d).2 ≤ 10500) := by
  have hb := vB_bd hv; have hr := inB_true hr
  have h1 := rnd4_bd (x := r) (s := cosF d) (a := 500) (by omega) (by omega) (cosF_bd d)
  have h2 := rnd4_bd (x := r) (s := sinF d) (a := 500) (by omega) (by omega) (sinF_bd d)
  obtain ⟨e1, e2⟩ := rot_0 r d
  unfold arcP
  simp only [e1, e2]
  omega
def g_impl_ArcPoints : List AV → Option Sg
  | [.agg [.int c1, .int c2], .s (.int r), .s (.int f), .s (.int t), .s (.int s)] => some ⟨True, [.nrow 62 (.pts (arcL c1 c2 r f t s))]⟩
  | _ => none
def sig_impl_ArcPoints : FuncId → List AV → Option Sg := sigL [(84, g_impl_PointValid), (67, g_impl_within), (85, g_impl_RotatePoint)]
def xs_impl_ArcPoints : XS := ⟨xsigL [], ysigL []⟩
theorem sig_impl_ArcPoints_ok : SigOK sig_impl_ArcPoints := sigL_cons F_impl_PointValid (sigL_cons F_impl_within (sigL_cons F_impl_RotatePoint sigL_nil))
theorem xs_impl_ArcPoints_ok : XSigOK xs_impl_ArcPoints := ⟨xsigL_nil, ysigL_nil⟩
theorem V_impl_ArcPoints (c1 : Int) (c2 : Int) (r : Int) (f : Int) (t : Int) (s : Int) : ((true = true) ∧ ((True) ∧ (True) ∧ True) ∧ (true = true) ∧ ((True) ∧ ((True)) ∧ (True) ∧ (True) ∧ (NIs (bnot (vB c1 c2)) false → True) ∧ (NIs (bnot (vB c1 c2)) false → (True)) ∧ (NIs (bnot (vB c1 c2)) false → True) ∧ (True) ∧ (True) ∧ (NIs (bite (bnot (vB c1 c2)) true (bnot (inB r (1 : Int) (500 : Int)))) false → True) ∧ (NIs (bite (bnot (vB c1 c2)) true (bnot (inB r (1 : Int) (500 : Int)))) false → (True)) ∧ (NIs (bite (bnot (vB c1 c2)) true (bnot (inB r (1 : Int) (500 : Int)))) false → True) ∧ (True) ∧ (True) ∧ (NIs (bite (bite (bnot (vB c1 c2)) true (bnot (inB r (1 : Int) (500 : Int)))) true (bnot (inB f (-360 : Int) (360 : Int)))) false → True) ∧ (NIs (bite (bite (bnot (vB c1 c2)) true (bnot (inB r (1 : Int) (500 : Int)))) true (bnot (inB f (-360 : Int) (360 : Int)))) false → True) ∧ (NIs (bite (bite (bnot (vB c1 c2)) true (bnot (inB r (1 : Int) (500 : Int)))) true (bnot (inB f (-360 : Int) (360 : Int)))) false → (True)) ∧ (NIs (bite (bite (bnot (vB c1 c2)) true (bnot (inB r (1 : Int) (500 : Int)))) true (bnot (inB f (-360 : Int) (360 : Int)))) false → True) ∧ (True) ∧ (True) ∧ (NIs (bite (bite (bite (bnot (vB c1 c2)) true (bnot (inB r (1 : Int) (500 : Int)))) true (bnot (inB f (-360 : Int) (360 : Int)))) true (bnot (inB t f (360 : Int)))) false → True) ∧ (NIs (bite (bite (bite (bnot (vB c1 c2)) true (bnot (inB r (1 : Int) (500 : Int)))) true (bnot (inB f (-360 : Int) (360 : Int)))) true (bnot (inB t f (360 : Int)))) false → (True)) ∧ (NIs (bite (bite (bite (bnot (vB c1 c2)) true (bnot (inB r (1 : Int) (500 : Int)))) true (bnot (inB f (-360 : Int) (360 : Int)))) true (bnot (inB t f (360 : Int)))) false → True) ∧ (True) ∧ True) ∧ ((bite (bite (bite (bite (bnot (vB c1 c2)) true (bnot (inB r (1 : Int) (500 : Int)))) true (bnot (inB f (-360 : Int) (360 : Int)))) true (bnot (inB t f (360 : Int)))) true (bnot (inB s (1 : Int) (360 : Int)))) = true → ((true = true) ∧ ((True) ∧ True) ∧ ((true = true) ∧ ((Cont.pts []) = (Cont.pts (arcL c1 c2 r f t s)))) ∧ True)) ∧ ((bite (bite (bite (bite (bnot (vB c1 c2)) true (bnot (inB r (1 : Int) (500 : Int)))) true (bnot (inB f (-360 : Int) (360 : Int)))) true (bnot (inB t f (360 : Int)))) true (bnot (inB s (1 : Int) (360 : Int)))) = false → ((true = true) ∧ ((True) ∧ True) ∧ (true = true) ∧ ((True) ∧ (True) ∧ True) ∧ ∃ (I1 : List GV → Prop) (μ1 : List GV → Nat), (((true = true) ∧ (((f : Int) = f) ∧ ((f : Int) = f) ∧ (true = true) ∧ (((c1 : Int) = c1) ∧ ((c2 : Int) = c2) ∧ True) ∧ (((vB c1 c2) : Bool) = (vB c1 c2)) ∧ (((bnot (vB c1 c2)) : Bool) = (bnot (vB c1 c2))) ∧ (((bnot (vB c1 c2)) : Bool) = (bnot (vB c1 c2))) ∧ (((bite (bnot (vB c1 c2)) true (bnot (inB r (1 : Int) (500 : Int)))) : Bool) = (bite (bnot (vB c1 c2)) true (bnot (inB r (1 : Int) (500 : Int))))) ∧ (((bite (bnot (vB c1 c2)) true (bnot (inB r (1 : Int) (500 : Int)))) : Bool) = (bite (bnot (vB c1 c2)) true (bnot (inB r (1 : Int) (500 : Int))))) ∧ (((bite (bite (bnot (vB c1 c2)) true (bnot (inB r (1 : Int) (500 : Int)))) true (bnot (inB f (-360 : Int) (360 : Int)))) : Bool) = (bite (bite (bnot (vB c1 c2)) true (bnot (inB r (1 : Int) (500 : Int)))) true (bnot (inB f (-360 : Int) (360 : Int))))) ∧ (((bite (bite (bnot (vB c1 c2)) true (bnot (inB r (1 : Int) (500 : Int)))) true (bnot (inB f (-360 : Int) (360 : Int)))) : Bool) = (bite (bite (bnot (vB c1 c2)) true (bnot (inB r (1 : Int) (500 : Int)))) true (bnot (inB f (-360 : Int) (360 : Int))))) ∧ (((bite (bite (bite (bnot (vB c1 c2)) true (bnot (inB r (1 : Int) (500 : Int)))) true (bnot (inB f (-360 : Int) (360 : Int)))) true (bnot (inB t f (360 : Int)))) : Bool) = (bite (bite (bite (bnot (vB c1 c2)) true (bnot (inB r (1 : Int) (500 : Int)))) true (bnot (inB f (-360 : Int) (360 : Int)))) true (bnot (inB t f (360 : Int))))) ∧ (((bite (bite (bite (bnot (vB c1 c2)) true (bnot (inB r (1 : Int) (500 : Int)))) true (bnot (inB f (-360 : Int) (360 : Int)))) true (bnot (inB t f (360 : Int)))) : Bool) = (bite (bite (bite (bnot (vB c1 c2)) true (bnot (inB r (1 : Int) (500 : Int)))) true (bnot (inB f (-360 : Int) (360 : Int)))) true (bnot (inB t f (360 : Int))))) ∧ (((bite (bite (bite (bite (bnot (vB c1 c2)) true (bnot (inB r (1 : Int) (500 : Int)))) true (bnot (inB f (-360 : Int) (360 : Int)))) true (bnot (inB t f (360 : Int)))) true (bnot (inB s (1 : Int) (360 : Int)))) : Bool) = (bite (bite (bite (bite (bnot (vB c1 c2)) true (bnot (inB r (1 : Int) (500 : Int)))) true (bnot (inB f (-360 : Int) (360 : Int)))) true (bnot (inB t f (360 : Int)))) true (bnot (inB s (1 : Int) (360 : Int))))) ∧ (true = true) ∧ (true = true) ∧ (((c1 : Int) = c1) ∧ ((c2 : Int) = c2) ∧ True) ∧ ((r : Int) = r) ∧ ((f : Int) = f) ∧ ((t : Int) = t) ∧ ((s : Int) = s) ∧ True) ∧ (((true = true) ∧ ((Cont.pts []) = (Cont.pts []))) ∧ (((c1 : Int) = c1) ∧ ((c2 : Int) = c2) ∧ True) ∧ ((true = true) ∧ ((Cont.pts []) = (Cont.pts []))) ∧ True)) ∧ (([GK.int, GK.pts] : List GK) = ([GK.int, GK.pts] : List GK)) ∧ I1 [GV.int f, GV.pts []]) ∧ (∀ i1_0 : Int, ∀ l1_1 : List Pt, I1 [GV.int i1_0, GV.pts l1_1] → ((true = true) ∧ ((True) ∧ (True) ∧ (True) ∧ True) ∧ ((ile i1_0 t) = true → ((true = true) ∧ ((True) ∧ (True) ∧ (True) ∧ ((vB r (0 : Int) = true)) ∧ (True) ∧ True) ∧ (True) ∧ (true = true) ∧ ((True) ∧ (True) ∧ (True) ∧ (True) ∧ (True) ∧ (True) ∧ (True) ∧ (True) ∧ (True) ∧ (True) ∧ (True) ∧ (True) ∧ (True) ∧ True) ∧ (NLe (ilen l1_1) 1000000000 ∧ NLe (ilen [((iadd c1 (rotX r (0 : Int) i1_0)), (iadd c2 (rotY r (0 : Int) i1_0)))]) 1000000000) ∧ (True) ∧ (true = true) ∧ ((True) ∧ (True) ∧ (True) ∧ (True) ∧ True) ∧ ((true = true) ∧ ((((iadd i1_0 s) : Int) = (iadd i1_0 s)) ∧ ((f : Int) = f) ∧ (true = true) ∧ (((c1 : Int) = c1) ∧ ((c2 : Int) = c2) ∧ True) ∧ (((vB c1 c2) : Bool) = (vB c1 c2)) ∧ (((bnot (vB c1 c2)) : Bool) = (bnot (vB c1 c2))) ∧ (((bnot (vB c1 c2)) : Bool) = (bnot (vB c1 c2))) ∧ (((bite (bnot (vB c1 c2)) true (bnot (inB r (1 : Int) (500 : Int)))) : Bool) = (bite (bnot (vB c1 c2)) true (bnot (inB r (1 : Int) (500 : Int))))) ∧ (((bite (bnot (vB c1 c2)) true (bnot (inB r (1 : Int) (500 : Int)))) : Bool) = (bite (bnot (vB c1 c2)) true (bnot (inB r (1 : Int) (500 : Int))))) ∧ (((bite (bite (bnot (vB c1 c2)) true (bnot (inB r (1 : Int) (500 : Int)))) true (bnot (inB f (-360 : Int) (360 : Int)))) : Bool) = (bite (bite (bnot (vB c1 c2)) true (bnot (inB r (1 : Int) (500 : Int)))) true (bnot (inB f (-360 : Int) (360 : Int))))) ∧ (((bite (bite (bnot (vB c1 c2)) true (bnot (inB r (1 : Int) (500 : Int)))) true (bnot (inB f (-360 : Int) (360 : Int)))) : Bool) = (bite (bite (bnot (vB c1 c2)) true (bnot (inB r (1 : Int) (500 : Int)))) true (bnot (inB f (-360 : Int) (360 : Int))))) ∧ (((bite (bite (bite (bnot (vB c1 c2)) true (bnot (inB r (1 : Int) (500 : Int)))) true (bnot (inB f (-360 : Int) (360 : Int)))) true (bnot (inB t f (360 : Int)))) : Bool) = (bite (bite (bite (bnot (vB c1 c2)) true (bnot (inB r (1 : Int) (500 : Int)))) true (bnot (inB f (-360 : Int) (360 : Int)))) true (bnot (inB t f (360 : Int))))) ∧ (((bite (bite (bite (bnot (vB c1 c2)) true (bnot (inB r (1 : Int) (500 : Int)))) true (bnot (inB f (-360 : Int) (360 : Int)))) true (bnot (inB t f (360 : Int)))) : Bool) = (bite (bite (bite (bnot (vB c1 c2)) true (bnot (inB r (1 : Int) (500 : Int)))) true (bnot (inB f (-360 : Int) (360 : Int)))) true (bnot (inB t f (360 : Int))))) ∧ (((bite (bite (bite (bite (bnot (vB c1 c2)) true (bnot (inB r (1 : Int) (500 : Int)))) true (bnot (inB f (-360 : Int) (360 : Int)))) true (bnot (inB t f (360 : Int)))) true (bnot (inB s (1 : Int) (360 : Int)))) : Bool) = (bite (bite (bite (bite (bnot (vB c1 c2)) true (bnot (inB r (1 : Int) (500 : Int)))) true (bnot (inB f (-360 : Int) (360 : Int)))) true (bnot (inB t f (360 : Int)))) true (bnot (inB s (1 : Int) (360 : Int))))) ∧ (true = true) ∧ (true = true) ∧ (((c1 : Int) = c1) ∧ ((c2 : Int) = c2) ∧ True) ∧ ((r : Int) = r) ∧ ((f : Int) = f) ∧ ((t : Int) = t) ∧ ((s : Int) = s) ∧ True) ∧ (((true = true) ∧ ((Cont.pts (iapp l1_1 [((iadd c1 (rotX r (0 : Int) i1_0)), (iadd c2 (rotY r (0 : Int) i1_0)))])) = (Cont.pts (iapp l1_1 [((iadd c1 (rotX r (0 : Int) i1_0)), (iadd c2 (rotY r (0 : Int) i1_0)))])))) ∧ (((c1 : Int) = c1) ∧ ((c2 : Int) = c2) ∧ True) ∧ ((true = true) ∧ ((Cont.pts []) = (Cont.pts []))) ∧ True)) ∧ ((([GK.int, GK.pts] : List GK) = ([GK.int, GK.pts] : List GK)) ∧ I1 [GV.int (iadd i1_0 s), GV.pts (iapp l1_1 [((iadd c1 (rotX r (0 : Int) i1_0)), (iadd c2 (rotY r (0 : Int) i1_0)))])] ∧ μ1 [GV.int (iadd i1_0 s), GV.pts (iapp l1_1 [((iadd c1 (rotX r (0 : Int) i1_0)), (iadd c2 (rotY r (0 : Int) i1_0)))])] < μ1 [GV.int i1_0, GV.pts l1_1]))) ∧ ((ile i1_0 t) = false → ((true = true) ∧ ((True) ∧ (True) ∧ True) ∧ ((true = true) ∧ ((Cont.pts l1_1) = (Cont.pts (arcL c1 c2 r f t s)))) ∧ True))))))) = ev sig_impl_ArcPoints xs_impl_ArcPoints Tryd.f36.ntmps (fun b => if b == 0 then [.v 12, .b 11] else []) (codeOf Tryd.f36) 0 (initS [.agg [.int c1, .int c2], .s (.int r), .s (.int f), .s (.int t), .s (.int s)]) (retK Tryd.f36.results.toList [.nrow 62 (.pts (arcL c1 c2 r f t s))]) := by kernel_rfl
set_option maxHeartbeats 400000 in
theorem F_impl_ArcPoints : FunOK 36 g_impl_ArcPoints := by
  refine fun_F (by kernel_rfl) Tryd.func36 rfl (by kernel_rfl) sig_impl_ArcPoints_ok xs_impl_ArcPoints_ok ?_
  intro avs sg h hn hl
  unfold g_impl_ArcPoints at h
  split at h
  · rename_i c1 c2 r f t s
    injection h with h; subst h
    refine ⟨by kernel_rfl, fun b => if b == 0 then [.v 12, .b 11] else [], Eq.mp (V_impl_ArcPoints c1 c2 r f t s) ?_⟩
    simp only [true_and, and_true, implies_true, and_self, forall_const, true_implies, lenA, lenL, SV.lenOK, Cont.lenOK] at hn hl ⊢
    simp only [ilt_t, ilt_f, ile_t, ile_f, ieq_t, ieq_f, bnot_e, band_e, bite_and, bite_or, NLt_e, NLe_e, NNe_e, NIs_e, imax_e, imin_e, irem_e, Bool.not_eq_true', Bool.not_eq_false', Bool.and_eq_true, Bool.or_eq_true, Bool.or_eq_false_iff, Bool.and_eq_false_iff, Cont.pts.injEq, Cont.ints.injEq, Cont.bools.injEq, Cont.ptss.injEq, Cont.intss.injEq, Cont.boolss.injEq, true_and, and_true, implies_true]
    refine ⟨fun h => by unfold arcL arcB; rcases h with (((h | h) | h) | h) | h <;> simp [h], fun h => ?_⟩
    obtain ⟨⟨⟨⟨h1, h2⟩, h3⟩, h4⟩, h5⟩ := h
    have hB : arcB c1 c2 r f t s = true := by unfold arcB; rw [h1, h2, h3, h4, h5]; rfl
    have b2 := inB_true h2; have b3 := inB_true h3; have b4 := inB_true h4; have b5 := inB_true h5
    have hL : arcL c1 c2 r f t s = arcK c1 c2 r f s ((t - f) / s + 1) := by unfold arcL; rw [if_pos hB]
    rw [hL]
    have hq0 : 0 ≤ (t - f) / s := Int.ediv_nonneg (by omega) (by omega)
    have hq1 : (t - f) / s ≤ t - f := Int.ediv_le_self _ (by omega)
    refine ⟨fun | [.int d, .pts o] => ∃ k, 0 ≤ k ∧ k ≤ (t - f) / s + 1 ∧ d = f + k * s ∧ d ≤ 720 ∧ o = arcK c1 c2 r f s k | _ => False, fun | .int d :: _ => (721 - d).toNat | _ => 0, ⟨0, by omega, by omega, by omega, by omega, rfl⟩, ?_⟩
    rintro d o ⟨k, k0, k1, rfl, kd, rfl⟩
    refine ⟨fun hd => ?_, fun hd => ?_⟩
    · have hk : k ≤ (t - f) / s := (Int.le_ediv_iff_mul_le (a := k) (b := t - f) (c := s) (by omega)).2 (by omega)
      have hks : 0 ≤ k * s := Int.mul_nonneg k0 (by omega)
      obtain ⟨p1, p2⟩ := arcP_bd (d := f + k * s) h1 h2
      have v := vB_bd h1
      have q1 := rnd4_bd (x := r) (s := cosF (f + k * s)) (a := 500) (by omega) (by omega) (cosF_bd _)
      have q2 := rnd4_bd (x := r) (s := sinF (f + k * s)) (a := 500) (by omega) (by omega) (sinF_bd _)
      obtain ⟨e1, e2⟩ := rot_0 r (f + k * s)
      have ep : (iadd c1 (rotX r 0 (f + k * s)), iadd c2 (rotY r 0 (f + k * s))) = arcP c1 c2 r (f + k * s) := by
        rw [iadd_e (by omega) (by omega), iadd_e (by omega) (by omega)]; rfl
      rw [ep, arcK_len k0, iadd_e (by omega) (by omega)]
      exact ⟨vB_mk (by omega), ⟨by omega, by rw [ilen_one]; omega⟩, ⟨k + 1, by omega, by omega, by rw [Int.add_mul]; omega, by omega, arcK_s k0⟩, by show (721 - (f + k * s + s)).toNat < (721 - (f + k * s)).toNat; omega⟩
    · have hk : ¬ k ≤ (t - f) / s := fun hk => by
        have := (Int.le_ediv_iff_mul_le (a := k) (b := t - f) (c := s) (by omega)).1 hk
        omega
      rw [show k = (t - f) / s + 1 by omega]
  · cases h
def g_spec_l1In : List AV → Option Sg
  | [.s (.int n), .s (.int lo), .s (.int hi)] => some ⟨True, [.s (.bool (inB n lo hi))]⟩
  | _ => none
def sig_spec_l1In : FuncId → List AV → Option Sg := sigL []
def xs_spec_l1In : XS := ⟨xsigL [], ysigL []⟩
theorem sig_spec_l1In_ok : SigOK sig_spec_l1In := sigL_nil
theorem xs_spec_l1In_ok : XSigOK xs_spec_l1In := ⟨xsigL_nil, ysigL_nil⟩
theorem V_spec_l1In (n : Int) (lo : Int) (hi : Int) : ((true = true) ∧ ((True) ∧ True) ∧ (true = true) ∧ ((True) ∧ (True) ∧ (True) ∧ (True) ∧ (NIs (ile lo n) true → True) ∧ (NIs (ile lo n) true → True) ∧ (NIs (ile lo n) true → True) ∧ (True) ∧ (True) ∧ True) ∧ (((bite (ile lo n) (ile n hi) false) : Bool) = (inB n lo hi)) ∧ True) = ev sig_spec_l1In xs_spec_l1In Tryd.f82.ntmps (fun b => []) (codeOf Tryd.f82) 0 (initS [.s (.int n), .s (.int lo), .s (.int hi)]) (retK Tryd.f82.results.toList [.s (.bool (inB n lo hi))]) := by kernel_rfl
set_option maxHeartbeats 400000 in
theorem F_spec_l1In : FunOK 82 g_spec_l1In := by
  refine fun_F (by kernel_rfl) Tryd.func82 rfl (by kernel_rfl) sig_spec_l1In_ok xs_spec_l1In_ok ?_
  intro avs sg h hn hl
  unfold g_spec_l1In at h
  split at h
  · rename_i n lo hi
    injection h with h; subst h
    refine ⟨by kernel_rfl, fun b => [], Eq.mp (V_spec_l1In n lo hi) ?_⟩
    simp only [true_and, and_true, implies_true, and_self, forall_const, true_implies, lenA, lenL, SV.lenOK, Cont.lenOK] at hn hl ⊢
    simp only [bite_and, inB_eq]
  · cases h
def g_spec_PointValid : List AV → Option Sg
  | [.agg [.int p1, .int p2]] => some ⟨True, [.s (.bool (vB p1 p2))]⟩
  | _ => none
def sig_spec_PointValid : FuncId → List AV → Option Sg := sigL [(82, g_spec_l1In)]
def xs_spec_PointValid : XS := ⟨xsigL [], ysigL []⟩
theorem sig_spec_PointValid_ok : SigOK sig_spec_PointValid := sigL_cons F_spec_l1In sigL_nil
theorem xs_spec_PointValid_ok : XSigOK xs_spec_PointValid := ⟨xsigL_nil, ysigL_nil⟩
theorem V_spec_PointValid (p1 : Int) (p2 : Int) : ((true = true) ∧ ((True) ∧ (True) ∧ True) ∧ (true = true) ∧ ((True) ∧ (True) ∧ ((True)) ∧ (True) ∧ (NIs (inB p1 (-10000 : Int) (10000 : Int)) true → True) ∧ (NIs (inB p1 (-10000 : Int) (10000 : Int)) true → True) ∧ (NIs (inB p1 (-10000 : Int) (10000 : Int)) true → (True)) ∧ (True) ∧ (True) ∧ True) ∧ (((bite (inB p1 (-10000 : Int) (10000 : Int)) (inB p2 (-10000 : Int) (10000 : Int)) false) : Bool) = (vB p1 p2)) ∧ True) = ev sig_spec_PointValid xs_spec_PointValid Tryd.f81.ntmps (fun b => []) (codeOf Tryd.f81) 0 (initS [.agg [.int p1, .int p2]]) (retK Tryd.f81.results.toList [.s (.bool (vB p1 p2))]) := by kernel_rfl
set_option maxHeartbeats 400000 in
theorem F_spec_PointValid : FunOK 81 g_spec_PointValid := by
  refine fun_F (by kernel_rfl) Tryd.func81 rfl (by kernel_rfl) sig_spec_PointValid_ok xs_spec_PointValid_ok ?_
  intro avs sg h hn hl
  unfold g_spec_PointValid at h
  split at h
  · rename_i p1 p2
    injection h with h; subst h
    refine ⟨by kernel_rfl, fun b => [], Eq.mp (V_spec_PointValid p1 p2) ?_⟩
    simp only [true_and, and_true, implies_true, and_self, forall_const, true_implies, lenA, lenL, SV.lenOK, Cont.lenOK] at hn hl ⊢
    simp only [bite_and, vB]
  · cases h
def g_spec_Degrees : List AV → Option Sg
  | [.s (.int d)] => some ⟨True, [.s (.int (d % 360))]⟩
  | _ => none
def sig_spec_Degrees : FuncId → List AV → Option Sg := sigL []
def xs_spec_Degrees : XS := ⟨xsigL [], ysigL []⟩
theorem sig_spec_Degrees_ok : SigOK sig_spec_Degrees := sigL_nil
theorem xs_spec_Degrees_ok : XSigOK xs_spec_Degrees := ⟨xsigL_nil, ysigL_nil⟩
theorem V_spec_Degrees (d : Int) : ((true = true) ∧ ((True) ∧ True) ∧ (true = true) ∧ ((True) ∧ (NNe (360 : Int) 0) ∧ (True) ∧ True) ∧ (true = true) ∧ ((True) ∧ (True) ∧ True) ∧ ((ilt (irem d (360 : Int)) (0 : Int)) = true → ((true = true) ∧ ((True) ∧ (True) ∧ (True) ∧ True) ∧ (true = true) ∧ ((True) ∧ (True) ∧ True) ∧ (((iadd (irem d (360 : Int)) (360 : Int)) : Int) = (d % 360)) ∧ True)) ∧ ((ilt (irem d (360 : Int)) (0 : Int)) = false → ((true = true) ∧ ((True) ∧ (True) ∧ True) ∧ (((irem d (360 : Int)) : Int) = (d % 360)) ∧ True))) = ev sig_spec_Degrees xs_spec_Degrees Tryd.f120.ntmps (fun b => []) (codeOf Tryd.f120) 0 (initS [.s (.int d)]) (retK Tryd.f120.results.toList [.s (.int (d % 360))]) := by kernel_rfl
set_option maxHeartbeats 400000 in
theorem F_spec_Degrees : FunOK 120 g_spec_Degrees := by
  refine fun_F (by kernel_rfl) Tryd.func120 rfl (by kernel_rfl) sig_spec_Degrees_ok xs_spec_Degrees_ok ?_
  intro avs sg h hn hl
  unfold g_spec_Degrees at h
  split at h
  · rename_i d
    injection h with h; subst h
    refine ⟨by kernel_rfl, fun b => [], Eq.mp (V_spec_Degrees d) ?_⟩
    simp only [true_and, and_true, implies_true, and_self, forall_const, true_implies, lenA, lenL, SV.lenOK, Cont.lenOK] at hn hl ⊢
    simp only [ilt_t, ilt_f, ile_t, ile_f, ieq_t, ieq_f, bnot_e, band_e, bite_and, bite_or, NLt_e, NLe_e, NNe_e, NIs_e, imax_e, imin_e, irem_e, Bool.not_eq_true', Bool.not_eq_false', Bool.and_eq_true, Bool.or_eq_true, Bool.or_eq_false_iff, Bool.and_eq_false_iff, Cont.pts.injEq, Cont.ints.injEq, Cont.bools.injEq, Cont.ptss.injEq, Cont.intss.injEq, Cont.boolss.injEq, true_and, and_true, implies_true]
    obtain ⟨h1, h2, h3⟩ := tmod_emod d
    refine ⟨by omega, fun h => ?_, fun h => ?_⟩
    · rw [iadd_e (by omega) (by omega)]; exact h2 h
    · exact h3 h
  · cases h
def g_spec_Cosine : List AV → Option Sg
  | [.s (.int d)] => some ⟨True, [.s (.int (cosF d))]⟩
  | _ => none
def sig_spec_Cosine : FuncId → List AV → Option Sg := sigL [(120, g_spec_Degrees), (101, g_spec_Sine)]
def xs_spec_Cosine : XS := ⟨xsigL [], ysigL []⟩
theorem sig_spec_Cosine_ok : SigOK sig_spec_Cosine := sigL_cons F_spec_Degrees (sigL_cons F_spec_Sine sigL_nil)
theorem xs_spec_Cosine_ok : XSigOK xs_spec_Cosine := ⟨xsigL_nil, ysigL_nil⟩
theorem V_spec_Cosine (d : Int) : ((true = true) ∧ ((True) ∧ True) ∧ (true = true) ∧ ((True) ∧ ((True)) ∧ (True) ∧ ((True)) ∧ (True) ∧ True) ∧ (((sinF (iadd (d % 360) (90 : Int))) : Int) = (cosF d)) ∧ True) = ev sig_spec_Cosine xs_spec_Cosine Tryd.f102.ntmps (fun b => []) (codeOf Tryd.f102) 0 (initS [.s (.int d)]) (retK Tryd.f102.results.toList [.s (.int (cosF d))]) := by kernel_rfl
set_option maxHeartbeats 400000 in
theorem F_spec_Cosine : FunOK 102 g_spec_Cosine := by
  refine fun_F (by kernel_rfl) Tryd.func102 rfl (by kernel_rfl) sig_spec_Cosine_ok xs_spec_Cosine_ok ?_
  intro avs sg h hn hl
  unfold g_spec_Cosine at h
  split at h
  · rename_i d
    injection h with h; subst h
    refine ⟨by kernel_rfl, fun b => [], Eq.mp (V_spec_Cosine d) ?_⟩
    simp only [true_and, and_true, implies_true, and_self, forall_const, true_implies, lenA, lenL, SV.lenOK, Cont.lenOK] at hn hl ⊢
    try simp only [ilt_t, ilt_f, ile_t, ile_f, ieq_t, ieq_f, bnot_e, band_e, bite_and, bite_or, NLt_e, NLe_e, NNe_e, NIs_e, imax_e, imin_e, irem_e, Bool.not_eq_true', Bool.not_eq_false', Bool.and_eq_true, Bool.or_eq_true, Bool.or_eq_false_iff, Bool.and_eq_false_iff, Cont.pts.injEq, Cont.ints.injEq, Cont.bools.injEq, Cont.ptss.injEq, Cont.intss.injEq, Cont.boolss.injEq, true_and, and_true, implies_true]
    unfold cosF
    rw [iadd_e (by omega) (by omega)]
  · cases h
def g_spec_l1Floor : List AV → Option Sg
  | [.s (.int a), .s (.int b)] => some ⟨1 ≤ b ∧ -9223372036854775807 ≤ a ∧ a ≤ 9223372036854775807, [.s (.int (a / b))]⟩
  | _ => none
def sig_spec_l1Floor : FuncId → List AV → Option Sg := sigL []
def xs_spec_l1Floor : XS := ⟨xsigL [], ysigL []⟩
theorem sig_spec_l1Floor_ok : SigOK sig_spec_l1Floor := sigL_nil
theorem xs_spec_l1Floor_ok : XSigOK xs_spec_l1Floor := ⟨xsigL_nil, ysigL_nil⟩
theorem V_spec_l1Floor (a : Int) (b : Int) : ((true = true) ∧ ((True) ∧ True) ∧ (true = true) ∧ ((True) ∧ (True) ∧ (NNe b 0) ∧ (True) ∧ True) ∧ (true = true) ∧ ((True) ∧ (True) ∧ (NNe b 0) ∧ (True) ∧ True) ∧ ((ilt (irem a b) (0 : Int)) = true → ((true = true) ∧ ((True) ∧ (True) ∧ (True) ∧ True) ∧ (true = true) ∧ ((True) ∧ (True) ∧ True) ∧ (((isub (iquo a b) (1 : Int)) : Int) = (a / b)) ∧ True)) ∧ ((ilt (irem a b) (0 : Int)) = false → ((true = true) ∧ ((True) ∧ (True) ∧ True) ∧ (((iquo a b) : Int) = (a / b)) ∧ True))) = ev sig_spec_l1Floor xs_spec_l1Floor Tryd.f122.ntmps (fun b => []) (codeOf Tryd.f122) 0 (initS [.s (.int a), .s (.int b)]) (retK Tryd.f122.results.toList [.s (.int (a / b))]) := by kernel_rfl
set_option maxHeartbeats 400000 in
theorem F_spec_l1Floor : FunOK 122 g_spec_l1Floor := by
  refine fun_F (by kernel_rfl) Tryd.func122 rfl (by kernel_rfl) sig_spec_l1Floor_ok xs_spec_l1Floor_ok ?_
  intro avs sg h hn hl
  unfold g_spec_l1Floor at h
  split at h
  · rename_i a b
    injection h with h; subst h
    refine ⟨by kernel_rfl, fun b => [], Eq.mp (V_spec_l1Floor a b) ?_⟩
    simp only [true_and, and_true, implies_true, and_self, forall_const, true_implies, lenA, lenL, SV.lenOK, Cont.lenOK] at hn hl ⊢
    obtain ⟨n1, n2, n3⟩ := hn
    obtain ⟨q1, q2⟩ := tdiv_bd n1 n2 n3
    obtain ⟨f1, f2⟩ := floor_e (a := a) n1
    simp only [ilt_t, ilt_f, ile_t, ile_f, ieq_t, ieq_f, bnot_e, band_e, bite_and, bite_or, NLt_e, NLe_e, NNe_e, NIs_e, imax_e, imin_e, irem_e, Bool.not_eq_true', Bool.not_eq_false', Bool.and_eq_true, Bool.or_eq_true, Bool.or_eq_false_iff, Bool.and_eq_false_iff, Cont.pts.injEq, Cont.ints.injEq, Cont.bools.injEq, Cont.ptss.injEq, Cont.intss.injEq, Cont.boolss.injEq, true_and, and_true, implies_true]
    refine ⟨by omega, by omega, fun h => ?_, fun h => ?_⟩
    · rw [q1, q2 h, f1 h]
    · rw [q1, f2 h]
  · cases h
def g_spec_l1Round : List AV → Option Sg
  | [.s (.int a), .s (.int b)] => some ⟨1 ≤ b ∧ b ≤ 1000000 ∧ -1000000000000 ≤ a ∧ a ≤ 1000000000000, [.s (.int ((a + b / 2) / b))]⟩
  | _ => none
def sig_spec_l1Round : FuncId → List AV → Option Sg := sigL [(122, g_spec_l1Floor)]
def xs_spec_l1Round : XS := ⟨xsigL [], ysigL []⟩
theorem sig_spec_l1Round_ok : SigOK sig_spec_l1Round := sigL_cons F_spec_l1Floor sigL_nil
theorem xs_spec_l1Round_ok : XSigOK xs_spec_l1Round := ⟨xsigL_nil, ysigL_nil⟩
theorem V_spec_l1Round (a : Int) (b : Int) : ((true = true) ∧ ((True) ∧ True) ∧ (true = true) ∧ ((True) ∧ (True) ∧ (NNe (2 : Int) 0) ∧ (True) ∧ (True) ∧ ((1 ≤ b ∧ -9223372036854775807 ≤ (iadd a (iquo b (2 : Int))) ∧ (iadd a (iquo b (2 : Int))) ≤ 9223372036854775807)) ∧ (True) ∧ True) ∧ ((((iadd a (iquo b (2 : Int))) / b) : Int) = ((a + b / 2) / b)) ∧ True) = ev sig_spec_l1Round xs_spec_l1Round Tryd.f103.ntmps (fun b => []) (codeOf Tryd.f103) 0 (initS [.s (.int a), .s (.int b)]) (retK Tryd.f103.results.toList [.s (.int ((a + b / 2) / b))]) := by kernel_rfl
set_option maxHeartbeats 400000 in
theorem F_spec_l1Round : FunOK 103 g_spec_l1Round := by
  refine fun_F (by kernel_rfl) Tryd.func103 rfl (by kernel_rfl) sig_spec_l1Round_ok xs_spec_l1Round_ok ?_
  intro avs sg h hn hl
  unfold g_spec_l1Round at h
  split at h
  · rename_i a b
    injection h with h; subst h
    refine ⟨by kernel_rfl, fun b => [], Eq.mp (V_spec_l1Round a b) ?_⟩
    simp only [true_and, and_true, implies_true, and_self, forall_const, true_implies, lenA, lenL, SV.lenOK, Cont.lenOK] at hn hl ⊢
    simp only [ilt_t, ilt_f, ile_t, ile_f, ieq_t, ieq_f, bnot_e, band_e, bite_and, bite_or, NLt_e, NLe_e, NNe_e, NIs_e, imax_e, imin_e, irem_e, Bool.not_eq_true', Bool.not_eq_false', Bool.and_eq_true, Bool.or_eq_true, Bool.or_eq_false_iff, Bool.and_eq_false_iff, Cont.pts.injEq, Cont.ints.injEq, Cont.bools.injEq, Cont.ptss.injEq, Cont.intss.injEq, Cont.boolss.injEq, true_and, and_true, implies_true]
    have e : iquo b 2 = b / 2 := by rw [iquo_e (by omega) (by omega) (by omega), Int.tdiv_eq_ediv_of_nonneg (by omega)]
    rw [e, iadd_e (by omega) (by omega)]
    exact ⟨by omega, rfl⟩
  · cases h
def g_spec_l2Turn : List AV → Option Sg
  | [.agg [.int p1, .int p2], .s (.int d)] => some ⟨vB p1 p2 = true, [.agg [.int (rotX p1 p2 d), .int (rotY p1 p2 d)]]⟩
  | _ => none
def sig_spec_l2Turn : FuncId → List AV → Option Sg := sigL [(101, g_spec_Sine), (102, g_spec_Cosine), (103, g_spec_l1Round)]
def xs_spec_l2Turn : XS := ⟨xsigL [], ysigL []⟩
theorem sig_spec_l2Turn_ok : SigOK sig_spec_l2Turn := sigL_cons F_spec_Sine (sigL_cons F_spec_Cosine (sigL_cons F_spec_l1Round sigL_nil))
theorem xs_spec_l2Turn_ok : XSigOK xs_spec_l2Turn := ⟨xsigL_nil, ysigL_nil⟩
theorem V_spec_l2Turn (p1 : Int) (p2 : Int) (d : Int) : ((true = true) ∧ ((True) ∧ (True) ∧ True) ∧ (true = true) ∧ ((True) ∧ ((True)) ∧ (True) ∧ True) ∧ (true = true) ∧ ((True) ∧ ((True)) ∧ (True) ∧ True) ∧ (true = true) ∧ ((True) ∧ (True) ∧ (True) ∧ (True) ∧ (True) ∧ (True) ∧ (True) ∧ (True) ∧ (True) ∧ ((1 ≤ (4096 : Int) ∧ (4096 : Int) ≤ 1000000 ∧ -1000000000000 ≤ (isub (imul p1 (cosF d)) (imul p2 (sinF d))) ∧ (isub (imul p1 (cosF d)) (imul p2 (sinF d))) ≤ 1000000000000)) ∧ (True) ∧ (True) ∧ (True) ∧ (True) ∧ (True) ∧ (True) ∧ (True) ∧ (True) ∧ (True) ∧ ((1 ≤ (4096 : Int) ∧ (4096 : Int) ≤ 1000000 ∧ -1000000000000 ≤ (iadd (imul p1 (sinF d)) (imul p2 (cosF d))) ∧ (iadd (imul p1 (sinF d)) (imul p2 (cosF d))) ≤ 1000000000000)) ∧ (True) ∧ True) ∧ (True) ∧ ((((((isub (imul p1 (cosF d)) (imul p2 (sinF d))) + (4096 : Int) / 2) / (4096 : Int)) : Int) = (rotX p1 p2 d)) ∧ (((((iadd (imul p1 (sinF d)) (imul p2 (cosF d))) + (4096 : Int) / 2) / (4096 : Int)) : Int) = (rotY p1 p2 d)) ∧ True) ∧ True) = ev sig_spec_l2Turn xs_spec_l2Turn Tryd.f83.ntmps (fun b => []) (codeOf Tryd.f83) 0 (initS [.agg [.int p1, .int p2], .s (.int d)]) (retK Tryd.f83.results.toList [.agg [.int (rotX p1 p2 d), .int (rotY p1 p2 d)]]) := by kernel_rfl
set_option maxHeartbeats 400000 in
theorem F_spec_l2Turn : FunOK 83 g_spec_l2Turn := by
  refine fun_F (by kernel_rfl) Tryd.func83 rfl (by kernel_rfl) sig_spec_l2Turn_ok xs_spec_l2Turn_ok ?_
  intro avs sg h hn hl
  unfold g_spec_l2Turn at h
  split at h
  · rename_i p1 p2 d
    injection h with h; subst h
    refine ⟨by kernel_rfl, fun b => [], Eq.mp (V_spec_l2Turn p1 p2 d) ?_⟩
    simp only [true_and, and_true, implies_true, and_self, forall_const, true_implies, lenA, lenL, SV.lenOK, Cont.lenOK] at hn hl ⊢
    have c := cosF_bd d; have s := sinF_bd d
    have hv := vB_bd hn
    have q1 := mul40 (x := p1) (y := cosF d) (a := 10000) (by omega) (by omega) c
    have q2 := mul40 (x := p2) (y := sinF d) (a := 10000) (by omega) (by omega) s
    have q3 := mul40 (x := p1) (y := sinF d) (a := 10000) (by omega) (by omega) s
    have q4 := mul40 (x := p2) (y := cosF d) (a := 10000) (by omega) (by omega) c
    try simp only [ilt_t, ilt_f, ile_t, ile_f, ieq_t, ieq_f, bnot_e, band_e, bite_and, bite_or, NLt_e, NLe_e, NNe_e, NIs_e, imax_e, imin_e, irem_e, Bool.not_eq_true', Bool.not_eq_false', Bool.and_eq_true, Bool.or_eq_true, Bool.or_eq_false_iff, Bool.and_eq_false_iff, Cont.pts.injEq, Cont.ints.injEq, Cont.bools.injEq, Cont.ptss.injEq, Cont.intss.injEq, Cont.boolss.injEq, true_and, and_true, implies_true]
    rw [imul_e (a := p1) (b := cosF d) (by omega) (by omega), imul_e (a := p2) (b := sinF d) (by omega) (by omega), imul_e (a := p1) (b := sinF d) (by omega) (by omega), imul_e (a := p2) (b := cosF d) (by omega) (by omega), isub_e (by omega) (by omega), iadd_e (by omega) (by omega)]
    exact ⟨⟨⟨by omega, by omega, by omega, by omega⟩, by omega, by omega, by omega, by omega⟩, rfl, rfl⟩
  · cases h
def g_spec_ArcPoints : List AV → Option Sg
  | [.agg [.int c1, .int c2], .s (.int r), .s (.int f), .s (.int t), .s (.int s)] => some ⟨True, [.nrow 62 (.pts (arcL c1 c2 r f t s))]⟩
  | _ => none
def sig_spec_ArcPoints : FuncId → List AV → Option Sg := sigL [(81, g_spec_PointValid), (82, g_spec_l1In), (83, g_spec_l2Turn)]
def xs_spec_ArcPoints : XS := ⟨xsigL [], ysigL []⟩
theorem sig_spec_ArcPoints_ok : SigOK sig_spec_ArcPoints := sigL_cons F_spec_PointValid (sigL_cons F_spec_l1In (sigL_cons F_spec_l2Turn sigL_nil))
theorem xs_spec_ArcPoints_ok : XSigOK xs_spec_ArcPoints := ⟨xsigL_nil, ysigL_nil⟩
theorem V_spec_ArcPoints (c1 : Int) (c2 : Int) (r : Int) (f : Int) (t : Int) (s : Int) : ((true = true) ∧ ((True) ∧ (True) ∧ True) ∧ (true = true) ∧ ((True) ∧ (True) ∧ True) ∧ (true = true) ∧ ((True) ∧ ((True)) ∧ (True) ∧ (True) ∧ (NIs (bnot (vB c1 c2)) false → True) ∧ (NIs (bnot (vB c1 c2)) false → (True)) ∧ (NIs (bnot (vB c1 c2)) false → True) ∧ (True) ∧ (True) ∧ (NIs (bite (bnot (vB c1 c2)) true (bnot (inB r (1 : Int) (500 : Int)))) false → True) ∧ (NIs (bite (bnot (vB c1 c2)) true (bnot (inB r (1 : Int) (500 : Int)))) false → (True)) ∧ (NIs (bite (bnot (vB c1 c2)) true (bnot (inB r (1 : Int) (500 : Int)))) false → True) ∧ (True) ∧ (True) ∧ (NIs (bite (bite (bnot (vB c1 c2)) true (bnot (inB r (1 : Int) (500 : Int)))) true (bnot (inB f (-360 : Int) (360 : Int)))) false → True) ∧ (NIs (bite (bite (bnot (vB c1 c2)) true (bnot (inB r (1 : Int) (500 : Int)))) true (bnot (inB f (-360 : Int) (360 : Int)))) false → True) ∧ (NIs (bite (bite (bnot (vB c1 c2)) true (bnot (inB r (1 : Int) (500 : Int)))) true (bnot (inB f (-360 : Int) (360 : Int)))) false → (True)) ∧ (NIs (bite (bite (bnot (vB c1 c2)) true (bnot (inB r (1 : Int) (500 : Int)))) true (bnot (inB f (-360 : Int) (360 : Int)))) false → True) ∧ (True) ∧ (True) ∧ (NIs (bite (bite (bite (bnot (vB c1 c2)) true (bnot (inB r (1 : Int) (500 : Int)))) true (bnot (inB f (-360 : Int) (360 : Int)))) true (bnot (inB t f (360 : Int)))) false → True) ∧ (NIs (bite (bite (bite (bnot (vB c1 c2)) true (bnot (inB r (1 : Int) (500 : Int)))) true (bnot (inB f (-360 : Int) (360 : Int)))) true (bnot (inB t f (360 : Int)))) false → (True)) ∧ (NIs (bite (bite (bite (bnot (vB c1 c2)) true (bnot (inB r (1 : Int) (500 : Int)))) true (bnot (inB f (-360 : Int) (360 : Int)))) true (bnot (inB t f (360 : Int)))) false → True) ∧ (True) ∧ True) ∧ ((bite (bite (bite (bite (bnot (vB c1 c2)) true (bnot (inB r (1 : Int) (500 : Int)))) true (bnot (inB f (-360 : Int) (360 : Int)))) true (bnot (inB t f (360 : Int)))) true (bnot (inB s (1 : Int) (360 : Int)))) = true → ((true = true) ∧ ((True) ∧ (True) ∧ True) ∧ ((true = true) ∧ ((Cont.pts []) = (Cont.pts (arcL c1 c2 r f t s)))) ∧ True)) ∧ ((bite (bite (bite (bite (bnot (vB c1 c2)) true (bnot (inB r (1 : Int) (500 : Int)))) true (bnot (inB f (-360 : Int) (360 : Int)))) true (bnot (inB t f (360 : Int)))) true (bnot (inB s (1 : Int) (360 : Int)))) = false → ((true = true) ∧ ((True) ∧ (True) ∧ True) ∧ ∃ (I1 : List GV → Prop) (μ1 : List GV → Nat), (((true = true) ∧ (((f : Int) = f) ∧ ((f : Int) = f) ∧ (((c1 : Int) = c1) ∧ ((c2 : Int) = c2) ∧ True) ∧ (((vB c1 c2) : Bool) = (vB c1 c2)) ∧ (((bnot (vB c1 c2)) : Bool) = (bnot (vB c1 c2))) ∧ (((bnot (vB c1 c2)) : Bool) = (bnot (vB c1 c2))) ∧ (((bite (bnot (vB c1 c2)) true (bnot (inB r (1 : Int) (500 : Int)))) : Bool) = (bite (bnot (vB c1 c2)) true (bnot (inB r (1 : Int) (500 : Int))))) ∧ (((bite (bnot (vB c1 c2)) true (bnot (inB r (1 : Int) (500 : Int)))) : Bool) = (bite (bnot (vB c1 c2)) true (bnot (inB r (1 : Int) (500 : Int))))) ∧ (((bite (bite (bnot (vB c1 c2)) true (bnot (inB r (1 : Int) (500 : Int)))) true (bnot (inB f (-360 : Int) (360 : Int)))) : Bool) = (bite (bite (bnot (vB c1 c2)) true (bnot (inB r (1 : Int) (500 : Int)))) true (bnot (inB f (-360 : Int) (360 : Int))))) ∧ (((bite (bite (bnot (vB c1 c2)) true (bnot (inB r (1 : Int) (500 : Int)))) true (bnot (inB f (-360 : Int) (360 : Int)))) : Bool) = (bite (bite (bnot (vB c1 c2)) true (bnot (inB r (1 : Int) (500 : Int)))) true (bnot (inB f (-360 : Int) (360 : Int))))) ∧ (((bite (bite (bite (bnot (vB c1 c2)) true (bnot (inB r (1 : Int) (500 : Int)))) true (bnot (inB f (-360 : Int) (360 : Int)))) true (bnot (inB t f (360 : Int)))) : Bool) = (bite (bite (bite (bnot (vB c1 c2)) true (bnot (inB r (1 : Int) (500 : Int)))) true (bnot (inB f (-360 : Int) (360 : Int)))) true (bnot (inB t f (360 : Int))))) ∧ (((bite (bite (bite (bnot (vB c1 c2)) true (bnot (inB r (1 : Int) (500 : Int)))) true (bnot (inB f (-360 : Int) (360 : Int)))) true (bnot (inB t f (360 : Int)))) : Bool) = (bite (bite (bite (bnot (vB c1 c2)) true (bnot (inB r (1 : Int) (500 : Int)))) true (bnot (inB f (-360 : Int) (360 : Int)))) true (bnot (inB t f (360 : Int))))) ∧ (((bite (bite (bite (bite (bnot (vB c1 c2)) true (bnot (inB r (1 : Int) (500 : Int)))) true (bnot (inB f (-360 : Int) (360 : Int)))) true (bnot (inB t f (360 : Int)))) true (bnot (inB s (1 : Int) (360 : Int)))) : Bool) = (bite (bite (bite (bite (bnot (vB c1 c2)) true (bnot (inB r (1 : Int) (500 : Int)))) true (bnot (inB f (-360 : Int) (360 : Int)))) true (bnot (inB t f (360 : Int)))) true (bnot (inB s (1 : Int) (360 : Int))))) ∧ (true = true) ∧ (true = true) ∧ (true = true) ∧ (((c1 : Int) = c1) ∧ ((c2 : Int) = c2) ∧ True) ∧ ((r : Int) = r) ∧ ((f : Int) = f) ∧ ((t : Int) = t) ∧ ((s : Int) = s) ∧ True) ∧ (((true = true) ∧ ((Cont.pts []) = (Cont.pts []))) ∧ (((c1 : Int) = c1) ∧ ((c2 : Int) = c2) ∧ True) ∧ ((true = true) ∧ ((Cont.pts []) = (Cont.pts []))) ∧ True)) ∧ (([GK.int, GK.pts] : List GK) = ([GK.int, GK.pts] : List GK)) ∧ I1 [GV.int f, GV.pts []]) ∧ (∀ i1_0 : Int, ∀ l1_1 : List Pt, I1 [GV.int i1_0, GV.pts l1_1] → ((true = true) ∧ ((True) ∧ (True) ∧ (True) ∧ True) ∧ ((ile i1_0 t) = true → ((true = true) ∧ ((True) ∧ (True) ∧ (True) ∧ ((vB r (0 : Int) = true)) ∧ (True) ∧ True) ∧ (True) ∧ (true = true) ∧ ((True) ∧ (True) ∧ (True) ∧ (True) ∧ (True) ∧ (True) ∧ (True) ∧ (True) ∧ (True) ∧ (True) ∧ (True) ∧ (True) ∧ (True) ∧ True) ∧ (NLe (ilen l1_1) 1000000000 ∧ NLe (ilen [((iadd c1 (rotX r (0 : Int) i1_0)), (iadd c2 (rotY r (0 : Int) i1_0)))]) 1000000000) ∧ (True) ∧ (true = true) ∧ ((True) ∧ (True) ∧ (True) ∧ (True) ∧ True) ∧ ((true = true) ∧ ((((iadd i1_0 s) : Int) = (iadd i1_0 s)) ∧ ((f : Int) = f) ∧ (((c1 : Int) = c1) ∧ ((c2 : Int) = c2) ∧ True) ∧ (((vB c1 c2) : Bool) = (vB c1 c2)) ∧ (((bnot (vB c1 c2)) : Bool) = (bnot (vB c1 c2))) ∧ (((bnot (vB c1 c2)) : Bool) = (bnot (vB c1 c2))) ∧ (((bite (bnot (vB c1 c2)) true (bnot (inB r (1 : Int) (500 : Int)))) : Bool) = (bite (bnot (vB c1 c2)) true (bnot (inB r (1 : Int) (500 : Int))))) ∧ (((bite (bnot (vB c1 c2)) true (bnot (inB r (1 : Int) (500 : Int)))) : Bool) = (bite (bnot (vB c1 c2)) true (bnot (inB r (1 : Int) (500 : Int))))) ∧ (((bite (bite (bnot (vB c1 c2)) true (bnot (inB r (1 : Int) (500 : Int)))) true (bnot (inB f (-360 : Int) (360 : Int)))) : Bool) = (bite (bite (bnot (vB c1 c2)) true (bnot (inB r (1 : Int) (500 : Int)))) true (bnot (inB f (-360 : Int) (360 : Int))))) ∧ (((bite (bite (bnot (vB c1 c2)) true (bnot (inB r (1 : Int) (500 : Int)))) true (bnot (inB f (-360 : Int) (360 : Int)))) : Bool) = (bite (bite (bnot (vB c1 c2)) true (bnot (inB r (1 : Int) (500 : Int)))) true (bnot (inB f (-360 : Int) (360 : Int))))) ∧ (((bite (bite (bite (bnot (vB c1 c2)) true (bnot (inB r (1 : Int) (500 : Int)))) true (bnot (inB f (-360 : Int) (360 : Int)))) true (bnot (inB t f (360 : Int)))) : Bool) = (bite (bite (bite (bnot (vB c1 c2)) true (bnot (inB r (1 : Int) (500 : Int)))) true (bnot (inB f (-360 : Int) (360 : Int)))) true (bnot (inB t f (360 : Int))))) ∧ (((bite (bite (bite (bnot (vB c1 c2)) true (bnot (inB r (1 : Int) (500 : Int)))) true (bnot (inB f (-360 : Int) (360 : Int)))) true (bnot (inB t f (360 : Int)))) : Bool) = (bite (bite (bite (bnot (vB c1 c2)) true (bnot (inB r (1 : Int) (500 : Int)))) true (bnot (inB f (-360 : Int) (360 : Int)))) true (bnot (inB t f (360 : Int))))) ∧ (((bite (bite (bite (bite (bnot (vB c1 c2)) true (bnot (inB r (1 : Int) (500 : Int)))) true (bnot (inB f (-360 : Int) (360 : Int)))) true (bnot (inB t f (360 : Int)))) true (bnot (inB s (1 : Int) (360 : Int)))) : Bool) = (bite (bite (bite (bite (bnot (vB c1 c2)) true (bnot (inB r (1 : Int) (500 : Int)))) true (bnot (inB f (-360 : Int) (360 : Int)))) true (bnot (inB t f (360 : Int)))) true (bnot (inB s (1 : Int) (360 : Int))))) ∧ (true = true) ∧ (true = true) ∧ (true = true) ∧ (((c1 : Int) = c1) ∧ ((c2 : Int) = c2) ∧ True) ∧ ((r : Int) = r) ∧ ((f : Int) = f) ∧ ((t : Int) = t) ∧ ((s : Int) = s) ∧ True) ∧ (((true = true) ∧ ((Cont.pts (iapp l1_1 [((iadd c1 (rotX r (0 : Int) i1_0)), (iadd c2 (rotY r (0 : Int) i1_0)))])) = (Cont.pts (iapp l1_1 [((iadd c1 (rotX r (0 : Int) i1_0)), (iadd c2 (rotY r (0 : Int) i1_0)))])))) ∧ (((c1 : Int) = c1) ∧ ((c2 : Int) = c2) ∧ True) ∧ ((true = true) ∧ ((Cont.pts []) = (Cont.pts []))) ∧ True)) ∧ ((([GK.int, GK.pts] : List GK) = ([GK.int, GK.pts] : List GK)) ∧ I1 [GV.int (iadd i1_0 s), GV.pts (iapp l1_1 [((iadd c1 (rotX r (0 : Int) i1_0)), (iadd c2 (rotY r (0 : Int) i1_0)))])] ∧ μ1 [GV.int (iadd i1_0 s), GV.pts (iapp l1_1 [((iadd c1 (rotX r (0 : Int) i1_0)), (iadd c2 (rotY r (0 : Int) i1_0)))])] < μ1 [GV.int i1_0, GV.pts l1_1]))) ∧ ((ile i1_0 t) = false → ((true = true) ∧ ((True) ∧ (True) ∧ True) ∧ ((true = true) ∧ ((Cont.pts l1_1) = (Cont.pts (arcL c1 c2 r f t s)))) ∧ True))))))) = ev sig_spec_ArcPoints xs_spec_ArcPoints Tryd.f34.ntmps (fun b => if b == 0 then [.v 12, .b 11] else []) (codeOf Tryd.f34) 0 (initS [.agg [.int c1, .int c2], .s (.int r), .s (.int f), .s (.int t), .s (.int s)]) (retK Tryd.f34.results.toList [.nrow 62 (.pts (arcL c1 c2 r f t s))]) := by kernel_rfl
set_option maxHeartbeats 400000 in
theorem F_spec_ArcPoints : FunOK 34 g_spec_ArcPoints := by
  refine fun_F (by kernel_rfl) Tryd.func34 rfl (by kernel_rfl) sig_spec_ArcPoints_ok xs_spec_ArcPoints_ok ?_
  intro avs sg h hn hl
  unfold g_spec_ArcPoints at h
  split at h
  · rename_i c1 c2 r f t s
    injection h with h; subst h
    refine ⟨by kernel_rfl, fun b => if b == 0 then [.v 12, .b 11] else [], Eq.mp (V_spec_ArcPoints c1 c2 r f t s) ?_⟩
    simp only [true_and, and_true, implies_true, and_self, forall_const, true_implies, lenA, lenL, SV.lenOK, Cont.lenOK] at hn hl ⊢
    simp only [ilt_t, ilt_f, ile_t, ile_f, ieq_t, ieq_f, bnot_e, band_e, bite_and, bite_or, NLt_e, NLe_e, NNe_e, NIs_e, imax_e, imin_e, irem_e, Bool.not_eq_true', Bool.not_eq_false', Bool.and_eq_true, Bool.or_eq_true, Bool.or_eq_false_iff, Bool.and_eq_false_iff, Cont.pts.injEq, Cont.ints.injEq, Cont.bools.injEq, Cont.ptss.injEq, Cont.intss.injEq, Cont.boolss.injEq, true_and, and_true, implies_true]
    refine ⟨fun h => by unfold arcL arcB; rcases h with (((h | h) | h) | h) | h <;> simp [h], fun h => ?_⟩
    obtain ⟨⟨⟨⟨h1, h2⟩, h3⟩, h4⟩, h5⟩ := h
    have hB : arcB c1 c2 r f t s = true := by unfold arcB; rw [h1, h2, h3, h4, h5]; rfl
    have b2 := inB_true h2; have b3 := inB_true h3; have b4 := inB_true h4; have b5 := inB_true h5
    have hL : arcL c1 c2 r f t s = arcK c1 c2 r f s ((t - f) / s + 1) := by unfold arcL; rw [if_pos hB]
    rw [hL]
    have hq0 : 0 ≤ (t - f) / s := Int.ediv_nonneg (by omega) (by omega)
    have hq1 : (t - f) / s ≤ t - f := Int.ediv_le_self _ (by omega)
    refine ⟨fun | [.int d, .pts o] => ∃ k, 0 ≤ k ∧ k ≤ (t - f) / s + 1 ∧ d = f + k * s ∧ d ≤ 720 ∧ o = arcK c1 c2 r f s k | _ => False, fun | .int d :: _ => (721 - d).toNat | _ => 0, ⟨0, by omega, by omega, by omega, by omega, rfl⟩, ?_⟩
    rintro d o ⟨k, k0, k1, rfl, kd, rfl⟩
    refine ⟨fun hd => ?_, fun hd => ?_⟩
    · have hk : k ≤ (t - f) / s := (Int.le_ediv_iff_mul_le (a := k) (b := t - f) (c := s) (by omega)).2 (by omega)
      have hks : 0 ≤ k * s := Int.mul_nonneg k0 (by omega)
      obtain ⟨p1, p2⟩ := arcP_bd (d := f + k * s) h1 h2
      have v := vB_bd h1
      have q1 := rnd4_bd (x := r) (s := cosF (f + k * s)) (a := 500) (by omega) (by omega) (cosF_bd _)
      have q2 := rnd4_bd (x := r) (s := sinF (f + k * s)) (a := 500) (by omega) (by omega) (sinF_bd _)
      obtain ⟨e1, e2⟩ := rot_0 r (f + k * s)
      have ep : (iadd c1 (rotX r 0 (f + k * s)), iadd c2 (rotY r 0 (f + k * s))) = arcP c1 c2 r (f + k * s) := by
        rw [iadd_e (by omega) (by omega), iadd_e (by omega) (by omega)]; rfl
      rw [ep, arcK_len k0, iadd_e (by omega) (by omega)]
      exact ⟨vB_mk (by omega), ⟨by omega, by rw [ilen_one]; omega⟩, ⟨k + 1, by omega, by omega, by rw [Int.add_mul]; omega, by omega, arcK_s k0⟩, by show (721 - (f + k * s + s)).toNat < (721 - (f + k * s)).toNat; omega⟩
    · have hk : ¬ k ≤ (t - f) / s := fun hk => by
        have := (Int.le_ediv_iff_mul_le (a := k) (b := t - f) (c := s) (by omega)).1 hk
        omega
      rw [show k = (t - f) / s + 1 by omega]
  · cases h
def eqPt (p1 p2 q1 q2 : Int) : Bool := decide (p1 = q1) && decide (p2 = q2)
theorem eqPt_same (p q : Int) : eqPt p q p q = true := by simp [eqPt]
def eqL (l m : List Pt) : Bool := decide (ilen l = ilen m) && allN (ilen l) fun j => eqPt (getx l j) (gety l j) (getx m j) (gety m j)
theorem eqL_same (l : List Pt) : eqL l l = true := by
  unfold eqL
  rw [allN_mk fun j _ _ => eqPt_same _ _]
  simp
def g_laws_samePoints : List AV → Option Sg
  | [.s (.view (.pts l)), .s (.view (.pts m))] => some ⟨True, [.s (.bool (eqL l m))]⟩
  | _ => none
def sig_laws_samePoints : FuncId → List AV → Option Sg := sigL []
def xs_laws_samePoints : XS := ⟨xsigL [], ysigL []⟩
theorem sig_laws_samePoints_ok : SigOK sig_laws_samePoints := sigL_nil
theorem xs_laws_samePoints_ok : XSigOK xs_laws_samePoints := ⟨xsigL_nil, ysigL_nil⟩
theorem V_laws_samePoints (l : List Pt) (m : List Pt) : ((true = true) ∧ ((True) ∧ True) ∧ (true = true) ∧ ((True) ∧ (True) ∧ (True) ∧ (True) ∧ (True) ∧ True) ∧ ((bnot (ieq (ilen l) (ilen m))) = true → ((true = true) ∧ ((True) ∧ True) ∧ ((false : Bool) = (eqL l m)) ∧ True)) ∧ ((bnot (ieq (ilen l) (ilen m))) = false → ((true = true) ∧ ((True) ∧ True) ∧ ∃ (I1 : List GV → Prop) (μ1 : List GV → Nat), (((true = true) ∧ (((false : Bool) = false) ∧ (((0 : Int) : Int) = (0 : Int)) ∧ ((Cont.pts l) = (Cont.pts l)) ∧ (((ilen l) : Int) = (ilen l)) ∧ ((Cont.pts m) = (Cont.pts m)) ∧ (((ilen m) : Int) = (ilen m)) ∧ (((bnot (ieq (ilen l) (ilen m))) : Bool) = (bnot (ieq (ilen l) (ilen m)))) ∧ ((Cont.pts l) = (Cont.pts l)) ∧ ((Cont.pts m) = (Cont.pts m)) ∧ True) ∧ (True)) ∧ (([GK.int, GK.bool] : List GK) = ([GK.int, GK.bool] : List GK)) ∧ I1 [GV.int (0 : Int), GV.bool false]) ∧ (∀ i1_0 : Int, ∀ b1_1 : Bool, I1 [GV.int i1_0, GV.bool b1_1] → ((true = true) ∧ ((True) ∧ (True) ∧ (True) ∧ (True) ∧ True) ∧ ((ilt i1_0 (ilen l)) = true → ((true = true) ∧ ((True) ∧ (True) ∧ (NLe 0 i1_0 ∧ NLt i1_0 (ilen l)) ∧ (True) ∧ (True) ∧ (True) ∧ (NLe 0 i1_0 ∧ NLt i1_0 (ilen m)) ∧ (True) ∧ (True) ∧ True) ∧ ((bnot (band (ieq (getx l i1_0) (getx m i1_0)) (ieq (gety l i1_0) (gety m i1_0)))) = true → ((true = true) ∧ ((True) ∧ True) ∧ ((false : Bool) = (eqL l m)) ∧ True)) ∧ ((bnot (band (ieq (getx l i1_0) (getx m i1_0)) (ieq (gety l i1_0) (gety m i1_0)))) = false → ((true = true) ∧ ((True) ∧ (True) ∧ (True) ∧ True) ∧ ((true = true) ∧ (((b1_1 : Bool) = b1_1) ∧ (((iadd i1_0 (1 : Int)) : Int) = (iadd i1_0 (1 : Int))) ∧ ((Cont.pts l) = (Cont.pts l)) ∧ (((ilen l) : Int) = (ilen l)) ∧ ((Cont.pts m) = (Cont.pts m)) ∧ (((ilen m) : Int) = (ilen m)) ∧ (((bnot (ieq (ilen l) (ilen m))) : Bool) = (bnot (ieq (ilen l) (ilen m)))) ∧ ((Cont.pts l) = (Cont.pts l)) ∧ ((Cont.pts m) = (Cont.pts m)) ∧ True) ∧ (True)) ∧ ((([GK.int, GK.bool] : List GK) = ([GK.int, GK.bool] : List GK)) ∧ I1 [GV.int (iadd i1_0 (1 : Int)), GV.bool b1_1] ∧ μ1 [GV.int (iadd i1_0 (1 : Int)), GV.bool b1_1] < μ1 [GV.int i1_0, GV.bool b1_1]))))) ∧ ((ilt i1_0 (ilen l)) = false → ((true = true) ∧ ((True) ∧ True) ∧ ((true : Bool) = (eqL l m)) ∧ True))))))) = ev sig_laws_samePoints xs_laws_samePoints Tryd.f41.ntmps (fun b => if b == 0 then [.v 5, .v 4] else []) (codeOf Tryd.f41) 0 (initS [.s (.view (.pts l)), .s (.view (.pts m))]) (retK Tryd.f41.results.toList [.s (.bool (eqL l m))]) := by kernel_rfl
set_option maxHeartbeats 400000 in
theorem F_laws_samePoints : FunOK 41 g_laws_samePoints := by
  refine fun_F (by kernel_rfl) Tryd.func41 rfl (by kernel_rfl) sig_laws_samePoints_ok xs_laws_samePoints_ok ?_
  intro avs sg h hn hl
  unfold g_laws_samePoints at h
  split at h
  · rename_i l m
    injection h with h; subst h
    refine ⟨by kernel_rfl, fun b => if b == 0 then [.v 5, .v 4] else [], Eq.mp (V_laws_samePoints l m) ?_⟩
    simp only [true_and, and_true, implies_true, and_self, forall_const, true_implies, lenA, lenL, SV.lenOK, Cont.lenOK] at hn hl ⊢
    have h0 := ilen_0 l
    simp only [ilt_t, ilt_f, ile_t, ile_f, ieq_t, ieq_f, bnot_e, band_e, bite_and, bite_or, NLt_e, NLe_e, NNe_e, NIs_e, imax_e, imin_e, irem_e, Bool.not_eq_true', Bool.not_eq_false', Bool.and_eq_true, Bool.or_eq_true, Bool.or_eq_false_iff, Bool.and_eq_false_iff, Cont.pts.injEq, Cont.ints.injEq, Cont.bools.injEq, Cont.ptss.injEq, Cont.intss.injEq, Cont.boolss.injEq, true_and, and_true, implies_true]
    unfold eqL
    refine ⟨fun h => by simp [h], fun h => ?_⟩
    refine ⟨fun | .int k :: _ => 0 ≤ k ∧ k ≤ ilen l ∧ ∀ j, 0 ≤ j → j < k → eqPt (getx l j) (gety l j) (getx m j) (gety m j) = true | _ => False, fun | .int k :: _ => (ilen l - k).toNat | _ => 0, ?_, ?_⟩
    · exact ⟨Int.le_refl 0, h0, fun j h0 h1 => absurd h1 (by omega)⟩
    · rintro k _ ⟨hk0, hk1, hk⟩
      simp only [ilt_t, ilt_f, ile_t, ile_f, ieq_t, ieq_f, bnot_e, band_e, bite_and, bite_or, NLt_e, NLe_e, NNe_e, NIs_e, imax_e, imin_e, irem_e, Bool.not_eq_true', Bool.not_eq_false', Bool.and_eq_true, Bool.or_eq_true, Bool.or_eq_false_iff, Bool.and_eq_false_iff, Cont.pts.injEq, Cont.ints.injEq, Cont.bools.injEq, Cont.ptss.injEq, Cont.intss.injEq, Cont.boolss.injEq, true_and, and_true, implies_true]
      refine ⟨fun hc => ⟨⟨⟨hk0, hc⟩, hk0, by omega⟩, fun hv => ?_, fun hv => ?_⟩, fun hc => ?_⟩
      · rw [allN_no k hk0 hc (by unfold eqPt; rcases hv with h | h <;> simp [h])]; simp
      · rw [iadd_1 hk0 hc hl.1]
        exact ⟨⟨by omega, by omega, allN_up hk (by unfold eqPt; simp [hv])⟩, by omega⟩
      · rw [allN_mk fun j h0 h1 => hk j h0 (by omega)]; simp [h]
  · cases h
def g_laws_alive : List AV → Option Sg
  | [] => some ⟨True, [.s (.bool (true))]⟩
  | _ => none
def sig_laws_alive : FuncId → List AV → Option Sg := sigL [(68, g_impl_Degrees)]
def xs_laws_alive : XS := ⟨xsigL [], ysigL []⟩
theorem sig_laws_alive_ok : SigOK sig_laws_alive := sigL_cons F_impl_Degrees sigL_nil
theorem xs_laws_alive_ok : XSigOK xs_laws_alive := ⟨xsigL_nil, ysigL_nil⟩
theorem V_laws_alive  : ((true = true) ∧ ((True) ∧ True) ∧ (true = true) ∧ (((True)) ∧ (True) ∧ (True) ∧ True) ∧ (((ieq (degW (-1 : Int)) (359 : Int)) : Bool) = (true)) ∧ True) = ev sig_laws_alive xs_laws_alive Tryd.f18.ntmps (fun b => []) (codeOf Tryd.f18) 0 (initS []) (retK Tryd.f18.results.toList [.s (.bool (true))]) := by kernel_rfl
set_option maxHeartbeats 400000 in
theorem F_laws_alive : FunOK 18 g_laws_alive := by
  refine fun_F (by kernel_rfl) Tryd.func18 rfl (by kernel_rfl) sig_laws_alive_ok xs_laws_alive_ok ?_
  intro avs sg h hn hl
  unfold g_laws_alive at h
  split at h
  ·
    injection h with h; subst h
    refine ⟨by kernel_rfl, fun b => [], Eq.mp (V_laws_alive ) ?_⟩
    simp only [true_and, and_true, implies_true, and_self, forall_const, true_implies, lenA, lenL, SV.lenOK, Cont.lenOK] at hn hl ⊢
    unfold ieq degW
    rw [irem_e, irem_e, iadd_e (by decide) (by decide)]
    decide
  · cases h
theorem bxor_self (a : Bool) : bxor a a = false := by cases a <;> simp [bxor]
theorem arcL_len (c1 c2 r f t s : Int) : ilen (arcL c1 c2 r f t s) ≤ 721 ∧ (arcL c1 c2 r f t s ≠ [] → arcB c1 c2 r f t s = true) ∧ (arcB c1 c2 r f t s = true → ilen (arcL c1 c2 r f t s) = (t - f) / s + 1) := by
  unfold arcL
  split
  · rename_i h
    have hb := h
    unfold arcB at h
    simp only [Bool.and_eq_true] at h
    obtain ⟨⟨⟨⟨h1, h2⟩, h3⟩, h4⟩, h5⟩ := h
    have b3 := inB_true h3; have b4 := inB_true h4; have b5 := inB_true h5
    have hq0 : 0 ≤ (t - f) / s := Int.ediv_nonneg (by omega) (by omega)
    have hq1 : (t - f) / s ≤ t - f := Int.ediv_le_self _ (by omega)
    rw [arcK_len (by omega)]
    exact ⟨by omega, fun _ => hb, fun _ => rfl⟩
  · rename_i h
    exact ⟨by rw [ilen_nil]; omega, fun h => absurd rfl h, fun hb => absurd hb h⟩
theorem arcK_get {c1 c2 r f s n k : Int} (h0 : 0 ≤ k) (h1 : k < n) : getx (arcK c1 c2 r f s n) k = (arcP c1 c2 r (f + k * s)).1 ∧ gety (arcK c1 c2 r f s n) k = (arcP c1 c2 r (f + k * s)).2 := by
  obtain ⟨h, e1, e2⟩ := get_at (l := arcK c1 c2 r f s n) h0 (by rw [arcK_len (by omega)]; exact h1)
  have e : (arcK c1 c2 r f s n)[k.toNat] = arcP c1 c2 r (f + k * s) := by simp [arcK, Int.toNat_of_nonneg h0]
  rw [e1, e2, e]
  exact ⟨rfl, rfl⟩
theorem unit_tab : ∀ k : Fin 360, (16771416 ≤ sinF (k : Nat) * sinF (k : Nat) + cosF (k : Nat) * cosF (k : Nat) ∧ sinF (k : Nat) * sinF (k : Nat) + cosF (k : Nat) * cosF (k : Nat) ≤ 16783016) ∧ (-5800 ≤ sinF (k : Nat) + cosF (k : Nat) ∧ sinF (k : Nat) + cosF (k : Nat) ≤ 5800) ∧ (-5800 ≤ sinF (k : Nat) - cosF (k : Nat) ∧ sinF (k : Nat) - cosF (k : Nat) ≤ 5800) := by decide +kernel
theorem sin_mod (d : Int) : sinF d = sinF (d % 360) ∧ cosF d = cosF (d % 360) := by
  have e : d % 360 % 360 = d % 360 := Int.emod_emod_of_dvd d (Int.dvd_refl 360)
  unfold cosF
  rw [e]
  refine ⟨?_, rfl⟩
  unfold sinF
  rw [e]
theorem unit_at (d : Int) : (16771416 ≤ sinF d * sinF d + cosF d * cosF d ∧ sinF d * sinF d + cosF d * cosF d ≤ 16783016) ∧ (-5800 ≤ sinF d + cosF d ∧ sinF d + cosF d ≤ 5800) ∧ (-5800 ≤ sinF d - cosF d ∧ sinF d - cosF d ≤ 5800) := by
  have m0 := Int.emod_nonneg d (show (360 : Int) ≠ 0 by omega)
  have m1 := Int.emod_lt_of_pos d (show (0 : Int) < 360 by omega)
  obtain ⟨e1, e2⟩ := sin_mod d
  rw [e1, e2]
  have := unit_tab ⟨(d % 360).toNat, by omega⟩
  simpa [Int.toNat_of_nonneg m0] using this
theorem mul_sign {c d : Int} (hd : -2048 ≤ d ∧ d ≤ 2048) : (0 ≤ c → -(2048 * c) ≤ c * d ∧ c * d ≤ 2048 * c) ∧ (c ≤ 0 → 2048 * c ≤ c * d ∧ c * d ≤ -(2048 * c)) := by
  refine ⟨fun h => ?_, fun h => ?_⟩
  · have h1 := Int.mul_le_mul_of_nonneg_left hd.1 h
    have h2 := Int.mul_le_mul_of_nonneg_left hd.2 h
    omega
  · have h1 := Int.mul_le_mul_of_nonpos_left h hd.1
    have h2 := Int.mul_le_mul_of_nonpos_left h hd.2
    omega
theorem mmc (a b c d : Int) : a * b * (c * d) = a * c * (b * d) := by rw [Int.mul_assoc, Int.mul_left_comm b c d, ← Int.mul_assoc]
theorem sq_add (p d : Int) : (p + d) * (p + d) = p * p + 2 * (p * d) + d * d := by
  rw [Int.add_mul, Int.mul_add, Int.mul_add, Int.mul_comm d p]; omega
theorem near_one {s c r x y : Int} (hr0 : 1 ≤ r) (hr1 : r ≤ 500) (h1 : 16771416 ≤ s * s + c * c) (h2 : s * s + c * c ≤ 16783016) (hp : (-5800 ≤ s + c ∧ s + c ≤ 5800) ∧ (-5800 ≤ s - c ∧ s - c ≤ 5800))
    (hx : r * c - 2048 ≤ 4096 * x ∧ 4096 * x ≤ r * c + 2048) (hy : r * s - 2048 ≤ 4096 * y ∧ 4096 * y ≤ r * s + 2048) : (r - 1) * (r - 1) ≤ x * x + y * y ∧ x * x + y * y ≤ (r + 1) * (r + 1) := by
  obtain ⟨dx, ex⟩ : ∃ dx, dx = 4096 * x - r * c := ⟨_, rfl⟩
  obtain ⟨dy, ey⟩ : ∃ dy, dy = 4096 * y - r * s := ⟨_, rfl⟩
  have hdx : -2048 ≤ dx ∧ dx ≤ 2048 := by omega
  have hdy : -2048 ≤ dy ∧ dy ≤ 2048 := by omega
  have m1 := mul_sign (c := c) hdx
  have m2 := mul_sign (c := s) hdy
  have hm : -11878400 ≤ c * dx + s * dy ∧ c * dx + s * dy ≤ 11878400 := by
    rcases Int.le_total 0 c with a | a <;> rcases Int.le_total 0 s with b | b
    · have := m1.1 a; have := m2.1 b; omega
    · have := m1.1 a; have := m2.2 b; omega
    · have := m1.2 a; have := m2.1 b; omega
    · have := m1.2 a; have := m2.2 b; omega
  have sx : 16777216 * (x * x) = (r * r) * (c * c) + 2 * (r * (c * dx)) + dx * dx := by
    have e := sq_add (r * c) dx
    rw [show r * c + dx = 4096 * x by omega, mmc 4096 x 4096 x, mmc r c r c, Int.mul_assoc r c dx] at e
    omega
  have sy : 16777216 * (y * y) = (r * r) * (s * s) + 2 * (r * (s * dy)) + dy * dy := by
    have e := sq_add (r * s) dy
    rw [show r * s + dy = 4096 * y by omega, mmc 4096 y 4096 y, mmc r s r s, Int.mul_assoc r s dy] at e
    omega
  have qx := mul_box hdx.1 hdx.2 hdx.1 hdx.2
  have qy := mul_box hdy.1 hdy.2 hdy.1 hdy.2
  have px : 0 ≤ dx * dx := by
    rcases Int.le_total 0 dx with h | h
    · exact Int.mul_nonneg h h
    · exact Int.mul_nonneg_of_nonpos_of_nonpos h h
  have py : 0 ≤ dy * dy := by
    rcases Int.le_total 0 dy with h | h
    · exact Int.mul_nonneg h h
    · exact Int.mul_nonneg_of_nonpos_of_nonpos h h
  have rr : 0 ≤ r * r := Int.mul_nonneg (by omega) (by omega)
  have rr5 : r * r ≤ r * 500 := Int.mul_le_mul_of_nonneg_left hr1 (by omega)
  have u1 := Int.mul_le_mul_of_nonneg_left h1 rr
  have u2 := Int.mul_le_mul_of_nonneg_left h2 rr
  rw [Int.mul_add] at u1 u2
  have v1 := Int.mul_le_mul_of_nonneg_left hm.1 (show 0 ≤ r by omega)
  have v2 := Int.mul_le_mul_of_nonneg_left hm.2 (show 0 ≤ r by omega)
  rw [Int.mul_add] at v1 v2
  have g1 : (r + 1) * (r + 1) = r * r + 2 * r + 1 := by rw [sq_add]; omega
  have g2 : (r - 1) * (r - 1) = r * r - 2 * r + 1 := by rw [show r - 1 = r + -1 by omega, sq_add]; omega
  have nx : 0 ≤ x * x := by
    rcases Int.le_total 0 x with h | h
    · exact Int.mul_nonneg h h
    · exact Int.mul_nonneg_of_nonpos_of_nonpos h h
  have ny : 0 ≤ y * y := by
    rcases Int.le_total 0 y with h | h
    · exact Int.mul_nonneg h h
    · exact Int.mul_nonneg_of_nonpos_of_nonpos h h
  rw [g1, g2]
  refine ⟨?_, by omega⟩
  rcases (by omega : r = 1 ∨ r = 2 ∨ 3 ≤ r) with h | h | h
  · subst h; omega
  · subst h; omega
  · omega
def g_laws_FnArcPoints : List AV → Option Sg
  | [.s (.rdr n)] => some ⟨True, [.s (.bool (true))]⟩
  | _ => none
def sig_laws_FnArcPoints : FuncId → List AV → Option Sg := sigL [(36, g_impl_ArcPoints), (34, g_spec_ArcPoints), (41, g_laws_samePoints), (18, g_laws_alive)]
def xs_laws_FnArcPoints : XS := ⟨xsigL [], ysigL [(40, g_spec_DrawArcPoints)]⟩
theorem sig_laws_FnArcPoints_ok : SigOK sig_laws_FnArcPoints := sigL_cons F_impl_ArcPoints (sigL_cons F_spec_ArcPoints (sigL_cons F_laws_samePoints (sigL_cons F_laws_alive sigL_nil)))
theorem xs_laws_FnArcPoints_ok : XSigOK xs_laws_FnArcPoints := ⟨xsigL_nil, ysigL_cons F_spec_DrawArcPoints ysigL_nil⟩
theorem V_laws_FnArcPoints (n : Int) : ((true = true) ∧ ((True) ∧ True) ∧ (true = true) ∧ ((True) ∧ (True) ∧ (True) ∧ True) ∧ ((ilt (1048576 : Int) n) = true → ((true = true) ∧ ((True) ∧ True) ∧ ((true : Bool) = (true)) ∧ True)) ∧ ((ilt (1048576 : Int) n) = false → ((true = true) ∧ ((True) ∧ True) ∧ (true = true) ∧ ((n ≤ 1048576)) ∧ (∀ x_22 : Int, ∀ y_23 : Int, ∀ r_24 : Int, ∀ f_25 : Int, ∀ t_26 : Int, ∀ s_27 : Int, ((-100000 ≤ x_22 ∧ x_22 ≤ 100000 ∧ -100000 ≤ y_23 ∧ y_23 ≤ 100000 ∧ -1000 ≤ r_24 ∧ r_24 ≤ 1000 ∧ -1000 ≤ f_25 ∧ f_25 ≤ 1000 ∧ -1000 ≤ t_26 ∧ t_26 ≤ 1000 ∧ -1000 ≤ s_27 ∧ s_27 ≤ 1000) → ((true = true) ∧ ((true = true) ∧ ((true = true) ∧ ((true = true) ∧ ((true = true) ∧ ((true = true) ∧ ((True) ∧ (True) ∧ (True) ∧ (True) ∧ (True) ∧ (True) ∧ (true = true) ∧ ((True) ∧ (True) ∧ (True) ∧ (True) ∧ (True) ∧ ((True)) ∧ (True) ∧ True) ∧ (true = true) ∧ ((True) ∧ (True) ∧ (True) ∧ (True) ∧ (True) ∧ (True) ∧ ((True)) ∧ ((True)) ∧ (True) ∧ True) ∧ ((bnot (eqL (arcL (x_22) (y_23) (r_24) (f_25) (t_26) (s_27)) (arcL (x_22) (y_23) (r_24) (f_25) (t_26) (s_27)))) = true → ((true = true) ∧ ((True) ∧ True) ∧ ((false : Bool) = (true)) ∧ True)) ∧ ((bnot (eqL (arcL (x_22) (y_23) (r_24) (f_25) (t_26) (s_27)) (arcL (x_22) (y_23) (r_24) (f_25) (t_26) (s_27)))) = false → ((true = true) ∧ ((True) ∧ (True) ∧ (True) ∧ True) ∧ ((ieq (ilen (arcL (x_22) (y_23) (r_24) (f_25) (t_26) (s_27))) (0 : Int)) = true → ((true = true) ∧ (((True)) ∧ (True) ∧ True) ∧ (((true) : Bool) = (true)) ∧ True)) ∧ ((ieq (ilen (arcL (x_22) (y_23) (r_24) (f_25) (t_26) (s_27))) (0 : Int)) = false → ((true = true) ∧ ((True) ∧ True) ∧ ∃ (I1 : List GV → Prop) (μ1 : List GV → Nat), (((true = true) ∧ (((false : Bool) = false) ∧ (((0 : Int) : Int) = (0 : Int)) ∧ (true = true) ∧ (((ilen (arcL (x_22) (y_23) (r_24) (f_25) (t_26) (s_27))) : Int) = (ilen (arcL (x_22) (y_23) (r_24) (f_25) (t_26) (s_27)))) ∧ (((ieq (ilen (arcL (x_22) (y_23) (r_24) (f_25) (t_26) (s_27))) (0 : Int)) : Bool) = (ieq (ilen (arcL (x_22) (y_23) (r_24) (f_25) (t_26) (s_27))) (0 : Int))) ∧ (true = true) ∧ ((((x_22) : Int) = (x_22)) ∧ (((y_23) : Int) = (y_23)) ∧ True) ∧ (((r_24) : Int) = (r_24)) ∧ (((f_25) : Int) = (f_25)) ∧ (((t_26) : Int) = (t_26)) ∧ (((s_27) : Int) = (s_27)) ∧ (true = true) ∧ (((eqL (arcL (x_22) (y_23) (r_24) (f_25) (t_26) (s_27)) (arcL (x_22) (y_23) (r_24) (f_25) (t_26) (s_27))) : Bool) = (eqL (arcL (x_22) (y_23) (r_24) (f_25) (t_26) (s_27)) (arcL (x_22) (y_23) (r_24) (f_25) (t_26) (s_27)))) ∧ (((bnot (eqL (arcL (x_22) (y_23) (r_24) (f_25) (t_26) (s_27)) (arcL (x_22) (y_23) (r_24) (f_25) (t_26) (s_27)))) : Bool) = (bnot (eqL (arcL (x_22) (y_23) (r_24) (f_25) (t_26) (s_27)) (arcL (x_22) (y_23) (r_24) (f_25) (t_26) (s_27))))) ∧ ((((x_22) : Int) = (x_22)) ∧ (((y_23) : Int) = (y_23)) ∧ True) ∧ (((r_24) : Int) = (r_24)) ∧ (((f_25) : Int) = (f_25)) ∧ (((t_26) : Int) = (t_26)) ∧ (((s_27) : Int) = (s_27)) ∧ (true = true) ∧ (true = true) ∧ (((s_27) : Int) = (s_27)) ∧ (((t_26) : Int) = (t_26)) ∧ (((f_25) : Int) = (f_25)) ∧ (((r_24) : Int) = (r_24)) ∧ (true = true) ∧ (((s_27) : Int) = (s_27)) ∧ (((t_26) : Int) = (t_26)) ∧ (((f_25) : Int) = (f_25)) ∧ (((r_24) : Int) = (r_24)) ∧ ((((x_22) : Int) = (x_22)) ∧ (((y_23) : Int) = (y_23)) ∧ True) ∧ ((n : Int) = n) ∧ ((n : Int) = n) ∧ ((n : Int) = n) ∧ (((ilt (1048576 : Int) n) : Bool) = (ilt (1048576 : Int) n)) ∧ ((n : Int) = n) ∧ True) ∧ (((true = true) ∧ ((Cont.pts (arcL (x_22) (y_23) (r_24) (f_25) (t_26) (s_27))) = (Cont.pts (arcL (x_22) (y_23) (r_24) (f_25) (t_26) (s_27))))) ∧ ((true = true) ∧ ((Cont.pts (arcL (x_22) (y_23) (r_24) (f_25) (t_26) (s_27))) = (Cont.pts (arcL (x_22) (y_23) (r_24) (f_25) (t_26) (s_27))))) ∧ ((((x_22) : Int) = (x_22)) ∧ (((y_23) : Int) = (y_23)) ∧ True) ∧ True)) ∧ (([GK.int, GK.bool] : List GK) = ([GK.int, GK.bool] : List GK)) ∧ I1 [GV.int (0 : Int), GV.bool false]) ∧ (∀ i1_0 : Int, ∀ b1_1 : Bool, I1 [GV.int i1_0, GV.bool b1_1] → ((true = true) ∧ ((True) ∧ (True) ∧ (True) ∧ (True) ∧ True) ∧ ((ilt i1_0 (ilen (arcL (x_22) (y_23) (r_24) (f_25) (t_26) (s_27)))) = true → ((true = true) ∧ ((True) ∧ (True) ∧ (NLe 0 i1_0 ∧ NLt i1_0 (ilen (arcL (x_22) (y_23) (r_24) (f_25) (t_26) (s_27)))) ∧ (NLt i1_0 (ilen (arcL (x_22) (y_23) (r_24) (f_25) (t_26) (s_27)))) ∧ (NLt i1_0 (ilen (arcL (x_22) (y_23) (r_24) (f_25) (t_26) (s_27)))) ∧ (True) ∧ (True) ∧ (True) ∧ (True) ∧ True) ∧ (true = true) ∧ ((True) ∧ (True) ∧ (NLe 0 i1_0 ∧ NLt i1_0 (ilen (arcL (x_22) (y_23) (r_24) (f_25) (t_26) (s_27)))) ∧ (NLt i1_0 (ilen (arcL (x_22) (y_23) (r_24) (f_25) (t_26) (s_27)))) ∧ (NLt i1_0 (ilen (arcL (x_22) (y_23) (r_24) (f_25) (t_26) (s_27)))) ∧ (True) ∧ (True) ∧ (True) ∧ (True) ∧ True) ∧ (true = true) ∧ ((True) ∧ (True) ∧ (True) ∧ (True) ∧ (True) ∧ (True) ∧ (True) ∧ (True) ∧ (True) ∧ (True) ∧ (True) ∧ (True) ∧ (True) ∧ (True) ∧ (NIs (ilt (iadd (imul (isub (getx (arcL (x_22) (y_23) (r_24) (f_25) (t_26) (s_27)) i1_0) (x_22)) (isub (getx (arcL (x_22) (y_23) (r_24) (f_25) (t_26) (s_27)) i1_0) (x_22))) (imul (isub (gety (arcL (x_22) (y_23) (r_24) (f_25) (t_26) (s_27)) i1_0) (y_23)) (isub (gety (arcL (x_22) (y_23) (r_24) (f_25) (t_26) (s_27)) i1_0) (y_23)))) (imul (isub (r_24) (1 : Int)) (isub (r_24) (1 : Int)))) false → True) ∧ (NIs (ilt (iadd (imul (isub (getx (arcL (x_22) (y_23) (r_24) (f_25) (t_26) (s_27)) i1_0) (x_22)) (isub (getx (arcL (x_22) (y_23) (r_24) (f_25) (t_26) (s_27)) i1_0) (x_22))) (imul (isub (gety (arcL (x_22) (y_23) (r_24) (f_25) (t_26) (s_27)) i1_0) (y_23)) (isub (gety (arcL (x_22) (y_23) (r_24) (f_25) (t_26) (s_27)) i1_0) (y_23)))) (imul (isub (r_24) (1 : Int)) (isub (r_24) (1 : Int)))) false → True) ∧ (NIs (ilt (iadd (imul (isub (getx (arcL (x_22) (y_23) (r_24) (f_25) (t_26) (s_27)) i1_0) (x_22)) (isub (getx (arcL (x_22) (y_23) (r_24) (f_25) (t_26) (s_27)) i1_0) (x_22))) (imul (isub (gety (arcL (x_22) (y_23) (r_24) (f_25) (t_26) (s_27)) i1_0) (y_23)) (isub (gety (arcL (x_22) (y_23) (r_24) (f_25) (t_26) (s_27)) i1_0) (y_23)))) (imul (isub (r_24) (1 : Int)) (isub (r_24) (1 : Int)))) false → True) ∧ (NIs (ilt (iadd (imul (isub (getx (arcL (x_22) (y_23) (r_24) (f_25) (t_26) (s_27)) i1_0) (x_22)) (isub (getx (arcL (x_22) (y_23) (r_24) (f_25) (t_26) (s_27)) i1_0) (x_22))) (imul (isub (gety (arcL (x_22) (y_23) (r_24) (f_25) (t_26) (s_27)) i1_0) (y_23)) (isub (gety (arcL (x_22) (y_23) (r_24) (f_25) (t_26) (s_27)) i1_0) (y_23)))) (imul (isub (r_24) (1 : Int)) (isub (r_24) (1 : Int)))) false → True) ∧ (NIs (ilt (iadd (imul (isub (getx (arcL (x_22) (y_23) (r_24) (f_25) (t_26) (s_27)) i1_0) (x_22)) (isub (getx (arcL (x_22) (y_23) (r_24) (f_25) (t_26) (s_27)) i1_0) (x_22))) (imul (isub (gety (arcL (x_22) (y_23) (r_24) (f_25) (t_26) (s_27)) i1_0) (y_23)) (isub (gety (arcL (x_22) (y_23) (r_24) (f_25) (t_26) (s_27)) i1_0) (y_23)))) (imul (isub (r_24) (1 : Int)) (isub (r_24) (1 : Int)))) false → True) ∧ (NIs (ilt (iadd (imul (isub (getx (arcL (x_22) (y_23) (r_24) (f_25) (t_26) (s_27)) i1_0) (x_22)) (isub (getx (arcL (x_22) (y_23) (r_24) (f_25) (t_26) (s_27)) i1_0) (x_22))) (imul (isub (gety (arcL (x_22) (y_23) (r_24) (f_25) (t_26) (s_27)) i1_0) (y_23)) (isub (gety (arcL (x_22) (y_23) (r_24) (f_25) (t_26) (s_27)) i1_0) (y_23)))) (imul (isub (r_24) (1 : Int)) (isub (r_24) (1 : Int)))) false → True) ∧ (NIs (ilt (iadd (imul (isub (getx (arcL (x_22) (y_23) (r_24) (f_25) (t_26) (s_27)) i1_0) (x_22)) (isub (getx (arcL (x_22) (y_23) (r_24) (f_25) (t_26) (s_27)) i1_0) (x_22))) (imul (isub (gety (arcL (x_22) (y_23) (r_24) (f_25) (t_26) (s_27)) i1_0) (y_23)) (isub (gety (arcL (x_22) (y_23) (r_24) (f_25) (t_26) (s_27)) i1_0) (y_23)))) (imul (isub (r_24) (1 : Int)) (isub (r_24) (1 : Int)))) false → True) ∧ (NIs (ilt (iadd (imul (isub (getx (arcL (x_22) (y_23) (r_24) (f_25) (t_26) (s_27)) i1_0) (x_22)) (isub (getx (arcL (x_22) (y_23) (r_24) (f_25) (t_26) (s_27)) i1_0) (x_22))) (imul (isub (gety (arcL (x_22) (y_23) (r_24) (f_25) (t_26) (s_27)) i1_0) (y_23)) (isub (gety (arcL (x_22) (y_23) (r_24) (f_25) (t_26) (s_27)) i1_0) (y_23)))) (imul (isub (r_24) (1 : Int)) (isub (r_24) (1 : Int)))) false → True) ∧ (NIs (ilt (iadd (imul (isub (getx (arcL (x_22) (y_23) (r_24) (f_25) (t_26) (s_27)) i1_0) (x_22)) (isub (getx (arcL (x_22) (y_23) (r_24) (f_25) (t_26) (s_27)) i1_0) (x_22))) (imul (isub (gety (arcL (x_22) (y_23) (r_24) (f_25) (t_26) (s_27)) i1_0) (y_23)) (isub (gety (arcL (x_22) (y_23) (r_24) (f_25) (t_26) (s_27)) i1_0) (y_23)))) (imul (isub (r_24) (1 : Int)) (isub (r_24) (1 : Int)))) false → True) ∧ (NIs (ilt (iadd (imul (isub (getx (arcL (x_22) (y_23) (r_24) (f_25) (t_26) (s_27)) i1_0) (x_22)) (isub (getx (arcL (x_22) (y_23) (r_24) (f_25) (t_26) (s_27)) i1_0) (x_22))) (imul (isub (gety (arcL (x_22) (y_23) (r_24) (f_25) (t_26) (s_27)) i1_0) (y_23)) (isub (gety (arcL (x_22) (y_23) (r_24) (f_25) (t_26) (s_27)) i1_0) (y_23)))) (imul (isub (r_24) (1 : Int)) (isub (r_24) (1 : Int)))) false → True) ∧ (NIs (ilt (iadd (imul (isub (getx (arcL (x_22) (y_23) (r_24) (f_25) (t_26) (s_27)) i1_0) (x_22)) (isub (getx (arcL (x_22) (y_23) (r_24) (f_25) (t_26) (s_27)) i1_0) (x_22))) (imul (isub (gety (arcL (x_22) (y_23) (r_24) (f_25) (t_26) (s_27)) i1_0) (y_23)) (isub (gety (arcL (x_22) (y_23) (r_24) (f_25) (t_26) (s_27)) i1_0) (y_23)))) (imul (isub (r_24) (1 : Int)) (isub (r_24) (1 : Int)))) false → True) ∧ (NIs (ilt (iadd (imul (isub (getx (arcL (x_22) (y_23) (r_24) (f_25) (t_26) (s_27)) i1_0) (x_22)) (isub (getx (arcL (x_22) (y_23) (r_24) (f_25) (t_26) (s_27)) i1_0) (x_22))) (imul (isub (gety (arcL (x_22) (y_23) (r_24) (f_25) (t_26) (s_27)) i1_0) (y_23)) (isub (gety (arcL (x_22) (y_23) (r_24) (f_25) (t_26) (s_27)) i1_0) (y_23)))) (imul (isub (r_24) (1 : Int)) (isub (r_24) (1 : Int)))) false → True) ∧ (NIs (ilt (iadd (imul (isub (getx (arcL (x_22) (y_23) (r_24) (f_25) (t_26) (s_27)) i1_0) (x_22)) (isub (getx (arcL (x_22) (y_23) (r_24) (f_25) (t_26) (s_27)) i1_0) (x_22))) (imul (isub (gety (arcL (x_22) (y_23) (r_24) (f_25) (t_26) (s_27)) i1_0) (y_23)) (isub (gety (arcL (x_22) (y_23) (r_24) (f_25) (t_26) (s_27)) i1_0) (y_23)))) (imul (isub (r_24) (1 : Int)) (isub (r_24) (1 : Int)))) false → True) ∧ (True) ∧ True) ∧ ((bite (ilt (iadd (imul (isub (getx (arcL (x_22) (y_23) (r_24) (f_25) (t_26) (s_27)) i1_0) (x_22)) (isub (getx (arcL (x_22) (y_23) (r_24) (f_25) (t_26) (s_27)) i1_0) (x_22))) (imul (isub (gety (arcL (x_22) (y_23) (r_24) (f_25) (t_26) (s_27)) i1_0) (y_23)) (isub (gety (arcL (x_22) (y_23) (r_24) (f_25) (t_26) (s_27)) i1_0) (y_23)))) (imul (isub (r_24) (1 : Int)) (isub (r_24) (1 : Int)))) true (ilt (imul (iadd (r_24) (1 : Int)) (iadd (r_24) (1 : Int))) (iadd (imul (isub (getx (arcL (x_22) (y_23) (r_24) (f_25) (t_26) (s_27)) i1_0) (x_22)) (isub (getx (arcL (x_22) (y_23) (r_24) (f_25) (t_26) (s_27)) i1_0) (x_22))) (imul (isub (gety (arcL (x_22) (y_23) (r_24) (f_25) (t_26) (s_27)) i1_0) (y_23)) (isub (gety (arcL (x_22) (y_23) (r_24) (f_25) (t_26) (s_27)) i1_0) (y_23)))))) = true → ((true = true) ∧ ((True) ∧ True) ∧ ((false : Bool) = (true)) ∧ True)) ∧ ((bite (ilt (iadd (imul (isub (getx (arcL (x_22) (y_23) (r_24) (f_25) (t_26) (s_27)) i1_0) (x_22)) (isub (getx (arcL (x_22) (y_23) (r_24) (f_25) (t_26) (s_27)) i1_0) (x_22))) (imul (isub (gety (arcL (x_22) (y_23) (r_24) (f_25) (t_26) (s_27)) i1_0) (y_23)) (isub (gety (arcL (x_22) (y_23) (r_24) (f_25) (t_26) (s_27)) i1_0) (y_23)))) (imul (isub (r_24) (1 : Int)) (isub (r_24) (1 : Int)))) true (ilt (imul (iadd (r_24) (1 : Int)) (iadd (r_24) (1 : Int))) (iadd (imul (isub (getx (arcL (x_22) (y_23) (r_24) (f_25) (t_26) (s_27)) i1_0) (x_22)) (isub (getx (arcL (x_22) (y_23) (r_24) (f_25) (t_26) (s_27)) i1_0) (x_22))) (imul (isub (gety (arcL (x_22) (y_23) (r_24) (f_25) (t_26) (s_27)) i1_0) (y_23)) (isub (gety (arcL (x_22) (y_23) (r_24) (f_25) (t_26) (s_27)) i1_0) (y_23)))))) = false → ((true = true) ∧ ((True) ∧ (True) ∧ (True) ∧ True) ∧ ((true = true) ∧ (((b1_1 : Bool) = b1_1) ∧ (((iadd i1_0 (1 : Int)) : Int) = (iadd i1_0 (1 : Int))) ∧ (true = true) ∧ (((ilen (arcL (x_22) (y_23) (r_24) (f_25) (t_26) (s_27))) : Int) = (ilen (arcL (x_22) (y_23) (r_24) (f_25) (t_26) (s_27)))) ∧ (((ieq (ilen (arcL (x_22) (y_23) (r_24) (f_25) (t_26) (s_27))) (0 : Int)) : Bool) = (ieq (ilen (arcL (x_22) (y_23) (r_24) (f_25) (t_26) (s_27))) (0 : Int))) ∧ (true = true) ∧ ((((x_22) : Int) = (x_22)) ∧ (((y_23) : Int) = (y_23)) ∧ True) ∧ (((r_24) : Int) = (r_24)) ∧ (((f_25) : Int) = (f_25)) ∧ (((t_26) : Int) = (t_26)) ∧ (((s_27) : Int) = (s_27)) ∧ (true = true) ∧ (((eqL (arcL (x_22) (y_23) (r_24) (f_25) (t_26) (s_27)) (arcL (x_22) (y_23) (r_24) (f_25) (t_26) (s_27))) : Bool) = (eqL (arcL (x_22) (y_23) (r_24) (f_25) (t_26) (s_27)) (arcL (x_22) (y_23) (r_24) (f_25) (t_26) (s_27)))) ∧ (((bnot (eqL (arcL (x_22) (y_23) (r_24) (f_25) (t_26) (s_27)) (arcL (x_22) (y_23) (r_24) (f_25) (t_26) (s_27)))) : Bool) = (bnot (eqL (arcL (x_22) (y_23) (r_24) (f_25) (t_26) (s_27)) (arcL (x_22) (y_23) (r_24) (f_25) (t_26) (s_27))))) ∧ ((((x_22) : Int) = (x_22)) ∧ (((y_23) : Int) = (y_23)) ∧ True) ∧ (((r_24) : Int) = (r_24)) ∧ (((f_25) : Int) = (f_25)) ∧ (((t_26) : Int) = (t_26)) ∧ (((s_27) : Int) = (s_27)) ∧ (true = true) ∧ (true = true) ∧ (((s_27) : Int) = (s_27)) ∧ (((t_26) : Int) = (t_26)) ∧ (((f_25) : Int) = (f_25)) ∧ (((r_24) : Int) = (r_24)) ∧ (true = true) ∧ (((s_27) : Int) = (s_27)) ∧ (((t_26) : Int) = (t_26)) ∧ (((f_25) : Int) = (f_25)) ∧ (((r_24) : Int) = (r_24)) ∧ ((((x_22) : Int) = (x_22)) ∧ (((y_23) : Int) = (y_23)) ∧ True) ∧ ((n : Int) = n) ∧ ((n : Int) = n) ∧ ((n : Int) = n) ∧ (((ilt (1048576 : Int) n) : Bool) = (ilt (1048576 : Int) n)) ∧ ((n : Int) = n) ∧ True) ∧ (((true = true) ∧ ((Cont.pts (arcL (x_22) (y_23) (r_24) (f_25) (t_26) (s_27))) = (Cont.pts (arcL (x_22) (y_23) (r_24) (f_25) (t_26) (s_27))))) ∧ ((true = true) ∧ ((Cont.pts (arcL (x_22) (y_23) (r_24) (f_25) (t_26) (s_27))) = (Cont.pts (arcL (x_22) (y_23) (r_24) (f_25) (t_26) (s_27))))) ∧ ((((x_22) : Int) = (x_22)) ∧ (((y_23) : Int) = (y_23)) ∧ True) ∧ True)) ∧ ((([GK.int, GK.bool] : List GK) = ([GK.int, GK.bool] : List GK)) ∧ I1 [GV.int (iadd i1_0 (1 : Int)), GV.bool b1_1] ∧ μ1 [GV.int (iadd i1_0 (1 : Int)), GV.bool b1_1] < μ1 [GV.int i1_0, GV.bool b1_1]))))) ∧ ((ilt i1_0 (ilen (arcL (x_22) (y_23) (r_24) (f_25) (t_26) (s_27)))) = false → ((true = true) ∧ ((True) ∧ (True) ∧ (True) ∧ (True) ∧ (True) ∧ (True) ∧ (NNe (s_27) 0) ∧ (True) ∧ (True) ∧ (True) ∧ True) ∧ (((ieq (ilen (arcL (x_22) (y_23) (r_24) (f_25) (t_26) (s_27))) (iadd (iquo (isub (t_26) (f_25)) (s_27)) (1 : Int))) : Bool) = (true)) ∧ True)))))))))))))))))))) = ev sig_laws_FnArcPoints xs_laws_FnArcPoints Tryd.f7.ntmps (fun b => if b == 0 then [.v 9, .v 2] else []) (codeOf Tryd.f7) 0 (initS [.s (.rdr n)]) (retK Tryd.f7.results.toList [.s (.bool (true))]) := by kernel_rfl
set_option maxHeartbeats 400000 in
theorem F_laws_FnArcPoints : FunOK 7 g_laws_FnArcPoints := by
  refine fun_F (by kernel_rfl) Tryd.func7 rfl (by kernel_rfl) sig_laws_FnArcPoints_ok xs_laws_FnArcPoints_ok ?_
  intro avs sg h hn hl
  unfold g_laws_FnArcPoints at h
  split at h
  · rename_i n
    injection h with h; subst h
    refine ⟨by kernel_rfl, fun b => if b == 0 then [.v 9, .v 2] else [], Eq.mp (V_laws_FnArcPoints n) ?_⟩
    simp only [true_and, and_true, implies_true, and_self, forall_const, true_implies, lenA, lenL, SV.lenOK, Cont.lenOK] at hn hl ⊢
    simp only [ilt_t, ilt_f, ile_t, ile_f, ieq_t, ieq_f, bnot_e, band_e, bite_and, bite_or, NLt_e, NLe_e, NNe_e, NIs_e, imax_e, imin_e, irem_e, Bool.not_eq_true', Bool.not_eq_false', Bool.and_eq_true, Bool.or_eq_true, Bool.or_eq_false_iff, Bool.and_eq_false_iff, Cont.pts.injEq, Cont.ints.injEq, Cont.bools.injEq, Cont.ptss.injEq, Cont.intss.injEq, Cont.boolss.injEq, true_and, and_true, implies_true, eqL_same, reduceCtorEq, false_implies, true_implies, and_true, true_and]
    intro h
    refine ⟨h, fun x y r f t s hp => fun hne => ?_⟩
    obtain ⟨l1, l2, l3⟩ := arcL_len x y r f t s
    have hB : arcB x y r f t s = true := l2 (fun e => hne (by rw [e]; exact ilen_nil))
    have hl := l3 hB
    have hL : arcL x y r f t s = arcK x y r f s ((t - f) / s + 1) := by unfold arcL; rw [if_pos hB]
    have hB2 := hB
    unfold arcB at hB2
    simp only [Bool.and_eq_true] at hB2
    obtain ⟨⟨⟨⟨h1, h2⟩, h3⟩, h4⟩, h5⟩ := hB2
    have b1 := vB_bd h1; have b2 := inB_true h2; have b3 := inB_true h3; have b4 := inB_true h4; have b5 := inB_true h5
    have hq0 : 0 ≤ (t - f) / s := Int.ediv_nonneg (by omega) (by omega)
    rw [hl, hL]
    refine ⟨fun | [.int k, .bool _] => 0 ≤ k ∧ k ≤ (t - f) / s + 1 | _ => False, fun | .int k :: _ => ((t - f) / s + 1 - k).toNat | _ => 0, ⟨by omega, by omega⟩, ?_⟩
    rintro k bk ⟨k0, k1⟩
    refine ⟨fun hc => ?_, fun hc => ?_⟩
    · obtain ⟨gx, gy⟩ := arcK_get (c1 := x) (c2 := y) (r := r) (f := f) (s := s) (n := (t - f) / s + 1) k0 hc
      rw [gx, gy]
      have ex : (arcP x y r (f + k * s)).1 = x + rnd4 (r * cosF (f + k * s)) := by
        show x + rotX r 0 (f + k * s) = _
        rw [(rot_0 r (f + k * s)).1]
      have ey : (arcP x y r (f + k * s)).2 = y + rnd4 (r * sinF (f + k * s)) := by
        show y + rotY r 0 (f + k * s) = _
        rw [(rot_0 r (f + k * s)).2]
      rw [ex, ey]
      have q1 := rnd4_bd (x := r) (s := cosF (f + k * s)) (a := 500) (by omega) (by omega) (cosF_bd _)
      have q2 := rnd4_bd (x := r) (s := sinF (f + k * s)) (a := 500) (by omega) (by omega) (sinF_bd _)
      obtain ⟨⟨u1, u2⟩, u3⟩ := unit_at (f + k * s)
      have hn1 := near_one (x := rnd4 (r * cosF (f + k * s))) (y := rnd4 (r * sinF (f + k * s))) b2.1 b2.2 u1 u2 u3 (by unfold rnd4; omega) (by unfold rnd4; omega)
      generalize rnd4 (r * cosF (f + k * s)) = X at *
      generalize rnd4 (r * sinF (f + k * s)) = Y at *
      have e1 : isub (x + X) x = X := by rw [isub_e (by omega) (by omega)]; omega
      have e2 : isub (y + Y) y = Y := by rw [isub_e (by omega) (by omega)]; omega
      have m1 := mul20 (x := X) (y := X) (by omega) (by omega)
      have m2 := mul20 (x := Y) (y := Y) (by omega) (by omega)
      have m3 := mul20 (x := r - 1) (y := r - 1) (by omega) (by omega)
      have m4 := mul20 (x := r + 1) (y := r + 1) (by omega) (by omega)
      rw [e1, e2, imul_e (a := X) (by omega) (by omega), imul_e (a := Y) (by omega) (by omega), iadd_e (a := X * X) (by omega) (by omega), isub_e (a := r) (by omega) (by omega), iadd_e (a := r) (by omega) (by omega), imul_e (a := r - 1) (by omega) (by omega), imul_e (a := r + 1) (by omega) (by omega), iadd_e (a := k) (by omega) (by omega)]
      exact ⟨⟨⟨k0, hc⟩, hc⟩, ⟨⟨k0, hc⟩, hc⟩, fun hx => by omega, fun hx => ⟨⟨by omega, by omega⟩, by show ((t - f) / s + 1 - (k + 1)).toNat < ((t - f) / s + 1 - k).toNat; omega⟩⟩
    · have hd : (t - f) / s ≤ t - f := Int.ediv_le_self _ (by omega)
      rw [isub_e (by omega) (by omega), iquo_e (by omega) (by omega) (by omega), Int.tdiv_eq_ediv_of_nonneg (by omega), iadd_e (by omega) (by omega)]
      exact ⟨by omega, rfl⟩
  · cases h
theorem fnArcPoints_walk (w : World) (v0 : Value) (x0 : Nat) (w0 : BytesArg w v0 x0) (hI : GInv w) : Calls Tryd.prog 7 #[v0] w fun e w' => e = .returned (.bool true) ∧ Bel w w' :=
  walk_of F_laws_FnArcPoints (avs := [.s (.rdr x0)]) rfl trivial ⟨bytes_reads w0, trivial⟩
set_option maxRecDepth 100000 in
theorem fnArcPoints_lifted (os : Os) (started : os.Started) (H : Type) (enc : TypeId × Value → H) :
    ReturnsInHanded {} Tryd.checked os 7 .any (fun w args => (Rows.fnArcPointsSpec.pre enc Tryd.prog Tryd.f7 [] false w args ∧ laidMetH Tryd.prog laid3 w) ∧ sizedMet enc Tryd.prog Tryd.f7 (OpenSpec.ofChange Rows.fnArcPointsSpec) false w args) (Rows.fnArcPointsSpec.post enc Tryd.prog Tryd.f7 false true false false) := by
  have own : ownKnob Tryd.prog.godebug = none := by kernel_rfl
  have laidOut : laidOutB Tryd.prog = true := by kernel_rfl
  refine returnsInHanded_of_change_and (C := Tryd.checked) (X := fun w _ => laidMetH Tryd.prog laid3 w) (fun _ _ _ hh h => h.of_heap hh) own started (by kernel_rfl) Tryd.func7
    (ChangeSpec.witness_shaped (enc := enc) (C := Tryd.checked) (os := os) (X := fun w _ => laidMetH Tryd.prog laid3 w) false (World.doorLaid Tryd.prog 400 os) #[.slice none 0 0] 8 rfl (World.shaped_of_RefB (by kernel_rfl) (by kernel_rfl)) (by kernel_rfl) (by kernel_rfl) (by kernel_rfl) (door_met os _)) ?_
  intro W base args ds gs before hval0 hW _ _ hL _
  have hI := of_laid hL
  have hval : ∀ (j : Nat) t v, Tryd.f7.params[j]? = some t → args[j]? = some v → Value.okWide Tryd.prog W .any base t v := hval0
  have hW' := hW
  obtain ⟨p, q, hA0, hV, rfl, hfz, hnd⟩ := hW
  have hA : DataW.TrodAll enc Tryd.prog W 0 (fun _ => true) true Tryd.f7.params.toList args.toList ds p := hA0
  rw [Tryd.params7] at hA hval
  obtain ⟨v0, vs0, d0, ds0, p0, q0, hargs, rfl, rfl, h0, r0⟩ := trodAll_cons hA
  obtain ⟨rfl, rfl, rfl⟩ := trodAll_nil r0
  obtain rfl : args = #[v0] := by cases args; simp_all
  obtain ⟨rfl, rfl⟩ := trodVars_none hV
  have k0 := h0
  have lt0 : ∀ x ∈ p0, x.block < W.heap.size := by obtain ⟨m, hm⟩ := k0; exact DataW.trod_lt m _ _ _ hm
  obtain ⟨x0, w0⟩ := opn_bytes (hval 0 22 v0 rfl rfl) h0
  clear hA0 hval0
  refine (fnArcPoints_walk W v0 x0 w0 hI).mono fun e W' ⟨he, bel⟩ => ?_
  subst he
  exact ⟨_, rfl, _, _, _, [], _, [], hW', trodAll_mk1 (shut_bool Tryd.underlying4 _), (trodAll_cons_mk (Below.trod laidOut (by kernel_rfl) (of_decide_eq_true (by kernel_rfl)) k0 bel lt0) trodAll_mk0), rfl, Below.frame bel _, fun h => by cases h⟩
theorem fnArcPoints_over : Rows.fnArcPointsRow.holds Tryd.pinned (OpenSpec.ofChange Rows.fnArcPointsSpec) :=
  OpenClaim.holds_of_wide 7 Tryd.f7 rfl rfl rfl rfl rfl rfl rfl ⟨rfl, rfl, rfl, rfl, rfl⟩ rfl rfl rfl rfl rfl (by kernel_rfl) Tryd.func7 (by kernel_rfl)
    (of_decide_eq_true (by kernel_rfl)) (by unfold Func.isWrapper; first | (rw [if_pos (by decide +kernel)]; kernel_rfl) | (rw [if_neg (by decide +kernel)]; exact ⟨rfl, rfl⟩))
    (fun os started H enc _ => fnArcPoints_lifted os started H enc)
theorem fnArcPoints_proved : Rows.FnArcPointsCardSaid :=
  Claim7.holds_tied_plain_at .later [] [.data, .data, .data] true (true, "16bbdc3ad5447965b735ab462f47ba12bb60540d08a1c5142685da0634440668") false
    fnArcPoints_over (fun _ h => by cases h) (by kernel_rfl) (fun _ h => by cases h) fnArcPoints_row_tie rfl ⟨rfl, rfl⟩ (by kernel_rfl) rfl
    (fun f fn hf hfn => by
      obtain rfl : f = 7 := Option.some.inj ((show Tryd.prog.funcNamed "loop.example/robotcell/laws.FnArcPoints" = some 7 by kernel_rfl).symm.trans hf) |>.symm
      obtain rfl : fn = Tryd.f7 := (Option.some.inj (Tryd.func7.symm.trans hfn)).symm
      exact ⟨by kernel_rfl, fun j t ht => by
        rw [Tryd.params7] at ht
        have hm : t ∈ [22] := by simpa using Array.mem_of_getElem? ht
        have hall : ([22].all fun u => !Tryd.prog.wantsStandIn u) = true := by kernel_rfl
        exact (show Tryd.prog.wantsStandIn t = false by simpa using List.all_eq_true.1 hall t hm)⟩)
    (by kernel_rfl)
#print axioms fnArcPoints_proved
end Go.Proofs.YtdkpnlhcodogeaaDoor

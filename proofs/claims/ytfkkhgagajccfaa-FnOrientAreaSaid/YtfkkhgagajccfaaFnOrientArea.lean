/- 'FnOrientArea': for every code, three drawn points in counterclockwise order are a convex polygon of positive doubled area, and in another order, or on one line, they are not. Conditions: none. -/
import Derived.Test.YtfkkhgagajccfaaAxR
namespace Go.Proofs.Ytfkkhgagajccfaa
open Go.ChangeShapes Go.WideShapes Go.ChangeAt Go.RowKit
set_option maxRecDepth 100000
set_option linter.unusedSimpArgs false
set_option linter.unusedVariables false
def s_spec_l20Point (r1 : Int) (r2 : Int) (n : Int) : SgX := ⟨r1 ≤ 2000 ∧ 0 ≤ r2 ∧ r2 ≤ 900000 ∧ -1000000 ≤ n ∧ n ≤ 1000000, [.int, .int, .int], (fun | [.int x, .int y, .int q] => -10001 ≤ x ∧ x ≤ 10001 ∧ -10000 ≤ y ∧ y ≤ 10000 ∧ (n ≤ 0 → -10000 ≤ x ∧ x ≤ 10000) ∧ r2 ≤ q ∧ q ≤ r2 + 10 | _ => False), (fun | [.int x, .int y, .int q] => [.agg [.int (x), .int (y)]] | _ => []), (fun | [.int x, .int y, .int q] => .box [.rdr r1, .int (q)] | _ => .box [])⟩
def g_spec_l20Point : Bx → List AV → Option SgX
  | .box [.rdr r1, .int r2], [.s (.int n)] => some (s_spec_l20Point r1 r2 n)
  | _, _ => none
def sig_spec_l20Point : FuncId → List AV → Option Sg := sigL []
def xs_spec_l20Point : XS := ⟨xsigL [(76, g_spec_l20Rd_pick), (89, g_spec_l20Rd_odd)], ysigL []⟩
theorem sig_spec_l20Point_ok : SigOK sig_spec_l20Point := sigL_nil
theorem xs_spec_l20Point_ok : XSigOK xs_spec_l20Point := ⟨xsigL_cons F_spec_l20Rd_pick (xsigL_cons F_spec_l20Rd_odd xsigL_nil), ysigL_nil⟩
theorem V_spec_l20Point (r1 : Int) (r2 : Int) (n : Int) : ((true = true) ∧ ((True) ∧ True) ∧ (true = true) ∧ ((True) ∧ True) ∧ (true = true) ∧ ((r1 ≤ 2000 ∧ 0 ≤ r2 ∧ r2 ≤ 1000000)) ∧ (∀ k_1 : Int, ((pickP (41 : Int) k_1) → ((True) ∧ (True) ∧ (true = true) ∧ ((r1 ≤ 2000 ∧ 0 ≤ (r2 + 1) ∧ (r2 + 1) ≤ 1000000)) ∧ (∀ k_2 : Int, ((pickP (41 : Int) k_2) → ((True) ∧ (True) ∧ (True) ∧ (True) ∧ (true = true) ∧ ((True) ∧ True) ∧ (true = true) ∧ ((r1 ≤ 2000 ∧ 0 ≤ ((r2 + 1) + 1) ∧ ((r2 + 1) + 1) ≤ 1000000)) ∧ (∀ k_3 : Int, ((pickP (3 : Int) k_3) → ((True) ∧ ((ieq (k_3) (0 : Int)) = true → ((true = true) ∧ ((True) ∧ True) ∧ (true = true) ∧ ((r1 ≤ 2000 ∧ 0 ≤ (((r2 + 1) + 1) + 1) ∧ (((r2 + 1) + 1) + 1) ≤ 1000000)) ∧ (∀ k_4 : Int, ((pickP (256 : Int) k_4) → ((True) ∧ (True) ∧ (True) ∧ (true = true) ∧ ((r1 ≤ 2000 ∧ 0 ≤ ((((r2 + 1) + 1) + 1) + 1) ∧ ((((r2 + 1) + 1) + 1) + 1) ≤ 1000000)) ∧ (∀ k_5 : Int, ((pickP (256 : Int) k_5) → ((True) ∧ (True) ∧ (True) ∧ (True) ∧ (true = true) ∧ ((True) ∧ (True) ∧ True) ∧ (true = true) ∧ ((r1 ≤ 2000 ∧ 0 ≤ (((((r2 + 1) + 1) + 1) + 1) + 1) ∧ (((((r2 + 1) + 1) + 1) + 1) + 1) ≤ 1000000 ∧ -1000000 ≤ n ∧ n ≤ 1000000)) ∧ (∀ b_6 : Bool, ∀ q_7 : Int, (((n ≤ 0 → b_6 = false) ∧ (((((r2 + 1) + 1) + 1) + 1) + 1) ≤ q_7 ∧ q_7 ≤ (((((r2 + 1) + 1) + 1) + 1) + 1) + 1) → (((b_6) = true → ((true = true) ∧ ((True) ∧ (True) ∧ True) ∧ (true = true) ∧ ((r1 ≤ 2000 ∧ 0 ≤ (q_7) ∧ (q_7) ≤ 1000000)) ∧ (∀ k_8 : Int, ((pickP (3 : Int) k_8) → ((NLe 0 (k_8) ∧ NLt (k_8) (ilen [(10001 : Int), (-10001 : Int), (10000 : Int)])) ∧ (NLt (k_8) (ilen [(10001 : Int), (-10001 : Int), (10000 : Int)])) ∧ (True) ∧ (True) ∧ (true = true) ∧ ((True) ∧ True) ∧ (True) ∧ ∃ x : Int, ∃ y : Int, ∃ q : Int, ((-10001 ≤ x ∧ x ≤ 10001 ∧ -10000 ≤ y ∧ y ≤ 10000 ∧ (n ≤ 0 → -10000 ≤ x ∧ x ≤ 10000) ∧ r2 ≤ q ∧ q ≤ r2 + 10) ∧ (((((geti [(10001 : Int), (-10001 : Int), (10000 : Int)] (k_8)) : Int) = (x)) ∧ (((isub (imul (k_5) (4 : Int)) (500 : Int)) : Int) = (y)) ∧ True) ∧ True) ∧ ((true = true) ∧ (true = true) ∧ ((r1 : Int) = r1) ∧ ((((q_7) + 1) : Int) = (q)) ∧ True))))))) ∧ ((b_6) = false → ((true = true) ∧ ((True) ∧ True) ∧ (True) ∧ ∃ x : Int, ∃ y : Int, ∃ q : Int, ((-10001 ≤ x ∧ x ≤ 10001 ∧ -10000 ≤ y ∧ y ≤ 10000 ∧ (n ≤ 0 → -10000 ≤ x ∧ x ≤ 10000) ∧ r2 ≤ q ∧ q ≤ r2 + 10) ∧ (((((isub (imul (k_4) (4 : Int)) (500 : Int)) : Int) = (x)) ∧ (((isub (imul (k_5) (4 : Int)) (500 : Int)) : Int) = (y)) ∧ True) ∧ True) ∧ ((true = true) ∧ (true = true) ∧ ((r1 : Int) = r1) ∧ (((q_7) : Int) = (q)) ∧ True))))))))))))))) ∧ ((ieq (k_3) (0 : Int)) = false → ((true = true) ∧ ((True) ∧ (True) ∧ True) ∧ (true = true) ∧ ((r1 ≤ 2000 ∧ 0 ≤ (((r2 + 1) + 1) + 1) ∧ (((r2 + 1) + 1) + 1) ≤ 1000000 ∧ -1000000 ≤ n ∧ n ≤ 1000000)) ∧ (∀ b_9 : Bool, ∀ q_10 : Int, (((n ≤ 0 → b_9 = false) ∧ (((r2 + 1) + 1) + 1) ≤ q_10 ∧ q_10 ≤ (((r2 + 1) + 1) + 1) + 1) → (((b_9) = true → ((true = true) ∧ ((True) ∧ (True) ∧ True) ∧ (true = true) ∧ ((r1 ≤ 2000 ∧ 0 ≤ (q_10) ∧ (q_10) ≤ 1000000)) ∧ (∀ k_11 : Int, ((pickP (3 : Int) k_11) → ((NLe 0 (k_11) ∧ NLt (k_11) (ilen [(10001 : Int), (-10001 : Int), (10000 : Int)])) ∧ (NLt (k_11) (ilen [(10001 : Int), (-10001 : Int), (10000 : Int)])) ∧ (True) ∧ (True) ∧ (true = true) ∧ ((True) ∧ True) ∧ (True) ∧ ∃ x : Int, ∃ y : Int, ∃ q : Int, ((-10001 ≤ x ∧ x ≤ 10001 ∧ -10000 ≤ y ∧ y ≤ 10000 ∧ (n ≤ 0 → -10000 ≤ x ∧ x ≤ 10000) ∧ r2 ≤ q ∧ q ≤ r2 + 10) ∧ (((((geti [(10001 : Int), (-10001 : Int), (10000 : Int)] (k_11)) : Int) = (x)) ∧ (((isub (k_2) (20 : Int)) : Int) = (y)) ∧ True) ∧ True) ∧ ((true = true) ∧ (true = true) ∧ ((r1 : Int) = r1) ∧ ((((q_10) + 1) : Int) = (q)) ∧ True))))))) ∧ ((b_9) = false → ((true = true) ∧ ((True) ∧ True) ∧ (True) ∧ ∃ x : Int, ∃ y : Int, ∃ q : Int, ((-10001 ≤ x ∧ x ≤ 10001 ∧ -10000 ≤ y ∧ y ≤ 10000 ∧ (n ≤ 0 → -10000 ≤ x ∧ x ≤ 10000) ∧ r2 ≤ q ∧ q ≤ r2 + 10) ∧ (((((isub (k_1) (20 : Int)) : Int) = (x)) ∧ (((isub (k_2) (20 : Int)) : Int) = (y)) ∧ True) ∧ True) ∧ ((true = true) ∧ (true = true) ∧ ((r1 : Int) = r1) ∧ (((q_10) : Int) = (q)) ∧ True))))))))))))))))))) = (fun sg => ev sig_spec_l20Point xs_spec_l20Point Try.f75.ntmps (fun b => []) (codeOf Try.f75) 0 (initX (.box [.rdr r1, .int r2]) [.s (.int n)]) (retX Try.f75.results.toList sg.kinds sg.post sg.ret sg.out)) (s_spec_l20Point r1 r2 n) := by kernel_rfl
set_option maxHeartbeats 4000000 in
theorem F_spec_l20Point : FunX 75 g_spec_l20Point := by
  refine fun_X (by kernel_rfl) Try.func75 rfl (by kernel_rfl) sig_spec_l20Point_ok xs_spec_l20Point_ok ?_
  intro bx avs sg h hn hl hlb
  unfold g_spec_l20Point at h
  split at h
  · rename_i r1 r2 n
    injection h with h; subst h
    refine ⟨by kernel_rfl, fun b => [], Eq.mp (V_spec_l20Point r1 r2 n) ?_⟩
    simp only [true_and, and_true, implies_true, and_self, forall_const, true_implies, lenA, lenL, SV.lenOK, Cont.lenOK, lenB, s_spec_l20Point] at hn hl hlb ⊢
    simp only [ilt_t, ilt_f, ile_t, ile_f, ieq_t, ieq_f, bnot_e, band_e, bite_and, bite_or, NLt_e, NLe_e, NNe_e, NIs_e, imax_e, imin_e, irem_e, Bool.not_eq_true', Bool.not_eq_false', Bool.and_eq_true, Bool.or_eq_true, Bool.or_eq_false_iff, Bool.and_eq_false_iff, Cont.pts.injEq, Cont.ints.injEq, Cont.bools.injEq, Cont.ptss.injEq, Cont.intss.injEq, Cont.boolss.injEq, true_and, and_true, implies_true, pickP, iadd_u, isub_u, imul_u, ineg_u, ilen_cons, ilen_nil, geti_cons, geti_nil, exists_and_left, exists_and_right, exists_eq_left, exists_eq_left', exists_eq_right, exists_eq_right'] at hn ⊢
    repeat' (first | (intro _) | (refine ⟨_, _, _, ?_, ⟨rfl, rfl⟩, rfl⟩) | (apply And.intro) | omega | split)
    all_goals (first | (simp_all; done) | (simp_all; omega))
  · cases h
def s_spec_DrawOrientation (n : Int) : SgY := ⟨n ≤ 1048576, [.int, .int, .int, .int, .int, .int], (fun | [.int a, .int b, .int c, .int d, .int e, .int f] => -100000 ≤ a ∧ a ≤ 100000 ∧ -100000 ≤ b ∧ b ≤ 100000 ∧ -100000 ≤ c ∧ c ≤ 100000 ∧ -100000 ≤ d ∧ d ≤ 100000 ∧ -100000 ≤ e ∧ e ≤ 100000 ∧ -100000 ≤ f ∧ f ≤ 100000 | _ => False), (fun | [.int a, .int b, .int c, .int d, .int e, .int f] => [.agg [.int (a), .int (b)], .agg [.int (c), .int (d)], .agg [.int (e), .int (f)]] | _ => [])⟩
def g_spec_DrawOrientation : List AV → Option SgY
  | [.s (.rdr n)] => some (s_spec_DrawOrientation n)
  | _ => none
def sig_spec_DrawOrientation : FuncId → List AV → Option Sg := sigL [(74, g_spec_l20Open)]
def xs_spec_DrawOrientation : XS := ⟨xsigL [(75, g_spec_l20Point), (76, g_spec_l20Rd_pick)], ysigL []⟩
theorem sig_spec_DrawOrientation_ok : SigOK sig_spec_DrawOrientation := sigL_cons F_spec_l20Open sigL_nil
theorem xs_spec_DrawOrientation_ok : XSigOK xs_spec_DrawOrientation := ⟨xsigL_cons F_spec_l20Point (xsigL_cons F_spec_l20Rd_pick xsigL_nil), ysigL_nil⟩
theorem V_spec_DrawOrientation (n : Int) : ((true = true) ∧ ((True) ∧ (True) ∧ (True) ∧ True) ∧ (true = true) ∧ ((True) ∧ ((n ≤ 1048576)) ∧ (True) ∧ True) ∧ (true = true) ∧ ((True) ∧ True) ∧ (true = true) ∧ (((if n ≤ 2000 then n else 2000) ≤ 2000 ∧ 0 ≤ ((0 : Int)) ∧ ((0 : Int)) ≤ 900000 ∧ -1000000 ≤ (16 : Int) ∧ (16 : Int) ≤ 1000000)) ∧ (∀ x_12 : Int, ∀ y_13 : Int, ∀ q_14 : Int, ((-10001 ≤ x_12 ∧ x_12 ≤ 10001 ∧ -10000 ≤ y_13 ∧ y_13 ≤ 10000 ∧ ((16 : Int) ≤ 0 → -10000 ≤ x_12 ∧ x_12 ≤ 10000) ∧ ((0 : Int)) ≤ q_14 ∧ q_14 ≤ ((0 : Int)) + 10) → ((True) ∧ (True) ∧ (true = true) ∧ ((True) ∧ True) ∧ (true = true) ∧ (((if n ≤ 2000 then n else 2000) ≤ 2000 ∧ 0 ≤ (q_14) ∧ (q_14) ≤ 900000 ∧ -1000000 ≤ (16 : Int) ∧ (16 : Int) ≤ 1000000)) ∧ (∀ x_15 : Int, ∀ y_16 : Int, ∀ q_17 : Int, ((-10001 ≤ x_15 ∧ x_15 ≤ 10001 ∧ -10000 ≤ y_16 ∧ y_16 ≤ 10000 ∧ ((16 : Int) ≤ 0 → -10000 ≤ x_15 ∧ x_15 ≤ 10000) ∧ (q_14) ≤ q_17 ∧ q_17 ≤ (q_14) + 10) → ((True) ∧ (True) ∧ (true = true) ∧ ((True) ∧ True) ∧ (true = true) ∧ (((if n ≤ 2000 then n else 2000) ≤ 2000 ∧ 0 ≤ (q_17) ∧ (q_17) ≤ 900000 ∧ -1000000 ≤ (16 : Int) ∧ (16 : Int) ≤ 1000000)) ∧ (∀ x_18 : Int, ∀ y_19 : Int, ∀ q_20 : Int, ((-10001 ≤ x_18 ∧ x_18 ≤ 10001 ∧ -10000 ≤ y_19 ∧ y_19 ≤ 10000 ∧ ((16 : Int) ≤ 0 → -10000 ≤ x_18 ∧ x_18 ≤ 10000) ∧ (q_17) ≤ q_20 ∧ q_20 ≤ (q_17) + 10) → ((True) ∧ (True) ∧ (true = true) ∧ ((True) ∧ True) ∧ (true = true) ∧ (((if n ≤ 2000 then n else 2000) ≤ 2000 ∧ 0 ≤ (q_20) ∧ (q_20) ≤ 1000000)) ∧ (∀ k_21 : Int, ((pickP (4 : Int) k_21) → ((True) ∧ ((ieq (k_21) (0 : Int)) = true → ((true = true) ∧ ((True) ∧ (True) ∧ (True) ∧ (True) ∧ (True) ∧ (True) ∧ (True) ∧ (True) ∧ (True) ∧ (True) ∧ (True) ∧ (True) ∧ (True) ∧ True) ∧ (True) ∧ (true = true) ∧ (((True) ∧ (((True) ∧ (((True) ∧ (((True) ∧ (((True) ∧ (((True) ∧ (∃ a : Int, ∃ b : Int, ∃ c : Int, ∃ d : Int, ∃ e : Int, ∃ f : Int, ((-100000 ≤ a ∧ a ≤ 100000 ∧ -100000 ≤ b ∧ b ≤ 100000 ∧ -100000 ≤ c ∧ c ≤ 100000 ∧ -100000 ≤ d ∧ d ≤ 100000 ∧ -100000 ≤ e ∧ e ≤ 100000 ∧ -100000 ≤ f ∧ f ≤ 100000) ∧ (((((x_12) : Int) = (a)) ∧ (((y_13) : Int) = (b)) ∧ True) ∧ ((((x_15) : Int) = (c)) ∧ (((y_16) : Int) = (d)) ∧ True) ∧ ((((isub (imul (2 : Int) (x_15)) (x_12)) : Int) = (e)) ∧ (((isub (imul (2 : Int) (y_16)) (y_13)) : Int) = (f)) ∧ True) ∧ True)))) ∧ True)) ∧ True)) ∧ True)) ∧ ((True) ∧ (((True) ∧ (((True) ∧ (((True) ∧ (∃ a : Int, ∃ b : Int, ∃ c : Int, ∃ d : Int, ∃ e : Int, ∃ f : Int, ((-100000 ≤ a ∧ a ≤ 100000 ∧ -100000 ≤ b ∧ b ≤ 100000 ∧ -100000 ≤ c ∧ c ≤ 100000 ∧ -100000 ≤ d ∧ d ≤ 100000 ∧ -100000 ≤ e ∧ e ≤ 100000 ∧ -100000 ≤ f ∧ f ≤ 100000) ∧ (((((x_12) : Int) = (a)) ∧ (((y_13) : Int) = (b)) ∧ True) ∧ ((((x_15) : Int) = (c)) ∧ (((y_16) : Int) = (d)) ∧ True) ∧ ((((isub (imul (2 : Int) (x_15)) (x_12)) : Int) = (e)) ∧ (((isub (imul (2 : Int) (y_16)) (y_13)) : Int) = (f)) ∧ True) ∧ True)))) ∧ True)) ∧ True)) ∧ ((True) ∧ (((True) ∧ (((True) ∧ (∃ a : Int, ∃ b : Int, ∃ c : Int, ∃ d : Int, ∃ e : Int, ∃ f : Int, ((-100000 ≤ a ∧ a ≤ 100000 ∧ -100000 ≤ b ∧ b ≤ 100000 ∧ -100000 ≤ c ∧ c ≤ 100000 ∧ -100000 ≤ d ∧ d ≤ 100000 ∧ -100000 ≤ e ∧ e ≤ 100000 ∧ -100000 ≤ f ∧ f ≤ 100000) ∧ (((((x_12) : Int) = (a)) ∧ (((y_13) : Int) = (b)) ∧ True) ∧ ((((x_15) : Int) = (c)) ∧ (((y_16) : Int) = (d)) ∧ True) ∧ ((((isub (imul (2 : Int) (x_15)) (x_12)) : Int) = (e)) ∧ (((isub (imul (2 : Int) (y_16)) (y_13)) : Int) = (f)) ∧ True) ∧ True)))) ∧ True)) ∧ True)) ∧ True)) ∧ True)) ∧ ((True) ∧ (((True) ∧ (((True) ∧ (((True) ∧ (((True) ∧ (∃ a : Int, ∃ b : Int, ∃ c : Int, ∃ d : Int, ∃ e : Int, ∃ f : Int, ((-100000 ≤ a ∧ a ≤ 100000 ∧ -100000 ≤ b ∧ b ≤ 100000 ∧ -100000 ≤ c ∧ c ≤ 100000 ∧ -100000 ≤ d ∧ d ≤ 100000 ∧ -100000 ≤ e ∧ e ≤ 100000 ∧ -100000 ≤ f ∧ f ≤ 100000) ∧ (((((x_12) : Int) = (a)) ∧ (((y_13) : Int) = (b)) ∧ True) ∧ ((((x_15) : Int) = (c)) ∧ (((y_16) : Int) = (d)) ∧ True) ∧ ((((isub (imul (2 : Int) (x_15)) (x_12)) : Int) = (e)) ∧ (((isub (imul (2 : Int) (y_16)) (y_13)) : Int) = (f)) ∧ True) ∧ True)))) ∧ True)) ∧ True)) ∧ True)) ∧ ((True) ∧ (((True) ∧ (((True) ∧ (((True) ∧ (∃ a : Int, ∃ b : Int, ∃ c : Int, ∃ d : Int, ∃ e : Int, ∃ f : Int, ((-100000 ≤ a ∧ a ≤ 100000 ∧ -100000 ≤ b ∧ b ≤ 100000 ∧ -100000 ≤ c ∧ c ≤ 100000 ∧ -100000 ≤ d ∧ d ≤ 100000 ∧ -100000 ≤ e ∧ e ≤ 100000 ∧ -100000 ≤ f ∧ f ≤ 100000) ∧ (((((x_12) : Int) = (a)) ∧ (((y_13) : Int) = (b)) ∧ True) ∧ ((((x_15) : Int) = (c)) ∧ (((y_16) : Int) = (d)) ∧ True) ∧ ((((isub (imul (2 : Int) (x_15)) (x_12)) : Int) = (e)) ∧ (((isub (imul (2 : Int) (y_16)) (y_13)) : Int) = (f)) ∧ True) ∧ True)))) ∧ True)) ∧ True)) ∧ True)) ∧ True)) ∧ ((True) ∧ (((True) ∧ (((True) ∧ (((True) ∧ (((True) ∧ (∃ a : Int, ∃ b : Int, ∃ c : Int, ∃ d : Int, ∃ e : Int, ∃ f : Int, ((-100000 ≤ a ∧ a ≤ 100000 ∧ -100000 ≤ b ∧ b ≤ 100000 ∧ -100000 ≤ c ∧ c ≤ 100000 ∧ -100000 ≤ d ∧ d ≤ 100000 ∧ -100000 ≤ e ∧ e ≤ 100000 ∧ -100000 ≤ f ∧ f ≤ 100000) ∧ (((((x_12) : Int) = (a)) ∧ (((y_13) : Int) = (b)) ∧ True) ∧ ((((x_15) : Int) = (c)) ∧ (((y_16) : Int) = (d)) ∧ True) ∧ ((((isub (imul (2 : Int) (x_15)) (x_12)) : Int) = (e)) ∧ (((isub (imul (2 : Int) (y_16)) (y_13)) : Int) = (f)) ∧ True) ∧ True)))) ∧ True)) ∧ True)) ∧ ((True) ∧ (((True) ∧ (((True) ∧ (∃ a : Int, ∃ b : Int, ∃ c : Int, ∃ d : Int, ∃ e : Int, ∃ f : Int, ((-100000 ≤ a ∧ a ≤ 100000 ∧ -100000 ≤ b ∧ b ≤ 100000 ∧ -100000 ≤ c ∧ c ≤ 100000 ∧ -100000 ≤ d ∧ d ≤ 100000 ∧ -100000 ≤ e ∧ e ≤ 100000 ∧ -100000 ≤ f ∧ f ≤ 100000) ∧ (((((x_12) : Int) = (a)) ∧ (((y_13) : Int) = (b)) ∧ True) ∧ ((((x_15) : Int) = (c)) ∧ (((y_16) : Int) = (d)) ∧ True) ∧ ((((isub (imul (2 : Int) (x_15)) (x_12)) : Int) = (e)) ∧ (((isub (imul (2 : Int) (y_16)) (y_13)) : Int) = (f)) ∧ True) ∧ True)))) ∧ True)) ∧ True)) ∧ True)) ∧ ((True) ∧ (((True) ∧ (((True) ∧ (((True) ∧ (∃ a : Int, ∃ b : Int, ∃ c : Int, ∃ d : Int, ∃ e : Int, ∃ f : Int, ((-100000 ≤ a ∧ a ≤ 100000 ∧ -100000 ≤ b ∧ b ≤ 100000 ∧ -100000 ≤ c ∧ c ≤ 100000 ∧ -100000 ≤ d ∧ d ≤ 100000 ∧ -100000 ≤ e ∧ e ≤ 100000 ∧ -100000 ≤ f ∧ f ≤ 100000) ∧ (((((x_12) : Int) = (a)) ∧ (((y_13) : Int) = (b)) ∧ True) ∧ ((((x_15) : Int) = (c)) ∧ (((y_16) : Int) = (d)) ∧ True) ∧ ((((isub (imul (2 : Int) (x_15)) (x_12)) : Int) = (e)) ∧ (((isub (imul (2 : Int) (y_16)) (y_13)) : Int) = (f)) ∧ True) ∧ True)))) ∧ True)) ∧ True)) ∧ True)) ∧ True)) ∧ True)) ∧ ((True) ∧ (((True) ∧ (((True) ∧ (((True) ∧ (((True) ∧ (((True) ∧ (∃ a : Int, ∃ b : Int, ∃ c : Int, ∃ d : Int, ∃ e : Int, ∃ f : Int, ((-100000 ≤ a ∧ a ≤ 100000 ∧ -100000 ≤ b ∧ b ≤ 100000 ∧ -100000 ≤ c ∧ c ≤ 100000 ∧ -100000 ≤ d ∧ d ≤ 100000 ∧ -100000 ≤ e ∧ e ≤ 100000 ∧ -100000 ≤ f ∧ f ≤ 100000) ∧ (((((x_12) : Int) = (a)) ∧ (((y_13) : Int) = (b)) ∧ True) ∧ ((((x_15) : Int) = (c)) ∧ (((y_16) : Int) = (d)) ∧ True) ∧ ((((isub (imul (2 : Int) (x_15)) (x_12)) : Int) = (e)) ∧ (((isub (imul (2 : Int) (y_16)) (y_13)) : Int) = (f)) ∧ True) ∧ True)))) ∧ True)) ∧ True)) ∧ True)) ∧ ((True) ∧ (((True) ∧ (((True) ∧ (((True) ∧ (∃ a : Int, ∃ b : Int, ∃ c : Int, ∃ d : Int, ∃ e : Int, ∃ f : Int, ((-100000 ≤ a ∧ a ≤ 100000 ∧ -100000 ≤ b ∧ b ≤ 100000 ∧ -100000 ≤ c ∧ c ≤ 100000 ∧ -100000 ≤ d ∧ d ≤ 100000 ∧ -100000 ≤ e ∧ e ≤ 100000 ∧ -100000 ≤ f ∧ f ≤ 100000) ∧ (((((x_12) : Int) = (a)) ∧ (((y_13) : Int) = (b)) ∧ True) ∧ ((((x_15) : Int) = (c)) ∧ (((y_16) : Int) = (d)) ∧ True) ∧ ((((isub (imul (2 : Int) (x_15)) (x_12)) : Int) = (e)) ∧ (((isub (imul (2 : Int) (y_16)) (y_13)) : Int) = (f)) ∧ True) ∧ True)))) ∧ True)) ∧ True)) ∧ ((True) ∧ (((True) ∧ (((True) ∧ (∃ a : Int, ∃ b : Int, ∃ c : Int, ∃ d : Int, ∃ e : Int, ∃ f : Int, ((-100000 ≤ a ∧ a ≤ 100000 ∧ -100000 ≤ b ∧ b ≤ 100000 ∧ -100000 ≤ c ∧ c ≤ 100000 ∧ -100000 ≤ d ∧ d ≤ 100000 ∧ -100000 ≤ e ∧ e ≤ 100000 ∧ -100000 ≤ f ∧ f ≤ 100000) ∧ (((((x_12) : Int) = (a)) ∧ (((y_13) : Int) = (b)) ∧ True) ∧ ((((x_15) : Int) = (c)) ∧ (((y_16) : Int) = (d)) ∧ True) ∧ ((((isub (imul (2 : Int) (x_15)) (x_12)) : Int) = (e)) ∧ (((isub (imul (2 : Int) (y_16)) (y_13)) : Int) = (f)) ∧ True) ∧ True)))) ∧ True)) ∧ True)) ∧ True)) ∧ True)) ∧ ((True) ∧ (((True) ∧ (((True) ∧ (((True) ∧ (((True) ∧ (∃ a : Int, ∃ b : Int, ∃ c : Int, ∃ d : Int, ∃ e : Int, ∃ f : Int, ((-100000 ≤ a ∧ a ≤ 100000 ∧ -100000 ≤ b ∧ b ≤ 100000 ∧ -100000 ≤ c ∧ c ≤ 100000 ∧ -100000 ≤ d ∧ d ≤ 100000 ∧ -100000 ≤ e ∧ e ≤ 100000 ∧ -100000 ≤ f ∧ f ≤ 100000) ∧ (((((x_12) : Int) = (a)) ∧ (((y_13) : Int) = (b)) ∧ True) ∧ ((((x_15) : Int) = (c)) ∧ (((y_16) : Int) = (d)) ∧ True) ∧ ((((isub (imul (2 : Int) (x_15)) (x_12)) : Int) = (e)) ∧ (((isub (imul (2 : Int) (y_16)) (y_13)) : Int) = (f)) ∧ True) ∧ True)))) ∧ True)) ∧ True)) ∧ True)) ∧ True)) ∧ True)) ∧ ((True) ∧ (((True) ∧ (((True) ∧ (((True) ∧ (((True) ∧ (((True) ∧ (∃ a : Int, ∃ b : Int, ∃ c : Int, ∃ d : Int, ∃ e : Int, ∃ f : Int, ((-100000 ≤ a ∧ a ≤ 100000 ∧ -100000 ≤ b ∧ b ≤ 100000 ∧ -100000 ≤ c ∧ c ≤ 100000 ∧ -100000 ≤ d ∧ d ≤ 100000 ∧ -100000 ≤ e ∧ e ≤ 100000 ∧ -100000 ≤ f ∧ f ≤ 100000) ∧ (((((x_12) : Int) = (a)) ∧ (((y_13) : Int) = (b)) ∧ True) ∧ ((((x_15) : Int) = (c)) ∧ (((y_16) : Int) = (d)) ∧ True) ∧ ((((isub (imul (2 : Int) (x_15)) (x_12)) : Int) = (e)) ∧ (((isub (imul (2 : Int) (y_16)) (y_13)) : Int) = (f)) ∧ True) ∧ True)))) ∧ True)) ∧ True)) ∧ True)) ∧ ((True) ∧ (((True) ∧ (((True) ∧ (((True) ∧ (∃ a : Int, ∃ b : Int, ∃ c : Int, ∃ d : Int, ∃ e : Int, ∃ f : Int, ((-100000 ≤ a ∧ a ≤ 100000 ∧ -100000 ≤ b ∧ b ≤ 100000 ∧ -100000 ≤ c ∧ c ≤ 100000 ∧ -100000 ≤ d ∧ d ≤ 100000 ∧ -100000 ≤ e ∧ e ≤ 100000 ∧ -100000 ≤ f ∧ f ≤ 100000) ∧ (((((x_12) : Int) = (a)) ∧ (((y_13) : Int) = (b)) ∧ True) ∧ ((((x_15) : Int) = (c)) ∧ (((y_16) : Int) = (d)) ∧ True) ∧ ((((isub (imul (2 : Int) (x_15)) (x_12)) : Int) = (e)) ∧ (((isub (imul (2 : Int) (y_16)) (y_13)) : Int) = (f)) ∧ True) ∧ True)))) ∧ True)) ∧ True)) ∧ True)) ∧ True)) ∧ ((True) ∧ (((True) ∧ (((True) ∧ (((True) ∧ (((True) ∧ (∃ a : Int, ∃ b : Int, ∃ c : Int, ∃ d : Int, ∃ e : Int, ∃ f : Int, ((-100000 ≤ a ∧ a ≤ 100000 ∧ -100000 ≤ b ∧ b ≤ 100000 ∧ -100000 ≤ c ∧ c ≤ 100000 ∧ -100000 ≤ d ∧ d ≤ 100000 ∧ -100000 ≤ e ∧ e ≤ 100000 ∧ -100000 ≤ f ∧ f ≤ 100000) ∧ (((((x_12) : Int) = (a)) ∧ (((y_13) : Int) = (b)) ∧ True) ∧ ((((x_15) : Int) = (c)) ∧ (((y_16) : Int) = (d)) ∧ True) ∧ ((((isub (imul (2 : Int) (x_15)) (x_12)) : Int) = (e)) ∧ (((isub (imul (2 : Int) (y_16)) (y_13)) : Int) = (f)) ∧ True) ∧ True)))) ∧ True)) ∧ True)) ∧ True)) ∧ True)) ∧ True)) ∧ True))) ∧ ((ieq (k_21) (0 : Int)) = false → ((true = true) ∧ (((True) ∧ (((True) ∧ (((True) ∧ (((True) ∧ (((True) ∧ (((True) ∧ (∃ a : Int, ∃ b : Int, ∃ c : Int, ∃ d : Int, ∃ e : Int, ∃ f : Int, ((-100000 ≤ a ∧ a ≤ 100000 ∧ -100000 ≤ b ∧ b ≤ 100000 ∧ -100000 ≤ c ∧ c ≤ 100000 ∧ -100000 ≤ d ∧ d ≤ 100000 ∧ -100000 ≤ e ∧ e ≤ 100000 ∧ -100000 ≤ f ∧ f ≤ 100000) ∧ (((((x_12) : Int) = (a)) ∧ (((y_13) : Int) = (b)) ∧ True) ∧ ((((x_15) : Int) = (c)) ∧ (((y_16) : Int) = (d)) ∧ True) ∧ ((((x_18) : Int) = (e)) ∧ (((y_19) : Int) = (f)) ∧ True) ∧ True)))) ∧ True)) ∧ True)) ∧ True)) ∧ ((True) ∧ (((True) ∧ (((True) ∧ (((True) ∧ (∃ a : Int, ∃ b : Int, ∃ c : Int, ∃ d : Int, ∃ e : Int, ∃ f : Int, ((-100000 ≤ a ∧ a ≤ 100000 ∧ -100000 ≤ b ∧ b ≤ 100000 ∧ -100000 ≤ c ∧ c ≤ 100000 ∧ -100000 ≤ d ∧ d ≤ 100000 ∧ -100000 ≤ e ∧ e ≤ 100000 ∧ -100000 ≤ f ∧ f ≤ 100000) ∧ (((((x_12) : Int) = (a)) ∧ (((y_13) : Int) = (b)) ∧ True) ∧ ((((x_15) : Int) = (c)) ∧ (((y_16) : Int) = (d)) ∧ True) ∧ ((((x_18) : Int) = (e)) ∧ (((y_19) : Int) = (f)) ∧ True) ∧ True)))) ∧ True)) ∧ True)) ∧ ((True) ∧ (((True) ∧ (((True) ∧ (∃ a : Int, ∃ b : Int, ∃ c : Int, ∃ d : Int, ∃ e : Int, ∃ f : Int, ((-100000 ≤ a ∧ a ≤ 100000 ∧ -100000 ≤ b ∧ b ≤ 100000 ∧ -100000 ≤ c ∧ c ≤ 100000 ∧ -100000 ≤ d ∧ d ≤ 100000 ∧ -100000 ≤ e ∧ e ≤ 100000 ∧ -100000 ≤ f ∧ f ≤ 100000) ∧ (((((x_12) : Int) = (a)) ∧ (((y_13) : Int) = (b)) ∧ True) ∧ ((((x_15) : Int) = (c)) ∧ (((y_16) : Int) = (d)) ∧ True) ∧ ((((x_18) : Int) = (e)) ∧ (((y_19) : Int) = (f)) ∧ True) ∧ True)))) ∧ True)) ∧ True)) ∧ True)) ∧ True)) ∧ ((True) ∧ (((True) ∧ (((True) ∧ (((True) ∧ (((True) ∧ (∃ a : Int, ∃ b : Int, ∃ c : Int, ∃ d : Int, ∃ e : Int, ∃ f : Int, ((-100000 ≤ a ∧ a ≤ 100000 ∧ -100000 ≤ b ∧ b ≤ 100000 ∧ -100000 ≤ c ∧ c ≤ 100000 ∧ -100000 ≤ d ∧ d ≤ 100000 ∧ -100000 ≤ e ∧ e ≤ 100000 ∧ -100000 ≤ f ∧ f ≤ 100000) ∧ (((((x_12) : Int) = (a)) ∧ (((y_13) : Int) = (b)) ∧ True) ∧ ((((x_15) : Int) = (c)) ∧ (((y_16) : Int) = (d)) ∧ True) ∧ ((((x_18) : Int) = (e)) ∧ (((y_19) : Int) = (f)) ∧ True) ∧ True)))) ∧ True)) ∧ True)) ∧ True)) ∧ ((True) ∧ (((True) ∧ (((True) ∧ (((True) ∧ (∃ a : Int, ∃ b : Int, ∃ c : Int, ∃ d : Int, ∃ e : Int, ∃ f : Int, ((-100000 ≤ a ∧ a ≤ 100000 ∧ -100000 ≤ b ∧ b ≤ 100000 ∧ -100000 ≤ c ∧ c ≤ 100000 ∧ -100000 ≤ d ∧ d ≤ 100000 ∧ -100000 ≤ e ∧ e ≤ 100000 ∧ -100000 ≤ f ∧ f ≤ 100000) ∧ (((((x_12) : Int) = (a)) ∧ (((y_13) : Int) = (b)) ∧ True) ∧ ((((x_15) : Int) = (c)) ∧ (((y_16) : Int) = (d)) ∧ True) ∧ ((((x_18) : Int) = (e)) ∧ (((y_19) : Int) = (f)) ∧ True) ∧ True)))) ∧ True)) ∧ True)) ∧ True)) ∧ True)) ∧ ((True) ∧ (((True) ∧ (((True) ∧ (((True) ∧ (((True) ∧ (∃ a : Int, ∃ b : Int, ∃ c : Int, ∃ d : Int, ∃ e : Int, ∃ f : Int, ((-100000 ≤ a ∧ a ≤ 100000 ∧ -100000 ≤ b ∧ b ≤ 100000 ∧ -100000 ≤ c ∧ c ≤ 100000 ∧ -100000 ≤ d ∧ d ≤ 100000 ∧ -100000 ≤ e ∧ e ≤ 100000 ∧ -100000 ≤ f ∧ f ≤ 100000) ∧ (((((x_12) : Int) = (a)) ∧ (((y_13) : Int) = (b)) ∧ True) ∧ ((((x_15) : Int) = (c)) ∧ (((y_16) : Int) = (d)) ∧ True) ∧ ((((x_18) : Int) = (e)) ∧ (((y_19) : Int) = (f)) ∧ True) ∧ True)))) ∧ True)) ∧ True)) ∧ ((True) ∧ (((True) ∧ (((True) ∧ (∃ a : Int, ∃ b : Int, ∃ c : Int, ∃ d : Int, ∃ e : Int, ∃ f : Int, ((-100000 ≤ a ∧ a ≤ 100000 ∧ -100000 ≤ b ∧ b ≤ 100000 ∧ -100000 ≤ c ∧ c ≤ 100000 ∧ -100000 ≤ d ∧ d ≤ 100000 ∧ -100000 ≤ e ∧ e ≤ 100000 ∧ -100000 ≤ f ∧ f ≤ 100000) ∧ (((((x_12) : Int) = (a)) ∧ (((y_13) : Int) = (b)) ∧ True) ∧ ((((x_15) : Int) = (c)) ∧ (((y_16) : Int) = (d)) ∧ True) ∧ ((((x_18) : Int) = (e)) ∧ (((y_19) : Int) = (f)) ∧ True) ∧ True)))) ∧ True)) ∧ True)) ∧ True)) ∧ ((True) ∧ (((True) ∧ (((True) ∧ (((True) ∧ (∃ a : Int, ∃ b : Int, ∃ c : Int, ∃ d : Int, ∃ e : Int, ∃ f : Int, ((-100000 ≤ a ∧ a ≤ 100000 ∧ -100000 ≤ b ∧ b ≤ 100000 ∧ -100000 ≤ c ∧ c ≤ 100000 ∧ -100000 ≤ d ∧ d ≤ 100000 ∧ -100000 ≤ e ∧ e ≤ 100000 ∧ -100000 ≤ f ∧ f ≤ 100000) ∧ (((((x_12) : Int) = (a)) ∧ (((y_13) : Int) = (b)) ∧ True) ∧ ((((x_15) : Int) = (c)) ∧ (((y_16) : Int) = (d)) ∧ True) ∧ ((((x_18) : Int) = (e)) ∧ (((y_19) : Int) = (f)) ∧ True) ∧ True)))) ∧ True)) ∧ True)) ∧ True)) ∧ True)) ∧ True)) ∧ ((True) ∧ (((True) ∧ (((True) ∧ (((True) ∧ (((True) ∧ (((True) ∧ (∃ a : Int, ∃ b : Int, ∃ c : Int, ∃ d : Int, ∃ e : Int, ∃ f : Int, ((-100000 ≤ a ∧ a ≤ 100000 ∧ -100000 ≤ b ∧ b ≤ 100000 ∧ -100000 ≤ c ∧ c ≤ 100000 ∧ -100000 ≤ d ∧ d ≤ 100000 ∧ -100000 ≤ e ∧ e ≤ 100000 ∧ -100000 ≤ f ∧ f ≤ 100000) ∧ (((((x_12) : Int) = (a)) ∧ (((y_13) : Int) = (b)) ∧ True) ∧ ((((x_15) : Int) = (c)) ∧ (((y_16) : Int) = (d)) ∧ True) ∧ ((((x_18) : Int) = (e)) ∧ (((y_19) : Int) = (f)) ∧ True) ∧ True)))) ∧ True)) ∧ True)) ∧ True)) ∧ ((True) ∧ (((True) ∧ (((True) ∧ (((True) ∧ (∃ a : Int, ∃ b : Int, ∃ c : Int, ∃ d : Int, ∃ e : Int, ∃ f : Int, ((-100000 ≤ a ∧ a ≤ 100000 ∧ -100000 ≤ b ∧ b ≤ 100000 ∧ -100000 ≤ c ∧ c ≤ 100000 ∧ -100000 ≤ d ∧ d ≤ 100000 ∧ -100000 ≤ e ∧ e ≤ 100000 ∧ -100000 ≤ f ∧ f ≤ 100000) ∧ (((((x_12) : Int) = (a)) ∧ (((y_13) : Int) = (b)) ∧ True) ∧ ((((x_15) : Int) = (c)) ∧ (((y_16) : Int) = (d)) ∧ True) ∧ ((((x_18) : Int) = (e)) ∧ (((y_19) : Int) = (f)) ∧ True) ∧ True)))) ∧ True)) ∧ True)) ∧ ((True) ∧ (((True) ∧ (((True) ∧ (∃ a : Int, ∃ b : Int, ∃ c : Int, ∃ d : Int, ∃ e : Int, ∃ f : Int, ((-100000 ≤ a ∧ a ≤ 100000 ∧ -100000 ≤ b ∧ b ≤ 100000 ∧ -100000 ≤ c ∧ c ≤ 100000 ∧ -100000 ≤ d ∧ d ≤ 100000 ∧ -100000 ≤ e ∧ e ≤ 100000 ∧ -100000 ≤ f ∧ f ≤ 100000) ∧ (((((x_12) : Int) = (a)) ∧ (((y_13) : Int) = (b)) ∧ True) ∧ ((((x_15) : Int) = (c)) ∧ (((y_16) : Int) = (d)) ∧ True) ∧ ((((x_18) : Int) = (e)) ∧ (((y_19) : Int) = (f)) ∧ True) ∧ True)))) ∧ True)) ∧ True)) ∧ True)) ∧ True)) ∧ ((True) ∧ (((True) ∧ (((True) ∧ (((True) ∧ (((True) ∧ (∃ a : Int, ∃ b : Int, ∃ c : Int, ∃ d : Int, ∃ e : Int, ∃ f : Int, ((-100000 ≤ a ∧ a ≤ 100000 ∧ -100000 ≤ b ∧ b ≤ 100000 ∧ -100000 ≤ c ∧ c ≤ 100000 ∧ -100000 ≤ d ∧ d ≤ 100000 ∧ -100000 ≤ e ∧ e ≤ 100000 ∧ -100000 ≤ f ∧ f ≤ 100000) ∧ (((((x_12) : Int) = (a)) ∧ (((y_13) : Int) = (b)) ∧ True) ∧ ((((x_15) : Int) = (c)) ∧ (((y_16) : Int) = (d)) ∧ True) ∧ ((((x_18) : Int) = (e)) ∧ (((y_19) : Int) = (f)) ∧ True) ∧ True)))) ∧ True)) ∧ True)) ∧ True)) ∧ True)) ∧ True)) ∧ ((True) ∧ (((True) ∧ (((True) ∧ (((True) ∧ (((True) ∧ (((True) ∧ (∃ a : Int, ∃ b : Int, ∃ c : Int, ∃ d : Int, ∃ e : Int, ∃ f : Int, ((-100000 ≤ a ∧ a ≤ 100000 ∧ -100000 ≤ b ∧ b ≤ 100000 ∧ -100000 ≤ c ∧ c ≤ 100000 ∧ -100000 ≤ d ∧ d ≤ 100000 ∧ -100000 ≤ e ∧ e ≤ 100000 ∧ -100000 ≤ f ∧ f ≤ 100000) ∧ (((((x_12) : Int) = (a)) ∧ (((y_13) : Int) = (b)) ∧ True) ∧ ((((x_15) : Int) = (c)) ∧ (((y_16) : Int) = (d)) ∧ True) ∧ ((((x_18) : Int) = (e)) ∧ (((y_19) : Int) = (f)) ∧ True) ∧ True)))) ∧ True)) ∧ True)) ∧ True)) ∧ ((True) ∧ (((True) ∧ (((True) ∧ (((True) ∧ (∃ a : Int, ∃ b : Int, ∃ c : Int, ∃ d : Int, ∃ e : Int, ∃ f : Int, ((-100000 ≤ a ∧ a ≤ 100000 ∧ -100000 ≤ b ∧ b ≤ 100000 ∧ -100000 ≤ c ∧ c ≤ 100000 ∧ -100000 ≤ d ∧ d ≤ 100000 ∧ -100000 ≤ e ∧ e ≤ 100000 ∧ -100000 ≤ f ∧ f ≤ 100000) ∧ (((((x_12) : Int) = (a)) ∧ (((y_13) : Int) = (b)) ∧ True) ∧ ((((x_15) : Int) = (c)) ∧ (((y_16) : Int) = (d)) ∧ True) ∧ ((((x_18) : Int) = (e)) ∧ (((y_19) : Int) = (f)) ∧ True) ∧ True)))) ∧ True)) ∧ True)) ∧ True)) ∧ True)) ∧ ((True) ∧ (((True) ∧ (((True) ∧ (((True) ∧ (((True) ∧ (∃ a : Int, ∃ b : Int, ∃ c : Int, ∃ d : Int, ∃ e : Int, ∃ f : Int, ((-100000 ≤ a ∧ a ≤ 100000 ∧ -100000 ≤ b ∧ b ≤ 100000 ∧ -100000 ≤ c ∧ c ≤ 100000 ∧ -100000 ≤ d ∧ d ≤ 100000 ∧ -100000 ≤ e ∧ e ≤ 100000 ∧ -100000 ≤ f ∧ f ≤ 100000) ∧ (((((x_12) : Int) = (a)) ∧ (((y_13) : Int) = (b)) ∧ True) ∧ ((((x_15) : Int) = (c)) ∧ (((y_16) : Int) = (d)) ∧ True) ∧ ((((x_18) : Int) = (e)) ∧ (((y_19) : Int) = (f)) ∧ True) ∧ True)))) ∧ True)) ∧ True)) ∧ True)) ∧ True)) ∧ True)) ∧ True)))))))))))))))) = (fun sg => ev sig_spec_DrawOrientation xs_spec_DrawOrientation Try.f40.ntmps (fun b => []) (codeOf Try.f40) 0 (initS [.s (.rdr n)]) (retY Try.f40.results.toList sg.kinds sg.post sg.ret)) (s_spec_DrawOrientation n) := by kernel_rfl
set_option maxHeartbeats 4000000 in
theorem F_spec_DrawOrientation : FunY 40 g_spec_DrawOrientation := by
  refine fun_Y (by kernel_rfl) Try.func40 rfl (by kernel_rfl) sig_spec_DrawOrientation_ok xs_spec_DrawOrientation_ok ?_
  intro avs sg h hn hl
  unfold g_spec_DrawOrientation at h
  split at h
  · rename_i n
    injection h with h; subst h
    refine ⟨by kernel_rfl, fun b => [], Eq.mp (V_spec_DrawOrientation n) ?_⟩
    simp only [true_and, and_true, implies_true, and_self, forall_const, true_implies, lenA, lenL, SV.lenOK, Cont.lenOK, s_spec_DrawOrientation] at hn hl ⊢
    simp only [ilt_t, ilt_f, ile_t, ile_f, ieq_t, ieq_f, bnot_e, band_e, bite_and, bite_or, NLt_e, NLe_e, NNe_e, NIs_e, imax_e, imin_e, irem_e, Bool.not_eq_true', Bool.not_eq_false', Bool.and_eq_true, Bool.or_eq_true, Bool.or_eq_false_iff, Bool.and_eq_false_iff, Cont.pts.injEq, Cont.ints.injEq, Cont.bools.injEq, Cont.ptss.injEq, Cont.intss.injEq, Cont.boolss.injEq, true_and, and_true, implies_true, pickP, iadd_u, isub_u, imul_u, ineg_u, ilen_cons, ilen_nil, geti_cons, geti_nil, exists_and_left, exists_and_right, exists_eq_left, exists_eq_left', exists_eq_right, exists_eq_right'] at hn ⊢
    repeat' (first | (intro _) | (refine ⟨_, _, _, _, _, _, ?_, ⟨rfl, rfl⟩, ⟨rfl, rfl⟩, rfl, rfl⟩) | (apply And.intro) | omega | split)
    all_goals (first | (simp_all; done) | (simp_all; omega))
  · cases h
theorem inB_eq (n lo hi : Int) : inB n lo hi = (ile lo n && ile n hi) := by
  unfold inB ile
  by_cases h1 : lo ≤ n <;> by_cases h2 : n ≤ hi <;> simp [h1, h2]
def g_impl_within : List AV → Option Sg
  | [.s (.int n), .s (.int lo), .s (.int hi)] => some ⟨True, [.s (.bool (inB n lo hi))]⟩
  | _ => none
def sig_impl_within : FuncId → List AV → Option Sg := sigL []
def xs_impl_within : XS := ⟨xsigL [], ysigL []⟩
theorem sig_impl_within_ok : SigOK sig_impl_within := sigL_nil
theorem xs_impl_within_ok : XSigOK xs_impl_within := ⟨xsigL_nil, ysigL_nil⟩
theorem V_impl_within (n : Int) (lo : Int) (hi : Int) : ((true = true) ∧ ((True) ∧ True) ∧ (true = true) ∧ ((True) ∧ (True) ∧ (True) ∧ (True) ∧ (NIs (ile lo n) true → True) ∧ (NIs (ile lo n) true → True) ∧ (NIs (ile lo n) true → True) ∧ (True) ∧ (True) ∧ True) ∧ (((bite (ile lo n) (ile n hi) false) : Bool) = (inB n lo hi)) ∧ True) = ev sig_impl_within xs_impl_within Try.f45.ntmps (fun b => []) (codeOf Try.f45) 0 (initS [.s (.int n), .s (.int lo), .s (.int hi)]) (retK Try.f45.results.toList [.s (.bool (inB n lo hi))]) := by kernel_rfl
set_option maxHeartbeats 400000 in
theorem F_impl_within : FunOK 45 g_impl_within := by
  refine fun_F (by kernel_rfl) Try.func45 rfl (by kernel_rfl) sig_impl_within_ok xs_impl_within_ok ?_
  intro avs sg h hn hl
  unfold g_impl_within at h
  split at h
  · rename_i n lo hi
    injection h with h; subst h
    refine ⟨by kernel_rfl, fun b => [], Eq.mp (V_impl_within n lo hi) ?_⟩
    simp only [true_and, and_true, implies_true, and_self, forall_const, true_implies, lenA, lenL, SV.lenOK, Cont.lenOK] at hn hl ⊢
    simp only [bite_and, inB_eq]
  · cases h
def g_impl_PointValid : List AV → Option Sg
  | [.agg [.int p1, .int p2]] => some ⟨True, [.s (.bool (vB p1 p2))]⟩
  | _ => none
def sig_impl_PointValid : FuncId → List AV → Option Sg := sigL [(45, g_impl_within)]
def xs_impl_PointValid : XS := ⟨xsigL [], ysigL []⟩
theorem sig_impl_PointValid_ok : SigOK sig_impl_PointValid := sigL_cons F_impl_within sigL_nil
theorem xs_impl_PointValid_ok : XSigOK xs_impl_PointValid := ⟨xsigL_nil, ysigL_nil⟩
theorem V_impl_PointValid (p1 : Int) (p2 : Int) : ((true = true) ∧ ((True) ∧ (True) ∧ True) ∧ (true = true) ∧ ((True) ∧ (True) ∧ ((True)) ∧ (True) ∧ (NIs (inB p1 (-10000 : Int) (10000 : Int)) true → True) ∧ (NIs (inB p1 (-10000 : Int) (10000 : Int)) true → True) ∧ (NIs (inB p1 (-10000 : Int) (10000 : Int)) true → (True)) ∧ (True) ∧ (True) ∧ True) ∧ (((bite (inB p1 (-10000 : Int) (10000 : Int)) (inB p2 (-10000 : Int) (10000 : Int)) false) : Bool) = (vB p1 p2)) ∧ True) = ev sig_impl_PointValid xs_impl_PointValid Try.f52.ntmps (fun b => []) (codeOf Try.f52) 0 (initS [.agg [.int p1, .int p2]]) (retK Try.f52.results.toList [.s (.bool (vB p1 p2))]) := by kernel_rfl
set_option maxHeartbeats 400000 in
theorem F_impl_PointValid : FunOK 52 g_impl_PointValid := by
  refine fun_F (by kernel_rfl) Try.func52 rfl (by kernel_rfl) sig_impl_PointValid_ok xs_impl_PointValid_ok ?_
  intro avs sg h hn hl
  unfold g_impl_PointValid at h
  split at h
  · rename_i p1 p2
    injection h with h; subst h
    refine ⟨by kernel_rfl, fun b => [], Eq.mp (V_impl_PointValid p1 p2) ?_⟩
    simp only [true_and, and_true, implies_true, and_self, forall_const, true_implies, lenA, lenL, SV.lenOK, Cont.lenOK] at hn hl ⊢
    simp only [bite_and, vB]
  · cases h
def crW (a1 a2 b1 b2 c1 c2 : Int) : Int := isub (imul (isub b1 a1) (isub c2 a2)) (imul (isub b2 a2) (isub c1 a1))
def cr (l : List Pt) (i j k : Int) : Int := crW (getx l i) (gety l i) (getx l j) (gety l j) (getx l k) (gety l k)
def nx (l : List Pt) (i : Int) : Int := (i + 1).tmod (ilen l)
def convE (l : List Pt) (i j : Int) : Bool := decide (j = i ∨ j = nx l i ∨ 0 < cr l i (nx l i) j)
def convB (l : List Pt) : Bool := inB (ilen l) 3 8 && allB l && allN (ilen l) fun i => allN (ilen l) fun j => convE l i j
theorem nx_in {l : List Pt} {i : Int} (h0 : 0 ≤ i) (h1 : i < ilen l) : 0 ≤ nx l i ∧ nx l i < ilen l ∧ ((i + 1 < ilen l ∧ nx l i = i + 1) ∨ (i + 1 = ilen l ∧ nx l i = 0)) := by
  have e : nx l i = (i + 1) % ilen l := Int.tmod_eq_emod_of_nonneg (by omega)
  rcases Int.lt_or_le (i + 1) (ilen l) with h | h
  · rw [e, Int.emod_eq_of_lt (by omega) h]; omega
  · have h2 : i + 1 = ilen l := by omega
    rw [e, h2, Int.emod_self]; omega
theorem allN_up {f : Int → Bool} {k : Int} (h : ∀ j, 0 ≤ j → j < k → f j = true) (hk : f k = true) : ∀ j, 0 ≤ j → j < k + 1 → f j = true := by
  intro j h0 h1
  rcases Int.lt_or_le j k with h2 | h2
  · exact h j h0 h2
  · rw [show j = k by omega]; exact hk
theorem upTo {P : Int → Prop} {k : Int} (h : ∀ j, 0 ≤ j → j < k → P j) (hk : P k) : ∀ j, 0 ≤ j → j < k + 1 → P j := by
  intro j h0 h1
  rcases Int.lt_or_le j k with h2 | h2
  · exact h j h0 h2
  · rw [show j = k by omega]; exact hk
theorem iadd_1 {k n : Int} (h0 : 0 ≤ k) (h1 : k < n) (h2 : n ≤ 9223372036854775807) : iadd k 1 = k + 1 := iadd_e (by omega) (by omega)
def g_impl_allPoints : List AV → Option Sg
  | [.s (.view (.pts l))] => some ⟨True, [.s (.bool (allB l))]⟩
  | _ => none
def sig_impl_allPoints : FuncId → List AV → Option Sg := sigL [(52, g_impl_PointValid)]
def xs_impl_allPoints : XS := ⟨xsigL [], ysigL []⟩
theorem sig_impl_allPoints_ok : SigOK sig_impl_allPoints := sigL_cons F_impl_PointValid sigL_nil
theorem xs_impl_allPoints_ok : XSigOK xs_impl_allPoints := ⟨xsigL_nil, ysigL_nil⟩
theorem V_impl_allPoints (l : List Pt) : ((true = true) ∧ ((True) ∧ True) ∧ (true = true) ∧ ((True) ∧ (True) ∧ (True) ∧ True) ∧ ∃ (I1 : List GV → Prop) (μ1 : List GV → Nat), (((true = true) ∧ (((false : Bool) = false) ∧ (((0 : Int) : Int) = (0 : Int)) ∧ ((Cont.pts l) = (Cont.pts l)) ∧ (((ilen l) : Int) = (ilen l)) ∧ ((Cont.pts l) = (Cont.pts l)) ∧ True) ∧ (True)) ∧ (([GK.int, GK.bool] : List GK) = ([GK.int, GK.bool] : List GK)) ∧ I1 [GV.int (0 : Int), GV.bool false]) ∧ (∀ i1_0 : Int, ∀ b1_1 : Bool, I1 [GV.int i1_0, GV.bool b1_1] → ((true = true) ∧ ((True) ∧ True) ∧ ((ilt i1_0 (ilen l)) = true → ((true = true) ∧ ((NLe 0 i1_0 ∧ NLt i1_0 (ilen l)) ∧ (True) ∧ (True) ∧ True) ∧ (True) ∧ (true = true) ∧ ((True) ∧ ((True)) ∧ (True) ∧ True) ∧ ((bnot (vB (getx l i1_0) (gety l i1_0))) = true → ((true = true) ∧ ((True) ∧ True) ∧ ((false : Bool) = (allB l)) ∧ True)) ∧ ((bnot (vB (getx l i1_0) (gety l i1_0))) = false → ((true = true) ∧ ((True) ∧ (True) ∧ True) ∧ ((true = true) ∧ (((b1_1 : Bool) = b1_1) ∧ (((iadd i1_0 (1 : Int)) : Int) = (iadd i1_0 (1 : Int))) ∧ ((Cont.pts l) = (Cont.pts l)) ∧ (((ilen l) : Int) = (ilen l)) ∧ ((Cont.pts l) = (Cont.pts l)) ∧ True) ∧ (True)) ∧ ((([GK.int, GK.bool] : List GK) = ([GK.int, GK.bool] : List GK)) ∧ I1 [GV.int (iadd i1_0 (1 : Int)), GV.bool b1_1] ∧ μ1 [GV.int (iadd i1_0 (1 : Int)), GV.bool b1_1] < μ1 [GV.int i1_0, GV.bool b1_1]))))) ∧ ((ilt i1_0 (ilen l)) = false → ((true = true) ∧ ((True) ∧ True) ∧ ((true : Bool) = (allB l)) ∧ True))))) = ev sig_impl_allPoints xs_impl_allPoints Try.f46.ntmps (fun b => if b == 0 then [.v 7, .v 2] else []) (codeOf Try.f46) 0 (initS [.s (.view (.pts l))]) (retK Try.f46.results.toList [.s (.bool (allB l))]) := by kernel_rfl
set_option maxHeartbeats 400000 in
theorem F_impl_allPoints : FunOK 46 g_impl_allPoints := by
  refine fun_F (by kernel_rfl) Try.func46 rfl (by kernel_rfl) sig_impl_allPoints_ok xs_impl_allPoints_ok ?_
  intro avs sg h hn hl
  unfold g_impl_allPoints at h
  split at h
  · rename_i l
    injection h with h; subst h
    refine ⟨by kernel_rfl, fun b => if b == 0 then [.v 7, .v 2] else [], Eq.mp (V_impl_allPoints l) ?_⟩
    simp only [true_and, and_true, implies_true, and_self, forall_const, true_implies, lenA, lenL, SV.lenOK, Cont.lenOK] at hn hl ⊢
    have h0 := ilen_0 l
    simp only [ilt_t, ilt_f, ile_t, ile_f, ieq_t, ieq_f, bnot_e, band_e, bite_and, bite_or, NLt_e, NLe_e, NNe_e, NIs_e, imax_e, imin_e, irem_e, Bool.not_eq_true', Bool.not_eq_false', Bool.and_eq_true, Bool.or_eq_true, Bool.or_eq_false_iff, Bool.and_eq_false_iff, Cont.pts.injEq, Cont.ints.injEq, Cont.bools.injEq, Cont.ptss.injEq, Cont.intss.injEq, Cont.boolss.injEq, true_and, and_true, implies_true]
    refine ⟨fun | .int k :: _ => 0 ≤ k ∧ k ≤ ilen l ∧ (∀ j, 0 ≤ j → j < k → vB (getx l j) (gety l j) = true) | _ => False, fun | .int k :: _ => (ilen l - k).toNat | _ => 0, ?_, ?_⟩
    · exact ⟨Int.le_refl 0, h0, fun j h0 h1 => absurd h1 (by omega)⟩
    · rintro k _ ⟨hk0, hk1, hk⟩
      simp only [ilt_t, ilt_f, ile_t, ile_f, ieq_t, ieq_f, bnot_e, band_e, bite_and, bite_or, NLt_e, NLe_e, NNe_e, NIs_e, imax_e, imin_e, irem_e, Bool.not_eq_true', Bool.not_eq_false', Bool.and_eq_true, Bool.or_eq_true, Bool.or_eq_false_iff, Bool.and_eq_false_iff, Cont.pts.injEq, Cont.ints.injEq, Cont.bools.injEq, Cont.ptss.injEq, Cont.intss.injEq, Cont.boolss.injEq, true_and, and_true, implies_true]
      refine ⟨fun hc => ⟨⟨hk0, hc⟩, fun hv => ?_, fun hv => ?_⟩, fun hc => ?_⟩
      · rw [allB_N, allN_no k hk0 hc hv]
      · rw [iadd_1 hk0 hc hl]
        exact ⟨⟨by omega, by omega, allN_up hk hv⟩, by omega⟩
      · rw [allB_N, allN_mk fun j h0 h1 => hk j h0 (by omega)]
  · cases h
def g_impl_cross : List AV → Option Sg
  | [.agg [.int a1, .int a2], .agg [.int b1, .int b2], .agg [.int c1, .int c2]] => some ⟨True, [.s (.int (crW a1 a2 b1 b2 c1 c2))]⟩
  | _ => none
def sig_impl_cross : FuncId → List AV → Option Sg := sigL []
def xs_impl_cross : XS := ⟨xsigL [], ysigL []⟩
theorem sig_impl_cross_ok : SigOK sig_impl_cross := sigL_nil
theorem xs_impl_cross_ok : XSigOK xs_impl_cross := ⟨xsigL_nil, ysigL_nil⟩
theorem V_impl_cross (a1 : Int) (a2 : Int) (b1 : Int) (b2 : Int) (c1 : Int) (c2 : Int) : ((true = true) ∧ ((True) ∧ (True) ∧ (True) ∧ (True) ∧ True) ∧ (true = true) ∧ ((True) ∧ (True) ∧ (True) ∧ (True) ∧ (True) ∧ (True) ∧ (True) ∧ (True) ∧ (True) ∧ (True) ∧ (True) ∧ (True) ∧ (True) ∧ (True) ∧ (True) ∧ (True) ∧ (True) ∧ (True) ∧ (True) ∧ (True) ∧ (True) ∧ (True) ∧ (True) ∧ (True) ∧ True) ∧ (((isub (imul (isub b1 a1) (isub c2 a2)) (imul (isub b2 a2) (isub c1 a1))) : Int) = (crW a1 a2 b1 b2 c1 c2)) ∧ True) = ev sig_impl_cross xs_impl_cross Try.f47.ntmps (fun b => []) (codeOf Try.f47) 0 (initS [.agg [.int a1, .int a2], .agg [.int b1, .int b2], .agg [.int c1, .int c2]]) (retK Try.f47.results.toList [.s (.int (crW a1 a2 b1 b2 c1 c2))]) := by kernel_rfl
set_option maxHeartbeats 400000 in
theorem F_impl_cross : FunOK 47 g_impl_cross := by
  refine fun_F (by kernel_rfl) Try.func47 rfl (by kernel_rfl) sig_impl_cross_ok xs_impl_cross_ok ?_
  intro avs sg h hn hl
  unfold g_impl_cross at h
  split at h
  · rename_i a1 a2 b1 b2 c1 c2
    injection h with h; subst h
    refine ⟨by kernel_rfl, fun b => [], Eq.mp (V_impl_cross a1 a2 b1 b2 c1 c2) ?_⟩
    simp only [true_and, and_true, implies_true, and_self, forall_const, true_implies, lenA, lenL, SV.lenOK, Cont.lenOK] at hn hl ⊢
    simp only [crW]
  · cases h
def g_cmp_isNaN_int : List AV → Option Sg
  | [.s (.int n)] => some ⟨True, [.s (.bool (false))]⟩
  | _ => none
def sig_cmp_isNaN_int : FuncId → List AV → Option Sg := sigL []
def xs_cmp_isNaN_int : XS := ⟨xsigL [], ysigL []⟩
theorem sig_cmp_isNaN_int_ok : SigOK sig_cmp_isNaN_int := sigL_nil
theorem xs_cmp_isNaN_int_ok : XSigOK xs_cmp_isNaN_int := ⟨xsigL_nil, ysigL_nil⟩
theorem V_cmp_isNaN_int (n : Int) : ((true = true) ∧ ((True) ∧ True) ∧ (true = true) ∧ ((True) ∧ (True) ∧ (True) ∧ (True) ∧ True) ∧ (((bnot (ieq n n)) : Bool) = (false)) ∧ True) = ev sig_cmp_isNaN_int xs_cmp_isNaN_int Try.f87.ntmps (fun b => []) (codeOf Try.f87) 0 (initS [.s (.int n)]) (retK Try.f87.results.toList [.s (.bool (false))]) := by kernel_rfl
set_option maxHeartbeats 400000 in
theorem F_cmp_isNaN_int : FunOK 87 g_cmp_isNaN_int := by
  refine fun_F (by kernel_rfl) Try.func87 rfl (by kernel_rfl) sig_cmp_isNaN_int_ok xs_cmp_isNaN_int_ok ?_
  intro avs sg h hn hl
  unfold g_cmp_isNaN_int at h
  split at h
  · rename_i n
    injection h with h; subst h
    refine ⟨by kernel_rfl, fun b => [], Eq.mp (V_cmp_isNaN_int n) ?_⟩
    simp only [true_and, and_true, implies_true, and_self, forall_const, true_implies, lenA, lenL, SV.lenOK, Cont.lenOK] at hn hl ⊢
    simp [bnot, ieq]
  · cases h
def g_cmp_Compare_int : List AV → Option Sg
  | [.s (.int a), .s (.int b)] => some ⟨True, [.s (.int (sgn (a - b)))]⟩
  | _ => none
def sig_cmp_Compare_int : FuncId → List AV → Option Sg := sigL [(87, g_cmp_isNaN_int)]
def xs_cmp_Compare_int : XS := ⟨xsigL [], ysigL []⟩
theorem sig_cmp_Compare_int_ok : SigOK sig_cmp_Compare_int := sigL_cons F_cmp_isNaN_int sigL_nil
theorem xs_cmp_Compare_int_ok : XSigOK xs_cmp_Compare_int := ⟨xsigL_nil, ysigL_nil⟩
theorem V_cmp_Compare_int (a : Int) (b : Int) : ((true = true) ∧ ((True) ∧ True) ∧ (true = true) ∧ ((True) ∧ ((True)) ∧ (True) ∧ True) ∧ (true = true) ∧ ((True) ∧ ((True)) ∧ (True) ∧ True) ∧ (true = true) ∧ ((True) ∧ True) ∧ ((false) = true → ((true = true) ∧ ((True) ∧ True) ∧ ((false) = true → ((true = true) ∧ ((True) ∧ True) ∧ (((0 : Int) : Int) = (sgn (a - b))) ∧ True)) ∧ ((false) = false → ((true = true) ∧ ((True) ∧ True) ∧ (((-1 : Int) : Int) = (sgn (a - b))) ∧ True)))) ∧ ((false) = false → ((true = true) ∧ ((True) ∧ True) ∧ ((false) = true → ((true = true) ∧ ((True) ∧ True) ∧ (((1 : Int) : Int) = (sgn (a - b))) ∧ True)) ∧ ((false) = false → ((true = true) ∧ ((True) ∧ (True) ∧ (True) ∧ True) ∧ ((ilt a b) = true → ((true = true) ∧ ((True) ∧ True) ∧ (((-1 : Int) : Int) = (sgn (a - b))) ∧ True)) ∧ ((ilt a b) = false → ((true = true) ∧ ((True) ∧ (True) ∧ (True) ∧ True) ∧ ((ilt b a) = true → ((true = true) ∧ ((True) ∧ True) ∧ (((1 : Int) : Int) = (sgn (a - b))) ∧ True)) ∧ ((ilt b a) = false → ((true = true) ∧ ((True) ∧ True) ∧ (((0 : Int) : Int) = (sgn (a - b))) ∧ True))))))))) = ev sig_cmp_Compare_int xs_cmp_Compare_int Try.f69.ntmps (fun b => []) (codeOf Try.f69) 0 (initS [.s (.int a), .s (.int b)]) (retK Try.f69.results.toList [.s (.int (sgn (a - b)))]) := by kernel_rfl
set_option maxHeartbeats 400000 in
theorem F_cmp_Compare_int : FunOK 69 g_cmp_Compare_int := by
  refine fun_F (by kernel_rfl) Try.func69 rfl (by kernel_rfl) sig_cmp_Compare_int_ok xs_cmp_Compare_int_ok ?_
  intro avs sg h hn hl
  unfold g_cmp_Compare_int at h
  split at h
  · rename_i a b
    injection h with h; subst h
    refine ⟨by kernel_rfl, fun b => [], Eq.mp (V_cmp_Compare_int a b) ?_⟩
    simp only [true_and, and_true, implies_true, and_self, forall_const, true_implies, lenA, lenL, SV.lenOK, Cont.lenOK] at hn hl ⊢
    simp only [ilt_t, ilt_f, ile_t, ile_f, ieq_t, ieq_f, bnot_e, band_e, bite_and, bite_or, NLt_e, NLe_e, NNe_e, NIs_e, imax_e, imin_e, irem_e, Bool.not_eq_true', Bool.not_eq_false', Bool.and_eq_true, Bool.or_eq_true, Bool.or_eq_false_iff, Bool.and_eq_false_iff, Cont.pts.injEq, Cont.ints.injEq, Cont.bools.injEq, Cont.ptss.injEq, Cont.intss.injEq, Cont.boolss.injEq, true_and, and_true, implies_true, Bool.false_eq_true, false_implies, true_implies, true_and, forall_const]
    unfold sgn
    by_cases h1 : a < b
    · rw [if_neg (show ¬ 0 < a - b by omega), if_pos (show a - b < 0 by omega)]
      simp [h1]; try omega
    · by_cases h2 : b < a
      · rw [if_pos (show 0 < a - b by omega)]
        simp [h1, h2]; try omega
      · rw [if_neg (show ¬ 0 < a - b by omega), if_neg (show ¬ a - b < 0 by omega)]
        simp [h1, h2]; try omega
  · cases h
def orB (a1 a2 b1 b2 c1 c2 : Int) : Int := if vB a1 a2 && vB b1 b2 && vB c1 c2 then sgn (crW a1 a2 b1 b2 c1 c2) else 0
def orI (l : List Pt) (i j : Int) : Int := orB (getx l i) (gety l i) (getx l (nx l i)) (gety l (nx l i)) (getx l j) (gety l j)
def convF (l : List Pt) (i j : Int) : Bool := decide (j = i ∨ j = nx l i ∨ orI l i j = 1)
def convS (l : List Pt) : Bool := inB (ilen l) 3 8 && allN (ilen l) fun i => allN (ilen l) fun j => convF l i j
theorem convS_eq (l : List Pt) : convS l = convB l := by
  unfold convS convB
  cases h1 : inB (ilen l) 3 8 with
  | false => rfl
  | true =>
    have hl := inB_true h1
    simp only [Bool.true_and]
    cases h2 : allB l with
    | true =>
      simp only [Bool.true_and]
      refine allN_congr fun i i0 i1 => allN_congr fun j j0 j1 => ?_
      rw [allB_N] at h2
      have hv := allN_iff.1 h2
      obtain ⟨n0, n1, _⟩ := nx_in i0 i1
      have e : orI l i j = sgn (cr l i (nx l i) j) := by unfold orI orB cr; rw [hv i i0 i1, hv _ n0 n1, hv j j0 j1]; rfl
      unfold convF convE
      rw [e]
      have : (sgn (cr l i (nx l i) j) = 1) ↔ 0 < cr l i (nx l i) j := by unfold sgn; split <;> (try split) <;> omega
      simp only [this]
    | false =>
      simp only [Bool.false_and]
      rw [allB_N] at h2
      obtain ⟨j, j0, j1, hj⟩ : ∃ j, 0 ≤ j ∧ j < ilen l ∧ vB (getx l j) (gety l j) = false := by
        apply Classical.byContradiction
        intro hn
        rw [allN_mk fun j j0 j1 => by cases e : vB (getx l j) (gety l j) with | true => rfl | false => exact absurd ⟨j, j0, j1, e⟩ hn] at h2
        cases h2
      obtain ⟨n0, n1, n2⟩ := nx_in j0 j1
      obtain ⟨m0, m1, m2⟩ := nx_in n0 n1
      refine allN_no (nx l j) n0 n1 (allN_no j j0 j1 ?_)
      have e : orI l (nx l j) j = 0 := by unfold orI orB; rw [hj]; simp
      unfold convF
      rw [e]
      simp only [decide_eq_false_iff_not]
      omega
def g_impl_Orientation : List AV → Option Sg
  | [.agg [.int a1, .int a2], .agg [.int b1, .int b2], .agg [.int c1, .int c2]] => some ⟨True, [.s (.int (orB a1 a2 b1 b2 c1 c2))]⟩
  | _ => none
def sig_impl_Orientation : FuncId → List AV → Option Sg := sigL [(46, g_impl_allPoints), (47, g_impl_cross), (69, g_cmp_Compare_int)]
def xs_impl_Orientation : XS := ⟨xsigL [], ysigL []⟩
theorem sig_impl_Orientation_ok : SigOK sig_impl_Orientation := sigL_cons F_impl_allPoints (sigL_cons F_impl_cross (sigL_cons F_cmp_Compare_int sigL_nil))
theorem xs_impl_Orientation_ok : XSigOK xs_impl_Orientation := ⟨xsigL_nil, ysigL_nil⟩
theorem V_impl_Orientation (a1 : Int) (a2 : Int) (b1 : Int) (b2 : Int) (c1 : Int) (c2 : Int) : ((true = true) ∧ ((True) ∧ (True) ∧ (True) ∧ (True) ∧ True) ∧ (true = true) ∧ ((True) ∧ (True) ∧ (True) ∧ (True) ∧ ((True)) ∧ (True) ∧ True) ∧ ((bnot (allB [(a1, a2), (b1, b2), (c1, c2)])) = true → ((true = true) ∧ ((True) ∧ True) ∧ (((0 : Int) : Int) = (orB a1 a2 b1 b2 c1 c2)) ∧ True)) ∧ ((bnot (allB [(a1, a2), (b1, b2), (c1, c2)])) = false → ((true = true) ∧ ((True) ∧ (True) ∧ (True) ∧ ((True)) ∧ ((True)) ∧ (True) ∧ True) ∧ (((sgn ((crW a1 a2 b1 b2 c1 c2) - (0 : Int))) : Int) = (orB a1 a2 b1 b2 c1 c2)) ∧ True))) = ev sig_impl_Orientation xs_impl_Orientation Try.f41.ntmps (fun b => []) (codeOf Try.f41) 0 (initS [.agg [.int a1, .int a2], .agg [.int b1, .int b2], .agg [.int c1, .int c2]]) (retK Try.f41.results.toList [.s (.int (orB a1 a2 b1 b2 c1 c2))]) := by kernel_rfl
set_option maxHeartbeats 400000 in
theorem F_impl_Orientation : FunOK 41 g_impl_Orientation := by
  refine fun_F (by kernel_rfl) Try.func41 rfl (by kernel_rfl) sig_impl_Orientation_ok xs_impl_Orientation_ok ?_
  intro avs sg h hn hl
  unfold g_impl_Orientation at h
  split at h
  · rename_i a1 a2 b1 b2 c1 c2
    injection h with h; subst h
    refine ⟨by kernel_rfl, fun b => [], Eq.mp (V_impl_Orientation a1 a2 b1 b2 c1 c2) ?_⟩
    simp only [true_and, and_true, implies_true, and_self, forall_const, true_implies, lenA, lenL, SV.lenOK, Cont.lenOK] at hn hl ⊢
    simp only [ilt_t, ilt_f, ile_t, ile_f, ieq_t, ieq_f, bnot_e, band_e, bite_and, bite_or, NLt_e, NLe_e, NNe_e, NIs_e, imax_e, imin_e, irem_e, Bool.not_eq_true', Bool.not_eq_false', Bool.and_eq_true, Bool.or_eq_true, Bool.or_eq_false_iff, Bool.and_eq_false_iff, Cont.pts.injEq, Cont.ints.injEq, Cont.bools.injEq, Cont.ptss.injEq, Cont.intss.injEq, Cont.boolss.injEq, true_and, and_true, implies_true, Int.sub_zero]
    have e : allB [(a1, a2), (b1, b2), (c1, c2)] = (vB a1 a2 && vB b1 b2 && vB c1 c2) := by simp [allB, Bool.and_assoc]
    unfold orB
    rw [e]
    cases (vB a1 a2 && vB b1 b2 && vB c1 c2) <;> simp
  · cases h
def g_spec_l1In : List AV → Option Sg
  | [.s (.int n), .s (.int lo), .s (.int hi)] => some ⟨True, [.s (.bool (inB n lo hi))]⟩
  | _ => none
def sig_spec_l1In : FuncId → List AV → Option Sg := sigL []
def xs_spec_l1In : XS := ⟨xsigL [], ysigL []⟩
theorem sig_spec_l1In_ok : SigOK sig_spec_l1In := sigL_nil
theorem xs_spec_l1In_ok : XSigOK xs_spec_l1In := ⟨xsigL_nil, ysigL_nil⟩
theorem V_spec_l1In (n : Int) (lo : Int) (hi : Int) : ((true = true) ∧ ((True) ∧ True) ∧ (true = true) ∧ ((True) ∧ (True) ∧ (True) ∧ (True) ∧ (NIs (ile lo n) true → True) ∧ (NIs (ile lo n) true → True) ∧ (NIs (ile lo n) true → True) ∧ (True) ∧ (True) ∧ True) ∧ (((bite (ile lo n) (ile n hi) false) : Bool) = (inB n lo hi)) ∧ True) = ev sig_spec_l1In xs_spec_l1In Try.f44.ntmps (fun b => []) (codeOf Try.f44) 0 (initS [.s (.int n), .s (.int lo), .s (.int hi)]) (retK Try.f44.results.toList [.s (.bool (inB n lo hi))]) := by kernel_rfl
set_option maxHeartbeats 400000 in
theorem F_spec_l1In : FunOK 44 g_spec_l1In := by
  refine fun_F (by kernel_rfl) Try.func44 rfl (by kernel_rfl) sig_spec_l1In_ok xs_spec_l1In_ok ?_
  intro avs sg h hn hl
  unfold g_spec_l1In at h
  split at h
  · rename_i n lo hi
    injection h with h; subst h
    refine ⟨by kernel_rfl, fun b => [], Eq.mp (V_spec_l1In n lo hi) ?_⟩
    simp only [true_and, and_true, implies_true, and_self, forall_const, true_implies, lenA, lenL, SV.lenOK, Cont.lenOK] at hn hl ⊢
    simp only [bite_and, inB_eq]
  · cases h
def g_spec_PointValid : List AV → Option Sg
  | [.agg [.int p1, .int p2]] => some ⟨True, [.s (.bool (vB p1 p2))]⟩
  | _ => none
def sig_spec_PointValid : FuncId → List AV → Option Sg := sigL [(44, g_spec_l1In)]
def xs_spec_PointValid : XS := ⟨xsigL [], ysigL []⟩
theorem sig_spec_PointValid_ok : SigOK sig_spec_PointValid := sigL_cons F_spec_l1In sigL_nil
theorem xs_spec_PointValid_ok : XSigOK xs_spec_PointValid := ⟨xsigL_nil, ysigL_nil⟩
theorem V_spec_PointValid (p1 : Int) (p2 : Int) : ((true = true) ∧ ((True) ∧ (True) ∧ True) ∧ (true = true) ∧ ((True) ∧ (True) ∧ ((True)) ∧ (True) ∧ (NIs (inB p1 (-10000 : Int) (10000 : Int)) true → True) ∧ (NIs (inB p1 (-10000 : Int) (10000 : Int)) true → True) ∧ (NIs (inB p1 (-10000 : Int) (10000 : Int)) true → (True)) ∧ (True) ∧ (True) ∧ True) ∧ (((bite (inB p1 (-10000 : Int) (10000 : Int)) (inB p2 (-10000 : Int) (10000 : Int)) false) : Bool) = (vB p1 p2)) ∧ True) = ev sig_spec_PointValid xs_spec_PointValid Try.f50.ntmps (fun b => []) (codeOf Try.f50) 0 (initS [.agg [.int p1, .int p2]]) (retK Try.f50.results.toList [.s (.bool (vB p1 p2))]) := by kernel_rfl
set_option maxHeartbeats 400000 in
theorem F_spec_PointValid : FunOK 50 g_spec_PointValid := by
  refine fun_F (by kernel_rfl) Try.func50 rfl (by kernel_rfl) sig_spec_PointValid_ok xs_spec_PointValid_ok ?_
  intro avs sg h hn hl
  unfold g_spec_PointValid at h
  split at h
  · rename_i p1 p2
    injection h with h; subst h
    refine ⟨by kernel_rfl, fun b => [], Eq.mp (V_spec_PointValid p1 p2) ?_⟩
    simp only [true_and, and_true, implies_true, and_self, forall_const, true_implies, lenA, lenL, SV.lenOK, Cont.lenOK] at hn hl ⊢
    simp only [bite_and, vB]
  · cases h
def g_spec_l2Cross : List AV → Option Sg
  | [.agg [.int a1, .int a2], .agg [.int b1, .int b2], .agg [.int c1, .int c2]] => some ⟨True, [.s (.int (crW a1 a2 b1 b2 c1 c2))]⟩
  | _ => none
def sig_spec_l2Cross : FuncId → List AV → Option Sg := sigL []
def xs_spec_l2Cross : XS := ⟨xsigL [], ysigL []⟩
theorem sig_spec_l2Cross_ok : SigOK sig_spec_l2Cross := sigL_nil
theorem xs_spec_l2Cross_ok : XSigOK xs_spec_l2Cross := ⟨xsigL_nil, ysigL_nil⟩
theorem V_spec_l2Cross (a1 : Int) (a2 : Int) (b1 : Int) (b2 : Int) (c1 : Int) (c2 : Int) : ((true = true) ∧ ((True) ∧ (True) ∧ (True) ∧ (True) ∧ True) ∧ (true = true) ∧ ((True) ∧ (True) ∧ (True) ∧ (True) ∧ (True) ∧ (True) ∧ (True) ∧ (True) ∧ (True) ∧ (True) ∧ (True) ∧ (True) ∧ (True) ∧ (True) ∧ (True) ∧ (True) ∧ (True) ∧ (True) ∧ (True) ∧ (True) ∧ (True) ∧ (True) ∧ (True) ∧ (True) ∧ True) ∧ (((isub (imul (isub b1 a1) (isub c2 a2)) (imul (isub b2 a2) (isub c1 a1))) : Int) = (crW a1 a2 b1 b2 c1 c2)) ∧ True) = ev sig_spec_l2Cross xs_spec_l2Cross Try.f49.ntmps (fun b => []) (codeOf Try.f49) 0 (initS [.agg [.int a1, .int a2], .agg [.int b1, .int b2], .agg [.int c1, .int c2]]) (retK Try.f49.results.toList [.s (.int (crW a1 a2 b1 b2 c1 c2))]) := by kernel_rfl
set_option maxHeartbeats 400000 in
theorem F_spec_l2Cross : FunOK 49 g_spec_l2Cross := by
  refine fun_F (by kernel_rfl) Try.func49 rfl (by kernel_rfl) sig_spec_l2Cross_ok xs_spec_l2Cross_ok ?_
  intro avs sg h hn hl
  unfold g_spec_l2Cross at h
  split at h
  · rename_i a1 a2 b1 b2 c1 c2
    injection h with h; subst h
    refine ⟨by kernel_rfl, fun b => [], Eq.mp (V_spec_l2Cross a1 a2 b1 b2 c1 c2) ?_⟩
    simp only [true_and, and_true, implies_true, and_self, forall_const, true_implies, lenA, lenL, SV.lenOK, Cont.lenOK] at hn hl ⊢
    simp only [crW]
  · cases h
def g_spec_l2Sign : List AV → Option Sg
  | [.s (.int n)] => some ⟨True, [.s (.int (sgn n))]⟩
  | _ => none
def sig_spec_l2Sign : FuncId → List AV → Option Sg := sigL []
def xs_spec_l2Sign : XS := ⟨xsigL [], ysigL []⟩
theorem sig_spec_l2Sign_ok : SigOK sig_spec_l2Sign := sigL_nil
theorem xs_spec_l2Sign_ok : XSigOK xs_spec_l2Sign := ⟨xsigL_nil, ysigL_nil⟩
theorem V_spec_l2Sign (n : Int) : ((true = true) ∧ ((True) ∧ True) ∧ (true = true) ∧ ((True) ∧ (True) ∧ (True) ∧ True) ∧ ((ilt (0 : Int) n) = true → ((true = true) ∧ ((True) ∧ True) ∧ (((1 : Int) : Int) = (sgn n)) ∧ True)) ∧ ((ilt (0 : Int) n) = false → ((true = true) ∧ ((True) ∧ (True) ∧ (True) ∧ True) ∧ ((ilt n (0 : Int)) = true → ((true = true) ∧ ((True) ∧ True) ∧ (((-1 : Int) : Int) = (sgn n)) ∧ True)) ∧ ((ilt n (0 : Int)) = false → ((true = true) ∧ ((True) ∧ True) ∧ (((0 : Int) : Int) = (sgn n)) ∧ True))))) = ev sig_spec_l2Sign xs_spec_l2Sign Try.f77.ntmps (fun b => []) (codeOf Try.f77) 0 (initS [.s (.int n)]) (retK Try.f77.results.toList [.s (.int (sgn n))]) := by kernel_rfl
set_option maxHeartbeats 400000 in
theorem F_spec_l2Sign : FunOK 77 g_spec_l2Sign := by
  refine fun_F (by kernel_rfl) Try.func77 rfl (by kernel_rfl) sig_spec_l2Sign_ok xs_spec_l2Sign_ok ?_
  intro avs sg h hn hl
  unfold g_spec_l2Sign at h
  split at h
  · rename_i n
    injection h with h; subst h
    refine ⟨by kernel_rfl, fun b => [], Eq.mp (V_spec_l2Sign n) ?_⟩
    simp only [true_and, and_true, implies_true, and_self, forall_const, true_implies, lenA, lenL, SV.lenOK, Cont.lenOK] at hn hl ⊢
    simp only [ilt_t, ilt_f, ile_t, ile_f, ieq_t, ieq_f, bnot_e, band_e, bite_and, bite_or, NLt_e, NLe_e, NNe_e, NIs_e, imax_e, imin_e, irem_e, Bool.not_eq_true', Bool.not_eq_false', Bool.and_eq_true, Bool.or_eq_true, Bool.or_eq_false_iff, Bool.and_eq_false_iff, Cont.pts.injEq, Cont.ints.injEq, Cont.bools.injEq, Cont.ptss.injEq, Cont.intss.injEq, Cont.boolss.injEq, true_and, and_true, implies_true]
    unfold sgn
    refine ⟨fun h => by rw [if_pos h], fun h => ⟨fun h2 => by rw [if_neg (by omega), if_pos h2], fun h2 => by rw [if_neg (by omega), if_neg (by omega)]⟩⟩
  · cases h
def g_spec_Orientation : List AV → Option Sg
  | [.agg [.int a1, .int a2], .agg [.int b1, .int b2], .agg [.int c1, .int c2]] => some ⟨True, [.s (.int (orB a1 a2 b1 b2 c1 c2))]⟩
  | _ => none
def sig_spec_Orientation : FuncId → List AV → Option Sg := sigL [(50, g_spec_PointValid), (49, g_spec_l2Cross), (77, g_spec_l2Sign)]
def xs_spec_Orientation : XS := ⟨xsigL [], ysigL []⟩
theorem sig_spec_Orientation_ok : SigOK sig_spec_Orientation := sigL_cons F_spec_PointValid (sigL_cons F_spec_l2Cross (sigL_cons F_spec_l2Sign sigL_nil))
theorem xs_spec_Orientation_ok : XSigOK xs_spec_Orientation := ⟨xsigL_nil, ysigL_nil⟩
theorem V_spec_Orientation (a1 : Int) (a2 : Int) (b1 : Int) (b2 : Int) (c1 : Int) (c2 : Int) : ((true = true) ∧ ((True) ∧ (True) ∧ (True) ∧ (True) ∧ True) ∧ (true = true) ∧ ((True) ∧ ((True)) ∧ (True) ∧ (True) ∧ (NIs (bnot (vB a1 a2)) false → True) ∧ (NIs (bnot (vB a1 a2)) false → (True)) ∧ (NIs (bnot (vB a1 a2)) false → True) ∧ (True) ∧ (True) ∧ (NIs (bite (bnot (vB a1 a2)) true (bnot (vB b1 b2))) false → True) ∧ (NIs (bite (bnot (vB a1 a2)) true (bnot (vB b1 b2))) false → (True)) ∧ (NIs (bite (bnot (vB a1 a2)) true (bnot (vB b1 b2))) false → True) ∧ (True) ∧ True) ∧ ((bite (bite (bnot (vB a1 a2)) true (bnot (vB b1 b2))) true (bnot (vB c1 c2))) = true → ((true = true) ∧ ((True) ∧ True) ∧ (((0 : Int) : Int) = (orB a1 a2 b1 b2 c1 c2)) ∧ True)) ∧ ((bite (bite (bnot (vB a1 a2)) true (bnot (vB b1 b2))) true (bnot (vB c1 c2))) = false → ((true = true) ∧ ((True) ∧ (True) ∧ (True) ∧ ((True)) ∧ ((True)) ∧ (True) ∧ True) ∧ (((sgn (crW a1 a2 b1 b2 c1 c2)) : Int) = (orB a1 a2 b1 b2 c1 c2)) ∧ True))) = ev sig_spec_Orientation xs_spec_Orientation Try.f42.ntmps (fun b => []) (codeOf Try.f42) 0 (initS [.agg [.int a1, .int a2], .agg [.int b1, .int b2], .agg [.int c1, .int c2]]) (retK Try.f42.results.toList [.s (.int (orB a1 a2 b1 b2 c1 c2))]) := by kernel_rfl
set_option maxHeartbeats 400000 in
theorem F_spec_Orientation : FunOK 42 g_spec_Orientation := by
  refine fun_F (by kernel_rfl) Try.func42 rfl (by kernel_rfl) sig_spec_Orientation_ok xs_spec_Orientation_ok ?_
  intro avs sg h hn hl
  unfold g_spec_Orientation at h
  split at h
  · rename_i a1 a2 b1 b2 c1 c2
    injection h with h; subst h
    refine ⟨by kernel_rfl, fun b => [], Eq.mp (V_spec_Orientation a1 a2 b1 b2 c1 c2) ?_⟩
    simp only [true_and, and_true, implies_true, and_self, forall_const, true_implies, lenA, lenL, SV.lenOK, Cont.lenOK] at hn hl ⊢
    simp only [ilt_t, ilt_f, ile_t, ile_f, ieq_t, ieq_f, bnot_e, band_e, bite_and, bite_or, NLt_e, NLe_e, NNe_e, NIs_e, imax_e, imin_e, irem_e, Bool.not_eq_true', Bool.not_eq_false', Bool.and_eq_true, Bool.or_eq_true, Bool.or_eq_false_iff, Bool.and_eq_false_iff, Cont.pts.injEq, Cont.ints.injEq, Cont.bools.injEq, Cont.ptss.injEq, Cont.intss.injEq, Cont.boolss.injEq, true_and, and_true, implies_true]
    unfold orB
    cases vB a1 a2 <;> cases vB b1 b2 <;> cases vB c1 c2 <;> simp
  · cases h
def g_impl_ConvexValid : List AV → Option Sg
  | [.s (.view (.pts l))] => some ⟨True, [.s (.bool (convB l))]⟩
  | _ => none
def sig_impl_ConvexValid : FuncId → List AV → Option Sg := sigL [(45, g_impl_within), (46, g_impl_allPoints), (47, g_impl_cross)]
def xs_impl_ConvexValid : XS := ⟨xsigL [], ysigL []⟩
theorem sig_impl_ConvexValid_ok : SigOK sig_impl_ConvexValid := sigL_cons F_impl_within (sigL_cons F_impl_allPoints (sigL_cons F_impl_cross sigL_nil))
theorem xs_impl_ConvexValid_ok : XSigOK xs_impl_ConvexValid := ⟨xsigL_nil, ysigL_nil⟩
theorem V_impl_ConvexValid (l : List Pt) : ((true = true) ∧ ((True) ∧ True) ∧ (true = true) ∧ ((True) ∧ (True) ∧ ((True)) ∧ (True) ∧ (True) ∧ (NIs (bnot (inB (ilen l) (3 : Int) (8 : Int))) false → True) ∧ (NIs (bnot (inB (ilen l) (3 : Int) (8 : Int))) false → (True)) ∧ (NIs (bnot (inB (ilen l) (3 : Int) (8 : Int))) false → True) ∧ (True) ∧ True) ∧ ((bite (bnot (inB (ilen l) (3 : Int) (8 : Int))) true (bnot (allB l))) = true → ((true = true) ∧ ((True) ∧ True) ∧ ((false : Bool) = (convB l)) ∧ True)) ∧ ((bite (bnot (inB (ilen l) (3 : Int) (8 : Int))) true (bnot (allB l))) = false → ((true = true) ∧ ((True) ∧ (True) ∧ (True) ∧ True) ∧ ∃ (I1 : List GV → Prop) (μ1 : List GV → Nat), (((true = true) ∧ (((false : Bool) = false) ∧ (((0 : Int) : Int) = (0 : Int)) ∧ ((Cont.pts l) = (Cont.pts l)) ∧ (((ilen l) : Int) = (ilen l)) ∧ ((Cont.pts l) = (Cont.pts l)) ∧ (((ilen l) : Int) = (ilen l)) ∧ (((inB (ilen l) (3 : Int) (8 : Int)) : Bool) = (inB (ilen l) (3 : Int) (8 : Int))) ∧ (((bnot (inB (ilen l) (3 : Int) (8 : Int))) : Bool) = (bnot (inB (ilen l) (3 : Int) (8 : Int)))) ∧ (((bnot (inB (ilen l) (3 : Int) (8 : Int))) : Bool) = (bnot (inB (ilen l) (3 : Int) (8 : Int)))) ∧ (((bite (bnot (inB (ilen l) (3 : Int) (8 : Int))) true (bnot (allB l))) : Bool) = (bite (bnot (inB (ilen l) (3 : Int) (8 : Int))) true (bnot (allB l)))) ∧ ((Cont.pts l) = (Cont.pts l)) ∧ True) ∧ (True)) ∧ (([GK.int, GK.bool] : List GK) = ([GK.int, GK.bool] : List GK)) ∧ I1 [GV.int (0 : Int), GV.bool false]) ∧ (∀ i1_0 : Int, ∀ b1_1 : Bool, I1 [GV.int i1_0, GV.bool b1_1] → ((true = true) ∧ ((True) ∧ True) ∧ ((ilt i1_0 (ilen l)) = true → ((true = true) ∧ ((True) ∧ (NLe 0 i1_0 ∧ NLt i1_0 (ilen l)) ∧ (True) ∧ (True) ∧ (True) ∧ True) ∧ (True) ∧ (true = true) ∧ ((True) ∧ (True) ∧ (True) ∧ (True) ∧ (NNe (ilen l) 0) ∧ (True) ∧ True) ∧ (true = true) ∧ ((True) ∧ (True) ∧ (True) ∧ True) ∧ ∃ (I2 : List GV → Prop) (μ2 : List GV → Nat), (((true = true) ∧ (((b1_1 : Bool) = b1_1) ∧ (((0 : Int) : Int) = (0 : Int)) ∧ ((Cont.pts l) = (Cont.pts l)) ∧ (((ilen l) : Int) = (ilen l)) ∧ ((i1_0 : Int) = i1_0) ∧ (((iadd i1_0 (1 : Int)) : Int) = (iadd i1_0 (1 : Int))) ∧ ((Cont.pts l) = (Cont.pts l)) ∧ (((ilen l) : Int) = (ilen l)) ∧ (((irem (iadd i1_0 (1 : Int)) (ilen l)) : Int) = (irem (iadd i1_0 (1 : Int)) (ilen l))) ∧ (((irem (iadd i1_0 (1 : Int)) (ilen l)) : Int) = (irem (iadd i1_0 (1 : Int)) (ilen l))) ∧ ((i1_0 : Int) = i1_0) ∧ ((((getx l i1_0) : Int) = (getx l i1_0)) ∧ (((gety l i1_0) : Int) = (gety l i1_0)) ∧ True) ∧ (true = true) ∧ ((i1_0 : Int) = i1_0) ∧ (((ilt i1_0 (ilen l)) : Bool) = (ilt i1_0 (ilen l))) ∧ ((i1_0 : Int) = i1_0) ∧ ((Cont.pts l) = (Cont.pts l)) ∧ (((ilen l) : Int) = (ilen l)) ∧ ((Cont.pts l) = (Cont.pts l)) ∧ (((ilen l) : Int) = (ilen l)) ∧ (((inB (ilen l) (3 : Int) (8 : Int)) : Bool) = (inB (ilen l) (3 : Int) (8 : Int))) ∧ (((bnot (inB (ilen l) (3 : Int) (8 : Int))) : Bool) = (bnot (inB (ilen l) (3 : Int) (8 : Int)))) ∧ (((bnot (inB (ilen l) (3 : Int) (8 : Int))) : Bool) = (bnot (inB (ilen l) (3 : Int) (8 : Int)))) ∧ (((bite (bnot (inB (ilen l) (3 : Int) (8 : Int))) true (bnot (allB l))) : Bool) = (bite (bnot (inB (ilen l) (3 : Int) (8 : Int))) true (bnot (allB l)))) ∧ ((Cont.pts l) = (Cont.pts l)) ∧ True) ∧ (((((getx l i1_0) : Int) = (getx l i1_0)) ∧ (((gety l i1_0) : Int) = (gety l i1_0)) ∧ True) ∧ True)) ∧ (([GK.int, GK.bool] : List GK) = ([GK.int, GK.bool] : List GK)) ∧ I2 [GV.int (0 : Int), GV.bool b1_1]) ∧ (∀ i2_0 : Int, ∀ b2_1 : Bool, I2 [GV.int i2_0, GV.bool b2_1] → ((true = true) ∧ ((True) ∧ True) ∧ ((ilt i2_0 (ilen l)) = true → ((true = true) ∧ ((True) ∧ (NLe 0 i2_0 ∧ NLt i2_0 (ilen l)) ∧ (True) ∧ (True) ∧ (True) ∧ True) ∧ (True) ∧ (true = true) ∧ ((True) ∧ (True) ∧ (True) ∧ (True) ∧ (NIs (bnot (ieq i2_0 i1_0)) true → True) ∧ (NIs (bnot (ieq i2_0 i1_0)) true → True) ∧ (NIs (bnot (ieq i2_0 i1_0)) true → True) ∧ (True) ∧ (True) ∧ (NIs (bite (bnot (ieq i2_0 i1_0)) (bnot (ieq i2_0 (irem (iadd i1_0 (1 : Int)) (ilen l)))) false) true → True) ∧ (NIs (bite (bnot (ieq i2_0 i1_0)) (bnot (ieq i2_0 (irem (iadd i1_0 (1 : Int)) (ilen l)))) false) true → True) ∧ (NIs (bite (bnot (ieq i2_0 i1_0)) (bnot (ieq i2_0 (irem (iadd i1_0 (1 : Int)) (ilen l)))) false) true → True) ∧ (NIs (bite (bnot (ieq i2_0 i1_0)) (bnot (ieq i2_0 (irem (iadd i1_0 (1 : Int)) (ilen l)))) false) true → (NLe 0 (irem (iadd i1_0 (1 : Int)) (ilen l)) ∧ NLt (irem (iadd i1_0 (1 : Int)) (ilen l)) (ilen l))) ∧ (NIs (bite (bnot (ieq i2_0 i1_0)) (bnot (ieq i2_0 (irem (iadd i1_0 (1 : Int)) (ilen l)))) false) true → True) ∧ (NIs (bite (bnot (ieq i2_0 i1_0)) (bnot (ieq i2_0 (irem (iadd i1_0 (1 : Int)) (ilen l)))) false) true → True) ∧ (NIs (bite (bnot (ieq i2_0 i1_0)) (bnot (ieq i2_0 (irem (iadd i1_0 (1 : Int)) (ilen l)))) false) true → (True)) ∧ (NIs (bite (bnot (ieq i2_0 i1_0)) (bnot (ieq i2_0 (irem (iadd i1_0 (1 : Int)) (ilen l)))) false) true → True) ∧ (True) ∧ True) ∧ ((bite (bite (bnot (ieq i2_0 i1_0)) (bnot (ieq i2_0 (irem (iadd i1_0 (1 : Int)) (ilen l)))) false) (ile (crW (getx l i1_0) (gety l i1_0) (getx l (irem (iadd i1_0 (1 : Int)) (ilen l))) (gety l (irem (iadd i1_0 (1 : Int)) (ilen l))) (getx l i2_0) (gety l i2_0)) (0 : Int)) false) = true → ((true = true) ∧ ((True) ∧ True) ∧ ((false : Bool) = (convB l)) ∧ True)) ∧ ((bite (bite (bnot (ieq i2_0 i1_0)) (bnot (ieq i2_0 (irem (iadd i1_0 (1 : Int)) (ilen l)))) false) (ile (crW (getx l i1_0) (gety l i1_0) (getx l (irem (iadd i1_0 (1 : Int)) (ilen l))) (gety l (irem (iadd i1_0 (1 : Int)) (ilen l))) (getx l i2_0) (gety l i2_0)) (0 : Int)) false) = false → ((true = true) ∧ ((True) ∧ (True) ∧ True) ∧ ((true = true) ∧ (((b2_1 : Bool) = b2_1) ∧ (((iadd i2_0 (1 : Int)) : Int) = (iadd i2_0 (1 : Int))) ∧ ((Cont.pts l) = (Cont.pts l)) ∧ (((ilen l) : Int) = (ilen l)) ∧ ((i1_0 : Int) = i1_0) ∧ (((iadd i1_0 (1 : Int)) : Int) = (iadd i1_0 (1 : Int))) ∧ ((Cont.pts l) = (Cont.pts l)) ∧ (((ilen l) : Int) = (ilen l)) ∧ (((irem (iadd i1_0 (1 : Int)) (ilen l)) : Int) = (irem (iadd i1_0 (1 : Int)) (ilen l))) ∧ (((irem (iadd i1_0 (1 : Int)) (ilen l)) : Int) = (irem (iadd i1_0 (1 : Int)) (ilen l))) ∧ ((i1_0 : Int) = i1_0) ∧ ((((getx l i1_0) : Int) = (getx l i1_0)) ∧ (((gety l i1_0) : Int) = (gety l i1_0)) ∧ True) ∧ (true = true) ∧ ((i1_0 : Int) = i1_0) ∧ (((ilt i1_0 (ilen l)) : Bool) = (ilt i1_0 (ilen l))) ∧ ((i1_0 : Int) = i1_0) ∧ ((Cont.pts l) = (Cont.pts l)) ∧ (((ilen l) : Int) = (ilen l)) ∧ ((Cont.pts l) = (Cont.pts l)) ∧ (((ilen l) : Int) = (ilen l)) ∧ (((inB (ilen l) (3 : Int) (8 : Int)) : Bool) = (inB (ilen l) (3 : Int) (8 : Int))) ∧ (((bnot (inB (ilen l) (3 : Int) (8 : Int))) : Bool) = (bnot (inB (ilen l) (3 : Int) (8 : Int)))) ∧ (((bnot (inB (ilen l) (3 : Int) (8 : Int))) : Bool) = (bnot (inB (ilen l) (3 : Int) (8 : Int)))) ∧ (((bite (bnot (inB (ilen l) (3 : Int) (8 : Int))) true (bnot (allB l))) : Bool) = (bite (bnot (inB (ilen l) (3 : Int) (8 : Int))) true (bnot (allB l)))) ∧ ((Cont.pts l) = (Cont.pts l)) ∧ True) ∧ (((((getx l i1_0) : Int) = (getx l i1_0)) ∧ (((gety l i1_0) : Int) = (gety l i1_0)) ∧ True) ∧ True)) ∧ ((([GK.int, GK.bool] : List GK) = ([GK.int, GK.bool] : List GK)) ∧ I2 [GV.int (iadd i2_0 (1 : Int)), GV.bool b2_1] ∧ μ2 [GV.int (iadd i2_0 (1 : Int)), GV.bool b2_1] < μ2 [GV.int i2_0, GV.bool b2_1]))))) ∧ ((ilt i2_0 (ilen l)) = false → ((true = true) ∧ ((True) ∧ (True) ∧ True) ∧ ((true = true) ∧ (((b2_1 : Bool) = b2_1) ∧ (((iadd i1_0 (1 : Int)) : Int) = (iadd i1_0 (1 : Int))) ∧ ((Cont.pts l) = (Cont.pts l)) ∧ (((ilen l) : Int) = (ilen l)) ∧ ((Cont.pts l) = (Cont.pts l)) ∧ (((ilen l) : Int) = (ilen l)) ∧ (((inB (ilen l) (3 : Int) (8 : Int)) : Bool) = (inB (ilen l) (3 : Int) (8 : Int))) ∧ (((bnot (inB (ilen l) (3 : Int) (8 : Int))) : Bool) = (bnot (inB (ilen l) (3 : Int) (8 : Int)))) ∧ (((bnot (inB (ilen l) (3 : Int) (8 : Int))) : Bool) = (bnot (inB (ilen l) (3 : Int) (8 : Int)))) ∧ (((bite (bnot (inB (ilen l) (3 : Int) (8 : Int))) true (bnot (allB l))) : Bool) = (bite (bnot (inB (ilen l) (3 : Int) (8 : Int))) true (bnot (allB l)))) ∧ ((Cont.pts l) = (Cont.pts l)) ∧ True) ∧ (True)) ∧ ((([GK.int, GK.bool] : List GK) = ([GK.int, GK.bool] : List GK)) ∧ I1 [GV.int (iadd i1_0 (1 : Int)), GV.bool b2_1] ∧ μ1 [GV.int (iadd i1_0 (1 : Int)), GV.bool b2_1] < μ1 [GV.int i1_0, GV.bool b1_1]))))))) ∧ ((ilt i1_0 (ilen l)) = false → ((true = true) ∧ ((True) ∧ True) ∧ ((true : Bool) = (convB l)) ∧ True))))))) = ev sig_impl_ConvexValid xs_impl_ConvexValid Try.f16.ntmps (fun b => if b == 0 then [.v 19, .v 2] else if b == 2 then [.v 31, .v 2] else []) (codeOf Try.f16) 0 (initS [.s (.view (.pts l))]) (retK Try.f16.results.toList [.s (.bool (convB l))]) := by kernel_rfl
set_option maxHeartbeats 400000 in
theorem F_impl_ConvexValid : FunOK 16 g_impl_ConvexValid := by
  refine fun_F (by kernel_rfl) Try.func16 rfl (by kernel_rfl) sig_impl_ConvexValid_ok xs_impl_ConvexValid_ok ?_
  intro avs sg h hn hl
  unfold g_impl_ConvexValid at h
  split at h
  · rename_i l
    injection h with h; subst h
    refine ⟨by kernel_rfl, fun b => if b == 0 then [.v 19, .v 2] else if b == 2 then [.v 31, .v 2] else [], Eq.mp (V_impl_ConvexValid l) ?_⟩
    simp only [true_and, and_true, implies_true, and_self, forall_const, true_implies, lenA, lenL, SV.lenOK, Cont.lenOK] at hn hl ⊢
    have h0 := ilen_0 l
    simp only [ilt_t, ilt_f, ile_t, ile_f, ieq_t, ieq_f, bnot_e, band_e, bite_and, bite_or, NLt_e, NLe_e, NNe_e, NIs_e, imax_e, imin_e, irem_e, Bool.not_eq_true', Bool.not_eq_false', Bool.and_eq_true, Bool.or_eq_true, Bool.or_eq_false_iff, Bool.and_eq_false_iff, Cont.pts.injEq, Cont.ints.injEq, Cont.bools.injEq, Cont.ptss.injEq, Cont.intss.injEq, Cont.boolss.injEq, true_and, and_true, implies_true]
    refine ⟨?_, fun hc => ?_⟩
    · rintro (h | h) <;> simp [convB, h]
    · obtain ⟨hv1, hv2⟩ : inB (ilen l) 3 8 = true ∧ allB l = true := by simpa using hc
      have hlen := inB_true hv1
      refine ⟨fun | [.int k, .bool _] => 0 ≤ k ∧ k ≤ ilen l ∧ (∀ i, 0 ≤ i → i < k → allN (ilen l) (convE l i) = true) | _ => False, fun | [.int k, .bool _] => (ilen l - k).toNat | _ => 0, ?_, ?_⟩
      · exact ⟨Int.le_refl 0, h0, fun j h0 h1 => absurd h1 (by omega)⟩
      · rintro k b ⟨hk0, hk1, hk⟩
        simp only [ilt_t, ilt_f, ile_t, ile_f, ieq_t, ieq_f, bnot_e, band_e, bite_and, bite_or, NLt_e, NLe_e, NNe_e, NIs_e, imax_e, imin_e, irem_e, Bool.not_eq_true', Bool.not_eq_false', Bool.and_eq_true, Bool.or_eq_true, Bool.or_eq_false_iff, Bool.and_eq_false_iff, Cont.pts.injEq, Cont.ints.injEq, Cont.bools.injEq, Cont.ptss.injEq, Cont.intss.injEq, Cont.boolss.injEq, true_and, and_true, implies_true]
        refine ⟨fun hkn => ⟨⟨hk0, hkn⟩, by omega, ?_⟩, fun hkn => ?_⟩
        · have e1 := iadd_1 hk0 hkn hl
          obtain ⟨n0, n1, _⟩ := nx_in hk0 hkn
          have e2 : (k + 1).tmod (ilen l) = nx l k := rfl
          simp only [e1, e2]
          refine ⟨fun | [.int j, .bool _] => 0 ≤ j ∧ j ≤ ilen l ∧ (∀ i, 0 ≤ i → i < j → convE l k i = true) | _ => False, fun | [.int j, .bool _] => (ilen l - j).toNat | _ => 0, ?_, ?_⟩
          · exact ⟨Int.le_refl 0, h0, fun j h0 h1 => absurd h1 (by omega)⟩
          · rintro j b ⟨hj0, hj1, hj⟩
            simp only [ilt_t, ilt_f, ile_t, ile_f, ieq_t, ieq_f, bnot_e, band_e, bite_and, bite_or, NLt_e, NLe_e, NNe_e, NIs_e, imax_e, imin_e, irem_e, Bool.not_eq_true', Bool.not_eq_false', Bool.and_eq_true, Bool.or_eq_true, Bool.or_eq_false_iff, Bool.and_eq_false_iff, Cont.pts.injEq, Cont.ints.injEq, Cont.bools.injEq, Cont.ptss.injEq, Cont.intss.injEq, Cont.boolss.injEq, true_and, and_true, implies_true]
            refine ⟨fun hjn => ⟨⟨hj0, hjn⟩, fun _ => ⟨n0, n1⟩, fun hx => ?_, fun hx => ?_⟩, fun hjn => ?_⟩
            · have hE : convE l k j = false := by
                unfold convE cr
                simp only [decide_eq_false_iff_not]
                omega
              unfold convB
              rw [allN_no k hk0 hkn (allN_no j hj0 hjn hE)]
              simp
            · have hE : convE l k j = true := by
                unfold convE cr
                simp only [decide_eq_true_eq]
                omega
              rw [iadd_1 hj0 hjn hl]
              exact ⟨⟨by omega, by omega, allN_up hj hE⟩, by omega⟩
            · exact ⟨⟨by omega, by omega, allN_up hk (allN_mk fun i h0 h1 => hj i h0 (by omega))⟩, by omega⟩
        · unfold convB
          rw [hv1, hv2, allN_mk fun i h0 h1 => hk i h0 (by omega)]
          rfl
  · cases h
def insE (l : List Pt) (p1 p2 i : Int) : Bool := decide (0 ≤ crW (getx l i) (gety l i) (getx l (nx l i)) (gety l (nx l i)) p1 p2)
def insB (l : List Pt) (p1 p2 : Int) : Bool := allN (ilen l) (insE l p1 p2)
theorem mul20 {x y : Int} (hx : -20000 ≤ x ∧ x ≤ 20000) (hy : -20000 ≤ y ∧ y ≤ 20000) : -400000000 ≤ x * y ∧ x * y ≤ 400000000 := by
  have h := mul_box hx.1 hx.2 hy.1 hy.2
  generalize x * y = z at *
  have e1 : min (min ((-20000 : Int) * -20000) (-20000 * 20000)) (min (20000 * -20000) (20000 * 20000)) = -400000000 := by decide
  have e2 : max (max ((-20000 : Int) * -20000) (-20000 * 20000)) (max (20000 * -20000) (20000 * 20000)) = 400000000 := by decide
  rw [e1, e2] at h
  exact h
theorem crW_e {a1 a2 b1 b2 c1 c2 : Int} (ha : vB a1 a2 = true) (hb : vB b1 b2 = true) (hc : vB c1 c2 = true) : crW a1 a2 b1 b2 c1 c2 = crs (a1, a2) (b1, b2) (c1, c2) := by
  unfold vB at ha hb hc
  simp only [Bool.and_eq_true] at ha hb hc
  have a1' := inB_true ha.1; have a2' := inB_true ha.2; have b1' := inB_true hb.1; have b2' := inB_true hb.2; have c1' := inB_true hc.1; have c2' := inB_true hc.2
  unfold crW crs
  rw [isub_e (a := b1) (by omega) (by omega), isub_e (a := c2) (by omega) (by omega), isub_e (a := b2) (by omega) (by omega), isub_e (a := c1) (by omega) (by omega)]
  have m1 := mul20 (x := b1 - a1) (y := c2 - a2) (by omega) (by omega)
  have m2 := mul20 (x := b2 - a2) (y := c1 - a1) (by omega) (by omega)
  rw [imul_e (a := b1 - a1) (by omega) (by omega), imul_e (a := b2 - a2) (by omega) (by omega), isub_e (by omega) (by omega)]
def P (l : List Pt) (i : Int) : Pt := (getx l i, gety l i)
theorem sgn_01 (z : Int) : -1 ≤ sgn z ∧ sgn z ≤ 1 := by unfold sgn; split <;> (try split) <;> omega
theorem ieq_sgn (z : Int) : ieq (sgn z) 0 = decide (z = 0) := by
  unfold ieq
  congr 1
  simp only [eq_iff_iff]
  unfold sgn; split <;> (try split) <;> omega
theorem imul_sgn (x y : Int) : imul (sgn x) (sgn y) = sgn x * sgn y := by
  have s1 := sgn_01 x; have s2 := sgn_01 y
  have := mul20 (x := sgn x) (y := sgn y) (by omega) (by omega)
  exact imul_e (by omega) (by omega)
theorem sgn_0 (z : Int) : sgn z = 0 ↔ z = 0 := by unfold sgn; split <;> (try split) <;> omega
def btW (a1 a2 b1 b2 p1 p2 : Int) : Bool := inB p1 (min a1 b1) (max a1 b1) && inB p2 (min a2 b2) (max a2 b2)
theorem btW_e (a1 a2 b1 b2 p1 p2 : Int) : btW a1 a2 b1 b2 p1 p2 = btw (a1, a2) (b1, b2) (p1, p2) := by
  unfold btW btw inB
  simp only [← Bool.decide_and]
  congr 1
  simp only [eq_iff_iff]
  constructor
  · rintro ⟨⟨h1, h2⟩, h3, h4⟩; exact ⟨h1, h2, h3, h4⟩
  · rintro ⟨h1, h2, h3, h4⟩; exact ⟨⟨h1, h2⟩, h3, h4⟩
def hitE (l : List Pt) (a1 a2 b1 b2 i : Int) : Bool := meetB (a1, a2) (b1, b2) (getx l i, gety l i) (getx l (nx l i), gety l (nx l i))
def hitB (l : List Pt) (a1 a2 b1 b2 : Int) : Bool := insB l a1 a2 || insB l b1 b2 || anyN (ilen l) (hitE l a1 a2 b1 b2)
theorem allB_at {l : List Pt} (h : allB l = true) {i : Int} (h0 : 0 ≤ i) (h1 : i < ilen l) : vB (getx l i) (gety l i) = true := by
  rw [allB_N] at h; exact allN_iff.1 h i h0 h1
theorem convB_all {l : List Pt} (h : convB l = true) : 3 ≤ ilen l ∧ ilen l ≤ 8 ∧ allB l = true := by
  unfold convB at h
  simp only [Bool.and_eq_true] at h
  exact ⟨(inB_true h.1.1).1, (inB_true h.1.1).2, h.1.2⟩
theorem allB_2 (a1 a2 b1 b2 : Int) : allB [(a1, a2), (b1, b2)] = (vB a1 a2 && vB b1 b2) := by simp [allB]
def dt (l : List Pt) (i j : Int) : Int := getx l i * gety l j - gety l i * getx l j
def shoe (l : List Pt) (k : Int) : Int := foldN k (fun s i => s + dt l i (nx l i)) 0
def areaB (l : List Pt) : Int := if convB l then shoe l (ilen l) else 0
theorem shoe_1 {l : List Pt} {k : Int} (h : 0 ≤ k) : shoe l (k + 1) = shoe l k + dt l k (nx l k) := by unfold shoe; rw [foldN_1 h]
theorem dt_bd {l : List Pt} {i j : Int} (hi : vB (getx l i) (gety l i) = true) (hj : vB (getx l j) (gety l j) = true) :
    imul (getx l i) (gety l j) = getx l i * gety l j ∧ imul (gety l i) (getx l j) = gety l i * getx l j ∧ isub (getx l i * gety l j) (gety l i * getx l j) = dt l i j ∧ -800000000 ≤ dt l i j ∧ dt l i j ≤ 800000000 := by
  unfold vB at hi hj
  simp only [Bool.and_eq_true] at hi hj
  have a1 := inB_true hi.1; have a2 := inB_true hi.2; have b1 := inB_true hj.1; have b2 := inB_true hj.2
  have m1 := mul20 (x := getx l i) (y := gety l j) (by omega) (by omega)
  have m2 := mul20 (x := gety l i) (y := getx l j) (by omega) (by omega)
  unfold dt
  exact ⟨imul_e (by omega) (by omega), imul_e (by omega) (by omega), isub_e (by omega) (by omega), by omega, by omega⟩
theorem crs_dt (l : List Pt) (i j k : Int) : crs (getx l i, gety l i) (getx l j, gety l j) (getx l k, gety l k) = dt l i j + dt l j k + dt l k i := by unfold crs dt; grind
def g_impl_DoubleArea : List AV → Option Sg
  | [.s (.view (.pts l))] => some ⟨True, [.s (.int (areaB l))]⟩
  | _ => none
def sig_impl_DoubleArea : FuncId → List AV → Option Sg := sigL [(16, g_impl_ConvexValid)]
def xs_impl_DoubleArea : XS := ⟨xsigL [], ysigL []⟩
theorem sig_impl_DoubleArea_ok : SigOK sig_impl_DoubleArea := sigL_cons F_impl_ConvexValid sigL_nil
theorem xs_impl_DoubleArea_ok : XSigOK xs_impl_DoubleArea := ⟨xsigL_nil, ysigL_nil⟩
theorem V_impl_DoubleArea (l : List Pt) : ((true = true) ∧ ((True) ∧ True) ∧ (true = true) ∧ ((True) ∧ ((True)) ∧ (True) ∧ True) ∧ ((bnot (convB l)) = true → ((true = true) ∧ ((True) ∧ True) ∧ (((0 : Int) : Int) = (areaB l)) ∧ True)) ∧ ((bnot (convB l)) = false → ((true = true) ∧ ((True) ∧ True) ∧ (true = true) ∧ ((True) ∧ (True) ∧ (True) ∧ True) ∧ ∃ (I1 : List GV → Prop) (μ1 : List GV → Nat), (((true = true) ∧ ((((0 : Int) : Int) = (0 : Int)) ∧ (((0 : Int) : Int) = (0 : Int)) ∧ ((Cont.pts l) = (Cont.pts l)) ∧ (((ilen l) : Int) = (ilen l)) ∧ ((Cont.pts l) = (Cont.pts l)) ∧ (((convB l) : Bool) = (convB l)) ∧ (((bnot (convB l)) : Bool) = (bnot (convB l))) ∧ (((0 : Int) : Int) = (0 : Int)) ∧ ((Cont.pts l) = (Cont.pts l)) ∧ True) ∧ (True)) ∧ (([GK.int, GK.int] : List GK) = ([GK.int, GK.int] : List GK)) ∧ I1 [GV.int (0 : Int), GV.int (0 : Int)]) ∧ (∀ i1_0 : Int, ∀ i1_1 : Int, I1 [GV.int i1_0, GV.int i1_1] → ((true = true) ∧ ((True) ∧ True) ∧ ((ilt i1_0 (ilen l)) = true → ((true = true) ∧ ((True) ∧ (NLe 0 i1_0 ∧ NLt i1_0 (ilen l)) ∧ (True) ∧ (True) ∧ (True) ∧ True) ∧ (True) ∧ (true = true) ∧ ((True) ∧ (True) ∧ (True) ∧ (True) ∧ (True) ∧ (NNe (ilen l) 0) ∧ (NLe 0 (irem (iadd i1_0 (1 : Int)) (ilen l)) ∧ NLt (irem (iadd i1_0 (1 : Int)) (ilen l)) (ilen l)) ∧ (True) ∧ (True) ∧ True) ∧ (True) ∧ (true = true) ∧ ((True) ∧ (True) ∧ (True) ∧ (True) ∧ (True) ∧ (True) ∧ (True) ∧ (True) ∧ (True) ∧ (True) ∧ (True) ∧ (True) ∧ (True) ∧ (True) ∧ True) ∧ (true = true) ∧ ((True) ∧ (True) ∧ True) ∧ ((true = true) ∧ ((((iadd i1_1 (isub (imul (getx l i1_0) (gety l (irem (iadd i1_0 (1 : Int)) (ilen l)))) (imul (gety l i1_0) (getx l (irem (iadd i1_0 (1 : Int)) (ilen l)))))) : Int) = (iadd i1_1 (isub (imul (getx l i1_0) (gety l (irem (iadd i1_0 (1 : Int)) (ilen l)))) (imul (gety l i1_0) (getx l (irem (iadd i1_0 (1 : Int)) (ilen l))))))) ∧ (((iadd i1_0 (1 : Int)) : Int) = (iadd i1_0 (1 : Int))) ∧ ((Cont.pts l) = (Cont.pts l)) ∧ (((ilen l) : Int) = (ilen l)) ∧ ((Cont.pts l) = (Cont.pts l)) ∧ (((convB l) : Bool) = (convB l)) ∧ (((bnot (convB l)) : Bool) = (bnot (convB l))) ∧ (((0 : Int) : Int) = (0 : Int)) ∧ ((Cont.pts l) = (Cont.pts l)) ∧ True) ∧ (True)) ∧ ((([GK.int, GK.int] : List GK) = ([GK.int, GK.int] : List GK)) ∧ I1 [GV.int (iadd i1_0 (1 : Int)), GV.int (iadd i1_1 (isub (imul (getx l i1_0) (gety l (irem (iadd i1_0 (1 : Int)) (ilen l)))) (imul (gety l i1_0) (getx l (irem (iadd i1_0 (1 : Int)) (ilen l))))))] ∧ μ1 [GV.int (iadd i1_0 (1 : Int)), GV.int (iadd i1_1 (isub (imul (getx l i1_0) (gety l (irem (iadd i1_0 (1 : Int)) (ilen l)))) (imul (gety l i1_0) (getx l (irem (iadd i1_0 (1 : Int)) (ilen l))))))] < μ1 [GV.int i1_0, GV.int i1_1]))) ∧ ((ilt i1_0 (ilen l)) = false → ((true = true) ∧ ((True) ∧ (True) ∧ True) ∧ ((i1_1 : Int) = (areaB l)) ∧ True))))))) = ev sig_impl_DoubleArea xs_impl_DoubleArea Try.f19.ntmps (fun b => if b == 0 then [.v 12, .v 3] else []) (codeOf Try.f19) 0 (initS [.s (.view (.pts l))]) (retK Try.f19.results.toList [.s (.int (areaB l))]) := by kernel_rfl
set_option maxHeartbeats 400000 in
theorem F_impl_DoubleArea : FunOK 19 g_impl_DoubleArea := by
  refine fun_F (by kernel_rfl) Try.func19 rfl (by kernel_rfl) sig_impl_DoubleArea_ok xs_impl_DoubleArea_ok ?_
  intro avs sg h hn hl
  unfold g_impl_DoubleArea at h
  split at h
  · rename_i l
    injection h with h; subst h
    refine ⟨by kernel_rfl, fun b => if b == 0 then [.v 12, .v 3] else [], Eq.mp (V_impl_DoubleArea l) ?_⟩
    simp only [true_and, and_true, implies_true, and_self, forall_const, true_implies, lenA, lenL, SV.lenOK, Cont.lenOK] at hn hl ⊢
    have h0 := ilen_0 l
    simp only [ilt_t, ilt_f, ile_t, ile_f, ieq_t, ieq_f, bnot_e, band_e, bite_and, bite_or, NLt_e, NLe_e, NNe_e, NIs_e, imax_e, imin_e, irem_e, Bool.not_eq_true', Bool.not_eq_false', Bool.and_eq_true, Bool.or_eq_true, Bool.or_eq_false_iff, Bool.and_eq_false_iff, Cont.pts.injEq, Cont.ints.injEq, Cont.bools.injEq, Cont.ptss.injEq, Cont.intss.injEq, Cont.boolss.injEq, true_and, and_true, implies_true]
    refine ⟨fun h => by simp [areaB, h], fun h => ?_⟩
    obtain ⟨c1, c2, c3⟩ := convB_all h
    refine ⟨fun | .int k :: .int s :: _ => 0 ≤ k ∧ k ≤ ilen l ∧ s = shoe l k ∧ -1000000000 * k ≤ s ∧ s ≤ 1000000000 * k | _ => False, fun | .int k :: _ => (ilen l - k).toNat | _ => 0, ?_, ?_⟩
    · exact ⟨Int.le_refl 0, h0, rfl, by omega, by omega⟩
    · rintro k s ⟨hk0, hk1, hs, hb1, hb2⟩
      refine ⟨fun hkn => ?_, fun hkn => ?_⟩
      · have e1 := iadd_1 hk0 hkn hl
        obtain ⟨n0, n1, _⟩ := nx_in hk0 hkn
        have e2 : (k + 1).tmod (ilen l) = nx l k := rfl
        obtain ⟨d1, d2, d3, d4, d5⟩ := dt_bd (allB_at c3 hk0 hkn) (allB_at c3 n0 n1)
        simp only [e1, e2, d1, d2, d3]
        rw [iadd_e (by omega) (by omega)]
        exact ⟨⟨hk0, hkn⟩, ⟨by omega, n0, n1⟩, ⟨by omega, by omega, by rw [shoe_1 hk0, hs], by omega, by omega⟩, by omega⟩
      · have : k = ilen l := by omega
        subst this
        simp [areaB, h, hs]
  · cases h
def degW (d : Int) : Int := irem (iadd (irem d 360) 360) 360
def g_impl_Degrees : List AV → Option Sg
  | [.s (.int d)] => some ⟨True, [.s (.int (degW d))]⟩
  | _ => none
def sig_impl_Degrees : FuncId → List AV → Option Sg := sigL []
def xs_impl_Degrees : XS := ⟨xsigL [], ysigL []⟩
theorem sig_impl_Degrees_ok : SigOK sig_impl_Degrees := sigL_nil
theorem xs_impl_Degrees_ok : XSigOK xs_impl_Degrees := ⟨xsigL_nil, ysigL_nil⟩
theorem V_impl_Degrees (d : Int) : ((true = true) ∧ ((True) ∧ True) ∧ (true = true) ∧ ((True) ∧ (NNe (360 : Int) 0) ∧ (True) ∧ (NNe (360 : Int) 0) ∧ (True) ∧ True) ∧ (((irem (iadd (irem d (360 : Int)) (360 : Int)) (360 : Int)) : Int) = (degW d)) ∧ True) = ev sig_impl_Degrees xs_impl_Degrees Try.f78.ntmps (fun b => []) (codeOf Try.f78) 0 (initS [.s (.int d)]) (retK Try.f78.results.toList [.s (.int (degW d))]) := by kernel_rfl
set_option maxHeartbeats 400000 in
theorem F_impl_Degrees : FunOK 78 g_impl_Degrees := by
  refine fun_F (by kernel_rfl) Try.func78 rfl (by kernel_rfl) sig_impl_Degrees_ok xs_impl_Degrees_ok ?_
  intro avs sg h hn hl
  unfold g_impl_Degrees at h
  split at h
  · rename_i d
    injection h with h; subst h
    refine ⟨by kernel_rfl, fun b => [], Eq.mp (V_impl_Degrees d) ?_⟩
    simp only [true_and, and_true, implies_true, and_self, forall_const, true_implies, lenA, lenL, SV.lenOK, Cont.lenOK] at hn hl ⊢
    simp only [ilt_t, ilt_f, ile_t, ile_f, ieq_t, ieq_f, bnot_e, band_e, bite_and, bite_or, NLt_e, NLe_e, NNe_e, NIs_e, imax_e, imin_e, irem_e, Bool.not_eq_true', Bool.not_eq_false', Bool.and_eq_true, Bool.or_eq_true, Bool.or_eq_false_iff, Bool.and_eq_false_iff, Cont.pts.injEq, Cont.ints.injEq, Cont.bools.injEq, Cont.ptss.injEq, Cont.intss.injEq, Cont.boolss.injEq, true_and, and_true, implies_true]
    exact ⟨by decide, by simp [degW, irem_e]⟩
  · cases h
def g_laws_alive : List AV → Option Sg
  | [] => some ⟨True, [.s (.bool (true))]⟩
  | _ => none
def sig_laws_alive : FuncId → List AV → Option Sg := sigL [(78, g_impl_Degrees)]
def xs_laws_alive : XS := ⟨xsigL [], ysigL []⟩
theorem sig_laws_alive_ok : SigOK sig_laws_alive := sigL_cons F_impl_Degrees sigL_nil
theorem xs_laws_alive_ok : XSigOK xs_laws_alive := ⟨xsigL_nil, ysigL_nil⟩
theorem V_laws_alive  : ((true = true) ∧ ((True) ∧ True) ∧ (true = true) ∧ (((True)) ∧ (True) ∧ (True) ∧ True) ∧ (((ieq (degW (-1 : Int)) (359 : Int)) : Bool) = (true)) ∧ True) = ev sig_laws_alive xs_laws_alive Try.f43.ntmps (fun b => []) (codeOf Try.f43) 0 (initS []) (retK Try.f43.results.toList [.s (.bool (true))]) := by kernel_rfl
set_option maxHeartbeats 400000 in
theorem F_laws_alive : FunOK 43 g_laws_alive := by
  refine fun_F (by kernel_rfl) Try.func43 rfl (by kernel_rfl) sig_laws_alive_ok xs_laws_alive_ok ?_
  intro avs sg h hn hl
  unfold g_laws_alive at h
  split at h
  ·
    injection h with h; subst h
    refine ⟨by kernel_rfl, fun b => [], Eq.mp (V_laws_alive ) ?_⟩
    simp only [true_and, and_true, implies_true, and_self, forall_const, true_implies, lenA, lenL, SV.lenOK, Cont.lenOK] at hn hl ⊢
    unfold ieq degW
    rw [irem_e, irem_e, iadd_e (by decide) (by decide)]
    decide
  · cases h
theorem bxor_self (a : Bool) : bxor a a = false := by cases a <;> simp [bxor]
theorem conv3 {a1 a2 b1 b2 c1 c2 : Int} (ha : vB a1 a2 = true) (hb : vB b1 b2 = true) (hc : vB c1 c2 = true) : convB [(a1, a2), (b1, b2), (c1, c2)] = decide (0 < crs (a1, a2) (b1, b2) (c1, c2)) ∧ shoe [(a1, a2), (b1, b2), (c1, c2)] 3 = crs (a1, a2) (b1, b2) (c1, c2) := by
  have hl : ilen [(a1, a2), (b1, b2), (c1, c2)] = 3 := by simp [ilen]
  have hA : allB [(a1, a2), (b1, b2), (c1, c2)] = true := by simp [allB, ha, hb, hc]
  have e : ∀ f : Int → Bool, allN 3 f = (f 0 && (f 1 && f 2)) := by intro f; simp [allN, List.range, List.range.loop]
  have n0 : nx [(a1, a2), (b1, b2), (c1, c2)] 0 = 1 := by unfold nx; rw [hl]; decide
  have n1 : nx [(a1, a2), (b1, b2), (c1, c2)] 1 = 2 := by unfold nx; rw [hl]; decide
  have n2 : nx [(a1, a2), (b1, b2), (c1, c2)] 2 = 0 := by unfold nx; rw [hl]; decide
  have x0 : getx [(a1, a2), (b1, b2), (c1, c2)] 0 = a1 := by simp [getx]
  have x1 : getx [(a1, a2), (b1, b2), (c1, c2)] 1 = b1 := by simp [getx]
  have x2 : getx [(a1, a2), (b1, b2), (c1, c2)] 2 = c1 := by simp [getx]
  have y0 : gety [(a1, a2), (b1, b2), (c1, c2)] 0 = a2 := by simp [gety]
  have y1 : gety [(a1, a2), (b1, b2), (c1, c2)] 1 = b2 := by simp [gety]
  have y2 : gety [(a1, a2), (b1, b2), (c1, c2)] 2 = c2 := by simp [gety]
  constructor
  · unfold convB
    rw [hl, hA]
    simp only [e, convE, n0, n1, n2, cr, x0, x1, x2, y0, y1, y2, crW_e ha hb hc, crW_e hb hc ha, crW_e hc ha hb]
    have r1 : crs (b1, b2) (c1, c2) (a1, a2) = crs (a1, a2) (b1, b2) (c1, c2) := by unfold crs; grind
    have r2 : crs (c1, c2) (a1, a2) (b1, b2) = crs (a1, a2) (b1, b2) (c1, c2) := by unfold crs; grind
    rw [r1, r2]
    simp [inB]
  · have s0 : shoe [(a1, a2), (b1, b2), (c1, c2)] 0 = 0 := rfl
    have s1 := shoe_1 (l := [(a1, a2), (b1, b2), (c1, c2)]) (k := 0) (by omega)
    have s2 := shoe_1 (l := [(a1, a2), (b1, b2), (c1, c2)]) (k := 1) (by omega)
    have s3 := shoe_1 (l := [(a1, a2), (b1, b2), (c1, c2)]) (k := 2) (by omega)
    simp only [Int.reduceAdd] at s1 s2 s3
    rw [s3, s2, s1, s0, n0, n1, n2]
    unfold dt crs
    rw [x0, x1, x2, y0, y1, y2]
    grind
theorem orient_law (a1 a2 b1 b2 c1 c2 : Int) : (convB [(a1, a2), (b1, b2), (c1, c2)] = ieq (orB a1 a2 b1 b2 c1 c2) 1) ∧ (ilt 0 (areaB [(a1, a2), (b1, b2), (c1, c2)]) = ieq (orB a1 a2 b1 b2 c1 c2) 1) := by
  have hl : ilen [(a1, a2), (b1, b2), (c1, c2)] = 3 := by simp [ilen]
  have e : allB [(a1, a2), (b1, b2), (c1, c2)] = (vB a1 a2 && vB b1 b2 && vB c1 c2) := by simp [allB, Bool.and_assoc]
  cases hv : (vB a1 a2 && vB b1 b2 && vB c1 c2) with
  | false =>
    have h1 : convB [(a1, a2), (b1, b2), (c1, c2)] = false := by unfold convB; rw [e, hv]; simp
    have h2 : orB a1 a2 b1 b2 c1 c2 = 0 := by unfold orB; rw [hv]; rfl
    unfold areaB
    rw [h1, h2]
    simp [ieq, ilt]
  | true =>
    have hv' := hv
    simp only [Bool.and_eq_true] at hv'
    obtain ⟨⟨ha, hb⟩, hc⟩ := hv'
    obtain ⟨k1, k2⟩ := conv3 ha hb hc
    have h2 : orB a1 a2 b1 b2 c1 c2 = sgn (crs (a1, a2) (b1, b2) (c1, c2)) := by unfold orB; rw [hv, crW_e ha hb hc]; rfl
    unfold areaB
    rw [k1, h2, hl, k2]
    generalize crs (a1, a2) (b1, b2) (c1, c2) = z
    unfold ieq ilt sgn
    by_cases hz : 0 < z
    · simp [hz]
    · simp only [hz, decide_false, if_false, Bool.false_eq_true]
      split <;> simp
def g_laws_FnOrientArea : List AV → Option Sg
  | [.s (.rdr n)] => some ⟨True, [.s (.bool (true))]⟩
  | _ => none
def sig_laws_FnOrientArea : FuncId → List AV → Option Sg := sigL [(41, g_impl_Orientation), (42, g_spec_Orientation), (16, g_impl_ConvexValid), (19, g_impl_DoubleArea), (43, g_laws_alive)]
def xs_laws_FnOrientArea : XS := ⟨xsigL [], ysigL [(40, g_spec_DrawOrientation)]⟩
theorem sig_laws_FnOrientArea_ok : SigOK sig_laws_FnOrientArea := sigL_cons F_impl_Orientation (sigL_cons F_spec_Orientation (sigL_cons F_impl_ConvexValid (sigL_cons F_impl_DoubleArea (sigL_cons F_laws_alive sigL_nil))))
theorem xs_laws_FnOrientArea_ok : XSigOK xs_laws_FnOrientArea := ⟨xsigL_nil, ysigL_cons F_spec_DrawOrientation ysigL_nil⟩
theorem V_laws_FnOrientArea (n : Int) : ((true = true) ∧ ((True) ∧ True) ∧ (true = true) ∧ ((True) ∧ (True) ∧ (True) ∧ True) ∧ ((ilt (1048576 : Int) n) = true → ((true = true) ∧ ((True) ∧ True) ∧ ((true : Bool) = (true)) ∧ True)) ∧ ((ilt (1048576 : Int) n) = false → ((true = true) ∧ ((True) ∧ True) ∧ (true = true) ∧ ((n ≤ 1048576)) ∧ (∀ a_22 : Int, ∀ b_23 : Int, ∀ c_24 : Int, ∀ d_25 : Int, ∀ e_26 : Int, ∀ f_27 : Int, ((-100000 ≤ a_22 ∧ a_22 ≤ 100000 ∧ -100000 ≤ b_23 ∧ b_23 ≤ 100000 ∧ -100000 ≤ c_24 ∧ c_24 ≤ 100000 ∧ -100000 ≤ d_25 ∧ d_25 ≤ 100000 ∧ -100000 ≤ e_26 ∧ e_26 ≤ 100000 ∧ -100000 ≤ f_27 ∧ f_27 ≤ 100000) → ((true = true) ∧ ((true = true) ∧ ((true = true) ∧ ((true = true) ∧ ((True) ∧ (True) ∧ (True) ∧ (True) ∧ (True) ∧ (True) ∧ (true = true) ∧ ((True) ∧ (True) ∧ (True) ∧ ((True)) ∧ (True) ∧ True) ∧ (true = true) ∧ ((True) ∧ (True) ∧ (True) ∧ (True) ∧ ((True)) ∧ (True) ∧ True) ∧ ((bnot (ieq (orB (a_22) (b_23) (c_24) (d_25) (e_26) (f_27)) (orB (a_22) (b_23) (c_24) (d_25) (e_26) (f_27)))) = true → ((true = true) ∧ ((True) ∧ True) ∧ ((false : Bool) = (true)) ∧ True)) ∧ ((bnot (ieq (orB (a_22) (b_23) (c_24) (d_25) (e_26) (f_27)) (orB (a_22) (b_23) (c_24) (d_25) (e_26) (f_27)))) = false → ((true = true) ∧ ((True) ∧ (True) ∧ (True) ∧ (True) ∧ (True) ∧ True) ∧ (true = true) ∧ ((True) ∧ ((True)) ∧ (True) ∧ (True) ∧ (True) ∧ (True) ∧ (NIs (bnot (bxor (convB [((a_22), (b_23)), ((c_24), (d_25)), ((e_26), (f_27))]) (ieq (orB (a_22) (b_23) (c_24) (d_25) (e_26) (f_27)) (1 : Int)))) true → True) ∧ (NIs (bnot (bxor (convB [((a_22), (b_23)), ((c_24), (d_25)), ((e_26), (f_27))]) (ieq (orB (a_22) (b_23) (c_24) (d_25) (e_26) (f_27)) (1 : Int)))) true → (True)) ∧ (NIs (bnot (bxor (convB [((a_22), (b_23)), ((c_24), (d_25)), ((e_26), (f_27))]) (ieq (orB (a_22) (b_23) (c_24) (d_25) (e_26) (f_27)) (1 : Int)))) true → True) ∧ (NIs (bnot (bxor (convB [((a_22), (b_23)), ((c_24), (d_25)), ((e_26), (f_27))]) (ieq (orB (a_22) (b_23) (c_24) (d_25) (e_26) (f_27)) (1 : Int)))) true → True) ∧ (NIs (bnot (bxor (convB [((a_22), (b_23)), ((c_24), (d_25)), ((e_26), (f_27))]) (ieq (orB (a_22) (b_23) (c_24) (d_25) (e_26) (f_27)) (1 : Int)))) true → True) ∧ (NIs (bnot (bxor (convB [((a_22), (b_23)), ((c_24), (d_25)), ((e_26), (f_27))]) (ieq (orB (a_22) (b_23) (c_24) (d_25) (e_26) (f_27)) (1 : Int)))) true → True) ∧ (True) ∧ (True) ∧ (NIs (bite (bnot (bxor (convB [((a_22), (b_23)), ((c_24), (d_25)), ((e_26), (f_27))]) (ieq (orB (a_22) (b_23) (c_24) (d_25) (e_26) (f_27)) (1 : Int)))) (bnot (bxor (ilt (0 : Int) (areaB [((a_22), (b_23)), ((c_24), (d_25)), ((e_26), (f_27))])) (ieq (orB (a_22) (b_23) (c_24) (d_25) (e_26) (f_27)) (1 : Int)))) false) true → (True)) ∧ (True) ∧ (True) ∧ True) ∧ (((bite (bite (bnot (bxor (convB [((a_22), (b_23)), ((c_24), (d_25)), ((e_26), (f_27))]) (ieq (orB (a_22) (b_23) (c_24) (d_25) (e_26) (f_27)) (1 : Int)))) (bnot (bxor (ilt (0 : Int) (areaB [((a_22), (b_23)), ((c_24), (d_25)), ((e_26), (f_27))])) (ieq (orB (a_22) (b_23) (c_24) (d_25) (e_26) (f_27)) (1 : Int)))) false) (true) false) : Bool) = (true)) ∧ True)))))))))))) = ev sig_laws_FnOrientArea xs_laws_FnOrientArea Try.f12.ntmps (fun b => []) (codeOf Try.f12) 0 (initS [.s (.rdr n)]) (retK Try.f12.results.toList [.s (.bool (true))]) := by kernel_rfl
set_option maxHeartbeats 400000 in
theorem F_laws_FnOrientArea : FunOK 12 g_laws_FnOrientArea := by
  refine fun_F (by kernel_rfl) Try.func12 rfl (by kernel_rfl) sig_laws_FnOrientArea_ok xs_laws_FnOrientArea_ok ?_
  intro avs sg h hn hl
  unfold g_laws_FnOrientArea at h
  split at h
  · rename_i n
    injection h with h; subst h
    refine ⟨by kernel_rfl, fun b => [], Eq.mp (V_laws_FnOrientArea n) ?_⟩
    simp only [true_and, and_true, implies_true, and_self, forall_const, true_implies, lenA, lenL, SV.lenOK, Cont.lenOK] at hn hl ⊢
    simp only [ilt_t, ilt_f, ile_t, ile_f, ieq_t, ieq_f, bnot_e, band_e, bite_and, bite_or, NLt_e, NLe_e, NNe_e, NIs_e, imax_e, imin_e, irem_e, Bool.not_eq_true', Bool.not_eq_false', Bool.and_eq_true, Bool.or_eq_true, Bool.or_eq_false_iff, Bool.and_eq_false_iff, Cont.pts.injEq, Cont.ints.injEq, Cont.bools.injEq, Cont.ptss.injEq, Cont.intss.injEq, Cont.boolss.injEq, true_and, and_true, implies_true]
    intro h
    refine ⟨h, ?_⟩
    intro a b c d e f _
    simp only [orient_law, bxor_self, bite, bnot]
    simp [ieq]
  · cases h
theorem fnOrientArea_walk (w : World) (v0 : Value) (x0 : Nat) (w0 : BytesArg w v0 x0) : Calls Try.prog 12 #[v0] w fun e w' => e = .returned (.bool true) ∧ Bel w w' :=
  walk_of F_laws_FnOrientArea (avs := [.s (.rdr x0)]) rfl trivial ⟨bytes_reads w0, trivial⟩
set_option maxRecDepth 100000 in
theorem fnOrientArea_lifted (os : Os) (started : os.Started) (H : Type) (enc : TypeId × Value → H) :
    ReturnsInHanded {} Try.checked os 12 .any (Rows.fnOrientAreaSpec.pre6 enc Try.prog Try.f12 Rows.fnOrientAreaRow.domain false) (Rows.fnOrientAreaSpec.post enc Try.prog Try.f12 false true false false) := by
  have own : ownKnob Try.prog.godebug = none := by kernel_rfl
  have laidOut : laidOutB Try.prog = true := by kernel_rfl
  refine returnsInHanded_of_change (C := Try.checked) own started (by kernel_rfl) Try.func12
    (ChangeSpec.witness6 (enc := enc) (C := Try.checked) false ⟨#[], #[.slice none 0 0], []⟩ 8 (by kernel_rfl) (by kernel_rfl) (by kernel_rfl) (by kernel_rfl)) ?_
  intro W base args ds gs before hval0 hW hcnd _
  have hval : ∀ (j : Nat) t v, Try.f12.params[j]? = some t → args[j]? = some v → Value.okWide Try.prog W .any base t v := hval0
  have hW' := hW
  obtain ⟨p, q, hA0, hV, rfl, hfz, hnd⟩ := hW
  have hA : DataW.TrodAll enc Try.prog W 0 (fun _ => true) true Try.f12.params.toList args.toList ds p := hA0
  rw [Try.params12] at hA hval
  obtain ⟨v0, vs0, d0, ds0, p0, q0, hargs, rfl, rfl, h0, r0⟩ := trodAll_cons hA
  obtain ⟨rfl, rfl, rfl⟩ := trodAll_nil r0
  obtain rfl : args = #[v0] := by cases args; simp_all
  obtain ⟨rfl, rfl⟩ := trodVars_none hV
  have k0 := h0
  have lt0 : ∀ x ∈ p0, x.block < W.heap.size := by obtain ⟨m, hm⟩ := k0; exact DataW.trod_lt m _ _ _ hm
  obtain ⟨x0, w0⟩ := opn_bytes (hval 0 51 v0 rfl rfl) h0
  clear hA0 hval0
  refine (fnOrientArea_walk W v0 x0 w0).mono fun e W' ⟨he, bel⟩ => ?_
  subst he
  exact ⟨_, rfl, _, _, _, [], _, [], hW', trodAll_mk1 (shut_bool Try.underlying4 _), (trodAll_cons_mk (Below.trod laidOut (by kernel_rfl) (of_decide_eq_true (by kernel_rfl)) k0 bel lt0) trodAll_mk0), rfl, Below.frame bel _, fun h => by cases h⟩
theorem fnOrientArea_over : Rows.fnOrientAreaRow.holds Try.pinned (OpenSpec.ofChange Rows.fnOrientAreaSpec) :=
  OpenClaim.holds_of_wide 12 Try.f12 rfl rfl rfl rfl rfl rfl rfl ⟨rfl, rfl, rfl, rfl, rfl⟩ rfl rfl rfl rfl rfl (by kernel_rfl) Try.func12 (by kernel_rfl)
    (of_decide_eq_true (by kernel_rfl)) (by unfold Func.isWrapper; first | (rw [if_pos (by decide +kernel)]; kernel_rfl) | (rw [if_neg (by decide +kernel)]; exact ⟨rfl, rfl⟩))
    (fun os started H enc _ => fnOrientArea_lifted os started H enc)
theorem fnOrientArea_proved : Rows.FnOrientAreaSaid := fnOrientArea_over
#print axioms fnOrientArea_proved
end Go.Proofs.Ytfkkhgagajccfaa

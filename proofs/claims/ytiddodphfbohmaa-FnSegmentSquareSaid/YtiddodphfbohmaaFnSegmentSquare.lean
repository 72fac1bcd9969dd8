/- 'FnSegmentSquare': for every code, the squared distance of a drawn point from a drawn segment does not depend on the order of the ends, is at most that from each end, is 0 at an end, and is that of the point for a segment of length 0. Conditions: none. -/
import Derived.Test.YtiddodphfbohmaaAxO
namespace Go.Proofs.Ytiddodphfbohmaa
open Go.ChangeShapes Go.WideShapes Go.ChangeAt Go.RowKit
set_option maxRecDepth 100000
set_option linter.unusedSimpArgs false
set_option linter.unusedVariables false
def s_spec_l20Point (r1 : Int) (r2 : Int) (n : Int) : SgX := ⟨r1 ≤ 2000 ∧ 0 ≤ r2 ∧ r2 ≤ 900000 ∧ -1000000 ≤ n ∧ n ≤ 1000000, [.int, .int, .int], (fun | [.int x, .int y, .int q] => -10001 ≤ x ∧ x ≤ 10001 ∧ -10000 ≤ y ∧ y ≤ 10000 ∧ (n ≤ 0 → -10000 ≤ x ∧ x ≤ 10000) ∧ r2 ≤ q ∧ q ≤ r2 + 10 | _ => False), (fun | [.int x, .int y, .int q] => [.agg [.int (x), .int (y)]] | _ => []), (fun | [.int x, .int y, .int q] => .box [.rdr r1, .int (q)] | _ => .box [])⟩
def g_spec_l20Point : Bx → List AV → Option SgX
  | .box [.rdr r1, .int r2], [.s (.int n)] => some (s_spec_l20Point r1 r2 n)
  | _, _ => none
def sig_spec_l20Point : FuncId → List AV → Option Sg := sigL []
def xs_spec_l20Point : XS := ⟨xsigL [(71, g_spec_l20Rd_pick), (97, g_spec_l20Rd_odd)], ysigL []⟩
theorem sig_spec_l20Point_ok : SigOK sig_spec_l20Point := sigL_nil
theorem xs_spec_l20Point_ok : XSigOK xs_spec_l20Point := ⟨xsigL_cons F_spec_l20Rd_pick (xsigL_cons F_spec_l20Rd_odd xsigL_nil), ysigL_nil⟩
theorem V_spec_l20Point (r1 : Int) (r2 : Int) (n : Int) : ((true = true) ∧ ((True) ∧ True) ∧ (true = true) ∧ ((True) ∧ True) ∧ (true = true) ∧ ((r1 ≤ 2000 ∧ 0 ≤ r2 ∧ r2 ≤ 1000000)) ∧ (∀ k_1 : Int, ((pickP (41 : Int) k_1) → ((True) ∧ (True) ∧ (true = true) ∧ ((r1 ≤ 2000 ∧ 0 ≤ (r2 + 1) ∧ (r2 + 1) ≤ 1000000)) ∧ (∀ k_2 : Int, ((pickP (41 : Int) k_2) → ((True) ∧ (True) ∧ (True) ∧ (True) ∧ (true = true) ∧ ((True) ∧ True) ∧ (true = true) ∧ ((r1 ≤ 2000 ∧ 0 ≤ ((r2 + 1) + 1) ∧ ((r2 + 1) + 1) ≤ 1000000)) ∧ (∀ k_3 : Int, ((pickP (3 : Int) k_3) → ((True) ∧ ((ieq (k_3) (0 : Int)) = true → ((true = true) ∧ ((True) ∧ True) ∧ (true = true) ∧ ((r1 ≤ 2000 ∧ 0 ≤ (((r2 + 1) + 1) + 1) ∧ (((r2 + 1) + 1) + 1) ≤ 1000000)) ∧ (∀ k_4 : Int, ((pickP (256 : Int) k_4) → ((True) ∧ (True) ∧ (True) ∧ (true = true) ∧ ((r1 ≤ 2000 ∧ 0 ≤ ((((r2 + 1) + 1) + 1) + 1) ∧ ((((r2 + 1) + 1) + 1) + 1) ≤ 1000000)) ∧ (∀ k_5 : Int, ((pickP (256 : Int) k_5) → ((True) ∧ (True) ∧ (True) ∧ (True) ∧ (true = true) ∧ ((True) ∧ (True) ∧ True) ∧ (true = true) ∧ ((r1 ≤ 2000 ∧ 0 ≤ (((((r2 + 1) + 1) + 1) + 1) + 1) ∧ (((((r2 + 1) + 1) + 1) + 1) + 1) ≤ 1000000 ∧ -1000000 ≤ n ∧ n ≤ 1000000)) ∧ (∀ b_6 : Bool, ∀ q_7 : Int, (((n ≤ 0 → b_6 = false) ∧ (((((r2 + 1) + 1) + 1) + 1) + 1) ≤ q_7 ∧ q_7 ≤ (((((r2 + 1) + 1) + 1) + 1) + 1) + 1) → (((b_6) = true → ((true = true) ∧ ((True) ∧ (True) ∧ True) ∧ (true = true) ∧ ((r1 ≤ 2000 ∧ 0 ≤ (q_7) ∧ (q_7) ≤ 1000000)) ∧ (∀ k_8 : Int, ((pickP (3 : Int) k_8) → ((NLe 0 (k_8) ∧ NLt (k_8) (ilen [(10001 : Int), (-10001 : Int), (10000 : Int)])) ∧ (NLt (k_8) (ilen [(10001 : Int), (-10001 : Int), (10000 : Int)])) ∧ (True) ∧ (True) ∧ (true = true) ∧ ((True) ∧ True) ∧ (True) ∧ ∃ x : Int, ∃ y : Int, ∃ q : Int, ((-10001 ≤ x ∧ x ≤ 10001 ∧ -10000 ≤ y ∧ y ≤ 10000 ∧ (n ≤ 0 → -10000 ≤ x ∧ x ≤ 10000) ∧ r2 ≤ q ∧ q ≤ r2 + 10) ∧ (((((geti [(10001 : Int), (-10001 : Int), (10000 : Int)] (k_8)) : Int) = (x)) ∧ (((isub (imul (k_5) (4 : Int)) (500 : Int)) : Int) = (y)) ∧ True) ∧ True) ∧ ((true = true) ∧ (true = true) ∧ ((r1 : Int) = r1) ∧ ((((q_7) + 1) : Int) = (q)) ∧ True))))))) ∧ ((b_6) = false → ((true = true) ∧ ((True) ∧ True) ∧ (True) ∧ ∃ x : Int, ∃ y : Int, ∃ q : Int, ((-10001 ≤ x ∧ x ≤ 10001 ∧ -10000 ≤ y ∧ y ≤ 10000 ∧ (n ≤ 0 → -10000 ≤ x ∧ x ≤ 10000) ∧ r2 ≤ q ∧ q ≤ r2 + 10) ∧ (((((isub (imul (k_4) (4 : Int)) (500 : Int)) : Int) = (x)) ∧ (((isub (imul (k_5) (4 : Int)) (500 : Int)) : Int) = (y)) ∧ True) ∧ True) ∧ ((true = true) ∧ (true = true) ∧ ((r1 : Int) = r1) ∧ (((q_7) : Int) = (q)) ∧ True))))))))))))))) ∧ ((ieq (k_3) (0 : Int)) = false → ((true = true) ∧ ((True) ∧ (True) ∧ True) ∧ (true = true) ∧ ((r1 ≤ 2000 ∧ 0 ≤ (((r2 + 1) + 1) + 1) ∧ (((r2 + 1) + 1) + 1) ≤ 1000000 ∧ -1000000 ≤ n ∧ n ≤ 1000000)) ∧ (∀ b_9 : Bool, ∀ q_10 : Int, (((n ≤ 0 → b_9 = false) ∧ (((r2 + 1) + 1) + 1) ≤ q_10 ∧ q_10 ≤ (((r2 + 1) + 1) + 1) + 1) → (((b_9) = true → ((true = true) ∧ ((True) ∧ (True) ∧ True) ∧ (true = true) ∧ ((r1 ≤ 2000 ∧ 0 ≤ (q_10) ∧ (q_10) ≤ 1000000)) ∧ (∀ k_11 : Int, ((pickP (3 : Int) k_11) → ((NLe 0 (k_11) ∧ NLt (k_11) (ilen [(10001 : Int), (-10001 : Int), (10000 : Int)])) ∧ (NLt (k_11) (ilen [(10001 : Int), (-10001 : Int), (10000 : Int)])) ∧ (True) ∧ (True) ∧ (true = true) ∧ ((True) ∧ True) ∧ (True) ∧ ∃ x : Int, ∃ y : Int, ∃ q : Int, ((-10001 ≤ x ∧ x ≤ 10001 ∧ -10000 ≤ y ∧ y ≤ 10000 ∧ (n ≤ 0 → -10000 ≤ x ∧ x ≤ 10000) ∧ r2 ≤ q ∧ q ≤ r2 + 10) ∧ (((((geti [(10001 : Int), (-10001 : Int), (10000 : Int)] (k_11)) : Int) = (x)) ∧ (((isub (k_2) (20 : Int)) : Int) = (y)) ∧ True) ∧ True) ∧ ((true = true) ∧ (true = true) ∧ ((r1 : Int) = r1) ∧ ((((q_10) + 1) : Int) = (q)) ∧ True))))))) ∧ ((b_9) = false → ((true = true) ∧ ((True) ∧ True) ∧ (True) ∧ ∃ x : Int, ∃ y : Int, ∃ q : Int, ((-10001 ≤ x ∧ x ≤ 10001 ∧ -10000 ≤ y ∧ y ≤ 10000 ∧ (n ≤ 0 → -10000 ≤ x ∧ x ≤ 10000) ∧ r2 ≤ q ∧ q ≤ r2 + 10) ∧ (((((isub (k_1) (20 : Int)) : Int) = (x)) ∧ (((isub (k_2) (20 : Int)) : Int) = (y)) ∧ True) ∧ True) ∧ ((true = true) ∧ (true = true) ∧ ((r1 : Int) = r1) ∧ (((q_10) : Int) = (q)) ∧ True))))))))))))))))))) = (fun sg => ev sig_spec_l20Point xs_spec_l20Point Try.f72.ntmps (fun b => []) (codeOf Try.f72) 0 (initX (.box [.rdr r1, .int r2]) [.s (.int n)]) (retX Try.f72.results.toList sg.kinds sg.post sg.ret sg.out)) (s_spec_l20Point r1 r2 n) := by kernel_rfl
set_option maxHeartbeats 4000000 in
theorem F_spec_l20Point : FunX 72 g_spec_l20Point := by
  refine fun_X (by kernel_rfl) Try.func72 rfl (by kernel_rfl) sig_spec_l20Point_ok xs_spec_l20Point_ok ?_
  intro bx avs sg h hn hl hlb
  unfold g_spec_l20Point at h
  split at h
  · rename_i r1 r2 n
    injection h with h; subst h
    refine ⟨by kernel_rfl, fun b => [], Eq.mp (V_spec_l20Point r1 r2 n) ?_⟩
    simp only [true_and, and_true, implies_true, and_self, forall_const, true_implies, lenA, lenL, SV.lenOK, Cont.lenOK, lenB, s_spec_l20Point] at hn hl hlb ⊢
    try simp only [ilt_t, ilt_f, ile_t, ile_f, ieq_t, ieq_f, bnot_e, band_e, bite_and, bite_or, NLt_e, NLe_e, NNe_e, NIs_e, imax_e, imin_e, irem_e, Bool.not_eq_true', Bool.not_eq_false', Bool.and_eq_true, Bool.or_eq_true, Bool.or_eq_false_iff, Bool.and_eq_false_iff, Cont.pts.injEq, Cont.ints.injEq, Cont.bools.injEq, Cont.ptss.injEq, Cont.intss.injEq, Cont.boolss.injEq, true_and, and_true, implies_true, pickP, iadd_u, isub_u, imul_u, ineg_u, ilen_cons, ilen_nil, geti_cons, geti_nil, exists_and_left, exists_and_right, exists_eq_left, exists_eq_left', exists_eq_right, exists_eq_right'] at hn ⊢
    repeat' (first | (intro _) | (refine ⟨_, _, _, ?_, ⟨rfl, rfl⟩, rfl⟩) | (apply And.intro) | omega | split)
    all_goals (first | (simp_all; done) | (simp_all; omega))
  · cases h
def s_spec_DrawSegmentSquare (n : Int) : SgY := ⟨n ≤ 1048576, [.int, .int, .int, .int, .int, .int], (fun | [.int a, .int b, .int c, .int d, .int e, .int f] => -100000 ≤ a ∧ a ≤ 100000 ∧ -100000 ≤ b ∧ b ≤ 100000 ∧ -100000 ≤ c ∧ c ≤ 100000 ∧ -100000 ≤ d ∧ d ≤ 100000 ∧ -100000 ≤ e ∧ e ≤ 100000 ∧ -100000 ≤ f ∧ f ≤ 100000 | _ => False), (fun | [.int a, .int b, .int c, .int d, .int e, .int f] => [.agg [.int (a), .int (b)], .agg [.int (c), .int (d)], .agg [.int (e), .int (f)]] | _ => [])⟩
def g_spec_DrawSegmentSquare : List AV → Option SgY
  | [.s (.rdr n)] => some (s_spec_DrawSegmentSquare n)
  | _ => none
def sig_spec_DrawSegmentSquare : FuncId → List AV → Option Sg := sigL [(70, g_spec_l20Open)]
def xs_spec_DrawSegmentSquare : XS := ⟨xsigL [(72, g_spec_l20Point), (97, g_spec_l20Rd_odd)], ysigL []⟩
theorem sig_spec_DrawSegmentSquare_ok : SigOK sig_spec_DrawSegmentSquare := sigL_cons F_spec_l20Open sigL_nil
theorem xs_spec_DrawSegmentSquare_ok : XSigOK xs_spec_DrawSegmentSquare := ⟨xsigL_cons F_spec_l20Point (xsigL_cons F_spec_l20Rd_odd xsigL_nil), ysigL_nil⟩
theorem V_spec_DrawSegmentSquare (n : Int) : ((true = true) ∧ ((True) ∧ (True) ∧ (True) ∧ True) ∧ (true = true) ∧ ((True) ∧ ((n ≤ 1048576)) ∧ (True) ∧ True) ∧ (true = true) ∧ ((True) ∧ True) ∧ (true = true) ∧ (((if n ≤ 2000 then n else 2000) ≤ 2000 ∧ 0 ≤ ((0 : Int)) ∧ ((0 : Int)) ≤ 900000 ∧ -1000000 ≤ (20 : Int) ∧ (20 : Int) ≤ 1000000)) ∧ (∀ x_12 : Int, ∀ y_13 : Int, ∀ q_14 : Int, ((-10001 ≤ x_12 ∧ x_12 ≤ 10001 ∧ -10000 ≤ y_13 ∧ y_13 ≤ 10000 ∧ ((20 : Int) ≤ 0 → -10000 ≤ x_12 ∧ x_12 ≤ 10000) ∧ ((0 : Int)) ≤ q_14 ∧ q_14 ≤ ((0 : Int)) + 10) → ((True) ∧ (True) ∧ (true = true) ∧ ((True) ∧ True) ∧ (true = true) ∧ (((if n ≤ 2000 then n else 2000) ≤ 2000 ∧ 0 ≤ (q_14) ∧ (q_14) ≤ 900000 ∧ -1000000 ≤ (20 : Int) ∧ (20 : Int) ≤ 1000000)) ∧ (∀ x_15 : Int, ∀ y_16 : Int, ∀ q_17 : Int, ((-10001 ≤ x_15 ∧ x_15 ≤ 10001 ∧ -10000 ≤ y_16 ∧ y_16 ≤ 10000 ∧ ((20 : Int) ≤ 0 → -10000 ≤ x_15 ∧ x_15 ≤ 10000) ∧ (q_14) ≤ q_17 ∧ q_17 ≤ (q_14) + 10) → ((True) ∧ (True) ∧ (true = true) ∧ ((True) ∧ True) ∧ (true = true) ∧ (((if n ≤ 2000 then n else 2000) ≤ 2000 ∧ 0 ≤ (q_17) ∧ (q_17) ≤ 900000 ∧ -1000000 ≤ (20 : Int) ∧ (20 : Int) ≤ 1000000)) ∧ (∀ x_18 : Int, ∀ y_19 : Int, ∀ q_20 : Int, ((-10001 ≤ x_18 ∧ x_18 ≤ 10001 ∧ -10000 ≤ y_19 ∧ y_19 ≤ 10000 ∧ ((20 : Int) ≤ 0 → -10000 ≤ x_18 ∧ x_18 ≤ 10000) ∧ (q_17) ≤ q_20 ∧ q_20 ≤ (q_17) + 10) → ((True) ∧ (True) ∧ (true = true) ∧ ((True) ∧ True) ∧ (true = true) ∧ (((if n ≤ 2000 then n else 2000) ≤ 2000 ∧ 0 ≤ (q_20) ∧ (q_20) ≤ 1000000 ∧ -1000000 ≤ (6 : Int) ∧ (6 : Int) ≤ 1000000)) ∧ (∀ b_21 : Bool, ∀ q_22 : Int, ((((6 : Int) ≤ 0 → b_21 = false) ∧ (q_20) ≤ q_22 ∧ q_22 ≤ (q_20) + 1) → (((b_21) = true → ((true = true) ∧ ((True) ∧ True) ∧ (True) ∧ (true = true) ∧ (((true = true) ∧ ((True) ∧ (((true = true) ∧ ((True) ∧ (((true = true) ∧ ((True) ∧ (((true = true) ∧ ((True) ∧ (((true = true) ∧ ((True) ∧ (((true = true) ∧ ((True) ∧ (∃ a : Int, ∃ b : Int, ∃ c : Int, ∃ d : Int, ∃ e : Int, ∃ f : Int, ((-100000 ≤ a ∧ a ≤ 100000 ∧ -100000 ≤ b ∧ b ≤ 100000 ∧ -100000 ≤ c ∧ c ≤ 100000 ∧ -100000 ≤ d ∧ d ≤ 100000 ∧ -100000 ≤ e ∧ e ≤ 100000 ∧ -100000 ≤ f ∧ f ≤ 100000) ∧ (((((x_12) : Int) = (a)) ∧ (((y_13) : Int) = (b)) ∧ True) ∧ ((((x_15) : Int) = (c)) ∧ (((y_16) : Int) = (d)) ∧ True) ∧ ((((x_15) : Int) = (e)) ∧ (((y_16) : Int) = (f)) ∧ True) ∧ True))))) ∧ True))) ∧ True))) ∧ True))) ∧ ((true = true) ∧ ((True) ∧ (((true = true) ∧ ((True) ∧ (((true = true) ∧ ((True) ∧ (((true = true) ∧ ((True) ∧ (∃ a : Int, ∃ b : Int, ∃ c : Int, ∃ d : Int, ∃ e : Int, ∃ f : Int, ((-100000 ≤ a ∧ a ≤ 100000 ∧ -100000 ≤ b ∧ b ≤ 100000 ∧ -100000 ≤ c ∧ c ≤ 100000 ∧ -100000 ≤ d ∧ d ≤ 100000 ∧ -100000 ≤ e ∧ e ≤ 100000 ∧ -100000 ≤ f ∧ f ≤ 100000) ∧ (((((x_12) : Int) = (a)) ∧ (((y_13) : Int) = (b)) ∧ True) ∧ ((((x_15) : Int) = (c)) ∧ (((y_16) : Int) = (d)) ∧ True) ∧ ((((x_15) : Int) = (e)) ∧ (((y_16) : Int) = (f)) ∧ True) ∧ True))))) ∧ True))) ∧ True))) ∧ ((true = true) ∧ ((True) ∧ (((true = true) ∧ ((True) ∧ (((true = true) ∧ ((True) ∧ (∃ a : Int, ∃ b : Int, ∃ c : Int, ∃ d : Int, ∃ e : Int, ∃ f : Int, ((-100000 ≤ a ∧ a ≤ 100000 ∧ -100000 ≤ b ∧ b ≤ 100000 ∧ -100000 ≤ c ∧ c ≤ 100000 ∧ -100000 ≤ d ∧ d ≤ 100000 ∧ -100000 ≤ e ∧ e ≤ 100000 ∧ -100000 ≤ f ∧ f ≤ 100000) ∧ (((((x_12) : Int) = (a)) ∧ (((y_13) : Int) = (b)) ∧ True) ∧ ((((x_15) : Int) = (c)) ∧ (((y_16) : Int) = (d)) ∧ True) ∧ ((((x_15) : Int) = (e)) ∧ (((y_16) : Int) = (f)) ∧ True) ∧ True))))) ∧ True))) ∧ True))) ∧ True))) ∧ True))) ∧ ((true = true) ∧ ((True) ∧ (((true = true) ∧ ((True) ∧ (((true = true) ∧ ((True) ∧ (((true = true) ∧ ((True) ∧ (((true = true) ∧ ((True) ∧ (∃ a : Int, ∃ b : Int, ∃ c : Int, ∃ d : Int, ∃ e : Int, ∃ f : Int, ((-100000 ≤ a ∧ a ≤ 100000 ∧ -100000 ≤ b ∧ b ≤ 100000 ∧ -100000 ≤ c ∧ c ≤ 100000 ∧ -100000 ≤ d ∧ d ≤ 100000 ∧ -100000 ≤ e ∧ e ≤ 100000 ∧ -100000 ≤ f ∧ f ≤ 100000) ∧ (((((x_12) : Int) = (a)) ∧ (((y_13) : Int) = (b)) ∧ True) ∧ ((((x_15) : Int) = (c)) ∧ (((y_16) : Int) = (d)) ∧ True) ∧ ((((x_15) : Int) = (e)) ∧ (((y_16) : Int) = (f)) ∧ True) ∧ True))))) ∧ True))) ∧ True))) ∧ True))) ∧ ((true = true) ∧ ((True) ∧ (((true = true) ∧ ((True) ∧ (((true = true) ∧ ((True) ∧ (((true = true) ∧ ((True) ∧ (∃ a : Int, ∃ b : Int, ∃ c : Int, ∃ d : Int, ∃ e : Int, ∃ f : Int, ((-100000 ≤ a ∧ a ≤ 100000 ∧ -100000 ≤ b ∧ b ≤ 100000 ∧ -100000 ≤ c ∧ c ≤ 100000 ∧ -100000 ≤ d ∧ d ≤ 100000 ∧ -100000 ≤ e ∧ e ≤ 100000 ∧ -100000 ≤ f ∧ f ≤ 100000) ∧ (((((x_12) : Int) = (a)) ∧ (((y_13) : Int) = (b)) ∧ True) ∧ ((((x_15) : Int) = (c)) ∧ (((y_16) : Int) = (d)) ∧ True) ∧ ((((x_15) : Int) = (e)) ∧ (((y_16) : Int) = (f)) ∧ True) ∧ True))))) ∧ True))) ∧ True))) ∧ True))) ∧ True))) ∧ ((true = true) ∧ ((True) ∧ (((true = true) ∧ ((True) ∧ (((true = true) ∧ ((True) ∧ (((true = true) ∧ ((True) ∧ (((true = true) ∧ ((True) ∧ (∃ a : Int, ∃ b : Int, ∃ c : Int, ∃ d : Int, ∃ e : Int, ∃ f : Int, ((-100000 ≤ a ∧ a ≤ 100000 ∧ -100000 ≤ b ∧ b ≤ 100000 ∧ -100000 ≤ c ∧ c ≤ 100000 ∧ -100000 ≤ d ∧ d ≤ 100000 ∧ -100000 ≤ e ∧ e ≤ 100000 ∧ -100000 ≤ f ∧ f ≤ 100000) ∧ (((((x_12) : Int) = (a)) ∧ (((y_13) : Int) = (b)) ∧ True) ∧ ((((x_15) : Int) = (c)) ∧ (((y_16) : Int) = (d)) ∧ True) ∧ ((((x_15) : Int) = (e)) ∧ (((y_16) : Int) = (f)) ∧ True) ∧ True))))) ∧ True))) ∧ True))) ∧ ((true = true) ∧ ((True) ∧ (((true = true) ∧ ((True) ∧ (((true = true) ∧ ((True) ∧ (∃ a : Int, ∃ b : Int, ∃ c : Int, ∃ d : Int, ∃ e : Int, ∃ f : Int, ((-100000 ≤ a ∧ a ≤ 100000 ∧ -100000 ≤ b ∧ b ≤ 100000 ∧ -100000 ≤ c ∧ c ≤ 100000 ∧ -100000 ≤ d ∧ d ≤ 100000 ∧ -100000 ≤ e ∧ e ≤ 100000 ∧ -100000 ≤ f ∧ f ≤ 100000) ∧ (((((x_12) : Int) = (a)) ∧ (((y_13) : Int) = (b)) ∧ True) ∧ ((((x_15) : Int) = (c)) ∧ (((y_16) : Int) = (d)) ∧ True) ∧ ((((x_15) : Int) = (e)) ∧ (((y_16) : Int) = (f)) ∧ True) ∧ True))))) ∧ True))) ∧ True))) ∧ True))) ∧ ((true = true) ∧ ((True) ∧ (((true = true) ∧ ((True) ∧ (((true = true) ∧ ((True) ∧ (((true = true) ∧ ((True) ∧ (∃ a : Int, ∃ b : Int, ∃ c : Int, ∃ d : Int, ∃ e : Int, ∃ f : Int, ((-100000 ≤ a ∧ a ≤ 100000 ∧ -100000 ≤ b ∧ b ≤ 100000 ∧ -100000 ≤ c ∧ c ≤ 100000 ∧ -100000 ≤ d ∧ d ≤ 100000 ∧ -100000 ≤ e ∧ e ≤ 100000 ∧ -100000 ≤ f ∧ f ≤ 100000) ∧ (((((x_12) : Int) = (a)) ∧ (((y_13) : Int) = (b)) ∧ True) ∧ ((((x_15) : Int) = (c)) ∧ (((y_16) : Int) = (d)) ∧ True) ∧ ((((x_15) : Int) = (e)) ∧ (((y_16) : Int) = (f)) ∧ True) ∧ True))))) ∧ True))) ∧ True))) ∧ True))) ∧ True))) ∧ True))) ∧ ((true = true) ∧ ((True) ∧ (((true = true) ∧ ((True) ∧ (((true = true) ∧ ((True) ∧ (((true = true) ∧ ((True) ∧ (((true = true) ∧ ((True) ∧ (((true = true) ∧ ((True) ∧ (∃ a : Int, ∃ b : Int, ∃ c : Int, ∃ d : Int, ∃ e : Int, ∃ f : Int, ((-100000 ≤ a ∧ a ≤ 100000 ∧ -100000 ≤ b ∧ b ≤ 100000 ∧ -100000 ≤ c ∧ c ≤ 100000 ∧ -100000 ≤ d ∧ d ≤ 100000 ∧ -100000 ≤ e ∧ e ≤ 100000 ∧ -100000 ≤ f ∧ f ≤ 100000) ∧ (((((x_12) : Int) = (a)) ∧ (((y_13) : Int) = (b)) ∧ True) ∧ ((((x_15) : Int) = (c)) ∧ (((y_16) : Int) = (d)) ∧ True) ∧ ((((x_15) : Int) = (e)) ∧ (((y_16) : Int) = (f)) ∧ True) ∧ True))))) ∧ True))) ∧ True))) ∧ True))) ∧ ((true = true) ∧ ((True) ∧ (((true = true) ∧ ((True) ∧ (((true = true) ∧ ((True) ∧ (((true = true) ∧ ((True) ∧ (∃ a : Int, ∃ b : Int, ∃ c : Int, ∃ d : Int, ∃ e : Int, ∃ f : Int, ((-100000 ≤ a ∧ a ≤ 100000 ∧ -100000 ≤ b ∧ b ≤ 100000 ∧ -100000 ≤ c ∧ c ≤ 100000 ∧ -100000 ≤ d ∧ d ≤ 100000 ∧ -100000 ≤ e ∧ e ≤ 100000 ∧ -100000 ≤ f ∧ f ≤ 100000) ∧ (((((x_12) : Int) = (a)) ∧ (((y_13) : Int) = (b)) ∧ True) ∧ ((((x_15) : Int) = (c)) ∧ (((y_16) : Int) = (d)) ∧ True) ∧ ((((x_15) : Int) = (e)) ∧ (((y_16) : Int) = (f)) ∧ True) ∧ True))))) ∧ True))) ∧ True))) ∧ ((true = true) ∧ ((True) ∧ (((true = true) ∧ ((True) ∧ (((true = true) ∧ ((True) ∧ (∃ a : Int, ∃ b : Int, ∃ c : Int, ∃ d : Int, ∃ e : Int, ∃ f : Int, ((-100000 ≤ a ∧ a ≤ 100000 ∧ -100000 ≤ b ∧ b ≤ 100000 ∧ -100000 ≤ c ∧ c ≤ 100000 ∧ -100000 ≤ d ∧ d ≤ 100000 ∧ -100000 ≤ e ∧ e ≤ 100000 ∧ -100000 ≤ f ∧ f ≤ 100000) ∧ (((((x_12) : Int) = (a)) ∧ (((y_13) : Int) = (b)) ∧ True) ∧ ((((x_15) : Int) = (c)) ∧ (((y_16) : Int) = (d)) ∧ True) ∧ ((((x_15) : Int) = (e)) ∧ (((y_16) : Int) = (f)) ∧ True) ∧ True))))) ∧ True))) ∧ True))) ∧ True))) ∧ True))) ∧ ((true = true) ∧ ((True) ∧ (((true = true) ∧ ((True) ∧ (((true = true) ∧ ((True) ∧ (((true = true) ∧ ((True) ∧ (((true = true) ∧ ((True) ∧ (∃ a : Int, ∃ b : Int, ∃ c : Int, ∃ d : Int, ∃ e : Int, ∃ f : Int, ((-100000 ≤ a ∧ a ≤ 100000 ∧ -100000 ≤ b ∧ b ≤ 100000 ∧ -100000 ≤ c ∧ c ≤ 100000 ∧ -100000 ≤ d ∧ d ≤ 100000 ∧ -100000 ≤ e ∧ e ≤ 100000 ∧ -100000 ≤ f ∧ f ≤ 100000) ∧ (((((x_12) : Int) = (a)) ∧ (((y_13) : Int) = (b)) ∧ True) ∧ ((((x_15) : Int) = (c)) ∧ (((y_16) : Int) = (d)) ∧ True) ∧ ((((x_15) : Int) = (e)) ∧ (((y_16) : Int) = (f)) ∧ True) ∧ True))))) ∧ True))) ∧ True))) ∧ True))) ∧ True))) ∧ True))) ∧ ((true = true) ∧ ((True) ∧ (((true = true) ∧ ((True) ∧ (((true = true) ∧ ((True) ∧ (((true = true) ∧ ((True) ∧ (((true = true) ∧ ((True) ∧ (((true = true) ∧ ((True) ∧ (∃ a : Int, ∃ b : Int, ∃ c : Int, ∃ d : Int, ∃ e : Int, ∃ f : Int, ((-100000 ≤ a ∧ a ≤ 100000 ∧ -100000 ≤ b ∧ b ≤ 100000 ∧ -100000 ≤ c ∧ c ≤ 100000 ∧ -100000 ≤ d ∧ d ≤ 100000 ∧ -100000 ≤ e ∧ e ≤ 100000 ∧ -100000 ≤ f ∧ f ≤ 100000) ∧ (((((x_12) : Int) = (a)) ∧ (((y_13) : Int) = (b)) ∧ True) ∧ ((((x_15) : Int) = (c)) ∧ (((y_16) : Int) = (d)) ∧ True) ∧ ((((x_15) : Int) = (e)) ∧ (((y_16) : Int) = (f)) ∧ True) ∧ True))))) ∧ True))) ∧ True))) ∧ True))) ∧ ((true = true) ∧ ((True) ∧ (((true = true) ∧ ((True) ∧ (((true = true) ∧ ((True) ∧ (((true = true) ∧ ((True) ∧ (∃ a : Int, ∃ b : Int, ∃ c : Int, ∃ d : Int, ∃ e : Int, ∃ f : Int, ((-100000 ≤ a ∧ a ≤ 100000 ∧ -100000 ≤ b ∧ b ≤ 100000 ∧ -100000 ≤ c ∧ c ≤ 100000 ∧ -100000 ≤ d ∧ d ≤ 100000 ∧ -100000 ≤ e ∧ e ≤ 100000 ∧ -100000 ≤ f ∧ f ≤ 100000) ∧ (((((x_12) : Int) = (a)) ∧ (((y_13) : Int) = (b)) ∧ True) ∧ ((((x_15) : Int) = (c)) ∧ (((y_16) : Int) = (d)) ∧ True) ∧ ((((x_15) : Int) = (e)) ∧ (((y_16) : Int) = (f)) ∧ True) ∧ True))))) ∧ True))) ∧ True))) ∧ True))) ∧ True))) ∧ ((true = true) ∧ ((True) ∧ (((true = true) ∧ ((True) ∧ (((true = true) ∧ ((True) ∧ (((true = true) ∧ ((True) ∧ (((true = true) ∧ ((True) ∧ (∃ a : Int, ∃ b : Int, ∃ c : Int, ∃ d : Int, ∃ e : Int, ∃ f : Int, ((-100000 ≤ a ∧ a ≤ 100000 ∧ -100000 ≤ b ∧ b ≤ 100000 ∧ -100000 ≤ c ∧ c ≤ 100000 ∧ -100000 ≤ d ∧ d ≤ 100000 ∧ -100000 ≤ e ∧ e ≤ 100000 ∧ -100000 ≤ f ∧ f ≤ 100000) ∧ (((((x_12) : Int) = (a)) ∧ (((y_13) : Int) = (b)) ∧ True) ∧ ((((x_15) : Int) = (c)) ∧ (((y_16) : Int) = (d)) ∧ True) ∧ ((((x_15) : Int) = (e)) ∧ (((y_16) : Int) = (f)) ∧ True) ∧ True))))) ∧ True))) ∧ True))) ∧ True))) ∧ True))) ∧ True))) ∧ True))) ∧ ((b_21) = false → ((true = true) ∧ (((true = true) ∧ ((True) ∧ (((true = true) ∧ ((True) ∧ (((true = true) ∧ ((True) ∧ (((true = true) ∧ ((True) ∧ (((true = true) ∧ ((True) ∧ (((true = true) ∧ ((True) ∧ (∃ a : Int, ∃ b : Int, ∃ c : Int, ∃ d : Int, ∃ e : Int, ∃ f : Int, ((-100000 ≤ a ∧ a ≤ 100000 ∧ -100000 ≤ b ∧ b ≤ 100000 ∧ -100000 ≤ c ∧ c ≤ 100000 ∧ -100000 ≤ d ∧ d ≤ 100000 ∧ -100000 ≤ e ∧ e ≤ 100000 ∧ -100000 ≤ f ∧ f ≤ 100000) ∧ (((((x_12) : Int) = (a)) ∧ (((y_13) : Int) = (b)) ∧ True) ∧ ((((x_15) : Int) = (c)) ∧ (((y_16) : Int) = (d)) ∧ True) ∧ ((((x_18) : Int) = (e)) ∧ (((y_19) : Int) = (f)) ∧ True) ∧ True))))) ∧ True))) ∧ True))) ∧ True))) ∧ ((true = true) ∧ ((True) ∧ (((true = true) ∧ ((True) ∧ (((true = true) ∧ ((True) ∧ (((true = true) ∧ ((True) ∧ (∃ a : Int, ∃ b : Int, ∃ c : Int, ∃ d : Int, ∃ e : Int, ∃ f : Int, ((-100000 ≤ a ∧ a ≤ 100000 ∧ -100000 ≤ b ∧ b ≤ 100000 ∧ -100000 ≤ c ∧ c ≤ 100000 ∧ -100000 ≤ d ∧ d ≤ 100000 ∧ -100000 ≤ e ∧ e ≤ 100000 ∧ -100000 ≤ f ∧ f ≤ 100000) ∧ (((((x_12) : Int) = (a)) ∧ (((y_13) : Int) = (b)) ∧ True) ∧ ((((x_15) : Int) = (c)) ∧ (((y_16) : Int) = (d)) ∧ True) ∧ ((((x_18) : Int) = (e)) ∧ (((y_19) : Int) = (f)) ∧ True) ∧ True))))) ∧ True))) ∧ True))) ∧ ((true = true) ∧ ((True) ∧ (((true = true) ∧ ((True) ∧ (((true = true) ∧ ((True) ∧ (∃ a : Int, ∃ b : Int, ∃ c : Int, ∃ d : Int, ∃ e : Int, ∃ f : Int, ((-100000 ≤ a ∧ a ≤ 100000 ∧ -100000 ≤ b ∧ b ≤ 100000 ∧ -100000 ≤ c ∧ c ≤ 100000 ∧ -100000 ≤ d ∧ d ≤ 100000 ∧ -100000 ≤ e ∧ e ≤ 100000 ∧ -100000 ≤ f ∧ f ≤ 100000) ∧ (((((x_12) : Int) = (a)) ∧ (((y_13) : Int) = (b)) ∧ True) ∧ ((((x_15) : Int) = (c)) ∧ (((y_16) : Int) = (d)) ∧ True) ∧ ((((x_18) : Int) = (e)) ∧ (((y_19) : Int) = (f)) ∧ True) ∧ True))))) ∧ True))) ∧ True))) ∧ True))) ∧ True))) ∧ ((true = true) ∧ ((True) ∧ (((true = true) ∧ ((True) ∧ (((true = true) ∧ ((True) ∧ (((true = true) ∧ ((True) ∧ (((true = true) ∧ ((True) ∧ (∃ a : Int, ∃ b : Int, ∃ c : Int, ∃ d : Int, ∃ e : Int, ∃ f : Int, ((-100000 ≤ a ∧ a ≤ 100000 ∧ -100000 ≤ b ∧ b ≤ 100000 ∧ -100000 ≤ c ∧ c ≤ 100000 ∧ -100000 ≤ d ∧ d ≤ 100000 ∧ -100000 ≤ e ∧ e ≤ 100000 ∧ -100000 ≤ f ∧ f ≤ 100000) ∧ (((((x_12) : Int) = (a)) ∧ (((y_13) : Int) = (b)) ∧ True) ∧ ((((x_15) : Int) = (c)) ∧ (((y_16) : Int) = (d)) ∧ True) ∧ ((((x_18) : Int) = (e)) ∧ (((y_19) : Int) = (f)) ∧ True) ∧ True))))) ∧ True))) ∧ True))) ∧ True))) ∧ ((true = true) ∧ ((True) ∧ (((true = true) ∧ ((True) ∧ (((true = true) ∧ ((True) ∧ (((true = true) ∧ ((True) ∧ (∃ a : Int, ∃ b : Int, ∃ c : Int, ∃ d : Int, ∃ e : Int, ∃ f : Int, ((-100000 ≤ a ∧ a ≤ 100000 ∧ -100000 ≤ b ∧ b ≤ 100000 ∧ -100000 ≤ c ∧ c ≤ 100000 ∧ -100000 ≤ d ∧ d ≤ 100000 ∧ -100000 ≤ e ∧ e ≤ 100000 ∧ -100000 ≤ f ∧ f ≤ 100000) ∧ (((((x_12) : Int) = (a)) ∧ (((y_13) : Int) = (b)) ∧ True) ∧ ((((x_15) : Int) = (c)) ∧ (((y_16) : Int) = (d)) ∧ True) ∧ ((((x_18) : Int) = (e)) ∧ (((y_19) : Int) = (f)) ∧ True) ∧ True))))) ∧ True))) ∧ True))) ∧ True))) ∧ True))) ∧ ((true = true) ∧ ((True) ∧ (((true = true) ∧ ((True) ∧ (((true = true) ∧ ((True) ∧ (((true = true) ∧ ((True) ∧ (((true = true) ∧ ((True) ∧ (∃ a : Int, ∃ b : Int, ∃ c : Int, ∃ d : Int, ∃ e : Int, ∃ f : Int, ((-100000 ≤ a ∧ a ≤ 100000 ∧ -100000 ≤ b ∧ b ≤ 100000 ∧ -100000 ≤ c ∧ c ≤ 100000 ∧ -100000 ≤ d ∧ d ≤ 100000 ∧ -100000 ≤ e ∧ e ≤ 100000 ∧ -100000 ≤ f ∧ f ≤ 100000) ∧ (((((x_12) : Int) = (a)) ∧ (((y_13) : Int) = (b)) ∧ True) ∧ ((((x_15) : Int) = (c)) ∧ (((y_16) : Int) = (d)) ∧ True) ∧ ((((x_18) : Int) = (e)) ∧ (((y_19) : Int) = (f)) ∧ True) ∧ True))))) ∧ True))) ∧ True))) ∧ ((true = true) ∧ ((True) ∧ (((true = true) ∧ ((True) ∧ (((true = true) ∧ ((True) ∧ (∃ a : Int, ∃ b : Int, ∃ c : Int, ∃ d : Int, ∃ e : Int, ∃ f : Int, ((-100000 ≤ a ∧ a ≤ 100000 ∧ -100000 ≤ b ∧ b ≤ 100000 ∧ -100000 ≤ c ∧ c ≤ 100000 ∧ -100000 ≤ d ∧ d ≤ 100000 ∧ -100000 ≤ e ∧ e ≤ 100000 ∧ -100000 ≤ f ∧ f ≤ 100000) ∧ (((((x_12) : Int) = (a)) ∧ (((y_13) : Int) = (b)) ∧ True) ∧ ((((x_15) : Int) = (c)) ∧ (((y_16) : Int) = (d)) ∧ True) ∧ ((((x_18) : Int) = (e)) ∧ (((y_19) : Int) = (f)) ∧ True) ∧ True))))) ∧ True))) ∧ True))) ∧ True))) ∧ ((true = true) ∧ ((True) ∧ (((true = true) ∧ ((True) ∧ (((true = true) ∧ ((True) ∧ (((true = true) ∧ ((True) ∧ (∃ a : Int, ∃ b : Int, ∃ c : Int, ∃ d : Int, ∃ e : Int, ∃ f : Int, ((-100000 ≤ a ∧ a ≤ 100000 ∧ -100000 ≤ b ∧ b ≤ 100000 ∧ -100000 ≤ c ∧ c ≤ 100000 ∧ -100000 ≤ d ∧ d ≤ 100000 ∧ -100000 ≤ e ∧ e ≤ 100000 ∧ -100000 ≤ f ∧ f ≤ 100000) ∧ (((((x_12) : Int) = (a)) ∧ (((y_13) : Int) = (b)) ∧ True) ∧ ((((x_15) : Int) = (c)) ∧ (((y_16) : Int) = (d)) ∧ True) ∧ ((((x_18) : Int) = (e)) ∧ (((y_19) : Int) = (f)) ∧ True) ∧ True))))) ∧ True))) ∧ True))) ∧ True))) ∧ True))) ∧ True))) ∧ ((true = true) ∧ ((True) ∧ (((true = true) ∧ ((True) ∧ (((true = true) ∧ ((True) ∧ (((true = true) ∧ ((True) ∧ (((true = true) ∧ ((True) ∧ (((true = true) ∧ ((True) ∧ (∃ a : Int, ∃ b : Int, ∃ c : Int, ∃ d : Int, ∃ e : Int, ∃ f : Int, ((-100000 ≤ a ∧ a ≤ 100000 ∧ -100000 ≤ b ∧ b ≤ 100000 ∧ -100000 ≤ c ∧ c ≤ 100000 ∧ -100000 ≤ d ∧ d ≤ 100000 ∧ -100000 ≤ e ∧ e ≤ 100000 ∧ -100000 ≤ f ∧ f ≤ 100000) ∧ (((((x_12) : Int) = (a)) ∧ (((y_13) : Int) = (b)) ∧ True) ∧ ((((x_15) : Int) = (c)) ∧ (((y_16) : Int) = (d)) ∧ True) ∧ ((((x_18) : Int) = (e)) ∧ (((y_19) : Int) = (f)) ∧ True) ∧ True))))) ∧ True))) ∧ True))) ∧ True))) ∧ ((true = true) ∧ ((True) ∧ (((true = true) ∧ ((True) ∧ (((true = true) ∧ ((True) ∧ (((true = true) ∧ ((True) ∧ (∃ a : Int, ∃ b : Int, ∃ c : Int, ∃ d : Int, ∃ e : Int, ∃ f : Int, ((-100000 ≤ a ∧ a ≤ 100000 ∧ -100000 ≤ b ∧ b ≤ 100000 ∧ -100000 ≤ c ∧ c ≤ 100000 ∧ -100000 ≤ d ∧ d ≤ 100000 ∧ -100000 ≤ e ∧ e ≤ 100000 ∧ -100000 ≤ f ∧ f ≤ 100000) ∧ (((((x_12) : Int) = (a)) ∧ (((y_13) : Int) = (b)) ∧ True) ∧ ((((x_15) : Int) = (c)) ∧ (((y_16) : Int) = (d)) ∧ True) ∧ ((((x_18) : Int) = (e)) ∧ (((y_19) : Int) = (f)) ∧ True) ∧ True))))) ∧ True))) ∧ True))) ∧ ((true = true) ∧ ((True) ∧ (((true = true) ∧ ((True) ∧ (((true = true) ∧ ((True) ∧ (∃ a : Int, ∃ b : Int, ∃ c : Int, ∃ d : Int, ∃ e : Int, ∃ f : Int, ((-100000 ≤ a ∧ a ≤ 100000 ∧ -100000 ≤ b ∧ b ≤ 100000 ∧ -100000 ≤ c ∧ c ≤ 100000 ∧ -100000 ≤ d ∧ d ≤ 100000 ∧ -100000 ≤ e ∧ e ≤ 100000 ∧ -100000 ≤ f ∧ f ≤ 100000) ∧ (((((x_12) : Int) = (a)) ∧ (((y_13) : Int) = (b)) ∧ True) ∧ ((((x_15) : Int) = (c)) ∧ (((y_16) : Int) = (d)) ∧ True) ∧ ((((x_18) : Int) = (e)) ∧ (((y_19) : Int) = (f)) ∧ True) ∧ True))))) ∧ True))) ∧ True))) ∧ True))) ∧ True))) ∧ ((true = true) ∧ ((True) ∧ (((true = true) ∧ ((True) ∧ (((true = true) ∧ ((True) ∧ (((true = true) ∧ ((True) ∧ (((true = true) ∧ ((True) ∧ (∃ a : Int, ∃ b : Int, ∃ c : Int, ∃ d : Int, ∃ e : Int, ∃ f : Int, ((-100000 ≤ a ∧ a ≤ 100000 ∧ -100000 ≤ b ∧ b ≤ 100000 ∧ -100000 ≤ c ∧ c ≤ 100000 ∧ -100000 ≤ d ∧ d ≤ 100000 ∧ -100000 ≤ e ∧ e ≤ 100000 ∧ -100000 ≤ f ∧ f ≤ 100000) ∧ (((((x_12) : Int) = (a)) ∧ (((y_13) : Int) = (b)) ∧ True) ∧ ((((x_15) : Int) = (c)) ∧ (((y_16) : Int) = (d)) ∧ True) ∧ ((((x_18) : Int) = (e)) ∧ (((y_19) : Int) = (f)) ∧ True) ∧ True))))) ∧ True))) ∧ True))) ∧ True))) ∧ True))) ∧ True))) ∧ ((true = true) ∧ ((True) ∧ (((true = true) ∧ ((True) ∧ (((true = true) ∧ ((True) ∧ (((true = true) ∧ ((True) ∧ (((true = true) ∧ ((True) ∧ (((true = true) ∧ ((True) ∧ (∃ a : Int, ∃ b : Int, ∃ c : Int, ∃ d : Int, ∃ e : Int, ∃ f : Int, ((-100000 ≤ a ∧ a ≤ 100000 ∧ -100000 ≤ b ∧ b ≤ 100000 ∧ -100000 ≤ c ∧ c ≤ 100000 ∧ -100000 ≤ d ∧ d ≤ 100000 ∧ -100000 ≤ e ∧ e ≤ 100000 ∧ -100000 ≤ f ∧ f ≤ 100000) ∧ (((((x_12) : Int) = (a)) ∧ (((y_13) : Int) = (b)) ∧ True) ∧ ((((x_15) : Int) = (c)) ∧ (((y_16) : Int) = (d)) ∧ True) ∧ ((((x_18) : Int) = (e)) ∧ (((y_19) : Int) = (f)) ∧ True) ∧ True))))) ∧ True))) ∧ True))) ∧ True))) ∧ ((true = true) ∧ ((True) ∧ (((true = true) ∧ ((True) ∧ (((true = true) ∧ ((True) ∧ (((true = true) ∧ ((True) ∧ (∃ a : Int, ∃ b : Int, ∃ c : Int, ∃ d : Int, ∃ e : Int, ∃ f : Int, ((-100000 ≤ a ∧ a ≤ 100000 ∧ -100000 ≤ b ∧ b ≤ 100000 ∧ -100000 ≤ c ∧ c ≤ 100000 ∧ -100000 ≤ d ∧ d ≤ 100000 ∧ -100000 ≤ e ∧ e ≤ 100000 ∧ -100000 ≤ f ∧ f ≤ 100000) ∧ (((((x_12) : Int) = (a)) ∧ (((y_13) : Int) = (b)) ∧ True) ∧ ((((x_15) : Int) = (c)) ∧ (((y_16) : Int) = (d)) ∧ True) ∧ ((((x_18) : Int) = (e)) ∧ (((y_19) : Int) = (f)) ∧ True) ∧ True))))) ∧ True))) ∧ True))) ∧ True))) ∧ True))) ∧ ((true = true) ∧ ((True) ∧ (((true = true) ∧ ((True) ∧ (((true = true) ∧ ((True) ∧ (((true = true) ∧ ((True) ∧ (((true = true) ∧ ((True) ∧ (∃ a : Int, ∃ b : Int, ∃ c : Int, ∃ d : Int, ∃ e : Int, ∃ f : Int, ((-100000 ≤ a ∧ a ≤ 100000 ∧ -100000 ≤ b ∧ b ≤ 100000 ∧ -100000 ≤ c ∧ c ≤ 100000 ∧ -100000 ≤ d ∧ d ≤ 100000 ∧ -100000 ≤ e ∧ e ≤ 100000 ∧ -100000 ≤ f ∧ f ≤ 100000) ∧ (((((x_12) : Int) = (a)) ∧ (((y_13) : Int) = (b)) ∧ True) ∧ ((((x_15) : Int) = (c)) ∧ (((y_16) : Int) = (d)) ∧ True) ∧ ((((x_18) : Int) = (e)) ∧ (((y_19) : Int) = (f)) ∧ True) ∧ True))))) ∧ True))) ∧ True))) ∧ True))) ∧ True))) ∧ True))) ∧ True)))))))))))))))) = (fun sg => ev sig_spec_DrawSegmentSquare xs_spec_DrawSegmentSquare Try.f63.ntmps (fun b => []) (codeOf Try.f63) 0 (initS [.s (.rdr n)]) (retY Try.f63.results.toList sg.kinds sg.post sg.ret)) (s_spec_DrawSegmentSquare n) := by kernel_rfl
set_option maxHeartbeats 4000000 in
theorem F_spec_DrawSegmentSquare : FunY 63 g_spec_DrawSegmentSquare := by
  refine fun_Y (by kernel_rfl) Try.func63 rfl (by kernel_rfl) sig_spec_DrawSegmentSquare_ok xs_spec_DrawSegmentSquare_ok ?_
  intro avs sg h hn hl
  unfold g_spec_DrawSegmentSquare at h
  split at h
  · rename_i n
    injection h with h; subst h
    refine ⟨by kernel_rfl, fun b => [], Eq.mp (V_spec_DrawSegmentSquare n) ?_⟩
    simp only [true_and, and_true, implies_true, and_self, forall_const, true_implies, lenA, lenL, SV.lenOK, Cont.lenOK, s_spec_DrawSegmentSquare] at hn hl ⊢
    try simp only [ilt_t, ilt_f, ile_t, ile_f, ieq_t, ieq_f, bnot_e, band_e, bite_and, bite_or, NLt_e, NLe_e, NNe_e, NIs_e, imax_e, imin_e, irem_e, Bool.not_eq_true', Bool.not_eq_false', Bool.and_eq_true, Bool.or_eq_true, Bool.or_eq_false_iff, Bool.and_eq_false_iff, Cont.pts.injEq, Cont.ints.injEq, Cont.bools.injEq, Cont.ptss.injEq, Cont.intss.injEq, Cont.boolss.injEq, true_and, and_true, implies_true, pickP, iadd_u, isub_u, imul_u, ineg_u, ilen_cons, ilen_nil, geti_cons, geti_nil, exists_and_left, exists_and_right, exists_eq_left, exists_eq_left', exists_eq_right, exists_eq_right'] at hn ⊢
    repeat' (first | (intro _) | (refine ⟨_, _, _, _, _, _, ?_, ⟨rfl, rfl⟩, ⟨rfl, rfl⟩, rfl, rfl⟩) | (apply And.intro) | omega | split)
    all_goals (first | (simp_all; done) | (simp_all; omega))
  · cases h
theorem inB_eq (n lo hi : Int) : inB n lo hi = (ile lo n && ile n hi) := by
  unfold inB ile
  by_cases h1 : lo ≤ n <;> by_cases h2 : n ≤ hi <;> simp [h1, h2]
def g_impl_within : List AV → Option Sg
  | [.s (.int n), .s (.int lo), .s (.int hi)] => some ⟨True, [.s (.bool (inB n lo hi))]⟩
  | _ => none
def sig_impl_within : FuncId → List AV → Option Sg := sigL []
def xs_impl_within : XS := ⟨xsigL [], ysigL []⟩
theorem sig_impl_within_ok : SigOK sig_impl_within := sigL_nil
theorem xs_impl_within_ok : XSigOK xs_impl_within := ⟨xsigL_nil, ysigL_nil⟩
theorem V_impl_within (n : Int) (lo : Int) (hi : Int) : ((true = true) ∧ ((True) ∧ True) ∧ (true = true) ∧ ((True) ∧ (True) ∧ (True) ∧ (True) ∧ (NIs (ile lo n) true → True) ∧ (NIs (ile lo n) true → True) ∧ (NIs (ile lo n) true → True) ∧ (True) ∧ (True) ∧ True) ∧ (((bite (ile lo n) (ile n hi) false) : Bool) = (inB n lo hi)) ∧ True) = ev sig_impl_within xs_impl_within Try.f68.ntmps (fun b => []) (codeOf Try.f68) 0 (initS [.s (.int n), .s (.int lo), .s (.int hi)]) (retK Try.f68.results.toList [.s (.bool (inB n lo hi))]) := by kernel_rfl
set_option maxHeartbeats 400000 in
theorem F_impl_within : FunOK 68 g_impl_within := by
  refine fun_F (by kernel_rfl) Try.func68 rfl (by kernel_rfl) sig_impl_within_ok xs_impl_within_ok ?_
  intro avs sg h hn hl
  unfold g_impl_within at h
  split at h
  · rename_i n lo hi
    injection h with h; subst h
    refine ⟨by kernel_rfl, fun b => [], Eq.mp (V_impl_within n lo hi) ?_⟩
    simp only [true_and, and_true, implies_true, and_self, forall_const, true_implies, lenA, lenL, SV.lenOK, Cont.lenOK] at hn hl ⊢
    simp only [bite_and, inB_eq]
  · cases h
def nearB (x y : Int) : Bool := inB x (-1000) 1000 && inB y (-1000) 1000
def idxN (n : Int) (f : Int → Bool) : Int := foldN n (fun s i => if s < 0 ∧ f i = true then i else s) (-1)
theorem idxN_no {f : Int → Bool} {k : Nat} (h : ∀ j, 0 ≤ j → j < (k : Int) → f j = false) : idxN k f = -1 := by
  induction k with
  | zero => rfl
  | succ k ih =>
    have e : ((k + 1 : Nat) : Int) = (k : Int) + 1 := by omega
    have := ih (fun j h0 h1 => h j h0 (by omega))
    unfold idxN at this ⊢
    rw [e, foldN_1 (by omega), this, h k (by omega) (by omega)]
    simp
theorem idxN_keep {f : Int → Bool} {i : Int} (hi : 0 ≤ i) {n : Nat} (h : idxN n f = i) (m : Nat) : idxN ((n + m : Nat) : Int) f = i := by
  induction m with
  | zero => exact h
  | succ m ih =>
    have e : ((n + (m + 1) : Nat) : Int) = ((n + m : Nat) : Int) + 1 := by omega
    unfold idxN at ih ⊢
    rw [e, foldN_1 (by omega), ih, if_neg (by omega)]
theorem idxN_at {f : Int → Bool} {k n : Int} (h0 : 0 ≤ k) (h1 : k < n) (h : ∀ j, 0 ≤ j → j < k → f j = false) (hk : f k = true) : idxN n f = k := by
  obtain ⟨a, rfl⟩ := Int.eq_ofNat_of_zero_le h0
  obtain ⟨b, hb⟩ := Int.eq_ofNat_of_zero_le (show 0 ≤ n - (a + 1) by omega)
  have e : n = ((a + 1 + b : Nat) : Int) := by omega
  rw [e]
  refine idxN_keep h0 ?_ b
  have := idxN_no h
  have e2 : ((a + 1 : Nat) : Int) = (a : Int) + 1 := by omega
  unfold idxN at this ⊢
  rw [e2, foldN_1 (by omega), this, if_pos ⟨by omega, hk⟩]
theorem idxN_any {f : Int → Bool} {n : Int} (h0 : 0 ≤ n) : ile 0 (idxN n f) = anyN n f := by
  obtain ⟨a, rfl⟩ := Int.eq_ofNat_of_zero_le h0
  clear h0
  induction a with
  | zero => simp [idxN, foldN, anyN, ile]
  | succ a ih =>
    have e : ((a + 1 : Nat) : Int) = (a : Int) + 1 := by omega
    have hs : anyN ((a + 1 : Nat) : Int) f = (anyN a f || f a) := by
      unfold anyN
      rw [show ((a + 1 : Nat) : Int).toNat = a + 1 by omega, show ((a : Nat) : Int).toNat = a by omega, List.range_succ, List.any_append]
      simp
    rw [hs, ← ih]
    unfold idxN
    rw [e, foldN_1 (by omega)]
    generalize foldN (a : Int) (fun s i => if s < 0 ∧ f i = true then i else s) (-1) = s
    unfold ile
    by_cases hs0 : s < 0
    · cases hf : f a with
      | true => simp [hs0, hf]
      | false => simp [hs0, hf]
    · simp [hs0]; omega
def g_impl_near : List AV → Option Sg
  | [.agg [.int p1, .int p2]] => some ⟨True, [.s (.bool (nearB p1 p2))]⟩
  | _ => none
def sig_impl_near : FuncId → List AV → Option Sg := sigL [(68, g_impl_within)]
def xs_impl_near : XS := ⟨xsigL [], ysigL []⟩
theorem sig_impl_near_ok : SigOK sig_impl_near := sigL_cons F_impl_within sigL_nil
theorem xs_impl_near_ok : XSigOK xs_impl_near := ⟨xsigL_nil, ysigL_nil⟩
theorem V_impl_near (p1 : Int) (p2 : Int) : ((true = true) ∧ ((True) ∧ (True) ∧ True) ∧ (true = true) ∧ ((True) ∧ (True) ∧ ((True)) ∧ (True) ∧ (NIs (inB p1 (-1000 : Int) (1000 : Int)) true → True) ∧ (NIs (inB p1 (-1000 : Int) (1000 : Int)) true → True) ∧ (NIs (inB p1 (-1000 : Int) (1000 : Int)) true → (True)) ∧ (True) ∧ (True) ∧ True) ∧ (((bite (inB p1 (-1000 : Int) (1000 : Int)) (inB p2 (-1000 : Int) (1000 : Int)) false) : Bool) = (nearB p1 p2)) ∧ True) = ev sig_impl_near xs_impl_near Try.f98.ntmps (fun b => []) (codeOf Try.f98) 0 (initS [.agg [.int p1, .int p2]]) (retK Try.f98.results.toList [.s (.bool (nearB p1 p2))]) := by kernel_rfl
set_option maxHeartbeats 400000 in
theorem F_impl_near : FunOK 98 g_impl_near := by
  refine fun_F (by kernel_rfl) Try.func98 rfl (by kernel_rfl) sig_impl_near_ok xs_impl_near_ok ?_
  intro avs sg h hn hl
  unfold g_impl_near at h
  split at h
  · rename_i p1 p2
    injection h with h; subst h
    refine ⟨by kernel_rfl, fun b => [], Eq.mp (V_impl_near p1 p2) ?_⟩
    simp only [true_and, and_true, implies_true, and_self, forall_const, true_implies, lenA, lenL, SV.lenOK, Cont.lenOK] at hn hl ⊢
    simp only [ilt_t, ilt_f, ile_t, ile_f, ieq_t, ieq_f, bnot_e, band_e, bite_and, bite_or, NLt_e, NLe_e, NNe_e, NIs_e, imax_e, imin_e, irem_e, Bool.not_eq_true', Bool.not_eq_false', Bool.and_eq_true, Bool.or_eq_true, Bool.or_eq_false_iff, Bool.and_eq_false_iff, Cont.pts.injEq, Cont.ints.injEq, Cont.bools.injEq, Cont.ptss.injEq, Cont.intss.injEq, Cont.boolss.injEq, true_and, and_true, implies_true, nearB]
  · cases h
def crW (a1 a2 b1 b2 c1 c2 : Int) : Int := isub (imul (isub b1 a1) (isub c2 a2)) (imul (isub b2 a2) (isub c1 a1))
def cr (l : List Pt) (i j k : Int) : Int := crW (getx l i) (gety l i) (getx l j) (gety l j) (getx l k) (gety l k)
def nx (l : List Pt) (i : Int) : Int := (i + 1).tmod (ilen l)
def convE (l : List Pt) (i j : Int) : Bool := decide (j = i ∨ j = nx l i ∨ 0 < cr l i (nx l i) j)
def convB (l : List Pt) : Bool := inB (ilen l) 3 8 && allB l && allN (ilen l) fun i => allN (ilen l) fun j => convE l i j
theorem nx_in {l : List Pt} {i : Int} (h0 : 0 ≤ i) (h1 : i < ilen l) : 0 ≤ nx l i ∧ nx l i < ilen l ∧ ((i + 1 < ilen l ∧ nx l i = i + 1) ∨ (i + 1 = ilen l ∧ nx l i = 0)) := by
  have e : nx l i = (i + 1) % ilen l := Int.tmod_eq_emod_of_nonneg (by omega)
  rcases Int.lt_or_le (i + 1) (ilen l) with h | h
  · rw [e, Int.emod_eq_of_lt (by omega) h]; omega
  · have h2 : i + 1 = ilen l := by omega
    rw [e, h2, Int.emod_self]; omega
theorem allN_up {f : Int → Bool} {k : Int} (h : ∀ j, 0 ≤ j → j < k → f j = true) (hk : f k = true) : ∀ j, 0 ≤ j → j < k + 1 → f j = true := by
  intro j h0 h1
  rcases Int.lt_or_le j k with h2 | h2
  · exact h j h0 h2
  · rw [show j = k by omega]; exact hk
theorem upTo {P : Int → Prop} {k : Int} (h : ∀ j, 0 ≤ j → j < k → P j) (hk : P k) : ∀ j, 0 ≤ j → j < k + 1 → P j := by
  intro j h0 h1
  rcases Int.lt_or_le j k with h2 | h2
  · exact h j h0 h2
  · rw [show j = k by omega]; exact hk
theorem iadd_1 {k n : Int} (h0 : 0 ≤ k) (h1 : k < n) (h2 : n ≤ 9223372036854775807) : iadd k 1 = k + 1 := iadd_e (by omega) (by omega)
theorem mul20 {x y : Int} (hx : -20000 ≤ x ∧ x ≤ 20000) (hy : -20000 ≤ y ∧ y ≤ 20000) : -400000000 ≤ x * y ∧ x * y ≤ 400000000 := by
  have h := mul_box hx.1 hx.2 hy.1 hy.2
  generalize x * y = z at *
  have e1 : min (min ((-20000 : Int) * -20000) (-20000 * 20000)) (min (20000 * -20000) (20000 * 20000)) = -400000000 := by decide
  have e2 : max (max ((-20000 : Int) * -20000) (-20000 * 20000)) (max (20000 * -20000) (20000 * 20000)) = 400000000 := by decide
  rw [e1, e2] at h
  exact h
theorem crW_e {a1 a2 b1 b2 c1 c2 : Int} (ha : vB a1 a2 = true) (hb : vB b1 b2 = true) (hc : vB c1 c2 = true) : crW a1 a2 b1 b2 c1 c2 = crs (a1, a2) (b1, b2) (c1, c2) := by
  unfold vB at ha hb hc
  simp only [Bool.and_eq_true] at ha hb hc
  have a1' := inB_true ha.1; have a2' := inB_true ha.2; have b1' := inB_true hb.1; have b2' := inB_true hb.2; have c1' := inB_true hc.1; have c2' := inB_true hc.2
  unfold crW crs
  rw [isub_e (a := b1) (by omega) (by omega), isub_e (a := c2) (by omega) (by omega), isub_e (a := b2) (by omega) (by omega), isub_e (a := c1) (by omega) (by omega)]
  have m1 := mul20 (x := b1 - a1) (y := c2 - a2) (by omega) (by omega)
  have m2 := mul20 (x := b2 - a2) (y := c1 - a1) (by omega) (by omega)
  rw [imul_e (a := b1 - a1) (by omega) (by omega), imul_e (a := b2 - a2) (by omega) (by omega), isub_e (by omega) (by omega)]
def P (l : List Pt) (i : Int) : Pt := (getx l i, gety l i)
theorem sgn_01 (z : Int) : -1 ≤ sgn z ∧ sgn z ≤ 1 := by unfold sgn; split <;> (try split) <;> omega
theorem ieq_sgn (z : Int) : ieq (sgn z) 0 = decide (z = 0) := by
  unfold ieq
  congr 1
  simp only [eq_iff_iff]
  unfold sgn; split <;> (try split) <;> omega
theorem imul_sgn (x y : Int) : imul (sgn x) (sgn y) = sgn x * sgn y := by
  have s1 := sgn_01 x; have s2 := sgn_01 y
  have := mul20 (x := sgn x) (y := sgn y) (by omega) (by omega)
  exact imul_e (by omega) (by omega)
theorem sgn_0 (z : Int) : sgn z = 0 ↔ z = 0 := by unfold sgn; split <;> (try split) <;> omega
def btW (a1 a2 b1 b2 p1 p2 : Int) : Bool := inB p1 (min a1 b1) (max a1 b1) && inB p2 (min a2 b2) (max a2 b2)
theorem btW_e (a1 a2 b1 b2 p1 p2 : Int) : btW a1 a2 b1 b2 p1 p2 = btw (a1, a2) (b1, b2) (p1, p2) := by
  unfold btW btw inB
  simp only [← Bool.decide_and]
  congr 1
  simp only [eq_iff_iff]
  constructor
  · rintro ⟨⟨h1, h2⟩, h3, h4⟩; exact ⟨h1, h2, h3, h4⟩
  · rintro ⟨h1, h2, h3, h4⟩; exact ⟨⟨h1, h2⟩, h3, h4⟩
def sqE (a1 a2 b1 b2 : Int) : Int := (a1 - b1) * (a1 - b1) + (a2 - b2) * (a2 - b2)
def alE (p1 p2 a1 a2 b1 b2 : Int) : Int := (p1 - a1) * (b1 - a1) + (p2 - a2) * (b2 - a2)
def ssqE (p1 p2 a1 a2 b1 b2 : Int) : Int := if alE p1 p2 a1 a2 b1 b2 ≤ 0 then sqE p1 p2 a1 a2 else if sqE a1 a2 b1 b2 ≤ alE p1 p2 a1 a2 b1 b2 then sqE p1 p2 b1 b2 else (crs (a1, a2) (b1, b2) (p1, p2) * crs (a1, a2) (b1, b2) (p1, p2)).tdiv (sqE a1 a2 b1 b2)
theorem near_bd {x y : Int} (h : nearB x y = true) : -1000 ≤ x ∧ x ≤ 1000 ∧ -1000 ≤ y ∧ y ≤ 1000 := by
  unfold nearB at h
  simp only [Bool.and_eq_true] at h
  have a1 := inB_true h.1; have a2 := inB_true h.2
  omega
theorem mul4 {x y : Int} (hx : -8000000 ≤ x ∧ x ≤ 8000000) (hy : -8000000 ≤ y ∧ y ≤ 8000000) : imul x y = x * y := by
  have h := mul_box hx.1 hx.2 hy.1 hy.2
  have e1 : min (min ((-8000000 : Int) * -8000000) (-8000000 * 8000000)) (min (8000000 * -8000000) (8000000 * 8000000)) = -64000000000000 := by decide
  have e2 : max (max ((-8000000 : Int) * -8000000) (-8000000 * 8000000)) (max (8000000 * -8000000) (8000000 * 8000000)) = 64000000000000 := by decide
  rw [e1, e2] at h
  exact imul_e (by omega) (by omega)
theorem mul2 {x y : Int} (hx : -2000 ≤ x ∧ x ≤ 2000) (hy : -2000 ≤ y ∧ y ≤ 2000) : imul x y = x * y ∧ -4000000 ≤ x * y ∧ x * y ≤ 4000000 := by
  refine ⟨mul4 (by omega) (by omega), ?_⟩
  have h := mul_box hx.1 hx.2 hy.1 hy.2
  generalize x * y = z at *
  have e1 : min (min ((-2000 : Int) * -2000) (-2000 * 2000)) (min (2000 * -2000) (2000 * 2000)) = -4000000 := by decide
  have e2 : max (max ((-2000 : Int) * -2000) (-2000 * 2000)) (max (2000 * -2000) (2000 * 2000)) = 4000000 := by decide
  rw [e1, e2] at h
  exact h
theorem sub_n {x y : Int} (hx : -1000 ≤ x ∧ x ≤ 1000) (hy : -1000 ≤ y ∧ y ≤ 1000) : isub x y = x - y := isub_e (by omega) (by omega)
theorem near_v {x y : Int} (h : nearB x y = true) : vB x y = true := by
  have := near_bd h
  exact vB_mk (by omega)
theorem crs_bd {a1 a2 b1 b2 c1 c2 : Int} (ha : nearB a1 a2 = true) (hb : nearB b1 b2 = true) (hc : nearB c1 c2 = true) : -8000000 ≤ crs (a1, a2) (b1, b2) (c1, c2) ∧ crs (a1, a2) (b1, b2) (c1, c2) ≤ 8000000 := by
  have := near_bd ha; have := near_bd hb; have := near_bd hc
  have m1 := mul2 (x := b1 - a1) (y := c2 - a2) (by omega) (by omega)
  have m2 := mul2 (x := b2 - a2) (y := c1 - a1) (by omega) (by omega)
  unfold crs
  dsimp only
  omega
theorem sq_w {a1 a2 b1 b2 : Int} (ha : nearB a1 a2 = true) (hb : nearB b1 b2 = true) : iadd (imul (isub a1 b1) (isub a1 b1)) (imul (isub a2 b2) (isub a2 b2)) = sqE a1 a2 b1 b2 ∧ 0 ≤ sqE a1 a2 b1 b2 ∧ sqE a1 a2 b1 b2 ≤ 8000000 := by
  have := near_bd ha; have := near_bd hb
  have m1 := mul2 (x := a1 - b1) (y := a1 - b1) (by omega) (by omega)
  have m2 := mul2 (x := a2 - b2) (y := a2 - b2) (by omega) (by omega)
  have q1 : 0 ≤ (a1 - b1) * (a1 - b1) := by rcases Int.le_total 0 (a1 - b1) with h | h; exact Int.mul_nonneg h h; exact Int.mul_nonneg_of_nonpos_of_nonpos h h
  have q2 : 0 ≤ (a2 - b2) * (a2 - b2) := by rcases Int.le_total 0 (a2 - b2) with h | h; exact Int.mul_nonneg h h; exact Int.mul_nonneg_of_nonpos_of_nonpos h h
  rw [sub_n (by omega) (by omega), sub_n (by omega) (by omega), m1.1, m2.1]
  unfold sqE
  exact ⟨iadd_e (by omega) (by omega), by omega, by omega⟩
theorem al_w {p1 p2 a1 a2 b1 b2 : Int} (hp : nearB p1 p2 = true) (ha : nearB a1 a2 = true) (hb : nearB b1 b2 = true) : iadd (imul (isub p1 a1) (isub b1 a1)) (imul (isub p2 a2) (isub b2 a2)) = alE p1 p2 a1 a2 b1 b2 := by
  have := near_bd ha; have := near_bd hb; have := near_bd hp
  have m1 := mul2 (x := p1 - a1) (y := b1 - a1) (by omega) (by omega)
  have m2 := mul2 (x := p2 - a2) (y := b2 - a2) (by omega) (by omega)
  rw [sub_n (by omega) (by omega), sub_n (x := b1) (by omega) (by omega), sub_n (x := p2) (by omega) (by omega), sub_n (x := b2) (by omega) (by omega), m1.1, m2.1]
  unfold alE
  exact iadd_e (by omega) (by omega)
theorem sqE_comm (a1 a2 b1 b2 : Int) : sqE a1 a2 b1 b2 = sqE b1 b2 a1 a2 := by unfold sqE; grind
theorem mul4b {x y : Int} (hx : -8000000 ≤ x ∧ x ≤ 8000000) (hy : -8000000 ≤ y ∧ y ≤ 8000000) : -64000000000000 ≤ x * y ∧ x * y ≤ 64000000000000 := by
  have h := mul_box hx.1 hx.2 hy.1 hy.2
  have e1 : min (min ((-8000000 : Int) * -8000000) (-8000000 * 8000000)) (min (8000000 * -8000000) (8000000 * 8000000)) = -64000000000000 := by decide
  have e2 : max (max ((-8000000 : Int) * -8000000) (-8000000 * 8000000)) (max (8000000 * -8000000) (8000000 * 8000000)) = 64000000000000 := by decide
  rw [e1, e2] at h
  exact h
theorem sqE_0 (a1 a2 b1 b2 : Int) : 0 ≤ sqE a1 a2 b1 b2 := by
  have q : ∀ x : Int, 0 ≤ x * x := fun x => by rcases Int.le_total 0 x with h | h; exact Int.mul_nonneg h h; exact Int.mul_nonneg_of_nonpos_of_nonpos h h
  have := q (a1 - b1); have := q (a2 - b2)
  unfold sqE; omega
theorem ssqE_0 (p1 p2 a1 a2 b1 b2 : Int) : 0 ≤ ssqE p1 p2 a1 a2 b1 b2 := by
  have q : ∀ x : Int, 0 ≤ x * x := fun x => by rcases Int.le_total 0 x with h | h; exact Int.mul_nonneg h h; exact Int.mul_nonneg_of_nonpos_of_nonpos h h
  unfold ssqE
  split
  · exact sqE_0 ..
  · split
    · exact sqE_0 ..
    · exact Int.tdiv_nonneg (q _) (sqE_0 ..)
def ssQ (p1 p2 a1 a2 b1 b2 : Int) : Int := if nearB p1 p2 && nearB a1 a2 && nearB b1 b2 then ssqE p1 p2 a1 a2 b1 b2 else -1
theorem ssQ_e {p1 p2 a1 a2 b1 b2 : Int} (hp : nearB p1 p2 = true) (ha : nearB a1 a2 = true) (hb : nearB b1 b2 = true) : ssQ p1 p2 a1 a2 b1 b2 = ssqE p1 p2 a1 a2 b1 b2 := by unfold ssQ; rw [hp, ha, hb]; rfl
theorem ssQ_0 {p1 p2 a1 a2 b1 b2 : Int} (h : 0 ≤ ssQ p1 p2 a1 a2 b1 b2) : nearB p1 p2 = true ∧ nearB a1 a2 = true ∧ nearB b1 b2 = true := by
  unfold ssQ at h
  cases h1 : nearB p1 p2 <;> cases h2 : nearB a1 a2 <;> cases h3 : nearB b1 b2 <;> simp [h1, h2, h3] at h ⊢
theorem vB_bd {x y : Int} (h : vB x y = true) : -10000 ≤ x ∧ x ≤ 10000 ∧ -10000 ≤ y ∧ y ≤ 10000 := by
  unfold vB at h
  simp only [Bool.and_eq_true] at h
  have a1 := inB_true h.1; have a2 := inB_true h.2
  omega
theorem sq_v {a1 a2 b1 b2 : Int} (ha : vB a1 a2 = true) (hb : vB b1 b2 = true) : iadd (imul (isub a1 b1) (isub a1 b1)) (imul (isub a2 b2) (isub a2 b2)) = sqE a1 a2 b1 b2 ∧ sqE a1 a2 b1 b2 ≤ 800000000 := by
  have := vB_bd ha; have := vB_bd hb
  have m1 := mul20 (x := a1 - b1) (y := a1 - b1) (by omega) (by omega)
  have m2 := mul20 (x := a2 - b2) (y := a2 - b2) (by omega) (by omega)
  rw [isub_e (by omega) (by omega), isub_e (by omega) (by omega), imul_e (by omega) (by omega), imul_e (by omega) (by omega)]
  unfold sqE
  exact ⟨iadd_e (by omega) (by omega), by omega⟩
def g_impl_square : List AV → Option Sg
  | [.agg [.int a1, .int a2], .agg [.int b1, .int b2]] => some ⟨vB a1 a2 = true ∧ vB b1 b2 = true, [.s (.int (sqE a1 a2 b1 b2))]⟩
  | _ => none
def sig_impl_square : FuncId → List AV → Option Sg := sigL []
def xs_impl_square : XS := ⟨xsigL [], ysigL []⟩
theorem sig_impl_square_ok : SigOK sig_impl_square := sigL_nil
theorem xs_impl_square_ok : XSigOK xs_impl_square := ⟨xsigL_nil, ysigL_nil⟩
theorem V_impl_square (a1 : Int) (a2 : Int) (b1 : Int) (b2 : Int) : ((true = true) ∧ ((True) ∧ (True) ∧ (True) ∧ True) ∧ (true = true) ∧ ((True) ∧ (True) ∧ (True) ∧ (True) ∧ (True) ∧ (True) ∧ (True) ∧ (True) ∧ (True) ∧ (True) ∧ (True) ∧ (True) ∧ (True) ∧ (True) ∧ (True) ∧ (True) ∧ (True) ∧ (True) ∧ (True) ∧ (True) ∧ (True) ∧ (True) ∧ (True) ∧ (True) ∧ True) ∧ (((iadd (imul (isub a1 b1) (isub a1 b1)) (imul (isub a2 b2) (isub a2 b2))) : Int) = (sqE a1 a2 b1 b2)) ∧ True) = ev sig_impl_square xs_impl_square Try.f102.ntmps (fun b => []) (codeOf Try.f102) 0 (initS [.agg [.int a1, .int a2], .agg [.int b1, .int b2]]) (retK Try.f102.results.toList [.s (.int (sqE a1 a2 b1 b2))]) := by kernel_rfl
set_option maxHeartbeats 400000 in
theorem F_impl_square : FunOK 102 g_impl_square := by
  refine fun_F (by kernel_rfl) Try.func102 rfl (by kernel_rfl) sig_impl_square_ok xs_impl_square_ok ?_
  intro avs sg h hn hl
  unfold g_impl_square at h
  split at h
  · rename_i a1 a2 b1 b2
    injection h with h; subst h
    refine ⟨by kernel_rfl, fun b => [], Eq.mp (V_impl_square a1 a2 b1 b2) ?_⟩
    simp only [true_and, and_true, implies_true, and_self, forall_const, true_implies, lenA, lenL, SV.lenOK, Cont.lenOK] at hn hl ⊢
    exact (sq_v hn.1 hn.2).1
  · cases h
def g_impl_cross : List AV → Option Sg
  | [.agg [.int a1, .int a2], .agg [.int b1, .int b2], .agg [.int c1, .int c2]] => some ⟨True, [.s (.int (crW a1 a2 b1 b2 c1 c2))]⟩
  | _ => none
def sig_impl_cross : FuncId → List AV → Option Sg := sigL []
def xs_impl_cross : XS := ⟨xsigL [], ysigL []⟩
theorem sig_impl_cross_ok : SigOK sig_impl_cross := sigL_nil
theorem xs_impl_cross_ok : XSigOK xs_impl_cross := ⟨xsigL_nil, ysigL_nil⟩
theorem V_impl_cross (a1 : Int) (a2 : Int) (b1 : Int) (b2 : Int) (c1 : Int) (c2 : Int) : ((true = true) ∧ ((True) ∧ (True) ∧ (True) ∧ (True) ∧ True) ∧ (true = true) ∧ ((True) ∧ (True) ∧ (True) ∧ (True) ∧ (True) ∧ (True) ∧ (True) ∧ (True) ∧ (True) ∧ (True) ∧ (True) ∧ (True) ∧ (True) ∧ (True) ∧ (True) ∧ (True) ∧ (True) ∧ (True) ∧ (True) ∧ (True) ∧ (True) ∧ (True) ∧ (True) ∧ (True) ∧ True) ∧ (((isub (imul (isub b1 a1) (isub c2 a2)) (imul (isub b2 a2) (isub c1 a1))) : Int) = (crW a1 a2 b1 b2 c1 c2)) ∧ True) = ev sig_impl_cross xs_impl_cross Try.f112.ntmps (fun b => []) (codeOf Try.f112) 0 (initS [.agg [.int a1, .int a2], .agg [.int b1, .int b2], .agg [.int c1, .int c2]]) (retK Try.f112.results.toList [.s (.int (crW a1 a2 b1 b2 c1 c2))]) := by kernel_rfl
set_option maxHeartbeats 400000 in
theorem F_impl_cross : FunOK 112 g_impl_cross := by
  refine fun_F (by kernel_rfl) Try.func112 rfl (by kernel_rfl) sig_impl_cross_ok xs_impl_cross_ok ?_
  intro avs sg h hn hl
  unfold g_impl_cross at h
  split at h
  · rename_i a1 a2 b1 b2 c1 c2
    injection h with h; subst h
    refine ⟨by kernel_rfl, fun b => [], Eq.mp (V_impl_cross a1 a2 b1 b2 c1 c2) ?_⟩
    simp only [true_and, and_true, implies_true, and_self, forall_const, true_implies, lenA, lenL, SV.lenOK, Cont.lenOK] at hn hl ⊢
    simp only [crW]
  · cases h
def g_impl_segmentSquare : List AV → Option Sg
  | [.agg [.int p1, .int p2], .agg [.int a1, .int a2], .agg [.int b1, .int b2]] => some ⟨nearB p1 p2 = true ∧ nearB a1 a2 = true ∧ nearB b1 b2 = true, [.s (.int (ssqE p1 p2 a1 a2 b1 b2))]⟩
  | _ => none
def sig_impl_segmentSquare : FuncId → List AV → Option Sg := sigL [(102, g_impl_square), (112, g_impl_cross)]
def xs_impl_segmentSquare : XS := ⟨xsigL [], ysigL []⟩
theorem sig_impl_segmentSquare_ok : SigOK sig_impl_segmentSquare := sigL_cons F_impl_square (sigL_cons F_impl_cross sigL_nil)
theorem xs_impl_segmentSquare_ok : XSigOK xs_impl_segmentSquare := ⟨xsigL_nil, ysigL_nil⟩
theorem V_impl_segmentSquare (p1 : Int) (p2 : Int) (a1 : Int) (a2 : Int) (b1 : Int) (b2 : Int) : ((true = true) ∧ ((True) ∧ (True) ∧ (True) ∧ (True) ∧ True) ∧ (true = true) ∧ ((True) ∧ (True) ∧ ((vB a1 a2 = true ∧ vB b1 b2 = true)) ∧ (True) ∧ True) ∧ (true = true) ∧ ((True) ∧ (True) ∧ (True) ∧ (True) ∧ (True) ∧ (True) ∧ (True) ∧ (True) ∧ (True) ∧ (True) ∧ (True) ∧ (True) ∧ (True) ∧ (True) ∧ (True) ∧ (True) ∧ (True) ∧ (True) ∧ (True) ∧ (True) ∧ (True) ∧ (True) ∧ (True) ∧ (True) ∧ True) ∧ (true = true) ∧ ((True) ∧ (True) ∧ (True) ∧ True) ∧ ((ile (iadd (imul (isub p1 a1) (isub b1 a1)) (imul (isub p2 a2) (isub b2 a2))) (0 : Int)) = true → ((true = true) ∧ ((True) ∧ (True) ∧ ((vB p1 p2 = true ∧ vB a1 a2 = true)) ∧ (True) ∧ True) ∧ (((sqE p1 p2 a1 a2) : Int) = (ssqE p1 p2 a1 a2 b1 b2)) ∧ True)) ∧ ((ile (iadd (imul (isub p1 a1) (isub b1 a1)) (imul (isub p2 a2) (isub b2 a2))) (0 : Int)) = false → ((true = true) ∧ ((True) ∧ (True) ∧ (True) ∧ (True) ∧ True) ∧ ((ile (sqE a1 a2 b1 b2) (iadd (imul (isub p1 a1) (isub b1 a1)) (imul (isub p2 a2) (isub b2 a2)))) = true → ((true = true) ∧ ((True) ∧ (True) ∧ ((vB p1 p2 = true ∧ vB b1 b2 = true)) ∧ (True) ∧ True) ∧ (((sqE p1 p2 b1 b2) : Int) = (ssqE p1 p2 a1 a2 b1 b2)) ∧ True)) ∧ ((ile (sqE a1 a2 b1 b2) (iadd (imul (isub p1 a1) (isub b1 a1)) (imul (isub p2 a2) (isub b2 a2)))) = false → ((true = true) ∧ ((True) ∧ (True) ∧ (True) ∧ ((True)) ∧ (True) ∧ True) ∧ (true = true) ∧ ((True) ∧ (True) ∧ (True) ∧ (True) ∧ (NNe (sqE a1 a2 b1 b2) 0) ∧ (True) ∧ True) ∧ (((iquo (imul (crW a1 a2 b1 b2 p1 p2) (crW a1 a2 b1 b2 p1 p2)) (sqE a1 a2 b1 b2)) : Int) = (ssqE p1 p2 a1 a2 b1 b2)) ∧ True))))) = ev sig_impl_segmentSquare xs_impl_segmentSquare Try.f99.ntmps (fun b => []) (codeOf Try.f99) 0 (initS [.agg [.int p1, .int p2], .agg [.int a1, .int a2], .agg [.int b1, .int b2]]) (retK Try.f99.results.toList [.s (.int (ssqE p1 p2 a1 a2 b1 b2))]) := by kernel_rfl
set_option maxHeartbeats 400000 in
theorem F_impl_segmentSquare : FunOK 99 g_impl_segmentSquare := by
  refine fun_F (by kernel_rfl) Try.func99 rfl (by kernel_rfl) sig_impl_segmentSquare_ok xs_impl_segmentSquare_ok ?_
  intro avs sg h hn hl
  unfold g_impl_segmentSquare at h
  split at h
  · rename_i p1 p2 a1 a2 b1 b2
    injection h with h; subst h
    refine ⟨by kernel_rfl, fun b => [], Eq.mp (V_impl_segmentSquare p1 p2 a1 a2 b1 b2) ?_⟩
    simp only [true_and, and_true, implies_true, and_self, forall_const, true_implies, lenA, lenL, SV.lenOK, Cont.lenOK] at hn hl ⊢
    obtain ⟨np, na, nb⟩ := hn
    have hc := crs_bd na nb np
    have hsq := sq_w na nb
    simp only [ilt_t, ilt_f, ile_t, ile_f, ieq_t, ieq_f, bnot_e, band_e, bite_and, bite_or, NLt_e, NLe_e, NNe_e, NIs_e, imax_e, imin_e, irem_e, Bool.not_eq_true', Bool.not_eq_false', Bool.and_eq_true, Bool.or_eq_true, Bool.or_eq_false_iff, Bool.and_eq_false_iff, Cont.pts.injEq, Cont.ints.injEq, Cont.bools.injEq, Cont.ptss.injEq, Cont.intss.injEq, Cont.boolss.injEq, true_and, and_true, implies_true, np, na, nb, near_v np, near_v na, near_v nb, crW_e (near_v na) (near_v nb) (near_v np), al_w np na nb, mul4 hc hc, true_implies, forall_const]
    refine ⟨fun h => by unfold ssqE; rw [if_pos h], fun h => ⟨fun h2 => by unfold ssqE; rw [if_neg (by omega), if_pos h2], fun h2 => ⟨by omega, ?_⟩⟩⟩
    unfold ssqE
    rw [if_neg (by omega), if_neg (by omega)]
    have := mul4b hc hc
    exact iquo_e (by omega) (by omega) (by omega)
  · cases h
def g_impl_SegmentSquare : List AV → Option Sg
  | [.agg [.int p1, .int p2], .agg [.int a1, .int a2], .agg [.int b1, .int b2]] => some ⟨True, [.s (.int (ssQ p1 p2 a1 a2 b1 b2))]⟩
  | _ => none
def sig_impl_SegmentSquare : FuncId → List AV → Option Sg := sigL [(98, g_impl_near), (99, g_impl_segmentSquare)]
def xs_impl_SegmentSquare : XS := ⟨xsigL [], ysigL []⟩
theorem sig_impl_SegmentSquare_ok : SigOK sig_impl_SegmentSquare := sigL_cons F_impl_near (sigL_cons F_impl_segmentSquare sigL_nil)
theorem xs_impl_SegmentSquare_ok : XSigOK xs_impl_SegmentSquare := ⟨xsigL_nil, ysigL_nil⟩
theorem V_impl_SegmentSquare (p1 : Int) (p2 : Int) (a1 : Int) (a2 : Int) (b1 : Int) (b2 : Int) : ((true = true) ∧ ((True) ∧ (True) ∧ (True) ∧ (True) ∧ True) ∧ (true = true) ∧ ((True) ∧ ((True)) ∧ (True) ∧ (True) ∧ (NIs (bnot (nearB p1 p2)) false → True) ∧ (NIs (bnot (nearB p1 p2)) false → (True)) ∧ (NIs (bnot (nearB p1 p2)) false → True) ∧ (True) ∧ (True) ∧ (NIs (bite (bnot (nearB p1 p2)) true (bnot (nearB a1 a2))) false → True) ∧ (NIs (bite (bnot (nearB p1 p2)) true (bnot (nearB a1 a2))) false → (True)) ∧ (NIs (bite (bnot (nearB p1 p2)) true (bnot (nearB a1 a2))) false → True) ∧ (True) ∧ True) ∧ ((bite (bite (bnot (nearB p1 p2)) true (bnot (nearB a1 a2))) true (bnot (nearB b1 b2))) = true → ((true = true) ∧ ((True) ∧ True) ∧ (((-1 : Int) : Int) = (ssQ p1 p2 a1 a2 b1 b2)) ∧ True)) ∧ ((bite (bite (bnot (nearB p1 p2)) true (bnot (nearB a1 a2))) true (bnot (nearB b1 b2))) = false → ((true = true) ∧ ((True) ∧ (True) ∧ (True) ∧ ((nearB p1 p2 = true ∧ nearB a1 a2 = true ∧ nearB b1 b2 = true)) ∧ (True) ∧ True) ∧ (((ssqE p1 p2 a1 a2 b1 b2) : Int) = (ssQ p1 p2 a1 a2 b1 b2)) ∧ True))) = ev sig_impl_SegmentSquare xs_impl_SegmentSquare Try.f64.ntmps (fun b => []) (codeOf Try.f64) 0 (initS [.agg [.int p1, .int p2], .agg [.int a1, .int a2], .agg [.int b1, .int b2]]) (retK Try.f64.results.toList [.s (.int (ssQ p1 p2 a1 a2 b1 b2))]) := by kernel_rfl
set_option maxHeartbeats 400000 in
theorem F_impl_SegmentSquare : FunOK 64 g_impl_SegmentSquare := by
  refine fun_F (by kernel_rfl) Try.func64 rfl (by kernel_rfl) sig_impl_SegmentSquare_ok xs_impl_SegmentSquare_ok ?_
  intro avs sg h hn hl
  unfold g_impl_SegmentSquare at h
  split at h
  · rename_i p1 p2 a1 a2 b1 b2
    injection h with h; subst h
    refine ⟨by kernel_rfl, fun b => [], Eq.mp (V_impl_SegmentSquare p1 p2 a1 a2 b1 b2) ?_⟩
    simp only [true_and, and_true, implies_true, and_self, forall_const, true_implies, lenA, lenL, SV.lenOK, Cont.lenOK] at hn hl ⊢
    simp only [ilt_t, ilt_f, ile_t, ile_f, ieq_t, ieq_f, bnot_e, band_e, bite_and, bite_or, NLt_e, NLe_e, NNe_e, NIs_e, imax_e, imin_e, irem_e, Bool.not_eq_true', Bool.not_eq_false', Bool.and_eq_true, Bool.or_eq_true, Bool.or_eq_false_iff, Bool.and_eq_false_iff, Cont.pts.injEq, Cont.ints.injEq, Cont.bools.injEq, Cont.ptss.injEq, Cont.intss.injEq, Cont.boolss.injEq, true_and, and_true, implies_true]
    unfold ssQ
    cases h1 : nearB p1 p2 <;> cases h2 : nearB a1 a2 <;> cases h3 : nearB b1 b2 <;> simp
  · cases h
def g_spec_l1In : List AV → Option Sg
  | [.s (.int n), .s (.int lo), .s (.int hi)] => some ⟨True, [.s (.bool (inB n lo hi))]⟩
  | _ => none
def sig_spec_l1In : FuncId → List AV → Option Sg := sigL []
def xs_spec_l1In : XS := ⟨xsigL [], ysigL []⟩
theorem sig_spec_l1In_ok : SigOK sig_spec_l1In := sigL_nil
theorem xs_spec_l1In_ok : XSigOK xs_spec_l1In := ⟨xsigL_nil, ysigL_nil⟩
theorem V_spec_l1In (n : Int) (lo : Int) (hi : Int) : ((true = true) ∧ ((True) ∧ True) ∧ (true = true) ∧ ((True) ∧ (True) ∧ (True) ∧ (True) ∧ (NIs (ile lo n) true → True) ∧ (NIs (ile lo n) true → True) ∧ (NIs (ile lo n) true → True) ∧ (True) ∧ (True) ∧ True) ∧ (((bite (ile lo n) (ile n hi) false) : Bool) = (inB n lo hi)) ∧ True) = ev sig_spec_l1In xs_spec_l1In Try.f67.ntmps (fun b => []) (codeOf Try.f67) 0 (initS [.s (.int n), .s (.int lo), .s (.int hi)]) (retK Try.f67.results.toList [.s (.bool (inB n lo hi))]) := by kernel_rfl
set_option maxHeartbeats 400000 in
theorem F_spec_l1In : FunOK 67 g_spec_l1In := by
  refine fun_F (by kernel_rfl) Try.func67 rfl (by kernel_rfl) sig_spec_l1In_ok xs_spec_l1In_ok ?_
  intro avs sg h hn hl
  unfold g_spec_l1In at h
  split at h
  · rename_i n lo hi
    injection h with h; subst h
    refine ⟨by kernel_rfl, fun b => [], Eq.mp (V_spec_l1In n lo hi) ?_⟩
    simp only [true_and, and_true, implies_true, and_self, forall_const, true_implies, lenA, lenL, SV.lenOK, Cont.lenOK] at hn hl ⊢
    simp only [bite_and, inB_eq]
  · cases h
def g_spec_l9Near : List AV → Option Sg
  | [.agg [.int p1, .int p2]] => some ⟨True, [.s (.bool (nearB p1 p2))]⟩
  | _ => none
def sig_spec_l9Near : FuncId → List AV → Option Sg := sigL [(67, g_spec_l1In)]
def xs_spec_l9Near : XS := ⟨xsigL [], ysigL []⟩
theorem sig_spec_l9Near_ok : SigOK sig_spec_l9Near := sigL_cons F_spec_l1In sigL_nil
theorem xs_spec_l9Near_ok : XSigOK xs_spec_l9Near := ⟨xsigL_nil, ysigL_nil⟩
theorem V_spec_l9Near (p1 : Int) (p2 : Int) : ((true = true) ∧ ((True) ∧ (True) ∧ True) ∧ (true = true) ∧ ((True) ∧ (True) ∧ ((True)) ∧ (True) ∧ (NIs (inB p1 (-1000 : Int) (1000 : Int)) true → True) ∧ (NIs (inB p1 (-1000 : Int) (1000 : Int)) true → True) ∧ (NIs (inB p1 (-1000 : Int) (1000 : Int)) true → (True)) ∧ (True) ∧ (True) ∧ True) ∧ (((bite (inB p1 (-1000 : Int) (1000 : Int)) (inB p2 (-1000 : Int) (1000 : Int)) false) : Bool) = (nearB p1 p2)) ∧ True) = ev sig_spec_l9Near xs_spec_l9Near Try.f100.ntmps (fun b => []) (codeOf Try.f100) 0 (initS [.agg [.int p1, .int p2]]) (retK Try.f100.results.toList [.s (.bool (nearB p1 p2))]) := by kernel_rfl
set_option maxHeartbeats 400000 in
theorem F_spec_l9Near : FunOK 100 g_spec_l9Near := by
  refine fun_F (by kernel_rfl) Try.func100 rfl (by kernel_rfl) sig_spec_l9Near_ok xs_spec_l9Near_ok ?_
  intro avs sg h hn hl
  unfold g_spec_l9Near at h
  split at h
  · rename_i p1 p2
    injection h with h; subst h
    refine ⟨by kernel_rfl, fun b => [], Eq.mp (V_spec_l9Near p1 p2) ?_⟩
    simp only [true_and, and_true, implies_true, and_self, forall_const, true_implies, lenA, lenL, SV.lenOK, Cont.lenOK] at hn hl ⊢
    simp only [ilt_t, ilt_f, ile_t, ile_f, ieq_t, ieq_f, bnot_e, band_e, bite_and, bite_or, NLt_e, NLe_e, NNe_e, NIs_e, imax_e, imin_e, irem_e, Bool.not_eq_true', Bool.not_eq_false', Bool.and_eq_true, Bool.or_eq_true, Bool.or_eq_false_iff, Bool.and_eq_false_iff, Cont.pts.injEq, Cont.ints.injEq, Cont.bools.injEq, Cont.ptss.injEq, Cont.intss.injEq, Cont.boolss.injEq, true_and, and_true, implies_true, nearB]
  · cases h
def g_spec_l2Square : List AV → Option Sg
  | [.agg [.int a1, .int a2], .agg [.int b1, .int b2]] => some ⟨vB a1 a2 = true ∧ vB b1 b2 = true, [.s (.int (sqE a1 a2 b1 b2))]⟩
  | _ => none
def sig_spec_l2Square : FuncId → List AV → Option Sg := sigL []
def xs_spec_l2Square : XS := ⟨xsigL [], ysigL []⟩
theorem sig_spec_l2Square_ok : SigOK sig_spec_l2Square := sigL_nil
theorem xs_spec_l2Square_ok : XSigOK xs_spec_l2Square := ⟨xsigL_nil, ysigL_nil⟩
theorem V_spec_l2Square (a1 : Int) (a2 : Int) (b1 : Int) (b2 : Int) : ((true = true) ∧ ((True) ∧ (True) ∧ (True) ∧ True) ∧ (true = true) ∧ ((True) ∧ (True) ∧ (True) ∧ (True) ∧ (True) ∧ (True) ∧ (True) ∧ (True) ∧ (True) ∧ (True) ∧ (True) ∧ (True) ∧ (True) ∧ (True) ∧ (True) ∧ (True) ∧ (True) ∧ (True) ∧ (True) ∧ (True) ∧ (True) ∧ (True) ∧ (True) ∧ (True) ∧ True) ∧ (((iadd (imul (isub a1 b1) (isub a1 b1)) (imul (isub a2 b2) (isub a2 b2))) : Int) = (sqE a1 a2 b1 b2)) ∧ True) = ev sig_spec_l2Square xs_spec_l2Square Try.f115.ntmps (fun b => []) (codeOf Try.f115) 0 (initS [.agg [.int a1, .int a2], .agg [.int b1, .int b2]]) (retK Try.f115.results.toList [.s (.int (sqE a1 a2 b1 b2))]) := by kernel_rfl
set_option maxHeartbeats 400000 in
theorem F_spec_l2Square : FunOK 115 g_spec_l2Square := by
  refine fun_F (by kernel_rfl) Try.func115 rfl (by kernel_rfl) sig_spec_l2Square_ok xs_spec_l2Square_ok ?_
  intro avs sg h hn hl
  unfold g_spec_l2Square at h
  split at h
  · rename_i a1 a2 b1 b2
    injection h with h; subst h
    refine ⟨by kernel_rfl, fun b => [], Eq.mp (V_spec_l2Square a1 a2 b1 b2) ?_⟩
    simp only [true_and, and_true, implies_true, and_self, forall_const, true_implies, lenA, lenL, SV.lenOK, Cont.lenOK] at hn hl ⊢
    exact (sq_v hn.1 hn.2).1
  · cases h
def g_spec_l2Cross : List AV → Option Sg
  | [.agg [.int a1, .int a2], .agg [.int b1, .int b2], .agg [.int c1, .int c2]] => some ⟨True, [.s (.int (crW a1 a2 b1 b2 c1 c2))]⟩
  | _ => none
def sig_spec_l2Cross : FuncId → List AV → Option Sg := sigL []
def xs_spec_l2Cross : XS := ⟨xsigL [], ysigL []⟩
theorem sig_spec_l2Cross_ok : SigOK sig_spec_l2Cross := sigL_nil
theorem xs_spec_l2Cross_ok : XSigOK xs_spec_l2Cross := ⟨xsigL_nil, ysigL_nil⟩
theorem V_spec_l2Cross (a1 : Int) (a2 : Int) (b1 : Int) (b2 : Int) (c1 : Int) (c2 : Int) : ((true = true) ∧ ((True) ∧ (True) ∧ (True) ∧ (True) ∧ True) ∧ (true = true) ∧ ((True) ∧ (True) ∧ (True) ∧ (True) ∧ (True) ∧ (True) ∧ (True) ∧ (True) ∧ (True) ∧ (True) ∧ (True) ∧ (True) ∧ (True) ∧ (True) ∧ (True) ∧ (True) ∧ (True) ∧ (True) ∧ (True) ∧ (True) ∧ (True) ∧ (True) ∧ (True) ∧ (True) ∧ True) ∧ (((isub (imul (isub b1 a1) (isub c2 a2)) (imul (isub b2 a2) (isub c1 a1))) : Int) = (crW a1 a2 b1 b2 c1 c2)) ∧ True) = ev sig_spec_l2Cross xs_spec_l2Cross Try.f109.ntmps (fun b => []) (codeOf Try.f109) 0 (initS [.agg [.int a1, .int a2], .agg [.int b1, .int b2], .agg [.int c1, .int c2]]) (retK Try.f109.results.toList [.s (.int (crW a1 a2 b1 b2 c1 c2))]) := by kernel_rfl
set_option maxHeartbeats 400000 in
theorem F_spec_l2Cross : FunOK 109 g_spec_l2Cross := by
  refine fun_F (by kernel_rfl) Try.func109 rfl (by kernel_rfl) sig_spec_l2Cross_ok xs_spec_l2Cross_ok ?_
  intro avs sg h hn hl
  unfold g_spec_l2Cross at h
  split at h
  · rename_i a1 a2 b1 b2 c1 c2
    injection h with h; subst h
    refine ⟨by kernel_rfl, fun b => [], Eq.mp (V_spec_l2Cross a1 a2 b1 b2 c1 c2) ?_⟩
    simp only [true_and, and_true, implies_true, and_self, forall_const, true_implies, lenA, lenL, SV.lenOK, Cont.lenOK] at hn hl ⊢
    simp only [crW]
  · cases h
def g_spec_l9Square : List AV → Option Sg
  | [.agg [.int p1, .int p2], .agg [.int a1, .int a2], .agg [.int b1, .int b2]] => some ⟨nearB p1 p2 = true ∧ nearB a1 a2 = true ∧ nearB b1 b2 = true, [.s (.int (ssqE p1 p2 a1 a2 b1 b2))]⟩
  | _ => none
def sig_spec_l9Square : FuncId → List AV → Option Sg := sigL [(115, g_spec_l2Square), (109, g_spec_l2Cross)]
def xs_spec_l9Square : XS := ⟨xsigL [], ysigL []⟩
theorem sig_spec_l9Square_ok : SigOK sig_spec_l9Square := sigL_cons F_spec_l2Square (sigL_cons F_spec_l2Cross sigL_nil)
theorem xs_spec_l9Square_ok : XSigOK xs_spec_l9Square := ⟨xsigL_nil, ysigL_nil⟩
theorem V_spec_l9Square (p1 : Int) (p2 : Int) (a1 : Int) (a2 : Int) (b1 : Int) (b2 : Int) : ((true = true) ∧ ((True) ∧ (True) ∧ (True) ∧ (True) ∧ True) ∧ (true = true) ∧ ((True) ∧ (True) ∧ (True) ∧ (True) ∧ (True) ∧ (True) ∧ True) ∧ (true = true) ∧ ((True) ∧ (True) ∧ (True) ∧ (True) ∧ (True) ∧ (True) ∧ True) ∧ (true = true) ∧ ((True) ∧ (True) ∧ (True) ∧ (True) ∧ (True) ∧ (True) ∧ (True) ∧ (True) ∧ True) ∧ (true = true) ∧ ((True) ∧ (True) ∧ (True) ∧ (True) ∧ (True) ∧ (True) ∧ (True) ∧ (True) ∧ (True) ∧ (True) ∧ (True) ∧ (True) ∧ (True) ∧ (True) ∧ (True) ∧ (True) ∧ True) ∧ (true = true) ∧ ((True) ∧ (True) ∧ True) ∧ ((ile (iadd (imul (isub p1 a1) (isub b1 a1)) (imul (isub p2 a2) (isub b2 a2))) (0 : Int)) = true → ((true = true) ∧ ((True) ∧ (True) ∧ ((vB p1 p2 = true ∧ vB a1 a2 = true)) ∧ (True) ∧ True) ∧ (((sqE p1 p2 a1 a2) : Int) = (ssqE p1 p2 a1 a2 b1 b2)) ∧ True)) ∧ ((ile (iadd (imul (isub p1 a1) (isub b1 a1)) (imul (isub p2 a2) (isub b2 a2))) (0 : Int)) = false → ((true = true) ∧ ((True) ∧ (True) ∧ (True) ∧ True) ∧ ((ile (iadd (imul (isub b1 a1) (isub b1 a1)) (imul (isub b2 a2) (isub b2 a2))) (iadd (imul (isub p1 a1) (isub b1 a1)) (imul (isub p2 a2) (isub b2 a2)))) = true → ((true = true) ∧ ((True) ∧ (True) ∧ ((vB p1 p2 = true ∧ vB b1 b2 = true)) ∧ (True) ∧ True) ∧ (((sqE p1 p2 b1 b2) : Int) = (ssqE p1 p2 a1 a2 b1 b2)) ∧ True)) ∧ ((ile (iadd (imul (isub b1 a1) (isub b1 a1)) (imul (isub b2 a2) (isub b2 a2))) (iadd (imul (isub p1 a1) (isub b1 a1)) (imul (isub p2 a2) (isub b2 a2)))) = false → ((true = true) ∧ ((True) ∧ (True) ∧ (True) ∧ ((True)) ∧ (True) ∧ True) ∧ (true = true) ∧ ((True) ∧ (True) ∧ (True) ∧ (True) ∧ (NNe (iadd (imul (isub b1 a1) (isub b1 a1)) (imul (isub b2 a2) (isub b2 a2))) 0) ∧ (True) ∧ True) ∧ (((iquo (imul (crW a1 a2 b1 b2 p1 p2) (crW a1 a2 b1 b2 p1 p2)) (iadd (imul (isub b1 a1) (isub b1 a1)) (imul (isub b2 a2) (isub b2 a2)))) : Int) = (ssqE p1 p2 a1 a2 b1 b2)) ∧ True))))) = ev sig_spec_l9Square xs_spec_l9Square Try.f101.ntmps (fun b => []) (codeOf Try.f101) 0 (initS [.agg [.int p1, .int p2], .agg [.int a1, .int a2], .agg [.int b1, .int b2]]) (retK Try.f101.results.toList [.s (.int (ssqE p1 p2 a1 a2 b1 b2))]) := by kernel_rfl
set_option maxHeartbeats 400000 in
theorem F_spec_l9Square : FunOK 101 g_spec_l9Square := by
  refine fun_F (by kernel_rfl) Try.func101 rfl (by kernel_rfl) sig_spec_l9Square_ok xs_spec_l9Square_ok ?_
  intro avs sg h hn hl
  unfold g_spec_l9Square at h
  split at h
  · rename_i p1 p2 a1 a2 b1 b2
    injection h with h; subst h
    refine ⟨by kernel_rfl, fun b => [], Eq.mp (V_spec_l9Square p1 p2 a1 a2 b1 b2) ?_⟩
    simp only [true_and, and_true, implies_true, and_self, forall_const, true_implies, lenA, lenL, SV.lenOK, Cont.lenOK] at hn hl ⊢
    obtain ⟨np, na, nb⟩ := hn
    have hc := crs_bd na nb np
    have hsq := sq_w na nb
    have sq := sq_w nb na
    have hcm := sqE_comm b1 b2 a1 a2
    rw [hcm] at sq
    simp only [ilt_t, ilt_f, ile_t, ile_f, ieq_t, ieq_f, bnot_e, band_e, bite_and, bite_or, NLt_e, NLe_e, NNe_e, NIs_e, imax_e, imin_e, irem_e, Bool.not_eq_true', Bool.not_eq_false', Bool.and_eq_true, Bool.or_eq_true, Bool.or_eq_false_iff, Bool.and_eq_false_iff, Cont.pts.injEq, Cont.ints.injEq, Cont.bools.injEq, Cont.ptss.injEq, Cont.intss.injEq, Cont.boolss.injEq, true_and, and_true, implies_true, np, na, nb, near_v np, near_v na, near_v nb, crW_e (near_v na) (near_v nb) (near_v np), al_w np na nb, sq.1, mul4 hc hc, true_implies, forall_const]
    refine ⟨fun h => by unfold ssqE; rw [if_pos h], fun h => ⟨fun h2 => by unfold ssqE; rw [if_neg (by omega), if_pos h2], fun h2 => ⟨by omega, ?_⟩⟩⟩
    unfold ssqE
    rw [if_neg (by omega), if_neg (by omega)]
    have := mul4b hc hc
    exact iquo_e (by omega) (by omega) (by omega)
  · cases h
def g_spec_SegmentSquare : List AV → Option Sg
  | [.agg [.int p1, .int p2], .agg [.int a1, .int a2], .agg [.int b1, .int b2]] => some ⟨True, [.s (.int (ssQ p1 p2 a1 a2 b1 b2))]⟩
  | _ => none
def sig_spec_SegmentSquare : FuncId → List AV → Option Sg := sigL [(100, g_spec_l9Near), (101, g_spec_l9Square)]
def xs_spec_SegmentSquare : XS := ⟨xsigL [], ysigL []⟩
theorem sig_spec_SegmentSquare_ok : SigOK sig_spec_SegmentSquare := sigL_cons F_spec_l9Near (sigL_cons F_spec_l9Square sigL_nil)
theorem xs_spec_SegmentSquare_ok : XSigOK xs_spec_SegmentSquare := ⟨xsigL_nil, ysigL_nil⟩
theorem V_spec_SegmentSquare (p1 : Int) (p2 : Int) (a1 : Int) (a2 : Int) (b1 : Int) (b2 : Int) : ((true = true) ∧ ((True) ∧ (True) ∧ (True) ∧ (True) ∧ True) ∧ (true = true) ∧ ((True) ∧ ((True)) ∧ (True) ∧ (True) ∧ (NIs (bnot (nearB p1 p2)) false → True) ∧ (NIs (bnot (nearB p1 p2)) false → (True)) ∧ (NIs (bnot (nearB p1 p2)) false → True) ∧ (True) ∧ (True) ∧ (NIs (bite (bnot (nearB p1 p2)) true (bnot (nearB a1 a2))) false → True) ∧ (NIs (bite (bnot (nearB p1 p2)) true (bnot (nearB a1 a2))) false → (True)) ∧ (NIs (bite (bnot (nearB p1 p2)) true (bnot (nearB a1 a2))) false → True) ∧ (True) ∧ True) ∧ ((bite (bite (bnot (nearB p1 p2)) true (bnot (nearB a1 a2))) true (bnot (nearB b1 b2))) = true → ((true = true) ∧ ((True) ∧ True) ∧ (((-1 : Int) : Int) = (ssQ p1 p2 a1 a2 b1 b2)) ∧ True)) ∧ ((bite (bite (bnot (nearB p1 p2)) true (bnot (nearB a1 a2))) true (bnot (nearB b1 b2))) = false → ((true = true) ∧ ((True) ∧ (True) ∧ (True) ∧ ((nearB p1 p2 = true ∧ nearB a1 a2 = true ∧ nearB b1 b2 = true)) ∧ (True) ∧ True) ∧ (((ssqE p1 p2 a1 a2 b1 b2) : Int) = (ssQ p1 p2 a1 a2 b1 b2)) ∧ True))) = ev sig_spec_SegmentSquare xs_spec_SegmentSquare Try.f65.ntmps (fun b => []) (codeOf Try.f65) 0 (initS [.agg [.int p1, .int p2], .agg [.int a1, .int a2], .agg [.int b1, .int b2]]) (retK Try.f65.results.toList [.s (.int (ssQ p1 p2 a1 a2 b1 b2))]) := by kernel_rfl
set_option maxHeartbeats 400000 in
theorem F_spec_SegmentSquare : FunOK 65 g_spec_SegmentSquare := by
  refine fun_F (by kernel_rfl) Try.func65 rfl (by kernel_rfl) sig_spec_SegmentSquare_ok xs_spec_SegmentSquare_ok ?_
  intro avs sg h hn hl
  unfold g_spec_SegmentSquare at h
  split at h
  · rename_i p1 p2 a1 a2 b1 b2
    injection h with h; subst h
    refine ⟨by kernel_rfl, fun b => [], Eq.mp (V_spec_SegmentSquare p1 p2 a1 a2 b1 b2) ?_⟩
    simp only [true_and, and_true, implies_true, and_self, forall_const, true_implies, lenA, lenL, SV.lenOK, Cont.lenOK] at hn hl ⊢
    simp only [ilt_t, ilt_f, ile_t, ile_f, ieq_t, ieq_f, bnot_e, band_e, bite_and, bite_or, NLt_e, NLe_e, NNe_e, NIs_e, imax_e, imin_e, irem_e, Bool.not_eq_true', Bool.not_eq_false', Bool.and_eq_true, Bool.or_eq_true, Bool.or_eq_false_iff, Bool.and_eq_false_iff, Cont.pts.injEq, Cont.ints.injEq, Cont.bools.injEq, Cont.ptss.injEq, Cont.intss.injEq, Cont.boolss.injEq, true_and, and_true, implies_true]
    unfold ssQ
    cases h1 : nearB p1 p2 <;> cases h2 : nearB a1 a2 <;> cases h3 : nearB b1 b2 <;> simp
  · cases h
def degW (d : Int) : Int := irem (iadd (irem d 360) 360) 360
def g_impl_Degrees : List AV → Option Sg
  | [.s (.int d)] => some ⟨True, [.s (.int (degW d))]⟩
  | _ => none
def sig_impl_Degrees : FuncId → List AV → Option Sg := sigL []
def xs_impl_Degrees : XS := ⟨xsigL [], ysigL []⟩
theorem sig_impl_Degrees_ok : SigOK sig_impl_Degrees := sigL_nil
theorem xs_impl_Degrees_ok : XSigOK xs_impl_Degrees := ⟨xsigL_nil, ysigL_nil⟩
theorem V_impl_Degrees (d : Int) : ((true = true) ∧ ((True) ∧ True) ∧ (true = true) ∧ ((True) ∧ (NNe (360 : Int) 0) ∧ (True) ∧ (NNe (360 : Int) 0) ∧ (True) ∧ True) ∧ (((irem (iadd (irem d (360 : Int)) (360 : Int)) (360 : Int)) : Int) = (degW d)) ∧ True) = ev sig_impl_Degrees xs_impl_Degrees Try.f73.ntmps (fun b => []) (codeOf Try.f73) 0 (initS [.s (.int d)]) (retK Try.f73.results.toList [.s (.int (degW d))]) := by kernel_rfl
set_option maxHeartbeats 400000 in
theorem F_impl_Degrees : FunOK 73 g_impl_Degrees := by
  refine fun_F (by kernel_rfl) Try.func73 rfl (by kernel_rfl) sig_impl_Degrees_ok xs_impl_Degrees_ok ?_
  intro avs sg h hn hl
  unfold g_impl_Degrees at h
  split at h
  · rename_i d
    injection h with h; subst h
    refine ⟨by kernel_rfl, fun b => [], Eq.mp (V_impl_Degrees d) ?_⟩
    simp only [true_and, and_true, implies_true, and_self, forall_const, true_implies, lenA, lenL, SV.lenOK, Cont.lenOK] at hn hl ⊢
    simp only [ilt_t, ilt_f, ile_t, ile_f, ieq_t, ieq_f, bnot_e, band_e, bite_and, bite_or, NLt_e, NLe_e, NNe_e, NIs_e, imax_e, imin_e, irem_e, Bool.not_eq_true', Bool.not_eq_false', Bool.and_eq_true, Bool.or_eq_true, Bool.or_eq_false_iff, Bool.and_eq_false_iff, Cont.pts.injEq, Cont.ints.injEq, Cont.bools.injEq, Cont.ptss.injEq, Cont.intss.injEq, Cont.boolss.injEq, true_and, and_true, implies_true]
    exact ⟨by decide, by simp [degW, irem_e]⟩
  · cases h
def g_laws_alive : List AV → Option Sg
  | [] => some ⟨True, [.s (.bool (true))]⟩
  | _ => none
def sig_laws_alive : FuncId → List AV → Option Sg := sigL [(73, g_impl_Degrees)]
def xs_laws_alive : XS := ⟨xsigL [], ysigL []⟩
theorem sig_laws_alive_ok : SigOK sig_laws_alive := sigL_cons F_impl_Degrees sigL_nil
theorem xs_laws_alive_ok : XSigOK xs_laws_alive := ⟨xsigL_nil, ysigL_nil⟩
theorem V_laws_alive  : ((true = true) ∧ ((True) ∧ True) ∧ (true = true) ∧ (((True)) ∧ (True) ∧ (True) ∧ True) ∧ (((ieq (degW (-1 : Int)) (359 : Int)) : Bool) = (true)) ∧ True) = ev sig_laws_alive xs_laws_alive Try.f23.ntmps (fun b => []) (codeOf Try.f23) 0 (initS []) (retK Try.f23.results.toList [.s (.bool (true))]) := by kernel_rfl
set_option maxHeartbeats 400000 in
theorem F_laws_alive : FunOK 23 g_laws_alive := by
  refine fun_F (by kernel_rfl) Try.func23 rfl (by kernel_rfl) sig_laws_alive_ok xs_laws_alive_ok ?_
  intro avs sg h hn hl
  unfold g_laws_alive at h
  split at h
  ·
    injection h with h; subst h
    refine ⟨by kernel_rfl, fun b => [], Eq.mp (V_laws_alive ) ?_⟩
    simp only [true_and, and_true, implies_true, and_self, forall_const, true_implies, lenA, lenL, SV.lenOK, Cont.lenOK] at hn hl ⊢
    unfold ieq degW
    rw [irem_e, irem_e, iadd_e (by decide) (by decide)]
    decide
  · cases h
def g_impl_PointValid : List AV → Option Sg
  | [.agg [.int p1, .int p2]] => some ⟨True, [.s (.bool (vB p1 p2))]⟩
  | _ => none
def sig_impl_PointValid : FuncId → List AV → Option Sg := sigL [(68, g_impl_within)]
def xs_impl_PointValid : XS := ⟨xsigL [], ysigL []⟩
theorem sig_impl_PointValid_ok : SigOK sig_impl_PointValid := sigL_cons F_impl_within sigL_nil
theorem xs_impl_PointValid_ok : XSigOK xs_impl_PointValid := ⟨xsigL_nil, ysigL_nil⟩
theorem V_impl_PointValid (p1 : Int) (p2 : Int) : ((true = true) ∧ ((True) ∧ (True) ∧ True) ∧ (true = true) ∧ ((True) ∧ (True) ∧ ((True)) ∧ (True) ∧ (NIs (inB p1 (-10000 : Int) (10000 : Int)) true → True) ∧ (NIs (inB p1 (-10000 : Int) (10000 : Int)) true → True) ∧ (NIs (inB p1 (-10000 : Int) (10000 : Int)) true → (True)) ∧ (True) ∧ (True) ∧ True) ∧ (((bite (inB p1 (-10000 : Int) (10000 : Int)) (inB p2 (-10000 : Int) (10000 : Int)) false) : Bool) = (vB p1 p2)) ∧ True) = ev sig_impl_PointValid xs_impl_PointValid Try.f24.ntmps (fun b => []) (codeOf Try.f24) 0 (initS [.agg [.int p1, .int p2]]) (retK Try.f24.results.toList [.s (.bool (vB p1 p2))]) := by kernel_rfl
set_option maxHeartbeats 400000 in
theorem F_impl_PointValid : FunOK 24 g_impl_PointValid := by
  refine fun_F (by kernel_rfl) Try.func24 rfl (by kernel_rfl) sig_impl_PointValid_ok xs_impl_PointValid_ok ?_
  intro avs sg h hn hl
  unfold g_impl_PointValid at h
  split at h
  · rename_i p1 p2
    injection h with h; subst h
    refine ⟨by kernel_rfl, fun b => [], Eq.mp (V_impl_PointValid p1 p2) ?_⟩
    simp only [true_and, and_true, implies_true, and_self, forall_const, true_implies, lenA, lenL, SV.lenOK, Cont.lenOK] at hn hl ⊢
    simp only [bite_and, vB]
  · cases h
def g_impl_allPoints : List AV → Option Sg
  | [.s (.view (.pts l))] => some ⟨True, [.s (.bool (allB l))]⟩
  | _ => none
def sig_impl_allPoints : FuncId → List AV → Option Sg := sigL [(24, g_impl_PointValid)]
def xs_impl_allPoints : XS := ⟨xsigL [], ysigL []⟩
theorem sig_impl_allPoints_ok : SigOK sig_impl_allPoints := sigL_cons F_impl_PointValid sigL_nil
theorem xs_impl_allPoints_ok : XSigOK xs_impl_allPoints := ⟨xsigL_nil, ysigL_nil⟩
theorem V_impl_allPoints (l : List Pt) : ((true = true) ∧ ((True) ∧ True) ∧ (true = true) ∧ ((True) ∧ (True) ∧ (True) ∧ True) ∧ ∃ (I1 : List GV → Prop) (μ1 : List GV → Nat), (((true = true) ∧ (((false : Bool) = false) ∧ (((0 : Int) : Int) = (0 : Int)) ∧ ((Cont.pts l) = (Cont.pts l)) ∧ (((ilen l) : Int) = (ilen l)) ∧ ((Cont.pts l) = (Cont.pts l)) ∧ True) ∧ (True)) ∧ (([GK.int, GK.bool] : List GK) = ([GK.int, GK.bool] : List GK)) ∧ I1 [GV.int (0 : Int), GV.bool false]) ∧ (∀ i1_0 : Int, ∀ b1_1 : Bool, I1 [GV.int i1_0, GV.bool b1_1] → ((true = true) ∧ ((True) ∧ True) ∧ ((ilt i1_0 (ilen l)) = true → ((true = true) ∧ ((NLe 0 i1_0 ∧ NLt i1_0 (ilen l)) ∧ (True) ∧ (True) ∧ True) ∧ (True) ∧ (true = true) ∧ ((True) ∧ ((True)) ∧ (True) ∧ True) ∧ ((bnot (vB (getx l i1_0) (gety l i1_0))) = true → ((true = true) ∧ ((True) ∧ True) ∧ ((false : Bool) = (allB l)) ∧ True)) ∧ ((bnot (vB (getx l i1_0) (gety l i1_0))) = false → ((true = true) ∧ ((True) ∧ (True) ∧ True) ∧ ((true = true) ∧ (((b1_1 : Bool) = b1_1) ∧ (((iadd i1_0 (1 : Int)) : Int) = (iadd i1_0 (1 : Int))) ∧ ((Cont.pts l) = (Cont.pts l)) ∧ (((ilen l) : Int) = (ilen l)) ∧ ((Cont.pts l) = (Cont.pts l)) ∧ True) ∧ (True)) ∧ ((([GK.int, GK.bool] : List GK) = ([GK.int, GK.bool] : List GK)) ∧ I1 [GV.int (iadd i1_0 (1 : Int)), GV.bool b1_1] ∧ μ1 [GV.int (iadd i1_0 (1 : Int)), GV.bool b1_1] < μ1 [GV.int i1_0, GV.bool b1_1]))))) ∧ ((ilt i1_0 (ilen l)) = false → ((true = true) ∧ ((True) ∧ True) ∧ ((true : Bool) = (allB l)) ∧ True))))) = ev sig_impl_allPoints xs_impl_allPoints Try.f69.ntmps (fun b => if b == 0 then [.v 7, .v 2] else []) (codeOf Try.f69) 0 (initS [.s (.view (.pts l))]) (retK Try.f69.results.toList [.s (.bool (allB l))]) := by kernel_rfl
set_option maxHeartbeats 400000 in
theorem F_impl_allPoints : FunOK 69 g_impl_allPoints := by
  refine fun_F (by kernel_rfl) Try.func69 rfl (by kernel_rfl) sig_impl_allPoints_ok xs_impl_allPoints_ok ?_
  intro avs sg h hn hl
  unfold g_impl_allPoints at h
  split at h
  · rename_i l
    injection h with h; subst h
    refine ⟨by kernel_rfl, fun b => if b == 0 then [.v 7, .v 2] else [], Eq.mp (V_impl_allPoints l) ?_⟩
    simp only [true_and, and_true, implies_true, and_self, forall_const, true_implies, lenA, lenL, SV.lenOK, Cont.lenOK] at hn hl ⊢
    have h0 := ilen_0 l
    simp only [ilt_t, ilt_f, ile_t, ile_f, ieq_t, ieq_f, bnot_e, band_e, bite_and, bite_or, NLt_e, NLe_e, NNe_e, NIs_e, imax_e, imin_e, irem_e, Bool.not_eq_true', Bool.not_eq_false', Bool.and_eq_true, Bool.or_eq_true, Bool.or_eq_false_iff, Bool.and_eq_false_iff, Cont.pts.injEq, Cont.ints.injEq, Cont.bools.injEq, Cont.ptss.injEq, Cont.intss.injEq, Cont.boolss.injEq, true_and, and_true, implies_true]
    refine ⟨fun | .int k :: _ => 0 ≤ k ∧ k ≤ ilen l ∧ (∀ j, 0 ≤ j → j < k → vB (getx l j) (gety l j) = true) | _ => False, fun | .int k :: _ => (ilen l - k).toNat | _ => 0, ?_, ?_⟩
    · exact ⟨Int.le_refl 0, h0, fun j h0 h1 => absurd h1 (by omega)⟩
    · rintro k _ ⟨hk0, hk1, hk⟩
      simp only [ilt_t, ilt_f, ile_t, ile_f, ieq_t, ieq_f, bnot_e, band_e, bite_and, bite_or, NLt_e, NLe_e, NNe_e, NIs_e, imax_e, imin_e, irem_e, Bool.not_eq_true', Bool.not_eq_false', Bool.and_eq_true, Bool.or_eq_true, Bool.or_eq_false_iff, Bool.and_eq_false_iff, Cont.pts.injEq, Cont.ints.injEq, Cont.bools.injEq, Cont.ptss.injEq, Cont.intss.injEq, Cont.boolss.injEq, true_and, and_true, implies_true]
      refine ⟨fun hc => ⟨⟨hk0, hc⟩, fun hv => ?_, fun hv => ?_⟩, fun hc => ?_⟩
      · rw [allB_N, allN_no k hk0 hc hv]
      · rw [iadd_1 hk0 hc hl]
        exact ⟨⟨by omega, by omega, allN_up hk hv⟩, by omega⟩
      · rw [allB_N, allN_mk fun j h0 h1 => hk j h0 (by omega)]
  · cases h
def insE (l : List Pt) (p1 p2 i : Int) : Bool := decide (0 ≤ crW (getx l i) (gety l i) (getx l (nx l i)) (gety l (nx l i)) p1 p2)
def insB (l : List Pt) (p1 p2 : Int) : Bool := allN (ilen l) (insE l p1 p2)
def hitE (l : List Pt) (a1 a2 b1 b2 i : Int) : Bool := meetB (a1, a2) (b1, b2) (getx l i, gety l i) (getx l (nx l i), gety l (nx l i))
def hitB (l : List Pt) (a1 a2 b1 b2 : Int) : Bool := insB l a1 a2 || insB l b1 b2 || anyN (ilen l) (hitE l a1 a2 b1 b2)
theorem allB_at {l : List Pt} (h : allB l = true) {i : Int} (h0 : 0 ≤ i) (h1 : i < ilen l) : vB (getx l i) (gety l i) = true := by
  rw [allB_N] at h; exact allN_iff.1 h i h0 h1
theorem convB_all {l : List Pt} (h : convB l = true) : 3 ≤ ilen l ∧ ilen l ≤ 8 ∧ allB l = true := by
  unfold convB at h
  simp only [Bool.and_eq_true] at h
  exact ⟨(inB_true h.1.1).1, (inB_true h.1.1).2, h.1.2⟩
theorem allB_2 (a1 a2 b1 b2 : Int) : allB [(a1, a2), (b1, b2)] = (vB a1 a2 && vB b1 b2) := by simp [allB]
def g_impl_SquaredDistance : List AV → Option Sg
  | [.agg [.int a1, .int a2], .agg [.int b1, .int b2]] => some ⟨True, [.s (.int (if vB a1 a2 && vB b1 b2 then sqE a1 a2 b1 b2 else -1))]⟩
  | _ => none
def sig_impl_SquaredDistance : FuncId → List AV → Option Sg := sigL [(69, g_impl_allPoints), (102, g_impl_square)]
def xs_impl_SquaredDistance : XS := ⟨xsigL [], ysigL []⟩
theorem sig_impl_SquaredDistance_ok : SigOK sig_impl_SquaredDistance := sigL_cons F_impl_allPoints (sigL_cons F_impl_square sigL_nil)
theorem xs_impl_SquaredDistance_ok : XSigOK xs_impl_SquaredDistance := ⟨xsigL_nil, ysigL_nil⟩
theorem V_impl_SquaredDistance (a1 : Int) (a2 : Int) (b1 : Int) (b2 : Int) : ((true = true) ∧ ((True) ∧ (True) ∧ (True) ∧ True) ∧ (true = true) ∧ ((True) ∧ (True) ∧ (True) ∧ ((True)) ∧ (True) ∧ True) ∧ ((bnot (allB [(a1, a2), (b1, b2)])) = true → ((true = true) ∧ ((True) ∧ True) ∧ (((-1 : Int) : Int) = (if vB a1 a2 && vB b1 b2 then sqE a1 a2 b1 b2 else -1)) ∧ True)) ∧ ((bnot (allB [(a1, a2), (b1, b2)])) = false → ((true = true) ∧ ((True) ∧ (True) ∧ ((vB a1 a2 = true ∧ vB b1 b2 = true)) ∧ (True) ∧ True) ∧ (((sqE a1 a2 b1 b2) : Int) = (if vB a1 a2 && vB b1 b2 then sqE a1 a2 b1 b2 else -1)) ∧ True))) = ev sig_impl_SquaredDistance xs_impl_SquaredDistance Try.f66.ntmps (fun b => []) (codeOf Try.f66) 0 (initS [.agg [.int a1, .int a2], .agg [.int b1, .int b2]]) (retK Try.f66.results.toList [.s (.int (if vB a1 a2 && vB b1 b2 then sqE a1 a2 b1 b2 else -1))]) := by kernel_rfl
set_option maxHeartbeats 400000 in
theorem F_impl_SquaredDistance : FunOK 66 g_impl_SquaredDistance := by
  refine fun_F (by kernel_rfl) Try.func66 rfl (by kernel_rfl) sig_impl_SquaredDistance_ok xs_impl_SquaredDistance_ok ?_
  intro avs sg h hn hl
  unfold g_impl_SquaredDistance at h
  split at h
  · rename_i a1 a2 b1 b2
    injection h with h; subst h
    refine ⟨by kernel_rfl, fun b => [], Eq.mp (V_impl_SquaredDistance a1 a2 b1 b2) ?_⟩
    simp only [true_and, and_true, implies_true, and_self, forall_const, true_implies, lenA, lenL, SV.lenOK, Cont.lenOK] at hn hl ⊢
    simp only [ilt_t, ilt_f, ile_t, ile_f, ieq_t, ieq_f, bnot_e, band_e, bite_and, bite_or, NLt_e, NLe_e, NNe_e, NIs_e, imax_e, imin_e, irem_e, Bool.not_eq_true', Bool.not_eq_false', Bool.and_eq_true, Bool.or_eq_true, Bool.or_eq_false_iff, Bool.and_eq_false_iff, Cont.pts.injEq, Cont.ints.injEq, Cont.bools.injEq, Cont.ptss.injEq, Cont.intss.injEq, Cont.boolss.injEq, true_and, and_true, implies_true, allB_2]
    cases h1 : vB a1 a2 <;> cases h2 : vB b1 b2 <;> simp
  · cases h
theorem bxor_self (a : Bool) : bxor a a = false := by cases a <;> simp [bxor]
def sqd (a b : Pt) : Int := (a.1 - b.1) * (a.1 - b.1) + (a.2 - b.2) * (a.2 - b.2)
def dotA (p a b : Pt) : Int := (p.1 - a.1) * (b.1 - a.1) + (p.2 - a.2) * (b.2 - a.2)
def segSq (p a b : Pt) : Int := if dotA p a b ≤ 0 then sqd p a else if sqd a b ≤ dotA p a b then sqd p b else crs a b p * crs a b p / sqd a b
theorem sq_nonneg (x : Int) : 0 ≤ x * x := by
  rcases Int.le_total 0 x with h | h
  · exact Int.mul_nonneg h h
  · exact Int.mul_nonneg_of_nonpos_of_nonpos h h
theorem segSq_1 {p a b : Pt} (h : dotA p a b ≤ 0) : segSq p a b = sqd p a := by unfold segSq; rw [if_pos h]
theorem segSq_2 {p a b : Pt} (h : ¬ dotA p a b ≤ 0) (h2 : sqd a b ≤ dotA p a b) : segSq p a b = sqd p b := by unfold segSq; rw [if_neg h, if_pos h2]
theorem segSq_3 {p a b : Pt} (h : ¬ dotA p a b ≤ 0) (h2 : ¬ sqd a b ≤ dotA p a b) : segSq p a b = crs a b p * crs a b p / sqd a b := by unfold segSq; rw [if_neg h, if_neg h2]
def Lim (x : Int) : Prop := -50000 ≤ x ∧ x ≤ 50000
theorem sqd_nonneg (a b : Pt) : 0 ≤ sqd a b := by
  have := sq_nonneg (a.1 - b.1); have := sq_nonneg (a.2 - b.2); unfold sqd; omega
theorem sqd_comm (a b : Pt) : sqd a b = sqd b a := by unfold sqd; grind
theorem sqd_zero {a b : Pt} (h : sqd a b = 0) : a = b := by
  have h1 := sq_nonneg (a.1 - b.1); have h2 := sq_nonneg (a.2 - b.2)
  unfold sqd at h
  have e1 : (a.1 - b.1) * (a.1 - b.1) = 0 := by omega
  have e2 : (a.2 - b.2) * (a.2 - b.2) = 0 := by omega
  have e1 := Int.mul_eq_zero.1 e1
  have e2 := Int.mul_eq_zero.1 e2
  exact Prod.ext (by omega) (by omega)
theorem dot_swap (p a b : Pt) : dotA p b a = sqd a b - dotA p a b := by unfold dotA sqd; grind
theorem crs_swap (p a b : Pt) : crs b a p = - crs a b p := by unfold crs; grind
theorem lagrange (p a b : Pt) : crs a b p * crs a b p + dotA p a b * dotA p a b = sqd a b * sqd p a := by unfold crs dotA sqd; grind
theorem far_end (p a b : Pt) : sqd p a = sqd p b + 2 * (dotA p a b - sqd a b) + sqd a b := by unfold dotA sqd; grind
theorem segSq_comm (p a b : Pt) : segSq p b a = segSq p a b := by
  have hs := dot_swap p a b
  have hL := sqd_nonneg a b
  by_cases h1 : dotA p a b ≤ 0
  · rw [segSq_1 h1]
    by_cases h2 : dotA p b a ≤ 0
    · have : sqd a b = 0 := by omega
      rw [segSq_1 h2, sqd_zero this]
    · rw [segSq_2 h2 (by rw [sqd_comm]; omega)]
  · by_cases h2 : sqd a b ≤ dotA p a b
    · rw [segSq_2 h1 h2, segSq_1 (by omega)]
    · rw [segSq_3 h1 h2, segSq_3 (by omega) (by rw [sqd_comm]; omega), crs_swap, sqd_comm b a, Int.neg_mul_neg]
theorem segSq_le (p a b : Pt) : segSq p a b ≤ sqd p a := by
  by_cases h1 : dotA p a b ≤ 0
  · rw [segSq_1 h1]; exact Int.le_refl _
  · by_cases h2 : sqd a b ≤ dotA p a b
    · rw [segSq_2 h1 h2]
      have := far_end p a b
      have := sqd_nonneg a b
      omega
    · rw [segSq_3 h1 h2]
      have hl := lagrange p a b
      have := sq_nonneg (dotA p a b)
      have hL := sqd_nonneg a b
      have h0 : 0 < sqd a b := by omega
      exact Int.ediv_le_of_le_mul h0 (by have e := Int.mul_comm (sqd p a) (sqd a b); omega)
theorem segSq_nonneg (p a b : Pt) : 0 ≤ segSq p a b := by
  by_cases h1 : dotA p a b ≤ 0
  · rw [segSq_1 h1]; exact sqd_nonneg _ _
  · by_cases h2 : sqd a b ≤ dotA p a b
    · rw [segSq_2 h1 h2]; exact sqd_nonneg _ _
    · rw [segSq_3 h1 h2]; exact Int.ediv_nonneg (sq_nonneg _) (sqd_nonneg _ _)
theorem segSq_end (a b : Pt) : segSq a a b = 0 := by
  rw [segSq_1 (by unfold dotA; simp)]; unfold sqd; simp
theorem segSq_point (p a : Pt) : segSq p a a = sqd p a := segSq_1 (by unfold dotA; simp)
theorem ssqE_seg (p1 p2 a1 a2 b1 b2 : Int) : ssqE p1 p2 a1 a2 b1 b2 = segSq (p1, p2) (a1, a2) (b1, b2) := by
  unfold ssqE segSq
  show (if dotA (p1, p2) (a1, a2) (b1, b2) ≤ 0 then _ else if sqd (a1, a2) (b1, b2) ≤ dotA (p1, p2) (a1, a2) (b1, b2) then _ else _) = _
  rw [Int.tdiv_eq_ediv_of_nonneg (sq_nonneg _)]
  rfl
def g_laws_FnSegmentSquare : List AV → Option Sg
  | [.s (.rdr n)] => some ⟨True, [.s (.bool (true))]⟩
  | _ => none
def sig_laws_FnSegmentSquare : FuncId → List AV → Option Sg := sigL [(64, g_impl_SegmentSquare), (65, g_spec_SegmentSquare), (23, g_laws_alive), (66, g_impl_SquaredDistance)]
def xs_laws_FnSegmentSquare : XS := ⟨xsigL [], ysigL [(63, g_spec_DrawSegmentSquare)]⟩
theorem sig_laws_FnSegmentSquare_ok : SigOK sig_laws_FnSegmentSquare := sigL_cons F_impl_SegmentSquare (sigL_cons F_spec_SegmentSquare (sigL_cons F_laws_alive (sigL_cons F_impl_SquaredDistance sigL_nil)))
theorem xs_laws_FnSegmentSquare_ok : XSigOK xs_laws_FnSegmentSquare := ⟨xsigL_nil, ysigL_cons F_spec_DrawSegmentSquare ysigL_nil⟩
theorem V_laws_FnSegmentSquare (n : Int) : ((true = true) ∧ ((True) ∧ True) ∧ (true = true) ∧ ((True) ∧ (True) ∧ (True) ∧ True) ∧ ((ilt (1048576 : Int) n) = true → ((true = true) ∧ ((True) ∧ True) ∧ ((true : Bool) = (true)) ∧ True)) ∧ ((ilt (1048576 : Int) n) = false → ((true = true) ∧ ((True) ∧ True) ∧ (true = true) ∧ ((n ≤ 1048576)) ∧ (∀ a_23 : Int, ∀ b_24 : Int, ∀ c_25 : Int, ∀ d_26 : Int, ∀ e_27 : Int, ∀ f_28 : Int, ((-100000 ≤ a_23 ∧ a_23 ≤ 100000 ∧ -100000 ≤ b_24 ∧ b_24 ≤ 100000 ∧ -100000 ≤ c_25 ∧ c_25 ≤ 100000 ∧ -100000 ≤ d_26 ∧ d_26 ≤ 100000 ∧ -100000 ≤ e_27 ∧ e_27 ≤ 100000 ∧ -100000 ≤ f_28 ∧ f_28 ≤ 100000) → ((true = true) ∧ ((true = true) ∧ ((true = true) ∧ ((true = true) ∧ ((True) ∧ (True) ∧ (True) ∧ (True) ∧ (True) ∧ (True) ∧ (true = true) ∧ ((True) ∧ (True) ∧ (True) ∧ ((True)) ∧ (True) ∧ True) ∧ (true = true) ∧ ((True) ∧ (True) ∧ (True) ∧ (True) ∧ ((True)) ∧ (True) ∧ (True) ∧ (NIs (bnot (ieq (ssQ (a_23) (b_24) (c_25) (d_26) (e_27) (f_28)) (ssQ (a_23) (b_24) (c_25) (d_26) (e_27) (f_28)))) false → True) ∧ (NIs (bnot (ieq (ssQ (a_23) (b_24) (c_25) (d_26) (e_27) (f_28)) (ssQ (a_23) (b_24) (c_25) (d_26) (e_27) (f_28)))) false → True) ∧ (NIs (bnot (ieq (ssQ (a_23) (b_24) (c_25) (d_26) (e_27) (f_28)) (ssQ (a_23) (b_24) (c_25) (d_26) (e_27) (f_28)))) false → True) ∧ (NIs (bnot (ieq (ssQ (a_23) (b_24) (c_25) (d_26) (e_27) (f_28)) (ssQ (a_23) (b_24) (c_25) (d_26) (e_27) (f_28)))) false → True) ∧ (NIs (bnot (ieq (ssQ (a_23) (b_24) (c_25) (d_26) (e_27) (f_28)) (ssQ (a_23) (b_24) (c_25) (d_26) (e_27) (f_28)))) false → (True)) ∧ (NIs (bnot (ieq (ssQ (a_23) (b_24) (c_25) (d_26) (e_27) (f_28)) (ssQ (a_23) (b_24) (c_25) (d_26) (e_27) (f_28)))) false → True) ∧ (True) ∧ True) ∧ ((bite (bnot (ieq (ssQ (a_23) (b_24) (c_25) (d_26) (e_27) (f_28)) (ssQ (a_23) (b_24) (c_25) (d_26) (e_27) (f_28)))) true (bnot (ieq (ssQ (a_23) (b_24) (c_25) (d_26) (e_27) (f_28)) (ssQ (a_23) (b_24) (e_27) (f_28) (c_25) (d_26))))) = true → ((true = true) ∧ ((True) ∧ True) ∧ ((false : Bool) = (true)) ∧ True)) ∧ ((bite (bnot (ieq (ssQ (a_23) (b_24) (c_25) (d_26) (e_27) (f_28)) (ssQ (a_23) (b_24) (c_25) (d_26) (e_27) (f_28)))) true (bnot (ieq (ssQ (a_23) (b_24) (c_25) (d_26) (e_27) (f_28)) (ssQ (a_23) (b_24) (e_27) (f_28) (c_25) (d_26))))) = false → ((true = true) ∧ ((True) ∧ (True) ∧ True) ∧ ((ilt (ssQ (a_23) (b_24) (c_25) (d_26) (e_27) (f_28)) (0 : Int)) = true → ((true = true) ∧ ((True) ∧ (True) ∧ (True) ∧ (NIs (ieq (ssQ (a_23) (b_24) (c_25) (d_26) (e_27) (f_28)) (-1 : Int)) true → (True)) ∧ (True) ∧ (True) ∧ True) ∧ (((bite (ieq (ssQ (a_23) (b_24) (c_25) (d_26) (e_27) (f_28)) (-1 : Int)) (true) false) : Bool) = (true)) ∧ True)) ∧ ((ilt (ssQ (a_23) (b_24) (c_25) (d_26) (e_27) (f_28)) (0 : Int)) = false → ((true = true) ∧ ((True) ∧ (True) ∧ (True) ∧ ((True)) ∧ (True) ∧ (True) ∧ (NIs (ile (ssQ (a_23) (b_24) (c_25) (d_26) (e_27) (f_28)) (if vB (a_23) (b_24) && vB (c_25) (d_26) then sqE (a_23) (b_24) (c_25) (d_26) else -1)) true → True) ∧ (NIs (ile (ssQ (a_23) (b_24) (c_25) (d_26) (e_27) (f_28)) (if vB (a_23) (b_24) && vB (c_25) (d_26) then sqE (a_23) (b_24) (c_25) (d_26) else -1)) true → True) ∧ (NIs (ile (ssQ (a_23) (b_24) (c_25) (d_26) (e_27) (f_28)) (if vB (a_23) (b_24) && vB (c_25) (d_26) then sqE (a_23) (b_24) (c_25) (d_26) else -1)) true → True) ∧ (NIs (ile (ssQ (a_23) (b_24) (c_25) (d_26) (e_27) (f_28)) (if vB (a_23) (b_24) && vB (c_25) (d_26) then sqE (a_23) (b_24) (c_25) (d_26) else -1)) true → (True)) ∧ (NIs (ile (ssQ (a_23) (b_24) (c_25) (d_26) (e_27) (f_28)) (if vB (a_23) (b_24) && vB (c_25) (d_26) then sqE (a_23) (b_24) (c_25) (d_26) else -1)) true → True) ∧ (True) ∧ (True) ∧ (NIs (bite (ile (ssQ (a_23) (b_24) (c_25) (d_26) (e_27) (f_28)) (if vB (a_23) (b_24) && vB (c_25) (d_26) then sqE (a_23) (b_24) (c_25) (d_26) else -1)) (ile (ssQ (a_23) (b_24) (c_25) (d_26) (e_27) (f_28)) (if vB (a_23) (b_24) && vB (e_27) (f_28) then sqE (a_23) (b_24) (e_27) (f_28) else -1)) false) true → True) ∧ (NIs (bite (ile (ssQ (a_23) (b_24) (c_25) (d_26) (e_27) (f_28)) (if vB (a_23) (b_24) && vB (c_25) (d_26) then sqE (a_23) (b_24) (c_25) (d_26) else -1)) (ile (ssQ (a_23) (b_24) (c_25) (d_26) (e_27) (f_28)) (if vB (a_23) (b_24) && vB (e_27) (f_28) then sqE (a_23) (b_24) (e_27) (f_28) else -1)) false) true → True) ∧ (NIs (bite (ile (ssQ (a_23) (b_24) (c_25) (d_26) (e_27) (f_28)) (if vB (a_23) (b_24) && vB (c_25) (d_26) then sqE (a_23) (b_24) (c_25) (d_26) else -1)) (ile (ssQ (a_23) (b_24) (c_25) (d_26) (e_27) (f_28)) (if vB (a_23) (b_24) && vB (e_27) (f_28) then sqE (a_23) (b_24) (e_27) (f_28) else -1)) false) true → True) ∧ (NIs (bite (ile (ssQ (a_23) (b_24) (c_25) (d_26) (e_27) (f_28)) (if vB (a_23) (b_24) && vB (c_25) (d_26) then sqE (a_23) (b_24) (c_25) (d_26) else -1)) (ile (ssQ (a_23) (b_24) (c_25) (d_26) (e_27) (f_28)) (if vB (a_23) (b_24) && vB (e_27) (f_28) then sqE (a_23) (b_24) (e_27) (f_28) else -1)) false) true → (True)) ∧ (NIs (bite (ile (ssQ (a_23) (b_24) (c_25) (d_26) (e_27) (f_28)) (if vB (a_23) (b_24) && vB (c_25) (d_26) then sqE (a_23) (b_24) (c_25) (d_26) else -1)) (ile (ssQ (a_23) (b_24) (c_25) (d_26) (e_27) (f_28)) (if vB (a_23) (b_24) && vB (e_27) (f_28) then sqE (a_23) (b_24) (e_27) (f_28) else -1)) false) true → True) ∧ (True) ∧ (True) ∧ (NIs (bite (bite (ile (ssQ (a_23) (b_24) (c_25) (d_26) (e_27) (f_28)) (if vB (a_23) (b_24) && vB (c_25) (d_26) then sqE (a_23) (b_24) (c_25) (d_26) else -1)) (ile (ssQ (a_23) (b_24) (c_25) (d_26) (e_27) (f_28)) (if vB (a_23) (b_24) && vB (e_27) (f_28) then sqE (a_23) (b_24) (e_27) (f_28) else -1)) false) (ieq (ssQ (c_25) (d_26) (c_25) (d_26) (e_27) (f_28)) (0 : Int)) false) true → True) ∧ (NIs (bite (bite (ile (ssQ (a_23) (b_24) (c_25) (d_26) (e_27) (f_28)) (if vB (a_23) (b_24) && vB (c_25) (d_26) then sqE (a_23) (b_24) (c_25) (d_26) else -1)) (ile (ssQ (a_23) (b_24) (c_25) (d_26) (e_27) (f_28)) (if vB (a_23) (b_24) && vB (e_27) (f_28) then sqE (a_23) (b_24) (e_27) (f_28) else -1)) false) (ieq (ssQ (c_25) (d_26) (c_25) (d_26) (e_27) (f_28)) (0 : Int)) false) true → True) ∧ (NIs (bite (bite (ile (ssQ (a_23) (b_24) (c_25) (d_26) (e_27) (f_28)) (if vB (a_23) (b_24) && vB (c_25) (d_26) then sqE (a_23) (b_24) (c_25) (d_26) else -1)) (ile (ssQ (a_23) (b_24) (c_25) (d_26) (e_27) (f_28)) (if vB (a_23) (b_24) && vB (e_27) (f_28) then sqE (a_23) (b_24) (e_27) (f_28) else -1)) false) (ieq (ssQ (c_25) (d_26) (c_25) (d_26) (e_27) (f_28)) (0 : Int)) false) true → True) ∧ (NIs (bite (bite (ile (ssQ (a_23) (b_24) (c_25) (d_26) (e_27) (f_28)) (if vB (a_23) (b_24) && vB (c_25) (d_26) then sqE (a_23) (b_24) (c_25) (d_26) else -1)) (ile (ssQ (a_23) (b_24) (c_25) (d_26) (e_27) (f_28)) (if vB (a_23) (b_24) && vB (e_27) (f_28) then sqE (a_23) (b_24) (e_27) (f_28) else -1)) false) (ieq (ssQ (c_25) (d_26) (c_25) (d_26) (e_27) (f_28)) (0 : Int)) false) true → (True)) ∧ (NIs (bite (bite (ile (ssQ (a_23) (b_24) (c_25) (d_26) (e_27) (f_28)) (if vB (a_23) (b_24) && vB (c_25) (d_26) then sqE (a_23) (b_24) (c_25) (d_26) else -1)) (ile (ssQ (a_23) (b_24) (c_25) (d_26) (e_27) (f_28)) (if vB (a_23) (b_24) && vB (e_27) (f_28) then sqE (a_23) (b_24) (e_27) (f_28) else -1)) false) (ieq (ssQ (c_25) (d_26) (c_25) (d_26) (e_27) (f_28)) (0 : Int)) false) true → True) ∧ (NIs (bite (bite (ile (ssQ (a_23) (b_24) (c_25) (d_26) (e_27) (f_28)) (if vB (a_23) (b_24) && vB (c_25) (d_26) then sqE (a_23) (b_24) (c_25) (d_26) else -1)) (ile (ssQ (a_23) (b_24) (c_25) (d_26) (e_27) (f_28)) (if vB (a_23) (b_24) && vB (e_27) (f_28) then sqE (a_23) (b_24) (e_27) (f_28) else -1)) false) (ieq (ssQ (c_25) (d_26) (c_25) (d_26) (e_27) (f_28)) (0 : Int)) false) true → True) ∧ (NIs (bite (bite (ile (ssQ (a_23) (b_24) (c_25) (d_26) (e_27) (f_28)) (if vB (a_23) (b_24) && vB (c_25) (d_26) then sqE (a_23) (b_24) (c_25) (d_26) else -1)) (ile (ssQ (a_23) (b_24) (c_25) (d_26) (e_27) (f_28)) (if vB (a_23) (b_24) && vB (e_27) (f_28) then sqE (a_23) (b_24) (e_27) (f_28) else -1)) false) (ieq (ssQ (c_25) (d_26) (c_25) (d_26) (e_27) (f_28)) (0 : Int)) false) true → (True)) ∧ (NIs (bite (bite (ile (ssQ (a_23) (b_24) (c_25) (d_26) (e_27) (f_28)) (if vB (a_23) (b_24) && vB (c_25) (d_26) then sqE (a_23) (b_24) (c_25) (d_26) else -1)) (ile (ssQ (a_23) (b_24) (c_25) (d_26) (e_27) (f_28)) (if vB (a_23) (b_24) && vB (e_27) (f_28) then sqE (a_23) (b_24) (e_27) (f_28) else -1)) false) (ieq (ssQ (c_25) (d_26) (c_25) (d_26) (e_27) (f_28)) (0 : Int)) false) true → True) ∧ (True) ∧ (True) ∧ True) ∧ (((bite (bite (bite (ile (ssQ (a_23) (b_24) (c_25) (d_26) (e_27) (f_28)) (if vB (a_23) (b_24) && vB (c_25) (d_26) then sqE (a_23) (b_24) (c_25) (d_26) else -1)) (ile (ssQ (a_23) (b_24) (c_25) (d_26) (e_27) (f_28)) (if vB (a_23) (b_24) && vB (e_27) (f_28) then sqE (a_23) (b_24) (e_27) (f_28) else -1)) false) (ieq (ssQ (c_25) (d_26) (c_25) (d_26) (e_27) (f_28)) (0 : Int)) false) (ieq (ssQ (a_23) (b_24) (c_25) (d_26) (c_25) (d_26)) (if vB (a_23) (b_24) && vB (c_25) (d_26) then sqE (a_23) (b_24) (c_25) (d_26) else -1)) false) : Bool) = (true)) ∧ True)))))))))))))) = ev sig_laws_FnSegmentSquare xs_laws_FnSegmentSquare Try.f15.ntmps (fun b => []) (codeOf Try.f15) 0 (initS [.s (.rdr n)]) (retK Try.f15.results.toList [.s (.bool (true))]) := by kernel_rfl
set_option maxHeartbeats 400000 in
theorem F_laws_FnSegmentSquare : FunOK 15 g_laws_FnSegmentSquare := by
  refine fun_F (by kernel_rfl) Try.func15 rfl (by kernel_rfl) sig_laws_FnSegmentSquare_ok xs_laws_FnSegmentSquare_ok ?_
  intro avs sg h hn hl
  unfold g_laws_FnSegmentSquare at h
  split at h
  · rename_i n
    injection h with h; subst h
    refine ⟨by kernel_rfl, fun b => [], Eq.mp (V_laws_FnSegmentSquare n) ?_⟩
    simp only [true_and, and_true, implies_true, and_self, forall_const, true_implies, lenA, lenL, SV.lenOK, Cont.lenOK] at hn hl ⊢
    simp only [ilt_t, ilt_f, ile_t, ile_f, ieq_t, ieq_f, bnot_e, band_e, bite_and, bite_or, NLt_e, NLe_e, NNe_e, NIs_e, imax_e, imin_e, irem_e, Bool.not_eq_true', Bool.not_eq_false', Bool.and_eq_true, Bool.or_eq_true, Bool.or_eq_false_iff, Bool.and_eq_false_iff, Cont.pts.injEq, Cont.ints.injEq, Cont.bools.injEq, Cont.ptss.injEq, Cont.intss.injEq, Cont.boolss.injEq, true_and, and_true, implies_true]
    intro h
    refine ⟨h, ?_⟩
    intro x1 x2 a1 a2 b1 b2 _
    have hc : ssQ x1 x2 b1 b2 a1 a2 = ssQ x1 x2 a1 a2 b1 b2 := by
      unfold ssQ
      have e : (nearB x1 x2 && nearB b1 b2 && nearB a1 a2) = (nearB x1 x2 && nearB a1 a2 && nearB b1 b2) := by cases nearB x1 x2 <;> cases nearB b1 b2 <;> cases nearB a1 a2 <;> rfl
      rw [e, ssqE_seg, ssqE_seg, segSq_comm]
    rw [hc]
    refine ⟨fun h => by simp at h, fun _ => ⟨fun h0 => ?_, fun h0 => ?_⟩⟩
    · unfold ssQ at h0 ⊢
      split at h0
      · have := ssqE_0 x1 x2 a1 a2 b1 b2; omega
      · rename_i hh; rw [if_neg hh]
    · obtain ⟨np, na, nb⟩ := ssQ_0 h0
      simp only [near_v np, near_v na, near_v nb, and_self, if_true]
      rw [ssQ_e np na nb, ssQ_e na na nb, ssQ_e np na na, ssqE_seg, ssqE_seg, ssqE_seg]
      refine ⟨⟨⟨segSq_le _ _ _, ?_⟩, segSq_end _ _⟩, segSq_point _ _⟩
      rw [← segSq_comm]; exact segSq_le _ _ _
  · cases h
theorem fnSegmentSquare_walk (w : World) (v0 : Value) (x0 : Nat) (w0 : BytesArg w v0 x0) : Calls Try.prog 15 #[v0] w fun e w' => e = .returned (.bool true) ∧ Bel w w' :=
  walk_of F_laws_FnSegmentSquare (avs := [.s (.rdr x0)]) rfl trivial ⟨bytes_reads w0, trivial⟩
set_option maxRecDepth 100000 in
theorem fnSegmentSquare_lifted (os : Os) (started : os.Started) (H : Type) (enc : TypeId × Value → H) :
    ReturnsInHanded {} Try.checked os 15 .any (Rows.fnSegmentSquareSpec.pre6 enc Try.prog Try.f15 Rows.fnSegmentSquareRow.domain false) (Rows.fnSegmentSquareSpec.post enc Try.prog Try.f15 false true false false) := by
  have own : ownKnob Try.prog.godebug = none := by kernel_rfl
  have laidOut : laidOutB Try.prog = true := by kernel_rfl
  refine returnsInHanded_of_change (C := Try.checked) own started (by kernel_rfl) Try.func15
    (ChangeSpec.witness6 (enc := enc) (C := Try.checked) false ⟨#[], #[.slice none 0 0], []⟩ 8 (by kernel_rfl) (by kernel_rfl) (by kernel_rfl) (by kernel_rfl)) ?_
  intro W base args ds gs before hval0 hW hcnd _
  have hval : ∀ (j : Nat) t v, Try.f15.params[j]? = some t → args[j]? = some v → Value.okWide Try.prog W .any base t v := hval0
  have hW' := hW
  obtain ⟨p, q, hA0, hV, rfl, hfz, hnd⟩ := hW
  have hA : DataW.TrodAll enc Try.prog W 0 (fun _ => true) true Try.f15.params.toList args.toList ds p := hA0
  rw [Try.params15] at hA hval
  obtain ⟨v0, vs0, d0, ds0, p0, q0, hargs, rfl, rfl, h0, r0⟩ := trodAll_cons hA
  obtain ⟨rfl, rfl, rfl⟩ := trodAll_nil r0
  obtain rfl : args = #[v0] := by cases args; simp_all
  obtain ⟨rfl, rfl⟩ := trodVars_none hV
  have k0 := h0
  have lt0 : ∀ x ∈ p0, x.block < W.heap.size := by obtain ⟨m, hm⟩ := k0; exact DataW.trod_lt m _ _ _ hm
  obtain ⟨x0, w0⟩ := opn_bytes (hval 0 33 v0 rfl rfl) h0
  clear hA0 hval0
  refine (fnSegmentSquare_walk W v0 x0 w0).mono fun e W' ⟨he, bel⟩ => ?_
  subst he
  exact ⟨_, rfl, _, _, _, [], _, [], hW', trodAll_mk1 (shut_bool Try.underlying4 _), (trodAll_cons_mk (Below.trod laidOut (by kernel_rfl) (of_decide_eq_true (by kernel_rfl)) k0 bel lt0) trodAll_mk0), rfl, Below.frame bel _, fun h => by cases h⟩
theorem fnSegmentSquare_over : Rows.fnSegmentSquareRow.holds Try.pinned (OpenSpec.ofChange Rows.fnSegmentSquareSpec) :=
  OpenClaim.holds_of_wide 15 Try.f15 rfl rfl rfl rfl rfl rfl rfl ⟨rfl, rfl, rfl, rfl, rfl⟩ rfl rfl rfl rfl rfl (by kernel_rfl) Try.func15 (by kernel_rfl)
    (of_decide_eq_true (by kernel_rfl)) (by unfold Func.isWrapper; first | (rw [if_pos (by decide +kernel)]; kernel_rfl) | (rw [if_neg (by decide +kernel)]; exact ⟨rfl, rfl⟩))
    (fun os started H enc _ => fnSegmentSquare_lifted os started H enc)
theorem fnSegmentSquare_proved : Rows.FnSegmentSquareSaid := fnSegmentSquare_over
#print axioms fnSegmentSquare_proved
end Go.Proofs.Ytiddodphfbohmaa

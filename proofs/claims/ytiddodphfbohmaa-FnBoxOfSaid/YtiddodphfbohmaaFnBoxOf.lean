/- 'FnBoxOf': for every code both sides tell the same box of drawn points; all points are in it, and each of its four sides has one; the box of no points, or of points that are not valid, is the zero point twice. Conditions: none. -/
import Derived.Test.YtiddodphfbohmaaAxO
namespace Go.Proofs.Ytiddodphfbohmaa
open Go.ChangeShapes Go.WideShapes Go.ChangeAt Go.RowKit
set_option maxRecDepth 100000
set_option linter.unusedSimpArgs false
set_option linter.unusedVariables false
def s_spec_l20Point (r1 : Int) (r2 : Int) (n : Int) : SgX := ⟨r1 ≤ 2000 ∧ 0 ≤ r2 ∧ r2 ≤ 900000 ∧ -1000000 ≤ n ∧ n ≤ 1000000, [.int, .int, .int], (fun | [.int x, .int y, .int q] => -10001 ≤ x ∧ x ≤ 10001 ∧ -10000 ≤ y ∧ y ≤ 10000 ∧ (n ≤ 0 → -10000 ≤ x ∧ x ≤ 10000) ∧ r2 ≤ q ∧ q ≤ r2 + 10 | _ => False), (fun | [.int x, .int y, .int q] => [.agg [.int (x), .int (y)]] | _ => []), (fun | [.int x, .int y, .int q] => .box [.rdr r1, .int (q)] | _ => .box [])⟩
def g_spec_l20Point : Bx → List AV → Option SgX
  | .box [.rdr r1, .int r2], [.s (.int n)] => some (s_spec_l20Point r1 r2 n)
  | _, _ => none
def sig_spec_l20Point : FuncId → List AV → Option Sg := sigL []
def xs_spec_l20Point : XS := ⟨xsigL [(71, g_spec_l20Rd_pick), (97, g_spec_l20Rd_odd)], ysigL []⟩
theorem sig_spec_l20Point_ok : SigOK sig_spec_l20Point := sigL_nil
theorem xs_spec_l20Point_ok : XSigOK xs_spec_l20Point := ⟨xsigL_cons F_spec_l20Rd_pick (xsigL_cons F_spec_l20Rd_odd xsigL_nil), ysigL_nil⟩
def L_spec_l20Point_0 (n : Int) (r2 : Int) (k_8 : Int) (k_5 : Int) (r1 : Int) (q_7 : Int) : Prop := ∃ x : Int, ∃ y : Int, ∃ q : Int, ((-10001 ≤ x ∧ x ≤ 10001 ∧ -10000 ≤ y ∧ y ≤ 10000 ∧ (n ≤ 0 → -10000 ≤ x ∧ x ≤ 10000) ∧ r2 ≤ q ∧ q ≤ r2 + 10) ∧ (((((geti [(10001 : Int), (-10001 : Int), (10000 : Int)] (k_8)) : Int) = (x)) ∧ (((isub (imul (k_5) (4 : Int)) (500 : Int)) : Int) = (y)) ∧ True) ∧ True) ∧ ((true = true) ∧ (true = true) ∧ ((r1 : Int) = r1) ∧ ((((q_7) + 1) : Int) = (q)) ∧ True))
def L_spec_l20Point_1 (n : Int) (r2 : Int) (k_4 : Int) (k_5 : Int) (r1 : Int) (q_7 : Int) : Prop := ∃ x : Int, ∃ y : Int, ∃ q : Int, ((-10001 ≤ x ∧ x ≤ 10001 ∧ -10000 ≤ y ∧ y ≤ 10000 ∧ (n ≤ 0 → -10000 ≤ x ∧ x ≤ 10000) ∧ r2 ≤ q ∧ q ≤ r2 + 10) ∧ (((((isub (imul (k_4) (4 : Int)) (500 : Int)) : Int) = (x)) ∧ (((isub (imul (k_5) (4 : Int)) (500 : Int)) : Int) = (y)) ∧ True) ∧ True) ∧ ((true = true) ∧ (true = true) ∧ ((r1 : Int) = r1) ∧ (((q_7) : Int) = (q)) ∧ True))
def L_spec_l20Point_2 (n : Int) (r2 : Int) (k_11 : Int) (k_2 : Int) (r1 : Int) (q_10 : Int) : Prop := ∃ x : Int, ∃ y : Int, ∃ q : Int, ((-10001 ≤ x ∧ x ≤ 10001 ∧ -10000 ≤ y ∧ y ≤ 10000 ∧ (n ≤ 0 → -10000 ≤ x ∧ x ≤ 10000) ∧ r2 ≤ q ∧ q ≤ r2 + 10) ∧ (((((geti [(10001 : Int), (-10001 : Int), (10000 : Int)] (k_11)) : Int) = (x)) ∧ (((isub (k_2) (20 : Int)) : Int) = (y)) ∧ True) ∧ True) ∧ ((true = true) ∧ (true = true) ∧ ((r1 : Int) = r1) ∧ ((((q_10) + 1) : Int) = (q)) ∧ True))
def L_spec_l20Point_3 (n : Int) (r2 : Int) (k_1 : Int) (k_2 : Int) (r1 : Int) (q_10 : Int) : Prop := ∃ x : Int, ∃ y : Int, ∃ q : Int, ((-10001 ≤ x ∧ x ≤ 10001 ∧ -10000 ≤ y ∧ y ≤ 10000 ∧ (n ≤ 0 → -10000 ≤ x ∧ x ≤ 10000) ∧ r2 ≤ q ∧ q ≤ r2 + 10) ∧ (((((isub (k_1) (20 : Int)) : Int) = (x)) ∧ (((isub (k_2) (20 : Int)) : Int) = (y)) ∧ True) ∧ True) ∧ ((true = true) ∧ (true = true) ∧ ((r1 : Int) = r1) ∧ (((q_10) : Int) = (q)) ∧ True))
theorem V_spec_l20Point (r1 : Int) (r2 : Int) (n : Int) : ((true = true) ∧ ((True) ∧ True) ∧ (true = true) ∧ ((True) ∧ True) ∧ (true = true) ∧ ((r1 ≤ 2000 ∧ 0 ≤ r2 ∧ r2 ≤ 1000000)) ∧ (∀ k_1 : Int, ((pickP (41 : Int) k_1) → ((True) ∧ (True) ∧ (true = true) ∧ ((r1 ≤ 2000 ∧ 0 ≤ (r2 + 1) ∧ (r2 + 1) ≤ 1000000)) ∧ (∀ k_2 : Int, ((pickP (41 : Int) k_2) → ((True) ∧ (True) ∧ (True) ∧ (True) ∧ (true = true) ∧ ((True) ∧ True) ∧ (true = true) ∧ ((r1 ≤ 2000 ∧ 0 ≤ ((r2 + 1) + 1) ∧ ((r2 + 1) + 1) ≤ 1000000)) ∧ (∀ k_3 : Int, ((pickP (3 : Int) k_3) → ((True) ∧ ((ieq (k_3) (0 : Int)) = true → ((true = true) ∧ ((True) ∧ True) ∧ (true = true) ∧ ((r1 ≤ 2000 ∧ 0 ≤ (((r2 + 1) + 1) + 1) ∧ (((r2 + 1) + 1) + 1) ≤ 1000000)) ∧ (∀ k_4 : Int, ((pickP (256 : Int) k_4) → ((True) ∧ (True) ∧ (True) ∧ (true = true) ∧ ((r1 ≤ 2000 ∧ 0 ≤ ((((r2 + 1) + 1) + 1) + 1) ∧ ((((r2 + 1) + 1) + 1) + 1) ≤ 1000000)) ∧ (∀ k_5 : Int, ((pickP (256 : Int) k_5) → ((True) ∧ (True) ∧ (True) ∧ (True) ∧ (true = true) ∧ ((True) ∧ (True) ∧ True) ∧ (true = true) ∧ ((r1 ≤ 2000 ∧ 0 ≤ (((((r2 + 1) + 1) + 1) + 1) + 1) ∧ (((((r2 + 1) + 1) + 1) + 1) + 1) ≤ 1000000 ∧ -1000000 ≤ n ∧ n ≤ 1000000)) ∧ (∀ b_6 : Bool, ∀ q_7 : Int, (((n ≤ 0 → b_6 = false) ∧ (((((r2 + 1) + 1) + 1) + 1) + 1) ≤ q_7 ∧ q_7 ≤ (((((r2 + 1) + 1) + 1) + 1) + 1) + 1) → (((b_6) = true → ((true = true) ∧ ((True) ∧ (True) ∧ True) ∧ (true = true) ∧ ((r1 ≤ 2000 ∧ 0 ≤ (q_7) ∧ (q_7) ≤ 1000000)) ∧ (∀ k_8 : Int, ((pickP (3 : Int) k_8) → ((NLe 0 (k_8) ∧ NLt (k_8) (ilen [(10001 : Int), (-10001 : Int), (10000 : Int)])) ∧ (NLt (k_8) (ilen [(10001 : Int), (-10001 : Int), (10000 : Int)])) ∧ (True) ∧ (True) ∧ (true = true) ∧ ((True) ∧ True) ∧ (True) ∧ L_spec_l20Point_0 n r2 k_8 k_5 r1 q_7))))) ∧ ((b_6) = false → ((true = true) ∧ ((True) ∧ True) ∧ (True) ∧ L_spec_l20Point_1 n r2 k_4 k_5 r1 q_7))))))))))))) ∧ ((ieq (k_3) (0 : Int)) = false → ((true = true) ∧ ((True) ∧ (True) ∧ True) ∧ (true = true) ∧ ((r1 ≤ 2000 ∧ 0 ≤ (((r2 + 1) + 1) + 1) ∧ (((r2 + 1) + 1) + 1) ≤ 1000000 ∧ -1000000 ≤ n ∧ n ≤ 1000000)) ∧ (∀ b_9 : Bool, ∀ q_10 : Int, (((n ≤ 0 → b_9 = false) ∧ (((r2 + 1) + 1) + 1) ≤ q_10 ∧ q_10 ≤ (((r2 + 1) + 1) + 1) + 1) → (((b_9) = true → ((true = true) ∧ ((True) ∧ (True) ∧ True) ∧ (true = true) ∧ ((r1 ≤ 2000 ∧ 0 ≤ (q_10) ∧ (q_10) ≤ 1000000)) ∧ (∀ k_11 : Int, ((pickP (3 : Int) k_11) → ((NLe 0 (k_11) ∧ NLt (k_11) (ilen [(10001 : Int), (-10001 : Int), (10000 : Int)])) ∧ (NLt (k_11) (ilen [(10001 : Int), (-10001 : Int), (10000 : Int)])) ∧ (True) ∧ (True) ∧ (true = true) ∧ ((True) ∧ True) ∧ (True) ∧ L_spec_l20Point_2 n r2 k_11 k_2 r1 q_10))))) ∧ ((b_9) = false → ((true = true) ∧ ((True) ∧ True) ∧ (True) ∧ L_spec_l20Point_3 n r2 k_1 k_2 r1 q_10))))))))))))))))) = (fun sg => ev sig_spec_l20Point xs_spec_l20Point Try.f72.ntmps (fun b => []) (codeOf Try.f72) 0 (initX (.box [.rdr r1, .int r2]) [.s (.int n)]) (retX Try.f72.results.toList sg.kinds sg.post sg.ret sg.out)) (s_spec_l20Point r1 r2 n) := by kernel_rfl
set_option maxHeartbeats 4000000 in
theorem F_spec_l20Point : FunX 72 g_spec_l20Point := by
  refine fun_X (by kernel_rfl) Try.func72 rfl (by kernel_rfl) sig_spec_l20Point_ok xs_spec_l20Point_ok ?_
  intro bx avs sg h hn hl hlb
  unfold g_spec_l20Point at h
  split at h
  · rename_i r1 r2 n
    injection h with h; subst h
    refine ⟨by kernel_rfl, fun b => [], Eq.mp (V_spec_l20Point r1 r2 n) ?_⟩
    simp only [true_and, and_true, implies_true, and_self, forall_const, true_implies, lenA, lenL, SV.lenOK, Cont.lenOK, lenB, s_spec_l20Point, L_spec_l20Point_0, L_spec_l20Point_1, L_spec_l20Point_2, L_spec_l20Point_3] at hn hl hlb ⊢
    try simp only [ilt_t, ilt_f, ile_t, ile_f, ieq_t, ieq_f, bnot_e, band_e, bite_and, bite_or, NLt_e, NLe_e, NNe_e, NIs_e, imax_e, imin_e, irem_e, Bool.not_eq_true', Bool.not_eq_false', Bool.and_eq_true, Bool.or_eq_true, Bool.or_eq_false_iff, Bool.and_eq_false_iff, Cont.pts.injEq, Cont.ints.injEq, Cont.bools.injEq, Cont.ptss.injEq, Cont.intss.injEq, Cont.boolss.injEq, true_and, and_true, implies_true, pickP, iadd_u, isub_u, imul_u, ineg_u, ilen_cons, ilen_nil, geti_cons, geti_nil, exists_and_left, exists_and_right, exists_eq_left, exists_eq_left', exists_eq_right, exists_eq_right'] at hn ⊢
    repeat' (first | (intro _) | (refine ⟨_, _, _, ?_, ⟨rfl, rfl⟩, rfl⟩) | (apply And.intro) | omega | split)
    all_goals (first | (simp_all; done) | (simp_all; omega))
  · cases h
def s_spec_DrawBoxOf (n : Int) : SgY := ⟨n ≤ 1048576, [.pts], (fun | [.pts l] => ilen l ≤ 8 | _ => False), (fun | [.pts l] => [.s (.view (.pts (l)))] | _ => [])⟩
def g_spec_DrawBoxOf : List AV → Option SgY
  | [.s (.rdr n)] => some (s_spec_DrawBoxOf n)
  | _ => none
def sig_spec_DrawBoxOf : FuncId → List AV → Option Sg := sigL [(70, g_spec_l20Open)]
def xs_spec_DrawBoxOf : XS := ⟨xsigL [(71, g_spec_l20Rd_pick), (72, g_spec_l20Point)], ysigL []⟩
theorem sig_spec_DrawBoxOf_ok : SigOK sig_spec_DrawBoxOf := sigL_cons F_spec_l20Open sigL_nil
theorem xs_spec_DrawBoxOf_ok : XSigOK xs_spec_DrawBoxOf := ⟨xsigL_cons F_spec_l20Rd_pick (xsigL_cons F_spec_l20Point xsigL_nil), ysigL_nil⟩
theorem V_spec_DrawBoxOf (n : Int) : ((true = true) ∧ ((True) ∧ True) ∧ (true = true) ∧ ((True) ∧ ((n ≤ 1048576)) ∧ (True) ∧ True) ∧ (true = true) ∧ ((True) ∧ (True) ∧ True) ∧ (true = true) ∧ ((True) ∧ True) ∧ (true = true) ∧ (((if n ≤ 2000 then n else 2000) ≤ 2000 ∧ 0 ≤ ((0 : Int)) ∧ ((0 : Int)) ≤ 1000000)) ∧ (∀ k_12 : Int, ((pickP (9 : Int) k_12) → ((True) ∧ ∃ (I1 : List GV → Prop) (μ1 : List GV → Nat), (((true = true) ∧ ((((k_12) : Int) = (k_12)) ∧ (((k_12) : Int) = (k_12)) ∧ (true = true) ∧ (true = true) ∧ ((n : Int) = n) ∧ (true = true) ∧ (true = true) ∧ (true = true) ∧ ((n : Int) = n) ∧ True) ∧ (((((if n ≤ 2000 then n else 2000) : Int) = (if n ≤ 2000 then n else 2000)) ∧ (((((0 : Int)) + 1) : Int) = (((0 : Int)) + 1)) ∧ True) ∧ ((true = true) ∧ ((Cont.pts []) = (Cont.pts []))) ∧ ((true = true) ∧ ((Cont.pts []) = (Cont.pts []))) ∧ True)) ∧ (([GK.int, GK.pts, GK.int] : List GK) = ([GK.int, GK.pts, GK.int] : List GK)) ∧ I1 [GV.int (k_12), GV.pts [], GV.int (((0 : Int)) + 1)]) ∧ (∀ i1_0 : Int, ∀ l1_1 : List Pt, ∀ i1_2 : Int, I1 [GV.int i1_0, GV.pts l1_1, GV.int i1_2] → ((true = true) ∧ ((True) ∧ (True) ∧ True) ∧ ((ilt (0 : Int) i1_0) = true → ((true = true) ∧ ((True) ∧ (True) ∧ True) ∧ (true = true) ∧ (((if n ≤ 2000 then n else 2000) ≤ 2000 ∧ 0 ≤ i1_2 ∧ i1_2 ≤ 900000 ∧ -1000000 ≤ (40 : Int) ∧ (40 : Int) ≤ 1000000)) ∧ (∀ x_13 : Int, ∀ y_14 : Int, ∀ q_15 : Int, ((-10001 ≤ x_13 ∧ x_13 ≤ 10001 ∧ -10000 ≤ y_14 ∧ y_14 ≤ 10000 ∧ ((40 : Int) ≤ 0 → -10000 ≤ x_13 ∧ x_13 ≤ 10000) ∧ i1_2 ≤ q_15 ∧ q_15 ≤ i1_2 + 10) → ((True) ∧ (NLe (ilen l1_1) 1000000000 ∧ NLe (ilen [((x_13), (y_14))]) 1000000000) ∧ (True) ∧ (true = true) ∧ ((True) ∧ (True) ∧ (True) ∧ True) ∧ ((true = true) ∧ ((((isub i1_0 (1 : Int)) : Int) = (isub i1_0 (1 : Int))) ∧ (((k_12) : Int) = (k_12)) ∧ (true = true) ∧ (true = true) ∧ ((n : Int) = n) ∧ (true = true) ∧ (true = true) ∧ (true = true) ∧ ((n : Int) = n) ∧ True) ∧ (((((if n ≤ 2000 then n else 2000) : Int) = (if n ≤ 2000 then n else 2000)) ∧ (((q_15) : Int) = (q_15)) ∧ True) ∧ ((true = true) ∧ ((Cont.pts (iapp l1_1 [((x_13), (y_14))])) = (Cont.pts (iapp l1_1 [((x_13), (y_14))])))) ∧ ((true = true) ∧ ((Cont.pts []) = (Cont.pts []))) ∧ True)) ∧ ((([GK.int, GK.pts, GK.int] : List GK) = ([GK.int, GK.pts, GK.int] : List GK)) ∧ I1 [GV.int (isub i1_0 (1 : Int)), GV.pts (iapp l1_1 [((x_13), (y_14))]), GV.int (q_15)] ∧ μ1 [GV.int (isub i1_0 (1 : Int)), GV.pts (iapp l1_1 [((x_13), (y_14))]), GV.int (q_15)] < μ1 [GV.int i1_0, GV.pts l1_1, GV.int i1_2])))))) ∧ ((ilt (0 : Int) i1_0) = false → ((true = true) ∧ ((True) ∧ (True) ∧ True) ∧ ∃ l : List Pt, ((ilen l ≤ 8) ∧ (((true = true) ∧ ((Cont.pts l1_1) = (Cont.pts (l)))) ∧ True)))))))))) = (fun sg => ev sig_spec_DrawBoxOf xs_spec_DrawBoxOf Try.f22.ntmps (fun b => if b == 0 then [.v 5, .b 4, .b 3] else []) (codeOf Try.f22) 0 (initS [.s (.rdr n)]) (retY Try.f22.results.toList sg.kinds sg.post sg.ret)) (s_spec_DrawBoxOf n) := by kernel_rfl
set_option maxHeartbeats 4000000 in
theorem F_spec_DrawBoxOf : FunY 22 g_spec_DrawBoxOf := by
  refine fun_Y (by kernel_rfl) Try.func22 rfl (by kernel_rfl) sig_spec_DrawBoxOf_ok xs_spec_DrawBoxOf_ok ?_
  intro avs sg h hn hl
  unfold g_spec_DrawBoxOf at h
  split at h
  · rename_i n
    injection h with h; subst h
    refine ⟨by kernel_rfl, fun b => if b == 0 then [.v 5, .b 4, .b 3] else [], Eq.mp (V_spec_DrawBoxOf n) ?_⟩
    simp only [true_and, and_true, implies_true, and_self, forall_const, true_implies, lenA, lenL, SV.lenOK, Cont.lenOK, s_spec_DrawBoxOf] at hn hl ⊢
    simp only [ilt_t, ilt_f, ile_t, ile_f, ieq_t, ieq_f, bnot_e, band_e, bite_and, bite_or, NLt_e, NLe_e, NNe_e, NIs_e, imax_e, imin_e, irem_e, Bool.not_eq_true', Bool.not_eq_false', Bool.and_eq_true, Bool.or_eq_true, Bool.or_eq_false_iff, Bool.and_eq_false_iff, Cont.pts.injEq, Cont.ints.injEq, Cont.bools.injEq, Cont.ptss.injEq, Cont.intss.injEq, Cont.boolss.injEq, true_and, and_true, implies_true]
    refine ⟨hn, ⟨by split <;> omega, by omega, by omega⟩, fun k hk => ?_⟩
    unfold pickP at hk
    refine ⟨fun | [.int k, .pts l, .int q] => 0 ≤ k ∧ ilen l + k ≤ 8 ∧ 0 ≤ q ∧ q + 10 * k ≤ 100 | _ => False, fun | .int k :: _ => k.toNat | _ => 0, ⟨by omega, by simp [ilen]; omega, by omega, by omega⟩, ?_⟩
    rintro k l q ⟨k0, k1, q0, q1⟩
    have : 0 ≤ ilen l := by unfold ilen; omega
    refine ⟨fun hc => ⟨⟨by split <;> omega, by omega, by omega, by omega, by omega⟩, fun x y q' h => ?_⟩, fun hc => ⟨l, by omega, rfl⟩⟩
    have e : ilen (iapp l [(x, y)]) = ilen l + 1 := by simp [ilen, iapp]
    have e1 : ilen [(x, y)] = 1 := by simp [ilen]
    rw [isub_e (by omega) (by omega), e1]
    exact ⟨⟨by omega, by omega⟩, ⟨by omega, by omega, by omega, by omega⟩, by show (k - 1).toNat < k.toNat; omega⟩
  · cases h
theorem inB_eq (n lo hi : Int) : inB n lo hi = (ile lo n && ile n hi) := by
  unfold inB ile
  by_cases h1 : lo ≤ n <;> by_cases h2 : n ≤ hi <;> simp [h1, h2]
def g_impl_within : List AV → Option Sg
  | [.s (.int n), .s (.int lo), .s (.int hi)] => some ⟨True, [.s (.bool (inB n lo hi))]⟩
  | _ => none
def sig_impl_within : FuncId → List AV → Option Sg := sigL []
def xs_impl_within : XS := ⟨xsigL [], ysigL []⟩
theorem sig_impl_within_ok : SigOK sig_impl_within := sigL_nil
theorem xs_impl_within_ok : XSigOK xs_impl_within := ⟨xsigL_nil, ysigL_nil⟩
theorem V_impl_within (n : Int) (lo : Int) (hi : Int) : ((true = true) ∧ ((True) ∧ True) ∧ (true = true) ∧ ((True) ∧ (True) ∧ (True) ∧ (True) ∧ (NIs (ile lo n) true → True) ∧ (NIs (ile lo n) true → True) ∧ (NIs (ile lo n) true → True) ∧ (True) ∧ (True) ∧ True) ∧ (((bite (ile lo n) (ile n hi) false) : Bool) = (inB n lo hi)) ∧ True) = ev sig_impl_within xs_impl_within Try.f68.ntmps (fun b => []) (codeOf Try.f68) 0 (initS [.s (.int n), .s (.int lo), .s (.int hi)]) (retK Try.f68.results.toList [.s (.bool (inB n lo hi))]) := by kernel_rfl
set_option maxHeartbeats 400000 in
theorem F_impl_within : FunOK 68 g_impl_within := by
  refine fun_F (by kernel_rfl) Try.func68 rfl (by kernel_rfl) sig_impl_within_ok xs_impl_within_ok ?_
  intro avs sg h hn hl
  unfold g_impl_within at h
  split at h
  · rename_i n lo hi
    injection h with h; subst h
    refine ⟨by kernel_rfl, fun b => [], Eq.mp (V_impl_within n lo hi) ?_⟩
    simp only [true_and, and_true, implies_true, and_self, forall_const, true_implies, lenA, lenL, SV.lenOK, Cont.lenOK] at hn hl ⊢
    simp only [bite_and, inB_eq]
  · cases h
def g_impl_PointValid : List AV → Option Sg
  | [.agg [.int p1, .int p2]] => some ⟨True, [.s (.bool (vB p1 p2))]⟩
  | _ => none
def sig_impl_PointValid : FuncId → List AV → Option Sg := sigL [(68, g_impl_within)]
def xs_impl_PointValid : XS := ⟨xsigL [], ysigL []⟩
theorem sig_impl_PointValid_ok : SigOK sig_impl_PointValid := sigL_cons F_impl_within sigL_nil
theorem xs_impl_PointValid_ok : XSigOK xs_impl_PointValid := ⟨xsigL_nil, ysigL_nil⟩
theorem V_impl_PointValid (p1 : Int) (p2 : Int) : ((true = true) ∧ ((True) ∧ (True) ∧ True) ∧ (true = true) ∧ ((True) ∧ (True) ∧ ((True)) ∧ (True) ∧ (NIs (inB p1 (-10000 : Int) (10000 : Int)) true → True) ∧ (NIs (inB p1 (-10000 : Int) (10000 : Int)) true → True) ∧ (NIs (inB p1 (-10000 : Int) (10000 : Int)) true → (True)) ∧ (True) ∧ (True) ∧ True) ∧ (((bite (inB p1 (-10000 : Int) (10000 : Int)) (inB p2 (-10000 : Int) (10000 : Int)) false) : Bool) = (vB p1 p2)) ∧ True) = ev sig_impl_PointValid xs_impl_PointValid Try.f24.ntmps (fun b => []) (codeOf Try.f24) 0 (initS [.agg [.int p1, .int p2]]) (retK Try.f24.results.toList [.s (.bool (vB p1 p2))]) := by kernel_rfl
set_option maxHeartbeats 400000 in
theorem F_impl_PointValid : FunOK 24 g_impl_PointValid := by
  refine fun_F (by kernel_rfl) Try.func24 rfl (by kernel_rfl) sig_impl_PointValid_ok xs_impl_PointValid_ok ?_
  intro avs sg h hn hl
  unfold g_impl_PointValid at h
  split at h
  · rename_i p1 p2
    injection h with h; subst h
    refine ⟨by kernel_rfl, fun b => [], Eq.mp (V_impl_PointValid p1 p2) ?_⟩
    simp only [true_and, and_true, implies_true, and_self, forall_const, true_implies, lenA, lenL, SV.lenOK, Cont.lenOK] at hn hl ⊢
    simp only [bite_and, vB]
  · cases h
def crW (a1 a2 b1 b2 c1 c2 : Int) : Int := isub (imul (isub b1 a1) (isub c2 a2)) (imul (isub b2 a2) (isub c1 a1))
def cr (l : List Pt) (i j k : Int) : Int := crW (getx l i) (gety l i) (getx l j) (gety l j) (getx l k) (gety l k)
def nx (l : List Pt) (i : Int) : Int := (i + 1).tmod (ilen l)
def convE (l : List Pt) (i j : Int) : Bool := decide (j = i ∨ j = nx l i ∨ 0 < cr l i (nx l i) j)
def convB (l : List Pt) : Bool := inB (ilen l) 3 8 && allB l && allN (ilen l) fun i => allN (ilen l) fun j => convE l i j
theorem nx_in {l : List Pt} {i : Int} (h0 : 0 ≤ i) (h1 : i < ilen l) : 0 ≤ nx l i ∧ nx l i < ilen l ∧ ((i + 1 < ilen l ∧ nx l i = i + 1) ∨ (i + 1 = ilen l ∧ nx l i = 0)) := by
  have e : nx l i = (i + 1) % ilen l := Int.tmod_eq_emod_of_nonneg (by omega)
  rcases Int.lt_or_le (i + 1) (ilen l) with h | h
  · rw [e, Int.emod_eq_of_lt (by omega) h]; omega
  · have h2 : i + 1 = ilen l := by omega
    rw [e, h2, Int.emod_self]; omega
theorem allN_up {f : Int → Bool} {k : Int} (h : ∀ j, 0 ≤ j → j < k → f j = true) (hk : f k = true) : ∀ j, 0 ≤ j → j < k + 1 → f j = true := by
  intro j h0 h1
  rcases Int.lt_or_le j k with h2 | h2
  · exact h j h0 h2
  · rw [show j = k by omega]; exact hk
theorem upTo {P : Int → Prop} {k : Int} (h : ∀ j, 0 ≤ j → j < k → P j) (hk : P k) : ∀ j, 0 ≤ j → j < k + 1 → P j := by
  intro j h0 h1
  rcases Int.lt_or_le j k with h2 | h2
  · exact h j h0 h2
  · rw [show j = k by omega]; exact hk
theorem iadd_1 {k n : Int} (h0 : 0 ≤ k) (h1 : k < n) (h2 : n ≤ 9223372036854775807) : iadd k 1 = k + 1 := iadd_e (by omega) (by omega)
def g_impl_allPoints : List AV → Option Sg
  | [.s (.view (.pts l))] => some ⟨True, [.s (.bool (allB l))]⟩
  | _ => none
def sig_impl_allPoints : FuncId → List AV → Option Sg := sigL [(24, g_impl_PointValid)]
def xs_impl_allPoints : XS := ⟨xsigL [], ysigL []⟩
theorem sig_impl_allPoints_ok : SigOK sig_impl_allPoints := sigL_cons F_impl_PointValid sigL_nil
theorem xs_impl_allPoints_ok : XSigOK xs_impl_allPoints := ⟨xsigL_nil, ysigL_nil⟩
theorem V_impl_allPoints (l : List Pt) : ((true = true) ∧ ((True) ∧ True) ∧ (true = true) ∧ ((True) ∧ (True) ∧ (True) ∧ True) ∧ ∃ (I1 : List GV → Prop) (μ1 : List GV → Nat), (((true = true) ∧ (((false : Bool) = false) ∧ (((0 : Int) : Int) = (0 : Int)) ∧ ((Cont.pts l) = (Cont.pts l)) ∧ (((ilen l) : Int) = (ilen l)) ∧ ((Cont.pts l) = (Cont.pts l)) ∧ True) ∧ (True)) ∧ (([GK.int, GK.bool] : List GK) = ([GK.int, GK.bool] : List GK)) ∧ I1 [GV.int (0 : Int), GV.bool false]) ∧ (∀ i1_0 : Int, ∀ b1_1 : Bool, I1 [GV.int i1_0, GV.bool b1_1] → ((true = true) ∧ ((True) ∧ True) ∧ ((ilt i1_0 (ilen l)) = true → ((true = true) ∧ ((NLe 0 i1_0 ∧ NLt i1_0 (ilen l)) ∧ (True) ∧ (True) ∧ True) ∧ (True) ∧ (true = true) ∧ ((True) ∧ ((True)) ∧ (True) ∧ True) ∧ ((bnot (vB (getx l i1_0) (gety l i1_0))) = true → ((true = true) ∧ ((True) ∧ True) ∧ ((false : Bool) = (allB l)) ∧ True)) ∧ ((bnot (vB (getx l i1_0) (gety l i1_0))) = false → ((true = true) ∧ ((True) ∧ (True) ∧ True) ∧ ((true = true) ∧ (((b1_1 : Bool) = b1_1) ∧ (((iadd i1_0 (1 : Int)) : Int) = (iadd i1_0 (1 : Int))) ∧ ((Cont.pts l) = (Cont.pts l)) ∧ (((ilen l) : Int) = (ilen l)) ∧ ((Cont.pts l) = (Cont.pts l)) ∧ True) ∧ (True)) ∧ ((([GK.int, GK.bool] : List GK) = ([GK.int, GK.bool] : List GK)) ∧ I1 [GV.int (iadd i1_0 (1 : Int)), GV.bool b1_1] ∧ μ1 [GV.int (iadd i1_0 (1 : Int)), GV.bool b1_1] < μ1 [GV.int i1_0, GV.bool b1_1]))))) ∧ ((ilt i1_0 (ilen l)) = false → ((true = true) ∧ ((True) ∧ True) ∧ ((true : Bool) = (allB l)) ∧ True))))) = ev sig_impl_allPoints xs_impl_allPoints Try.f69.ntmps (fun b => if b == 0 then [.v 7, .v 2] else []) (codeOf Try.f69) 0 (initS [.s (.view (.pts l))]) (retK Try.f69.results.toList [.s (.bool (allB l))]) := by kernel_rfl
set_option maxHeartbeats 400000 in
theorem F_impl_allPoints : FunOK 69 g_impl_allPoints := by
  refine fun_F (by kernel_rfl) Try.func69 rfl (by kernel_rfl) sig_impl_allPoints_ok xs_impl_allPoints_ok ?_
  intro avs sg h hn hl
  unfold g_impl_allPoints at h
  split at h
  · rename_i l
    injection h with h; subst h
    refine ⟨by kernel_rfl, fun b => if b == 0 then [.v 7, .v 2] else [], Eq.mp (V_impl_allPoints l) ?_⟩
    simp only [true_and, and_true, implies_true, and_self, forall_const, true_implies, lenA, lenL, SV.lenOK, Cont.lenOK] at hn hl ⊢
    have h0 := ilen_0 l
    simp only [ilt_t, ilt_f, ile_t, ile_f, ieq_t, ieq_f, bnot_e, band_e, bite_and, bite_or, NLt_e, NLe_e, NNe_e, NIs_e, imax_e, imin_e, irem_e, Bool.not_eq_true', Bool.not_eq_false', Bool.and_eq_true, Bool.or_eq_true, Bool.or_eq_false_iff, Bool.and_eq_false_iff, Cont.pts.injEq, Cont.ints.injEq, Cont.bools.injEq, Cont.ptss.injEq, Cont.intss.injEq, Cont.boolss.injEq, true_and, and_true, implies_true]
    refine ⟨fun | .int k :: _ => 0 ≤ k ∧ k ≤ ilen l ∧ (∀ j, 0 ≤ j → j < k → vB (getx l j) (gety l j) = true) | _ => False, fun | .int k :: _ => (ilen l - k).toNat | _ => 0, ?_, ?_⟩
    · exact ⟨Int.le_refl 0, h0, fun j h0 h1 => absurd h1 (by omega)⟩
    · rintro k _ ⟨hk0, hk1, hk⟩
      simp only [ilt_t, ilt_f, ile_t, ile_f, ieq_t, ieq_f, bnot_e, band_e, bite_and, bite_or, NLt_e, NLe_e, NNe_e, NIs_e, imax_e, imin_e, irem_e, Bool.not_eq_true', Bool.not_eq_false', Bool.and_eq_true, Bool.or_eq_true, Bool.or_eq_false_iff, Bool.and_eq_false_iff, Cont.pts.injEq, Cont.ints.injEq, Cont.bools.injEq, Cont.ptss.injEq, Cont.intss.injEq, Cont.boolss.injEq, true_and, and_true, implies_true]
      refine ⟨fun hc => ⟨⟨hk0, hc⟩, fun hv => ?_, fun hv => ?_⟩, fun hc => ?_⟩
      · rw [allB_N, allN_no k hk0 hc hv]
      · rw [iadd_1 hk0 hc hl]
        exact ⟨⟨by omega, by omega, allN_up hk hv⟩, by omega⟩
      · rw [allB_N, allN_mk fun j h0 h1 => hk j h0 (by omega)]
  · cases h
def bVal (l : List Pt) : Bool := inB (ilen l) 1 400 && allB l
def bLx (l : List Pt) : Int := if bVal l then foldN (ilen l) (fun a j => min a (getx l j)) (getx l 0) else 0
def bLy (l : List Pt) : Int := if bVal l then foldN (ilen l) (fun a j => min a (gety l j)) (gety l 0) else 0
def bHx (l : List Pt) : Int := if bVal l then foldN (ilen l) (fun a j => max a (getx l j)) (getx l 0) else 0
def bHy (l : List Pt) : Int := if bVal l then foldN (ilen l) (fun a j => max a (gety l j)) (gety l 0) else 0
theorem boxV_no {l : List Pt} (h : bVal l = false) : bLx l = 0 ∧ bLy l = 0 ∧ bHx l = 0 ∧ bHy l = 0 := by simp [bLx, bLy, bHx, bHy, h]
def g_impl_BoxOf : List AV → Option Sg
  | [.s (.view (.pts l))] => some ⟨True, [.agg [.int (bLx l), .int (bLy l)], .agg [.int (bHx l), .int (bHy l)]]⟩
  | _ => none
def sig_impl_BoxOf : FuncId → List AV → Option Sg := sigL [(68, g_impl_within), (69, g_impl_allPoints)]
def xs_impl_BoxOf : XS := ⟨xsigL [], ysigL []⟩
theorem sig_impl_BoxOf_ok : SigOK sig_impl_BoxOf := sigL_cons F_impl_within (sigL_cons F_impl_allPoints sigL_nil)
theorem xs_impl_BoxOf_ok : XSigOK xs_impl_BoxOf := ⟨xsigL_nil, ysigL_nil⟩
theorem V_impl_BoxOf (l : List Pt) : ((true = true) ∧ ((True) ∧ (True) ∧ True) ∧ (true = true) ∧ ((True) ∧ (True) ∧ ((True)) ∧ (True) ∧ (True) ∧ (NIs (bnot (inB (ilen l) (1 : Int) (400 : Int))) false → True) ∧ (NIs (bnot (inB (ilen l) (1 : Int) (400 : Int))) false → (True)) ∧ (NIs (bnot (inB (ilen l) (1 : Int) (400 : Int))) false → True) ∧ (True) ∧ True) ∧ ((bite (bnot (inB (ilen l) (1 : Int) (400 : Int))) true (bnot (allB l))) = true → ((true = true) ∧ ((True) ∧ (True) ∧ True) ∧ (True) ∧ (True) ∧ ((((0 : Int) : Int) = (bLx l)) ∧ (((0 : Int) : Int) = (bLy l)) ∧ True) ∧ ((((0 : Int) : Int) = (bHx l)) ∧ (((0 : Int) : Int) = (bHy l)) ∧ True) ∧ True)) ∧ ((bite (bnot (inB (ilen l) (1 : Int) (400 : Int))) true (bnot (allB l))) = false → ((true = true) ∧ ((true = true) ∧ (True) ∧ ((true = true) ∧ (NLe 0 (0 : Int) ∧ NLt (0 : Int) (ilen l)) ∧ ((true = true) ∧ (True) ∧ ((true = true) ∧ (True) ∧ ((true = true) ∧ (NLe 0 (0 : Int) ∧ NLt (0 : Int) (ilen l)) ∧ ((true = true) ∧ (True) ∧ ((((true = true) ∧ ((((true = true) ∧ ((((true = true) ∧ (True) ∧ ((((true = true) ∧ (True) ∧ (((true = true) ∧ ((True) ∧ (True) ∧ (True) ∧ True) ∧ ∃ (I2 : List GV → Prop) (μ2 : List GV → Nat), (((true = true) ∧ ((((0 : Int) : Int) = (0 : Int)) ∧ ((Cont.pts l) = (Cont.pts l)) ∧ (((ilen l) : Int) = (ilen l)) ∧ (true = true) ∧ (true = true) ∧ ((((getx l (0 : Int)) : Int) = (getx l (0 : Int))) ∧ (((gety l (0 : Int)) : Int) = (gety l (0 : Int))) ∧ True) ∧ ((Cont.pts l) = (Cont.pts l)) ∧ ((((getx l (0 : Int)) : Int) = (getx l (0 : Int))) ∧ (((gety l (0 : Int)) : Int) = (gety l (0 : Int))) ∧ True) ∧ ((Cont.pts l) = (Cont.pts l)) ∧ ((Cont.pts l) = (Cont.pts l)) ∧ (((ilen l) : Int) = (ilen l)) ∧ (((inB (ilen l) (1 : Int) (400 : Int)) : Bool) = (inB (ilen l) (1 : Int) (400 : Int))) ∧ (((bnot (inB (ilen l) (1 : Int) (400 : Int))) : Bool) = (bnot (inB (ilen l) (1 : Int) (400 : Int)))) ∧ (((bnot (inB (ilen l) (1 : Int) (400 : Int))) : Bool) = (bnot (inB (ilen l) (1 : Int) (400 : Int)))) ∧ (((bite (bnot (inB (ilen l) (1 : Int) (400 : Int))) true (bnot (allB l))) : Bool) = (bite (bnot (inB (ilen l) (1 : Int) (400 : Int))) true (bnot (allB l)))) ∧ (true = true) ∧ (true = true) ∧ ((Cont.pts l) = (Cont.pts l)) ∧ True) ∧ (((((getx l (0 : Int)) : Int) = (getx l (0 : Int))) ∧ (((gety l (0 : Int)) : Int) = (gety l (0 : Int))) ∧ True) ∧ ((((getx l (0 : Int)) : Int) = (getx l (0 : Int))) ∧ (((gety l (0 : Int)) : Int) = (gety l (0 : Int))) ∧ True) ∧ ((((0 : Int) : Int) = (0 : Int)) ∧ (((0 : Int) : Int) = (0 : Int)) ∧ True) ∧ ((((0 : Int) : Int) = (0 : Int)) ∧ (((0 : Int) : Int) = (0 : Int)) ∧ True) ∧ True)) ∧ (([GK.int, GK.int, GK.int, GK.int, GK.int] : List GK) = ([GK.int, GK.int, GK.int, GK.int, GK.int] : List GK)) ∧ I2 [GV.int (0 : Int), GV.int (getx l (0 : Int)), GV.int (gety l (0 : Int)), GV.int (getx l (0 : Int)), GV.int (gety l (0 : Int))]) ∧ (∀ i2_0 : Int, ∀ i2_1 : Int, ∀ i2_2 : Int, ∀ i2_3 : Int, ∀ i2_4 : Int, I2 [GV.int i2_0, GV.int i2_1, GV.int i2_2, GV.int i2_3, GV.int i2_4] → ((true = true) ∧ ((True) ∧ True) ∧ ((ilt i2_0 (ilen l)) = true → ((true = true) ∧ ((NLe 0 i2_0 ∧ NLt i2_0 (ilen l)) ∧ (True) ∧ (True) ∧ True) ∧ (True) ∧ (true = true) ∧ ((True) ∧ (True) ∧ (True) ∧ (True) ∧ (True) ∧ (True) ∧ (True) ∧ (True) ∧ (True) ∧ (True) ∧ (True) ∧ True) ∧ (True) ∧ (true = true) ∧ ((True) ∧ (True) ∧ (True) ∧ (True) ∧ (True) ∧ (True) ∧ (True) ∧ (True) ∧ (True) ∧ (True) ∧ (True) ∧ True) ∧ (True) ∧ (true = true) ∧ ((True) ∧ (True) ∧ True) ∧ ((true = true) ∧ ((((iadd i2_0 (1 : Int)) : Int) = (iadd i2_0 (1 : Int))) ∧ ((Cont.pts l) = (Cont.pts l)) ∧ (((ilen l) : Int) = (ilen l)) ∧ (true = true) ∧ (true = true) ∧ ((((getx l (0 : Int)) : Int) = (getx l (0 : Int))) ∧ (((gety l (0 : Int)) : Int) = (gety l (0 : Int))) ∧ True) ∧ ((Cont.pts l) = (Cont.pts l)) ∧ ((((getx l (0 : Int)) : Int) = (getx l (0 : Int))) ∧ (((gety l (0 : Int)) : Int) = (gety l (0 : Int))) ∧ True) ∧ ((Cont.pts l) = (Cont.pts l)) ∧ ((Cont.pts l) = (Cont.pts l)) ∧ (((ilen l) : Int) = (ilen l)) ∧ (((inB (ilen l) (1 : Int) (400 : Int)) : Bool) = (inB (ilen l) (1 : Int) (400 : Int))) ∧ (((bnot (inB (ilen l) (1 : Int) (400 : Int))) : Bool) = (bnot (inB (ilen l) (1 : Int) (400 : Int)))) ∧ (((bnot (inB (ilen l) (1 : Int) (400 : Int))) : Bool) = (bnot (inB (ilen l) (1 : Int) (400 : Int)))) ∧ (((bite (bnot (inB (ilen l) (1 : Int) (400 : Int))) true (bnot (allB l))) : Bool) = (bite (bnot (inB (ilen l) (1 : Int) (400 : Int))) true (bnot (allB l)))) ∧ (true = true) ∧ (true = true) ∧ ((Cont.pts l) = (Cont.pts l)) ∧ True) ∧ (((((imax i2_3 (getx l i2_0)) : Int) = (imax i2_3 (getx l i2_0))) ∧ (((imax i2_4 (gety l i2_0)) : Int) = (imax i2_4 (gety l i2_0))) ∧ True) ∧ ((((imin i2_1 (getx l i2_0)) : Int) = (imin i2_1 (getx l i2_0))) ∧ (((imin i2_2 (gety l i2_0)) : Int) = (imin i2_2 (gety l i2_0))) ∧ True) ∧ ((((0 : Int) : Int) = (0 : Int)) ∧ (((0 : Int) : Int) = (0 : Int)) ∧ True) ∧ ((((0 : Int) : Int) = (0 : Int)) ∧ (((0 : Int) : Int) = (0 : Int)) ∧ True) ∧ True)) ∧ ((([GK.int, GK.int, GK.int, GK.int, GK.int] : List GK) = ([GK.int, GK.int, GK.int, GK.int, GK.int] : List GK)) ∧ I2 [GV.int (iadd i2_0 (1 : Int)), GV.int (imin i2_1 (getx l i2_0)), GV.int (imin i2_2 (gety l i2_0)), GV.int (imax i2_3 (getx l i2_0)), GV.int (imax i2_4 (gety l i2_0))] ∧ μ2 [GV.int (iadd i2_0 (1 : Int)), GV.int (imin i2_1 (getx l i2_0)), GV.int (imin i2_2 (gety l i2_0)), GV.int (imax i2_3 (getx l i2_0)), GV.int (imax i2_4 (gety l i2_0))] < μ2 [GV.int i2_0, GV.int i2_1, GV.int i2_2, GV.int i2_3, GV.int i2_4]))) ∧ ((ilt i2_0 (ilen l)) = false → ((true = true) ∧ (((true = true) ∧ ((True) ∧ (((true = true) ∧ ((True) ∧ (((true = true) ∧ ((True) ∧ (((true = true) ∧ ((True) ∧ ((((i2_1 : Int) = (bLx l)) ∧ ((i2_2 : Int) = (bLy l)) ∧ True) ∧ (((i2_3 : Int) = (bHx l)) ∧ ((i2_4 : Int) = (bHy l)) ∧ True) ∧ True))) ∧ True))) ∧ True))) ∧ ((true = true) ∧ ((True) ∧ (((true = true) ∧ ((True) ∧ (((true = true) ∧ ((True) ∧ ((((i2_1 : Int) = (bLx l)) ∧ ((i2_2 : Int) = (bLy l)) ∧ True) ∧ (((i2_3 : Int) = (bHx l)) ∧ ((i2_4 : Int) = (bHy l)) ∧ True) ∧ True))) ∧ True))) ∧ True))) ∧ True))) ∧ ((true = true) ∧ ((True) ∧ (((true = true) ∧ ((True) ∧ (((true = true) ∧ ((True) ∧ (((true = true) ∧ ((True) ∧ ((((i2_1 : Int) = (bLx l)) ∧ ((i2_2 : Int) = (bLy l)) ∧ True) ∧ (((i2_3 : Int) = (bHx l)) ∧ ((i2_4 : Int) = (bHy l)) ∧ True) ∧ True))) ∧ True))) ∧ True))) ∧ True))) ∧ True)))))))) ∧ True))) ∧ True))) ∧ True))) ∧ ((true = true) ∧ ((((true = true) ∧ ((((true = true) ∧ (True) ∧ ((((true = true) ∧ (True) ∧ (((true = true) ∧ ((True) ∧ (True) ∧ (True) ∧ True) ∧ ∃ (I1 : List GV → Prop) (μ1 : List GV → Nat), (((true = true) ∧ ((((0 : Int) : Int) = (0 : Int)) ∧ ((Cont.pts l) = (Cont.pts l)) ∧ (((ilen l) : Int) = (ilen l)) ∧ (true = true) ∧ (true = true) ∧ ((((getx l (0 : Int)) : Int) = (getx l (0 : Int))) ∧ (((gety l (0 : Int)) : Int) = (gety l (0 : Int))) ∧ True) ∧ ((Cont.pts l) = (Cont.pts l)) ∧ ((((getx l (0 : Int)) : Int) = (getx l (0 : Int))) ∧ (((gety l (0 : Int)) : Int) = (gety l (0 : Int))) ∧ True) ∧ ((Cont.pts l) = (Cont.pts l)) ∧ ((Cont.pts l) = (Cont.pts l)) ∧ (((ilen l) : Int) = (ilen l)) ∧ (((inB (ilen l) (1 : Int) (400 : Int)) : Bool) = (inB (ilen l) (1 : Int) (400 : Int))) ∧ (((bnot (inB (ilen l) (1 : Int) (400 : Int))) : Bool) = (bnot (inB (ilen l) (1 : Int) (400 : Int)))) ∧ (((bnot (inB (ilen l) (1 : Int) (400 : Int))) : Bool) = (bnot (inB (ilen l) (1 : Int) (400 : Int)))) ∧ (((bite (bnot (inB (ilen l) (1 : Int) (400 : Int))) true (bnot (allB l))) : Bool) = (bite (bnot (inB (ilen l) (1 : Int) (400 : Int))) true (bnot (allB l)))) ∧ (true = true) ∧ (true = true) ∧ ((Cont.pts l) = (Cont.pts l)) ∧ True) ∧ (((((getx l (0 : Int)) : Int) = (getx l (0 : Int))) ∧ (((gety l (0 : Int)) : Int) = (gety l (0 : Int))) ∧ True) ∧ ((((getx l (0 : Int)) : Int) = (getx l (0 : Int))) ∧ (((gety l (0 : Int)) : Int) = (gety l (0 : Int))) ∧ True) ∧ ((((0 : Int) : Int) = (0 : Int)) ∧ (((0 : Int) : Int) = (0 : Int)) ∧ True) ∧ ((((0 : Int) : Int) = (0 : Int)) ∧ (((0 : Int) : Int) = (0 : Int)) ∧ True) ∧ True)) ∧ (([GK.int, GK.int, GK.int, GK.int, GK.int] : List GK) = ([GK.int, GK.int, GK.int, GK.int, GK.int] : List GK)) ∧ I1 [GV.int (0 : Int), GV.int (getx l (0 : Int)), GV.int (gety l (0 : Int)), GV.int (getx l (0 : Int)), GV.int (gety l (0 : Int))]) ∧ (∀ i1_0 : Int, ∀ i1_1 : Int, ∀ i1_2 : Int, ∀ i1_3 : Int, ∀ i1_4 : Int, I1 [GV.int i1_0, GV.int i1_1, GV.int i1_2, GV.int i1_3, GV.int i1_4] → ((true = true) ∧ ((True) ∧ True) ∧ ((ilt i1_0 (ilen l)) = true → ((true = true) ∧ ((NLe 0 i1_0 ∧ NLt i1_0 (ilen l)) ∧ (True) ∧ (True) ∧ True) ∧ (True) ∧ (true = true) ∧ ((True) ∧ (True) ∧ (True) ∧ (True) ∧ (True) ∧ (True) ∧ (True) ∧ (True) ∧ (True) ∧ (True) ∧ (True) ∧ True) ∧ (True) ∧ (true = true) ∧ ((True) ∧ (True) ∧ (True) ∧ (True) ∧ (True) ∧ (True) ∧ (True) ∧ (True) ∧ (True) ∧ (True) ∧ (True) ∧ True) ∧ (True) ∧ (true = true) ∧ ((True) ∧ (True) ∧ True) ∧ ((true = true) ∧ ((((iadd i1_0 (1 : Int)) : Int) = (iadd i1_0 (1 : Int))) ∧ ((Cont.pts l) = (Cont.pts l)) ∧ (((ilen l) : Int) = (ilen l)) ∧ (true = true) ∧ (true = true) ∧ ((((getx l (0 : Int)) : Int) = (getx l (0 : Int))) ∧ (((gety l (0 : Int)) : Int) = (gety l (0 : Int))) ∧ True) ∧ ((Cont.pts l) = (Cont.pts l)) ∧ ((((getx l (0 : Int)) : Int) = (getx l (0 : Int))) ∧ (((gety l (0 : Int)) : Int) = (gety l (0 : Int))) ∧ True) ∧ ((Cont.pts l) = (Cont.pts l)) ∧ ((Cont.pts l) = (Cont.pts l)) ∧ (((ilen l) : Int) = (ilen l)) ∧ (((inB (ilen l) (1 : Int) (400 : Int)) : Bool) = (inB (ilen l) (1 : Int) (400 : Int))) ∧ (((bnot (inB (ilen l) (1 : Int) (400 : Int))) : Bool) = (bnot (inB (ilen l) (1 : Int) (400 : Int)))) ∧ (((bnot (inB (ilen l) (1 : Int) (400 : Int))) : Bool) = (bnot (inB (ilen l) (1 : Int) (400 : Int)))) ∧ (((bite (bnot (inB (ilen l) (1 : Int) (400 : Int))) true (bnot (allB l))) : Bool) = (bite (bnot (inB (ilen l) (1 : Int) (400 : Int))) true (bnot (allB l)))) ∧ (true = true) ∧ (true = true) ∧ ((Cont.pts l) = (Cont.pts l)) ∧ True) ∧ (((((imax i1_3 (getx l i1_0)) : Int) = (imax i1_3 (getx l i1_0))) ∧ (((imax i1_4 (gety l i1_0)) : Int) = (imax i1_4 (gety l i1_0))) ∧ True) ∧ ((((imin i1_1 (getx l i1_0)) : Int) = (imin i1_1 (getx l i1_0))) ∧ (((imin i1_2 (gety l i1_0)) : Int) = (imin i1_2 (gety l i1_0))) ∧ True) ∧ ((((0 : Int) : Int) = (0 : Int)) ∧ (((0 : Int) : Int) = (0 : Int)) ∧ True) ∧ ((((0 : Int) : Int) = (0 : Int)) ∧ (((0 : Int) : Int) = (0 : Int)) ∧ True) ∧ True)) ∧ ((([GK.int, GK.int, GK.int, GK.int, GK.int] : List GK) = ([GK.int, GK.int, GK.int, GK.int, GK.int] : List GK)) ∧ I1 [GV.int (iadd i1_0 (1 : Int)), GV.int (imin i1_1 (getx l i1_0)), GV.int (imin i1_2 (gety l i1_0)), GV.int (imax i1_3 (getx l i1_0)), GV.int (imax i1_4 (gety l i1_0))] ∧ μ1 [GV.int (iadd i1_0 (1 : Int)), GV.int (imin i1_1 (getx l i1_0)), GV.int (imin i1_2 (gety l i1_0)), GV.int (imax i1_3 (getx l i1_0)), GV.int (imax i1_4 (gety l i1_0))] < μ1 [GV.int i1_0, GV.int i1_1, GV.int i1_2, GV.int i1_3, GV.int i1_4]))) ∧ ((ilt i1_0 (ilen l)) = false → ((true = true) ∧ (((true = true) ∧ ((True) ∧ (((true = true) ∧ ((True) ∧ (((true = true) ∧ ((True) ∧ (((true = true) ∧ ((True) ∧ ((((i1_1 : Int) = (bLx l)) ∧ ((i1_2 : Int) = (bLy l)) ∧ True) ∧ (((i1_3 : Int) = (bHx l)) ∧ ((i1_4 : Int) = (bHy l)) ∧ True) ∧ True))) ∧ True))) ∧ True))) ∧ ((true = true) ∧ ((True) ∧ (((true = true) ∧ ((True) ∧ (((true = true) ∧ ((True) ∧ ((((i1_1 : Int) = (bLx l)) ∧ ((i1_2 : Int) = (bLy l)) ∧ True) ∧ (((i1_3 : Int) = (bHx l)) ∧ ((i1_4 : Int) = (bHy l)) ∧ True) ∧ True))) ∧ True))) ∧ True))) ∧ True))) ∧ ((true = true) ∧ ((True) ∧ (((true = true) ∧ ((True) ∧ (((true = true) ∧ ((True) ∧ (((true = true) ∧ ((True) ∧ ((((i1_1 : Int) = (bLx l)) ∧ ((i1_2 : Int) = (bLy l)) ∧ True) ∧ (((i1_3 : Int) = (bHx l)) ∧ ((i1_4 : Int) = (bHy l)) ∧ True) ∧ True))) ∧ True))) ∧ True))) ∧ True))) ∧ True)))))))) ∧ True))) ∧ True))) ∧ True))) ∧ True))))))))))) = ev sig_impl_BoxOf xs_impl_BoxOf Try.f19.ntmps (fun b => if b == 0 then [.v 27, .b 4, .b 5] else []) (codeOf Try.f19) 0 (initS [.s (.view (.pts l))]) (retK Try.f19.results.toList [.agg [.int (bLx l), .int (bLy l)], .agg [.int (bHx l), .int (bHy l)]]) := by kernel_rfl
set_option maxHeartbeats 400000 in
theorem F_impl_BoxOf : FunOK 19 g_impl_BoxOf := by
  refine fun_F (by kernel_rfl) Try.func19 rfl (by kernel_rfl) sig_impl_BoxOf_ok xs_impl_BoxOf_ok ?_
  intro avs sg h hn hl
  unfold g_impl_BoxOf at h
  split at h
  · rename_i l
    injection h with h; subst h
    refine ⟨by kernel_rfl, fun b => if b == 0 then [.v 27, .b 4, .b 5] else [], Eq.mp (V_impl_BoxOf l) ?_⟩
    simp only [true_and, and_true, implies_true, and_self, forall_const, true_implies, lenA, lenL, SV.lenOK, Cont.lenOK] at hn hl ⊢
    simp only [ilt_t, ilt_f, ile_t, ile_f, ieq_t, ieq_f, bnot_e, band_e, bite_and, bite_or, NLt_e, NLe_e, NNe_e, NIs_e, imax_e, imin_e, irem_e, Bool.not_eq_true', Bool.not_eq_false', Bool.and_eq_true, Bool.or_eq_true, Bool.or_eq_false_iff, Bool.and_eq_false_iff, Cont.pts.injEq, Cont.ints.injEq, Cont.bools.injEq, Cont.ptss.injEq, Cont.intss.injEq, Cont.boolss.injEq, true_and, and_true, implies_true]
    refine ⟨fun h => ?_, fun h => ?_⟩
    · have hb : bVal l = false := by unfold bVal; rcases h with h | h <;> simp [h]
      obtain ⟨h1, h2, h3, h4⟩ := boxV_no hb
      simp [h1, h2, h3, h4]
    · have hb : bVal l = true := by unfold bVal; rw [h.1, h.2]; rfl
      have hlen := (inB_true h.1).1
      refine ⟨⟨by omega, by omega⟩, ⟨by omega, by omega⟩, ?_⟩
      refine ⟨fun | [.int k, .int a, .int b, .int c, .int d] => 0 ≤ k ∧ k ≤ ilen l ∧ a = foldN k (fun a j => min a (getx l j)) (getx l 0) ∧ b = foldN k (fun a j => min a (gety l j)) (gety l 0) ∧ c = foldN k (fun a j => max a (getx l j)) (getx l 0) ∧ d = foldN k (fun a j => max a (gety l j)) (gety l 0) | _ => False, fun | [.int k, .int a, .int b, .int c, .int d] => (ilen l - k).toNat | _ => 0, ?_, ?_⟩
      · exact ⟨Int.le_refl 0, by omega, rfl, rfl, rfl, rfl⟩
      · rintro k a b c d ⟨hk0, hk1, rfl, rfl, rfl, rfl⟩
        refine ⟨fun hc => ?_, fun hc => ?_⟩
        · rw [iadd_e (by omega) (by omega)]
          refine ⟨⟨hk0, hc⟩, ⟨by omega, by omega, ?_⟩, by show (ilen l - (k + 1)).toNat < (ilen l - k).toNat; omega⟩
          simp only [foldN_1 hk0, and_self]
        · obtain rfl : k = ilen l := by omega
          simp [bLx, bLy, bHx, bHy, hb]
  · cases h
def g_spec_l1In : List AV → Option Sg
  | [.s (.int n), .s (.int lo), .s (.int hi)] => some ⟨True, [.s (.bool (inB n lo hi))]⟩
  | _ => none
def sig_spec_l1In : FuncId → List AV → Option Sg := sigL []
def xs_spec_l1In : XS := ⟨xsigL [], ysigL []⟩
theorem sig_spec_l1In_ok : SigOK sig_spec_l1In := sigL_nil
theorem xs_spec_l1In_ok : XSigOK xs_spec_l1In := ⟨xsigL_nil, ysigL_nil⟩
theorem V_spec_l1In (n : Int) (lo : Int) (hi : Int) : ((true = true) ∧ ((True) ∧ True) ∧ (true = true) ∧ ((True) ∧ (True) ∧ (True) ∧ (True) ∧ (NIs (ile lo n) true → True) ∧ (NIs (ile lo n) true → True) ∧ (NIs (ile lo n) true → True) ∧ (True) ∧ (True) ∧ True) ∧ (((bite (ile lo n) (ile n hi) false) : Bool) = (inB n lo hi)) ∧ True) = ev sig_spec_l1In xs_spec_l1In Try.f67.ntmps (fun b => []) (codeOf Try.f67) 0 (initS [.s (.int n), .s (.int lo), .s (.int hi)]) (retK Try.f67.results.toList [.s (.bool (inB n lo hi))]) := by kernel_rfl
set_option maxHeartbeats 400000 in
theorem F_spec_l1In : FunOK 67 g_spec_l1In := by
  refine fun_F (by kernel_rfl) Try.func67 rfl (by kernel_rfl) sig_spec_l1In_ok xs_spec_l1In_ok ?_
  intro avs sg h hn hl
  unfold g_spec_l1In at h
  split at h
  · rename_i n lo hi
    injection h with h; subst h
    refine ⟨by kernel_rfl, fun b => [], Eq.mp (V_spec_l1In n lo hi) ?_⟩
    simp only [true_and, and_true, implies_true, and_self, forall_const, true_implies, lenA, lenL, SV.lenOK, Cont.lenOK] at hn hl ⊢
    simp only [bite_and, inB_eq]
  · cases h
def g_spec_PointValid : List AV → Option Sg
  | [.agg [.int p1, .int p2]] => some ⟨True, [.s (.bool (vB p1 p2))]⟩
  | _ => none
def sig_spec_PointValid : FuncId → List AV → Option Sg := sigL [(67, g_spec_l1In)]
def xs_spec_PointValid : XS := ⟨xsigL [], ysigL []⟩
theorem sig_spec_PointValid_ok : SigOK sig_spec_PointValid := sigL_cons F_spec_l1In sigL_nil
theorem xs_spec_PointValid_ok : XSigOK xs_spec_PointValid := ⟨xsigL_nil, ysigL_nil⟩
theorem V_spec_PointValid (p1 : Int) (p2 : Int) : ((true = true) ∧ ((True) ∧ (True) ∧ True) ∧ (true = true) ∧ ((True) ∧ (True) ∧ ((True)) ∧ (True) ∧ (NIs (inB p1 (-10000 : Int) (10000 : Int)) true → True) ∧ (NIs (inB p1 (-10000 : Int) (10000 : Int)) true → True) ∧ (NIs (inB p1 (-10000 : Int) (10000 : Int)) true → (True)) ∧ (True) ∧ (True) ∧ True) ∧ (((bite (inB p1 (-10000 : Int) (10000 : Int)) (inB p2 (-10000 : Int) (10000 : Int)) false) : Bool) = (vB p1 p2)) ∧ True) = ev sig_spec_PointValid xs_spec_PointValid Try.f37.ntmps (fun b => []) (codeOf Try.f37) 0 (initS [.agg [.int p1, .int p2]]) (retK Try.f37.results.toList [.s (.bool (vB p1 p2))]) := by kernel_rfl
set_option maxHeartbeats 400000 in
theorem F_spec_PointValid : FunOK 37 g_spec_PointValid := by
  refine fun_F (by kernel_rfl) Try.func37 rfl (by kernel_rfl) sig_spec_PointValid_ok xs_spec_PointValid_ok ?_
  intro avs sg h hn hl
  unfold g_spec_PointValid at h
  split at h
  · rename_i p1 p2
    injection h with h; subst h
    refine ⟨by kernel_rfl, fun b => [], Eq.mp (V_spec_PointValid p1 p2) ?_⟩
    simp only [true_and, and_true, implies_true, and_self, forall_const, true_implies, lenA, lenL, SV.lenOK, Cont.lenOK] at hn hl ⊢
    simp only [bite_and, vB]
  · cases h
def g_spec_BoxOf : List AV → Option Sg
  | [.s (.view (.pts l))] => some ⟨True, [.agg [.int (bLx l), .int (bLy l)], .agg [.int (bHx l), .int (bHy l)]]⟩
  | _ => none
def sig_spec_BoxOf : FuncId → List AV → Option Sg := sigL [(67, g_spec_l1In), (37, g_spec_PointValid)]
def xs_spec_BoxOf : XS := ⟨xsigL [], ysigL []⟩
theorem sig_spec_BoxOf_ok : SigOK sig_spec_BoxOf := sigL_cons F_spec_l1In (sigL_cons F_spec_PointValid sigL_nil)
theorem xs_spec_BoxOf_ok : XSigOK xs_spec_BoxOf := ⟨xsigL_nil, ysigL_nil⟩
theorem V_spec_BoxOf (l : List Pt) : ((true = true) ∧ ((True) ∧ (True) ∧ True) ∧ (true = true) ∧ ((True) ∧ (True) ∧ ((True)) ∧ (True) ∧ True) ∧ ((bnot (inB (ilen l) (1 : Int) (400 : Int))) = true → ((true = true) ∧ ((True) ∧ (True) ∧ True) ∧ (True) ∧ (True) ∧ ((((0 : Int) : Int) = (bLx l)) ∧ (((0 : Int) : Int) = (bLy l)) ∧ True) ∧ ((((0 : Int) : Int) = (bHx l)) ∧ (((0 : Int) : Int) = (bHy l)) ∧ True) ∧ True)) ∧ ((bnot (inB (ilen l) (1 : Int) (400 : Int))) = false → ((true = true) ∧ ((True) ∧ (NLe 0 (0 : Int) ∧ NLt (0 : Int) (ilen l)) ∧ (True) ∧ (True) ∧ True) ∧ (True) ∧ (true = true) ∧ ((True) ∧ (NLe 0 (0 : Int) ∧ NLt (0 : Int) (ilen l)) ∧ (True) ∧ (True) ∧ True) ∧ (True) ∧ (true = true) ∧ ((True) ∧ True) ∧ ∃ (I1 : List GV → Prop) (μ1 : List GV → Nat), (((true = true) ∧ ((((0 : Int) : Int) = (0 : Int)) ∧ ((Cont.pts l) = (Cont.pts l)) ∧ ((((getx l (0 : Int)) : Int) = (getx l (0 : Int))) ∧ (((gety l (0 : Int)) : Int) = (gety l (0 : Int))) ∧ True) ∧ (true = true) ∧ ((Cont.pts l) = (Cont.pts l)) ∧ ((((getx l (0 : Int)) : Int) = (getx l (0 : Int))) ∧ (((gety l (0 : Int)) : Int) = (gety l (0 : Int))) ∧ True) ∧ (true = true) ∧ ((Cont.pts l) = (Cont.pts l)) ∧ (((ilen l) : Int) = (ilen l)) ∧ (((inB (ilen l) (1 : Int) (400 : Int)) : Bool) = (inB (ilen l) (1 : Int) (400 : Int))) ∧ (((bnot (inB (ilen l) (1 : Int) (400 : Int))) : Bool) = (bnot (inB (ilen l) (1 : Int) (400 : Int)))) ∧ (true = true) ∧ (true = true) ∧ ((Cont.pts l) = (Cont.pts l)) ∧ True) ∧ (((((getx l (0 : Int)) : Int) = (getx l (0 : Int))) ∧ (((gety l (0 : Int)) : Int) = (gety l (0 : Int))) ∧ True) ∧ ((((getx l (0 : Int)) : Int) = (getx l (0 : Int))) ∧ (((gety l (0 : Int)) : Int) = (gety l (0 : Int))) ∧ True) ∧ ((((0 : Int) : Int) = (0 : Int)) ∧ (((0 : Int) : Int) = (0 : Int)) ∧ True) ∧ ((((0 : Int) : Int) = (0 : Int)) ∧ (((0 : Int) : Int) = (0 : Int)) ∧ True) ∧ True)) ∧ (([GK.int, GK.int, GK.int, GK.int, GK.int, GK.int, GK.int, GK.int, GK.int] : List GK) = ([GK.int, GK.int, GK.int, GK.int, GK.int, GK.int, GK.int, GK.int, GK.int] : List GK)) ∧ I1 [GV.int (0 : Int), GV.int (0 : Int), GV.int (0 : Int), GV.int (0 : Int), GV.int (0 : Int), GV.int (getx l (0 : Int)), GV.int (gety l (0 : Int)), GV.int (getx l (0 : Int)), GV.int (gety l (0 : Int))]) ∧ (∀ i1_0 : Int, ∀ i1_1 : Int, ∀ i1_2 : Int, ∀ i1_3 : Int, ∀ i1_4 : Int, ∀ i1_5 : Int, ∀ i1_6 : Int, ∀ i1_7 : Int, ∀ i1_8 : Int, I1 [GV.int i1_0, GV.int i1_1, GV.int i1_2, GV.int i1_3, GV.int i1_4, GV.int i1_5, GV.int i1_6, GV.int i1_7, GV.int i1_8] → ((true = true) ∧ ((True) ∧ (True) ∧ (True) ∧ (True) ∧ True) ∧ ((ilt i1_0 (ilen l)) = true → ((true = true) ∧ ((True) ∧ (True) ∧ (NLe 0 i1_0 ∧ NLt i1_0 (ilen l)) ∧ (True) ∧ ((True)) ∧ (True) ∧ True) ∧ ((bnot (vB (getx l i1_0) (gety l i1_0))) = true → ((true = true) ∧ ((True) ∧ (True) ∧ True) ∧ (True) ∧ (True) ∧ ((((0 : Int) : Int) = (bLx l)) ∧ (((0 : Int) : Int) = (bLy l)) ∧ True) ∧ ((((0 : Int) : Int) = (bHx l)) ∧ (((0 : Int) : Int) = (bHy l)) ∧ True) ∧ True)) ∧ ((bnot (vB (getx l i1_0) (gety l i1_0))) = false → ((true = true) ∧ ((True) ∧ (True) ∧ (True) ∧ (True) ∧ (NLe 0 i1_0 ∧ NLt i1_0 (ilen l)) ∧ (True) ∧ (True) ∧ (True) ∧ (True) ∧ (True) ∧ (True) ∧ (True) ∧ (NLe 0 i1_0 ∧ NLt i1_0 (ilen l)) ∧ (True) ∧ (True) ∧ (True) ∧ (True) ∧ True) ∧ (True) ∧ (true = true) ∧ ((True) ∧ (True) ∧ (True) ∧ (True) ∧ (NLe 0 i1_0 ∧ NLt i1_0 (ilen l)) ∧ (True) ∧ (True) ∧ (True) ∧ (True) ∧ (True) ∧ (True) ∧ (True) ∧ (NLe 0 i1_0 ∧ NLt i1_0 (ilen l)) ∧ (True) ∧ (True) ∧ (True) ∧ (True) ∧ True) ∧ (True) ∧ (true = true) ∧ ((True) ∧ (True) ∧ (True) ∧ True) ∧ ((true = true) ∧ ((((iadd i1_0 (1 : Int)) : Int) = (iadd i1_0 (1 : Int))) ∧ ((Cont.pts l) = (Cont.pts l)) ∧ ((((getx l (0 : Int)) : Int) = (getx l (0 : Int))) ∧ (((gety l (0 : Int)) : Int) = (gety l (0 : Int))) ∧ True) ∧ (true = true) ∧ ((Cont.pts l) = (Cont.pts l)) ∧ ((((getx l (0 : Int)) : Int) = (getx l (0 : Int))) ∧ (((gety l (0 : Int)) : Int) = (gety l (0 : Int))) ∧ True) ∧ (true = true) ∧ ((Cont.pts l) = (Cont.pts l)) ∧ (((ilen l) : Int) = (ilen l)) ∧ (((inB (ilen l) (1 : Int) (400 : Int)) : Bool) = (inB (ilen l) (1 : Int) (400 : Int))) ∧ (((bnot (inB (ilen l) (1 : Int) (400 : Int))) : Bool) = (bnot (inB (ilen l) (1 : Int) (400 : Int)))) ∧ (true = true) ∧ (true = true) ∧ ((Cont.pts l) = (Cont.pts l)) ∧ True) ∧ (((((imax i1_7 (getx l i1_0)) : Int) = (imax i1_7 (getx l i1_0))) ∧ (((imax i1_8 (gety l i1_0)) : Int) = (imax i1_8 (gety l i1_0))) ∧ True) ∧ ((((imin i1_5 (getx l i1_0)) : Int) = (imin i1_5 (getx l i1_0))) ∧ (((imin i1_6 (gety l i1_0)) : Int) = (imin i1_6 (gety l i1_0))) ∧ True) ∧ (((i1_3 : Int) = i1_3) ∧ ((i1_4 : Int) = i1_4) ∧ True) ∧ (((i1_1 : Int) = i1_1) ∧ ((i1_2 : Int) = i1_2) ∧ True) ∧ True)) ∧ ((([GK.int, GK.int, GK.int, GK.int, GK.int, GK.int, GK.int, GK.int, GK.int] : List GK) = ([GK.int, GK.int, GK.int, GK.int, GK.int, GK.int, GK.int, GK.int, GK.int] : List GK)) ∧ I1 [GV.int (iadd i1_0 (1 : Int)), GV.int i1_1, GV.int i1_2, GV.int i1_3, GV.int i1_4, GV.int (imin i1_5 (getx l i1_0)), GV.int (imin i1_6 (gety l i1_0)), GV.int (imax i1_7 (getx l i1_0)), GV.int (imax i1_8 (gety l i1_0))] ∧ μ1 [GV.int (iadd i1_0 (1 : Int)), GV.int i1_1, GV.int i1_2, GV.int i1_3, GV.int i1_4, GV.int (imin i1_5 (getx l i1_0)), GV.int (imin i1_6 (gety l i1_0)), GV.int (imax i1_7 (getx l i1_0)), GV.int (imax i1_8 (gety l i1_0))] < μ1 [GV.int i1_0, GV.int i1_1, GV.int i1_2, GV.int i1_3, GV.int i1_4, GV.int i1_5, GV.int i1_6, GV.int i1_7, GV.int i1_8]))))) ∧ ((ilt i1_0 (ilen l)) = false → ((true = true) ∧ (((true = true) ∧ ((True) ∧ (((true = true) ∧ ((True) ∧ (((true = true) ∧ ((True) ∧ (((true = true) ∧ ((True) ∧ ((((i1_5 : Int) = (bLx l)) ∧ ((i1_6 : Int) = (bLy l)) ∧ True) ∧ (((i1_7 : Int) = (bHx l)) ∧ ((i1_8 : Int) = (bHy l)) ∧ True) ∧ True))) ∧ True))) ∧ True))) ∧ ((true = true) ∧ ((True) ∧ (((true = true) ∧ ((True) ∧ (((true = true) ∧ ((True) ∧ ((((i1_5 : Int) = (bLx l)) ∧ ((i1_6 : Int) = (bLy l)) ∧ True) ∧ (((i1_7 : Int) = (bHx l)) ∧ ((i1_8 : Int) = (bHy l)) ∧ True) ∧ True))) ∧ True))) ∧ True))) ∧ True))) ∧ ((true = true) ∧ ((True) ∧ (((true = true) ∧ ((True) ∧ (((true = true) ∧ ((True) ∧ (((true = true) ∧ ((True) ∧ ((((i1_5 : Int) = (bLx l)) ∧ ((i1_6 : Int) = (bLy l)) ∧ True) ∧ (((i1_7 : Int) = (bHx l)) ∧ ((i1_8 : Int) = (bHy l)) ∧ True) ∧ True))) ∧ True))) ∧ True))) ∧ True))) ∧ True)))))))) = ev sig_spec_BoxOf xs_spec_BoxOf Try.f17.ntmps (fun b => if b == 0 then [.v 6, .b 2, .b 3, .b 4, .b 5] else []) (codeOf Try.f17) 0 (initS [.s (.view (.pts l))]) (retK Try.f17.results.toList [.agg [.int (bLx l), .int (bLy l)], .agg [.int (bHx l), .int (bHy l)]]) := by kernel_rfl
set_option maxHeartbeats 400000 in
theorem F_spec_BoxOf : FunOK 17 g_spec_BoxOf := by
  refine fun_F (by kernel_rfl) Try.func17 rfl (by kernel_rfl) sig_spec_BoxOf_ok xs_spec_BoxOf_ok ?_
  intro avs sg h hn hl
  unfold g_spec_BoxOf at h
  split at h
  · rename_i l
    injection h with h; subst h
    refine ⟨by kernel_rfl, fun b => if b == 0 then [.v 6, .b 2, .b 3, .b 4, .b 5] else [], Eq.mp (V_spec_BoxOf l) ?_⟩
    simp only [true_and, and_true, implies_true, and_self, forall_const, true_implies, lenA, lenL, SV.lenOK, Cont.lenOK] at hn hl ⊢
    simp only [ilt_t, ilt_f, ile_t, ile_f, ieq_t, ieq_f, bnot_e, band_e, bite_and, bite_or, NLt_e, NLe_e, NNe_e, NIs_e, imax_e, imin_e, irem_e, Bool.not_eq_true', Bool.not_eq_false', Bool.and_eq_true, Bool.or_eq_true, Bool.or_eq_false_iff, Bool.and_eq_false_iff, Cont.pts.injEq, Cont.ints.injEq, Cont.bools.injEq, Cont.ptss.injEq, Cont.intss.injEq, Cont.boolss.injEq, true_and, and_true, implies_true]
    refine ⟨fun h => ?_, fun h => ?_⟩
    · have hb : bVal l = false := by unfold bVal; simp [h]
      obtain ⟨h1, h2, h3, h4⟩ := boxV_no hb
      simp [h1, h2, h3, h4]
    · have hlen := (inB_true h).1
      refine ⟨⟨by omega, by omega⟩, ⟨by omega, by omega⟩, ?_⟩
      refine ⟨fun | [.int k, _, _, _, _, .int a, .int b, .int c, .int d] => 0 ≤ k ∧ k ≤ ilen l ∧ a = foldN k (fun a j => min a (getx l j)) (getx l 0) ∧ b = foldN k (fun a j => min a (gety l j)) (gety l 0) ∧ c = foldN k (fun a j => max a (getx l j)) (getx l 0) ∧ d = foldN k (fun a j => max a (gety l j)) (gety l 0) ∧ ∀ j, 0 ≤ j → j < k → vB (getx l j) (gety l j) = true | _ => False, fun | .int k :: _ => (ilen l - k).toNat | _ => 0, ?_, ?_⟩
      · exact ⟨Int.le_refl 0, by omega, rfl, rfl, rfl, rfl, fun j h0 h1 => absurd h1 (by omega)⟩
      · rintro k _ _ _ _ a b c d ⟨hk0, hk1, rfl, rfl, rfl, rfl, hk⟩
        refine ⟨fun hc => ⟨⟨hk0, hc⟩, fun hv => ?_, fun hv => ?_⟩, fun hc => ?_⟩
        · have hb : bVal l = false := by unfold bVal; rw [allB_N, allN_no k hk0 hc hv]; simp
          obtain ⟨h1, h2, h3, h4⟩ := boxV_no hb
          simp [h1, h2, h3, h4]
        · rw [iadd_e (by omega) (by omega)]
          refine ⟨⟨hk0, hc⟩, ⟨hk0, hc⟩, ⟨by omega, by omega, by rw [foldN_1 hk0], by rw [foldN_1 hk0], by rw [foldN_1 hk0], by rw [foldN_1 hk0], fun j h0 h1 => ?_⟩, by show (ilen l - (k + 1)).toNat < (ilen l - k).toNat; omega⟩
          · rcases Int.lt_or_le j k with h | h
            · exact hk j h0 h
            · rw [show j = k by omega]; exact hv
        · have hb : bVal l = true := by unfold bVal; rw [h, allB_N, allN_mk fun j h0 h1 => hk j h0 (by omega)]; rfl
          obtain rfl : k = ilen l := by omega
          simp [bLx, bLy, bHx, bHy, hb]
  · cases h
def degW (d : Int) : Int := irem (iadd (irem d 360) 360) 360
def g_impl_Degrees : List AV → Option Sg
  | [.s (.int d)] => some ⟨True, [.s (.int (degW d))]⟩
  | _ => none
def sig_impl_Degrees : FuncId → List AV → Option Sg := sigL []
def xs_impl_Degrees : XS := ⟨xsigL [], ysigL []⟩
theorem sig_impl_Degrees_ok : SigOK sig_impl_Degrees := sigL_nil
theorem xs_impl_Degrees_ok : XSigOK xs_impl_Degrees := ⟨xsigL_nil, ysigL_nil⟩
theorem V_impl_Degrees (d : Int) : ((true = true) ∧ ((True) ∧ True) ∧ (true = true) ∧ ((True) ∧ (NNe (360 : Int) 0) ∧ (True) ∧ (NNe (360 : Int) 0) ∧ (True) ∧ True) ∧ (((irem (iadd (irem d (360 : Int)) (360 : Int)) (360 : Int)) : Int) = (degW d)) ∧ True) = ev sig_impl_Degrees xs_impl_Degrees Try.f73.ntmps (fun b => []) (codeOf Try.f73) 0 (initS [.s (.int d)]) (retK Try.f73.results.toList [.s (.int (degW d))]) := by kernel_rfl
set_option maxHeartbeats 400000 in
theorem F_impl_Degrees : FunOK 73 g_impl_Degrees := by
  refine fun_F (by kernel_rfl) Try.func73 rfl (by kernel_rfl) sig_impl_Degrees_ok xs_impl_Degrees_ok ?_
  intro avs sg h hn hl
  unfold g_impl_Degrees at h
  split at h
  · rename_i d
    injection h with h; subst h
    refine ⟨by kernel_rfl, fun b => [], Eq.mp (V_impl_Degrees d) ?_⟩
    simp only [true_and, and_true, implies_true, and_self, forall_const, true_implies, lenA, lenL, SV.lenOK, Cont.lenOK] at hn hl ⊢
    simp only [ilt_t, ilt_f, ile_t, ile_f, ieq_t, ieq_f, bnot_e, band_e, bite_and, bite_or, NLt_e, NLe_e, NNe_e, NIs_e, imax_e, imin_e, irem_e, Bool.not_eq_true', Bool.not_eq_false', Bool.and_eq_true, Bool.or_eq_true, Bool.or_eq_false_iff, Bool.and_eq_false_iff, Cont.pts.injEq, Cont.ints.injEq, Cont.bools.injEq, Cont.ptss.injEq, Cont.intss.injEq, Cont.boolss.injEq, true_and, and_true, implies_true]
    exact ⟨by decide, by simp [degW, irem_e]⟩
  · cases h
def g_laws_alive : List AV → Option Sg
  | [] => some ⟨True, [.s (.bool (true))]⟩
  | _ => none
def sig_laws_alive : FuncId → List AV → Option Sg := sigL [(73, g_impl_Degrees)]
def xs_laws_alive : XS := ⟨xsigL [], ysigL []⟩
theorem sig_laws_alive_ok : SigOK sig_laws_alive := sigL_cons F_impl_Degrees sigL_nil
theorem xs_laws_alive_ok : XSigOK xs_laws_alive := ⟨xsigL_nil, ysigL_nil⟩
theorem V_laws_alive  : ((true = true) ∧ ((True) ∧ True) ∧ (true = true) ∧ (((True)) ∧ (True) ∧ (True) ∧ True) ∧ (((ieq (degW (-1 : Int)) (359 : Int)) : Bool) = (true)) ∧ True) = ev sig_laws_alive xs_laws_alive Try.f23.ntmps (fun b => []) (codeOf Try.f23) 0 (initS []) (retK Try.f23.results.toList [.s (.bool (true))]) := by kernel_rfl
set_option maxHeartbeats 400000 in
theorem F_laws_alive : FunOK 23 g_laws_alive := by
  refine fun_F (by kernel_rfl) Try.func23 rfl (by kernel_rfl) sig_laws_alive_ok xs_laws_alive_ok ?_
  intro avs sg h hn hl
  unfold g_laws_alive at h
  split at h
  ·
    injection h with h; subst h
    refine ⟨by kernel_rfl, fun b => [], Eq.mp (V_laws_alive ) ?_⟩
    simp only [true_and, and_true, implies_true, and_self, forall_const, true_implies, lenA, lenL, SV.lenOK, Cont.lenOK] at hn hl ⊢
    unfold ieq degW
    rw [irem_e, irem_e, iadd_e (by decide) (by decide)]
    decide
  · cases h
theorem bxor_self (a : Bool) : bxor a a = false := by cases a <;> simp [bxor]
theorem fold_min (f : Int → Int) : ∀ n : Nat, (∀ j : Int, 0 ≤ j → j < (n : Int) + 1 → foldN ((n : Int) + 1) (fun a j => min a (f j)) (f 0) ≤ f j) ∧ ∃ j : Int, 0 ≤ j ∧ j < (n : Int) + 1 ∧ foldN ((n : Int) + 1) (fun a j => min a (f j)) (f 0) = f j
  | 0 => by
    rw [foldN_1 (by omega)]
    refine ⟨fun j j0 j1 => ?_, 0, by omega, by omega, ?_⟩
    · have : j = 0 := by omega
      subst this
      show min (f 0) (f ((0 : Nat) : Int)) ≤ f 0
      simp
    · show min (f 0) (f ((0 : Nat) : Int)) = f 0
      simp
  | n + 1 => by
    obtain ⟨h1, j, j0, j1, h2⟩ := fold_min f n
    rw [show ((n + 1 : Nat) : Int) = (n : Int) + 1 by omega, foldN_1 (by omega)]
    refine ⟨fun i i0 i1 => ?_, ?_⟩
    · by_cases h : i < (n : Int) + 1
      · have := h1 i i0 h; omega
      · rw [show i = (n : Int) + 1 by omega]; omega
    · by_cases h : foldN ((n : Int) + 1) (fun a j => min a (f j)) (f 0) ≤ f ((n : Int) + 1)
      · exact ⟨j, j0, by omega, by rw [← h2]; omega⟩
      · exact ⟨(n : Int) + 1, by omega, by omega, by omega⟩
theorem fold_max (f : Int → Int) : ∀ n : Nat, (∀ j : Int, 0 ≤ j → j < (n : Int) + 1 → f j ≤ foldN ((n : Int) + 1) (fun a j => max a (f j)) (f 0)) ∧ ∃ j : Int, 0 ≤ j ∧ j < (n : Int) + 1 ∧ foldN ((n : Int) + 1) (fun a j => max a (f j)) (f 0) = f j
  | 0 => by
    rw [foldN_1 (by omega)]
    refine ⟨fun j j0 j1 => ?_, 0, by omega, by omega, ?_⟩
    · have : j = 0 := by omega
      subst this
      show f 0 ≤ max (f 0) (f ((0 : Nat) : Int))
      simp
    · show max (f 0) (f ((0 : Nat) : Int)) = f 0
      simp
  | n + 1 => by
    obtain ⟨h1, j, j0, j1, h2⟩ := fold_max f n
    rw [show ((n + 1 : Nat) : Int) = (n : Int) + 1 by omega, foldN_1 (by omega)]
    refine ⟨fun i i0 i1 => ?_, ?_⟩
    · by_cases h : i < (n : Int) + 1
      · have := h1 i i0 h; omega
      · rw [show i = (n : Int) + 1 by omega]; omega
    · by_cases h : f ((n : Int) + 1) ≤ foldN ((n : Int) + 1) (fun a j => max a (f j)) (f 0)
      · exact ⟨j, j0, by omega, by rw [← h2]; omega⟩
      · exact ⟨(n : Int) + 1, by omega, by omega, by omega⟩
structure BoxT (l : List Pt) : Prop where
  le : ∀ j, 0 ≤ j → j < ilen l → (bLx l ≤ getx l j ∧ getx l j ≤ bHx l) ∧ bLy l ≤ gety l j ∧ gety l j ≤ bHy l
  lx : ∃ j, 0 ≤ j ∧ j < ilen l ∧ getx l j = bLx l
  hx : ∃ j, 0 ≤ j ∧ j < ilen l ∧ getx l j = bHx l
  ly : ∃ j, 0 ≤ j ∧ j < ilen l ∧ gety l j = bLy l
  hy : ∃ j, 0 ≤ j ∧ j < ilen l ∧ gety l j = bHy l
theorem boxT {l : List Pt} (h : bVal l = true) (h1 : 1 ≤ ilen l) : BoxT l := by
  have e : ((ilen l - 1).toNat : Int) + 1 = ilen l := by omega
  have a1 := fold_min (getx l) (ilen l - 1).toNat
  have a2 := fold_min (gety l) (ilen l - 1).toNat
  have a3 := fold_max (getx l) (ilen l - 1).toNat
  have a4 := fold_max (gety l) (ilen l - 1).toNat
  rw [e] at a1 a2 a3 a4
  have b1 : bLx l = foldN (ilen l) (fun a j => min a (getx l j)) (getx l 0) := by unfold bLx; rw [if_pos h]
  have b2 : bLy l = foldN (ilen l) (fun a j => min a (gety l j)) (gety l 0) := by unfold bLy; rw [if_pos h]
  have b3 : bHx l = foldN (ilen l) (fun a j => max a (getx l j)) (getx l 0) := by unfold bHx; rw [if_pos h]
  have b4 : bHy l = foldN (ilen l) (fun a j => max a (gety l j)) (gety l 0) := by unfold bHy; rw [if_pos h]
  rw [← b1] at a1; rw [← b2] at a2; rw [← b3] at a3; rw [← b4] at a4
  refine ⟨fun j j0 j1 => ⟨⟨a1.1 j j0 j1, a3.1 j j0 j1⟩, a2.1 j j0 j1, a4.1 j j0 j1⟩, ?_, ?_, ?_, ?_⟩
  · obtain ⟨j, j0, j1, e⟩ := a1.2; exact ⟨j, j0, j1, e.symm⟩
  · obtain ⟨j, j0, j1, e⟩ := a3.2; exact ⟨j, j0, j1, e.symm⟩
  · obtain ⟨j, j0, j1, e⟩ := a2.2; exact ⟨j, j0, j1, e.symm⟩
  · obtain ⟨j, j0, j1, e⟩ := a4.2; exact ⟨j, j0, j1, e.symm⟩
def g_laws_FnBoxOf : List AV → Option Sg
  | [.s (.rdr n)] => some ⟨True, [.s (.bool (true))]⟩
  | _ => none
def sig_laws_FnBoxOf : FuncId → List AV → Option Sg := sigL [(19, g_impl_BoxOf), (17, g_spec_BoxOf), (23, g_laws_alive), (24, g_impl_PointValid)]
def xs_laws_FnBoxOf : XS := ⟨xsigL [], ysigL [(22, g_spec_DrawBoxOf)]⟩
theorem sig_laws_FnBoxOf_ok : SigOK sig_laws_FnBoxOf := sigL_cons F_impl_BoxOf (sigL_cons F_spec_BoxOf (sigL_cons F_laws_alive (sigL_cons F_impl_PointValid sigL_nil)))
theorem xs_laws_FnBoxOf_ok : XSigOK xs_laws_FnBoxOf := ⟨xsigL_nil, ysigL_cons F_spec_DrawBoxOf ysigL_nil⟩
theorem V_laws_FnBoxOf (n : Int) : ((true = true) ∧ ((True) ∧ True) ∧ (true = true) ∧ ((True) ∧ (True) ∧ (True) ∧ True) ∧ ((ilt (1048576 : Int) n) = true → ((true = true) ∧ ((True) ∧ True) ∧ ((true : Bool) = (true)) ∧ True)) ∧ ((ilt (1048576 : Int) n) = false → ((true = true) ∧ ((True) ∧ True) ∧ (true = true) ∧ ((n ≤ 1048576)) ∧ (∀ l_16 : List Pt, ((ilen l_16 ≤ 8) → ((True) ∧ (true = true) ∧ ((True) ∧ ((True)) ∧ (True) ∧ (True) ∧ (True) ∧ (True) ∧ (True) ∧ True) ∧ (True) ∧ (True) ∧ (true = true) ∧ ((True) ∧ ((True)) ∧ (True) ∧ (True) ∧ (True) ∧ (True) ∧ (True) ∧ True) ∧ (True) ∧ (True) ∧ (true = true) ∧ ((True) ∧ (True) ∧ (True) ∧ (True) ∧ (NIs (bnot (band (ieq (bLx (l_16)) (bLx (l_16))) (ieq (bLy (l_16)) (bLy (l_16))))) false → True) ∧ (NIs (bnot (band (ieq (bLx (l_16)) (bLx (l_16))) (ieq (bLy (l_16)) (bLy (l_16))))) false → True) ∧ (NIs (bnot (band (ieq (bLx (l_16)) (bLx (l_16))) (ieq (bLy (l_16)) (bLy (l_16))))) false → True) ∧ (True) ∧ True) ∧ ((bite (bnot (band (ieq (bLx (l_16)) (bLx (l_16))) (ieq (bLy (l_16)) (bLy (l_16))))) true (bnot (band (ieq (bHx (l_16)) (bHx (l_16))) (ieq (bHy (l_16)) (bHy (l_16)))))) = true → ((true = true) ∧ ((True) ∧ True) ∧ ((false : Bool) = (true)) ∧ True)) ∧ ((bite (bnot (band (ieq (bLx (l_16)) (bLx (l_16))) (ieq (bLy (l_16)) (bLy (l_16))))) true (bnot (band (ieq (bHx (l_16)) (bHx (l_16))) (ieq (bHy (l_16)) (bHy (l_16)))))) = false → ((true = true) ∧ ((True) ∧ (True) ∧ (True) ∧ True) ∧ ((ieq (ilen (l_16)) (0 : Int)) = true → ((true = true) ∧ ((True) ∧ (True) ∧ (True) ∧ (True) ∧ (NIs (band (ieq (bLx (l_16)) (0 : Int)) (ieq (bLy (l_16)) (0 : Int))) true → True) ∧ (NIs (band (ieq (bLx (l_16)) (0 : Int)) (ieq (bLy (l_16)) (0 : Int))) true → True) ∧ (NIs (band (ieq (bLx (l_16)) (0 : Int)) (ieq (bLy (l_16)) (0 : Int))) true → True) ∧ (True) ∧ (True) ∧ (NIs (bite (band (ieq (bLx (l_16)) (0 : Int)) (ieq (bLy (l_16)) (0 : Int))) (band (ieq (bHx (l_16)) (0 : Int)) (ieq (bHy (l_16)) (0 : Int))) false) true → (True)) ∧ (True) ∧ (True) ∧ True) ∧ (((bite (bite (band (ieq (bLx (l_16)) (0 : Int)) (ieq (bLy (l_16)) (0 : Int))) (band (ieq (bHx (l_16)) (0 : Int)) (ieq (bHy (l_16)) (0 : Int))) false) (true) false) : Bool) = (true)) ∧ True)) ∧ ((ieq (ilen (l_16)) (0 : Int)) = false → ((true = true) ∧ ((True) ∧ (True) ∧ True) ∧ (True) ∧ (true = true) ∧ ((True) ∧ True) ∧ ∃ (I1 : List GV → Prop) (μ1 : List GV → Nat), (((true = true) ∧ (((false : Bool) = false) ∧ (((0 : Int) : Int) = (0 : Int)) ∧ (((false : Bool) = false) ∧ ((false : Bool) = false) ∧ ((false : Bool) = false) ∧ ((false : Bool) = false) ∧ True) ∧ (true = true) ∧ ((Cont.pts (l_16)) = (Cont.pts (l_16))) ∧ (((ilen (l_16)) : Int) = (ilen (l_16))) ∧ (((ieq (ilen (l_16)) (0 : Int)) : Bool) = (ieq (ilen (l_16)) (0 : Int))) ∧ ((((bLx (l_16)) : Int) = (bLx (l_16))) ∧ (((bLy (l_16)) : Int) = (bLy (l_16))) ∧ True) ∧ ((((bLx (l_16)) : Int) = (bLx (l_16))) ∧ (((bLy (l_16)) : Int) = (bLy (l_16))) ∧ True) ∧ (((bnot (band (ieq (bLx (l_16)) (bLx (l_16))) (ieq (bLy (l_16)) (bLy (l_16))))) : Bool) = (bnot (band (ieq (bLx (l_16)) (bLx (l_16))) (ieq (bLy (l_16)) (bLy (l_16)))))) ∧ (((bnot (band (ieq (bLx (l_16)) (bLx (l_16))) (ieq (bLy (l_16)) (bLy (l_16))))) : Bool) = (bnot (band (ieq (bLx (l_16)) (bLx (l_16))) (ieq (bLy (l_16)) (bLy (l_16)))))) ∧ (((bite (bnot (band (ieq (bLx (l_16)) (bLx (l_16))) (ieq (bLy (l_16)) (bLy (l_16))))) true (bnot (band (ieq (bHx (l_16)) (bHx (l_16))) (ieq (bHy (l_16)) (bHy (l_16)))))) : Bool) = (bite (bnot (band (ieq (bLx (l_16)) (bLx (l_16))) (ieq (bLy (l_16)) (bLy (l_16))))) true (bnot (band (ieq (bHx (l_16)) (bHx (l_16))) (ieq (bHy (l_16)) (bHy (l_16))))))) ∧ ((Cont.pts (l_16)) = (Cont.pts (l_16))) ∧ ((((bLx (l_16)) : Int) = (bLx (l_16))) ∧ (((bLy (l_16)) : Int) = (bLy (l_16))) ∧ True) ∧ ((((bHx (l_16)) : Int) = (bHx (l_16))) ∧ (((bHy (l_16)) : Int) = (bHy (l_16))) ∧ True) ∧ (true = true) ∧ (true = true) ∧ ((Cont.pts (l_16)) = (Cont.pts (l_16))) ∧ ((((bLx (l_16)) : Int) = (bLx (l_16))) ∧ (((bLy (l_16)) : Int) = (bLy (l_16))) ∧ True) ∧ ((((bHx (l_16)) : Int) = (bHx (l_16))) ∧ (((bHy (l_16)) : Int) = (bHy (l_16))) ∧ True) ∧ (true = true) ∧ (true = true) ∧ ((Cont.pts (l_16)) = (Cont.pts (l_16))) ∧ ((Cont.pts (l_16)) = (Cont.pts (l_16))) ∧ ((n : Int) = n) ∧ ((n : Int) = n) ∧ ((n : Int) = n) ∧ (((ilt (1048576 : Int) n) : Bool) = (ilt (1048576 : Int) n)) ∧ ((n : Int) = n) ∧ True) ∧ ((((false : Bool) = false) ∧ ((false : Bool) = false) ∧ ((false : Bool) = false) ∧ ((false : Bool) = false) ∧ True) ∧ ((((bHx (l_16)) : Int) = (bHx (l_16))) ∧ (((bHy (l_16)) : Int) = (bHy (l_16))) ∧ True) ∧ ((((bLx (l_16)) : Int) = (bLx (l_16))) ∧ (((bLy (l_16)) : Int) = (bLy (l_16))) ∧ True) ∧ ((((bHx (l_16)) : Int) = (bHx (l_16))) ∧ (((bHy (l_16)) : Int) = (bHy (l_16))) ∧ True) ∧ ((((bLx (l_16)) : Int) = (bLx (l_16))) ∧ (((bLy (l_16)) : Int) = (bLy (l_16))) ∧ True) ∧ True)) ∧ (([GK.int, GK.bool] : List GK) = ([GK.int, GK.bool] : List GK)) ∧ I1 [GV.int (0 : Int), GV.bool false]) ∧ (∀ i1_0 : Int, ∀ b1_1 : Bool, I1 [GV.int i1_0, GV.bool b1_1] → ((true = true) ∧ ((True) ∧ (True) ∧ (True) ∧ (True) ∧ True) ∧ ((ilt i1_0 (ilen (l_16))) = true → ((true = true) ∧ ((True) ∧ (True) ∧ (NLe 0 i1_0 ∧ NLt i1_0 (ilen (l_16))) ∧ (True) ∧ ((True)) ∧ (True) ∧ True) ∧ ((bnot (vB (getx (l_16) i1_0) (gety (l_16) i1_0))) = true → ((true = true) ∧ ((True) ∧ (True) ∧ (True) ∧ (True) ∧ (NIs (band (ieq (bLx (l_16)) (0 : Int)) (ieq (bLy (l_16)) (0 : Int))) true → True) ∧ (NIs (band (ieq (bLx (l_16)) (0 : Int)) (ieq (bLy (l_16)) (0 : Int))) true → True) ∧ (NIs (band (ieq (bLx (l_16)) (0 : Int)) (ieq (bLy (l_16)) (0 : Int))) true → True) ∧ (True) ∧ (True) ∧ True) ∧ (((bite (band (ieq (bLx (l_16)) (0 : Int)) (ieq (bLy (l_16)) (0 : Int))) (band (ieq (bHx (l_16)) (0 : Int)) (ieq (bHy (l_16)) (0 : Int))) false) : Bool) = (true)) ∧ True)) ∧ ((bnot (vB (getx (l_16) i1_0) (gety (l_16) i1_0))) = false → ((true = true) ∧ ((True) ∧ (True) ∧ (True) ∧ True) ∧ ((true = true) ∧ (((b1_1 : Bool) = b1_1) ∧ (((iadd i1_0 (1 : Int)) : Int) = (iadd i1_0 (1 : Int))) ∧ (((false : Bool) = false) ∧ ((false : Bool) = false) ∧ ((false : Bool) = false) ∧ ((false : Bool) = false) ∧ True) ∧ (true = true) ∧ ((Cont.pts (l_16)) = (Cont.pts (l_16))) ∧ (((ilen (l_16)) : Int) = (ilen (l_16))) ∧ (((ieq (ilen (l_16)) (0 : Int)) : Bool) = (ieq (ilen (l_16)) (0 : Int))) ∧ ((((bLx (l_16)) : Int) = (bLx (l_16))) ∧ (((bLy (l_16)) : Int) = (bLy (l_16))) ∧ True) ∧ ((((bLx (l_16)) : Int) = (bLx (l_16))) ∧ (((bLy (l_16)) : Int) = (bLy (l_16))) ∧ True) ∧ (((bnot (band (ieq (bLx (l_16)) (bLx (l_16))) (ieq (bLy (l_16)) (bLy (l_16))))) : Bool) = (bnot (band (ieq (bLx (l_16)) (bLx (l_16))) (ieq (bLy (l_16)) (bLy (l_16)))))) ∧ (((bnot (band (ieq (bLx (l_16)) (bLx (l_16))) (ieq (bLy (l_16)) (bLy (l_16))))) : Bool) = (bnot (band (ieq (bLx (l_16)) (bLx (l_16))) (ieq (bLy (l_16)) (bLy (l_16)))))) ∧ (((bite (bnot (band (ieq (bLx (l_16)) (bLx (l_16))) (ieq (bLy (l_16)) (bLy (l_16))))) true (bnot (band (ieq (bHx (l_16)) (bHx (l_16))) (ieq (bHy (l_16)) (bHy (l_16)))))) : Bool) = (bite (bnot (band (ieq (bLx (l_16)) (bLx (l_16))) (ieq (bLy (l_16)) (bLy (l_16))))) true (bnot (band (ieq (bHx (l_16)) (bHx (l_16))) (ieq (bHy (l_16)) (bHy (l_16))))))) ∧ ((Cont.pts (l_16)) = (Cont.pts (l_16))) ∧ ((((bLx (l_16)) : Int) = (bLx (l_16))) ∧ (((bLy (l_16)) : Int) = (bLy (l_16))) ∧ True) ∧ ((((bHx (l_16)) : Int) = (bHx (l_16))) ∧ (((bHy (l_16)) : Int) = (bHy (l_16))) ∧ True) ∧ (true = true) ∧ (true = true) ∧ ((Cont.pts (l_16)) = (Cont.pts (l_16))) ∧ ((((bLx (l_16)) : Int) = (bLx (l_16))) ∧ (((bLy (l_16)) : Int) = (bLy (l_16))) ∧ True) ∧ ((((bHx (l_16)) : Int) = (bHx (l_16))) ∧ (((bHy (l_16)) : Int) = (bHy (l_16))) ∧ True) ∧ (true = true) ∧ (true = true) ∧ ((Cont.pts (l_16)) = (Cont.pts (l_16))) ∧ ((Cont.pts (l_16)) = (Cont.pts (l_16))) ∧ ((n : Int) = n) ∧ ((n : Int) = n) ∧ ((n : Int) = n) ∧ (((ilt (1048576 : Int) n) : Bool) = (ilt (1048576 : Int) n)) ∧ ((n : Int) = n) ∧ True) ∧ ((((false : Bool) = false) ∧ ((false : Bool) = false) ∧ ((false : Bool) = false) ∧ ((false : Bool) = false) ∧ True) ∧ ((((bHx (l_16)) : Int) = (bHx (l_16))) ∧ (((bHy (l_16)) : Int) = (bHy (l_16))) ∧ True) ∧ ((((bLx (l_16)) : Int) = (bLx (l_16))) ∧ (((bLy (l_16)) : Int) = (bLy (l_16))) ∧ True) ∧ ((((bHx (l_16)) : Int) = (bHx (l_16))) ∧ (((bHy (l_16)) : Int) = (bHy (l_16))) ∧ True) ∧ ((((bLx (l_16)) : Int) = (bLx (l_16))) ∧ (((bLy (l_16)) : Int) = (bLy (l_16))) ∧ True) ∧ True)) ∧ ((([GK.int, GK.bool] : List GK) = ([GK.int, GK.bool] : List GK)) ∧ I1 [GV.int (iadd i1_0 (1 : Int)), GV.bool b1_1] ∧ μ1 [GV.int (iadd i1_0 (1 : Int)), GV.bool b1_1] < μ1 [GV.int i1_0, GV.bool b1_1]))))) ∧ ((ilt i1_0 (ilen (l_16))) = false → ((true = true) ∧ ((True) ∧ True) ∧ ∃ (I2 : List GV → Prop) (μ2 : List GV → Nat), (((true = true) ∧ (((b1_1 : Bool) = b1_1) ∧ (((0 : Int) : Int) = (0 : Int)) ∧ ((i1_0 : Int) = i1_0) ∧ ((Cont.pts (l_16)) = (Cont.pts (l_16))) ∧ (((ilen (l_16)) : Int) = (ilen (l_16))) ∧ (((ilt i1_0 (ilen (l_16))) : Bool) = (ilt i1_0 (ilen (l_16)))) ∧ ((i1_0 : Int) = i1_0) ∧ (((false : Bool) = false) ∧ ((false : Bool) = false) ∧ ((false : Bool) = false) ∧ ((false : Bool) = false) ∧ True) ∧ (true = true) ∧ ((Cont.pts (l_16)) = (Cont.pts (l_16))) ∧ (((ilen (l_16)) : Int) = (ilen (l_16))) ∧ (((ieq (ilen (l_16)) (0 : Int)) : Bool) = (ieq (ilen (l_16)) (0 : Int))) ∧ ((((bLx (l_16)) : Int) = (bLx (l_16))) ∧ (((bLy (l_16)) : Int) = (bLy (l_16))) ∧ True) ∧ ((((bLx (l_16)) : Int) = (bLx (l_16))) ∧ (((bLy (l_16)) : Int) = (bLy (l_16))) ∧ True) ∧ (((bnot (band (ieq (bLx (l_16)) (bLx (l_16))) (ieq (bLy (l_16)) (bLy (l_16))))) : Bool) = (bnot (band (ieq (bLx (l_16)) (bLx (l_16))) (ieq (bLy (l_16)) (bLy (l_16)))))) ∧ (((bnot (band (ieq (bLx (l_16)) (bLx (l_16))) (ieq (bLy (l_16)) (bLy (l_16))))) : Bool) = (bnot (band (ieq (bLx (l_16)) (bLx (l_16))) (ieq (bLy (l_16)) (bLy (l_16)))))) ∧ (((bite (bnot (band (ieq (bLx (l_16)) (bLx (l_16))) (ieq (bLy (l_16)) (bLy (l_16))))) true (bnot (band (ieq (bHx (l_16)) (bHx (l_16))) (ieq (bHy (l_16)) (bHy (l_16)))))) : Bool) = (bite (bnot (band (ieq (bLx (l_16)) (bLx (l_16))) (ieq (bLy (l_16)) (bLy (l_16))))) true (bnot (band (ieq (bHx (l_16)) (bHx (l_16))) (ieq (bHy (l_16)) (bHy (l_16))))))) ∧ ((Cont.pts (l_16)) = (Cont.pts (l_16))) ∧ ((((bLx (l_16)) : Int) = (bLx (l_16))) ∧ (((bLy (l_16)) : Int) = (bLy (l_16))) ∧ True) ∧ ((((bHx (l_16)) : Int) = (bHx (l_16))) ∧ (((bHy (l_16)) : Int) = (bHy (l_16))) ∧ True) ∧ (true = true) ∧ (true = true) ∧ ((Cont.pts (l_16)) = (Cont.pts (l_16))) ∧ ((((bLx (l_16)) : Int) = (bLx (l_16))) ∧ (((bLy (l_16)) : Int) = (bLy (l_16))) ∧ True) ∧ ((((bHx (l_16)) : Int) = (bHx (l_16))) ∧ (((bHy (l_16)) : Int) = (bHy (l_16))) ∧ True) ∧ (true = true) ∧ (true = true) ∧ ((Cont.pts (l_16)) = (Cont.pts (l_16))) ∧ ((Cont.pts (l_16)) = (Cont.pts (l_16))) ∧ ((n : Int) = n) ∧ ((n : Int) = n) ∧ ((n : Int) = n) ∧ (((ilt (1048576 : Int) n) : Bool) = (ilt (1048576 : Int) n)) ∧ ((n : Int) = n) ∧ True) ∧ ((((false : Bool) = false) ∧ ((false : Bool) = false) ∧ ((false : Bool) = false) ∧ ((false : Bool) = false) ∧ True) ∧ ((((bHx (l_16)) : Int) = (bHx (l_16))) ∧ (((bHy (l_16)) : Int) = (bHy (l_16))) ∧ True) ∧ ((((bLx (l_16)) : Int) = (bLx (l_16))) ∧ (((bLy (l_16)) : Int) = (bLy (l_16))) ∧ True) ∧ ((((bHx (l_16)) : Int) = (bHx (l_16))) ∧ (((bHy (l_16)) : Int) = (bHy (l_16))) ∧ True) ∧ ((((bLx (l_16)) : Int) = (bLx (l_16))) ∧ (((bLy (l_16)) : Int) = (bLy (l_16))) ∧ True) ∧ True)) ∧ (([GK.int, GK.bool, GK.bool, GK.bool, GK.bool, GK.bool] : List GK) = ([GK.int, GK.bool, GK.bool, GK.bool, GK.bool, GK.bool] : List GK)) ∧ I2 [GV.int (0 : Int), GV.bool b1_1, GV.bool false, GV.bool false, GV.bool false, GV.bool false]) ∧ (∀ i2_0 : Int, ∀ b2_1 : Bool, ∀ b2_2 : Bool, ∀ b2_3 : Bool, ∀ b2_4 : Bool, ∀ b2_5 : Bool, I2 [GV.int i2_0, GV.bool b2_1, GV.bool b2_2, GV.bool b2_3, GV.bool b2_4, GV.bool b2_5] → ((true = true) ∧ ((True) ∧ (True) ∧ (True) ∧ (True) ∧ True) ∧ ((ilt i2_0 (ilen (l_16))) = true → ((true = true) ∧ ((True) ∧ (True) ∧ (NLe 0 i2_0 ∧ NLt i2_0 (ilen (l_16))) ∧ (True) ∧ (True) ∧ True) ∧ (True) ∧ (true = true) ∧ ((True) ∧ (True) ∧ (True) ∧ (True) ∧ (True) ∧ (True) ∧ (NIs (ilt (getx (l_16) i2_0) (bLx (l_16))) false → True) ∧ (NIs (ilt (getx (l_16) i2_0) (bLx (l_16))) false → True) ∧ (NIs (ilt (getx (l_16) i2_0) (bLx (l_16))) false → True) ∧ (NIs (ilt (getx (l_16) i2_0) (bLx (l_16))) false → True) ∧ (NIs (ilt (getx (l_16) i2_0) (bLx (l_16))) false → True) ∧ (True) ∧ (True) ∧ (NIs (bite (ilt (getx (l_16) i2_0) (bLx (l_16))) true (ilt (bHx (l_16)) (getx (l_16) i2_0))) false → True) ∧ (NIs (bite (ilt (getx (l_16) i2_0) (bLx (l_16))) true (ilt (bHx (l_16)) (getx (l_16) i2_0))) false → True) ∧ (NIs (bite (ilt (getx (l_16) i2_0) (bLx (l_16))) true (ilt (bHx (l_16)) (getx (l_16) i2_0))) false → True) ∧ (NIs (bite (ilt (getx (l_16) i2_0) (bLx (l_16))) true (ilt (bHx (l_16)) (getx (l_16) i2_0))) false → True) ∧ (NIs (bite (ilt (getx (l_16) i2_0) (bLx (l_16))) true (ilt (bHx (l_16)) (getx (l_16) i2_0))) false → True) ∧ (True) ∧ (True) ∧ (NIs (bite (bite (ilt (getx (l_16) i2_0) (bLx (l_16))) true (ilt (bHx (l_16)) (getx (l_16) i2_0))) true (ilt (gety (l_16) i2_0) (bLy (l_16)))) false → True) ∧ (NIs (bite (bite (ilt (getx (l_16) i2_0) (bLx (l_16))) true (ilt (bHx (l_16)) (getx (l_16) i2_0))) true (ilt (gety (l_16) i2_0) (bLy (l_16)))) false → True) ∧ (NIs (bite (bite (ilt (getx (l_16) i2_0) (bLx (l_16))) true (ilt (bHx (l_16)) (getx (l_16) i2_0))) true (ilt (gety (l_16) i2_0) (bLy (l_16)))) false → True) ∧ (NIs (bite (bite (ilt (getx (l_16) i2_0) (bLx (l_16))) true (ilt (bHx (l_16)) (getx (l_16) i2_0))) true (ilt (gety (l_16) i2_0) (bLy (l_16)))) false → True) ∧ (NIs (bite (bite (ilt (getx (l_16) i2_0) (bLx (l_16))) true (ilt (bHx (l_16)) (getx (l_16) i2_0))) true (ilt (gety (l_16) i2_0) (bLy (l_16)))) false → True) ∧ (True) ∧ True) ∧ ((bite (bite (bite (ilt (getx (l_16) i2_0) (bLx (l_16))) true (ilt (bHx (l_16)) (getx (l_16) i2_0))) true (ilt (gety (l_16) i2_0) (bLy (l_16)))) true (ilt (bHy (l_16)) (gety (l_16) i2_0))) = true → ((true = true) ∧ ((True) ∧ True) ∧ ((false : Bool) = (true)) ∧ True)) ∧ ((bite (bite (bite (ilt (getx (l_16) i2_0) (bLx (l_16))) true (ilt (bHx (l_16)) (getx (l_16) i2_0))) true (ilt (gety (l_16) i2_0) (bLy (l_16)))) true (ilt (bHy (l_16)) (gety (l_16) i2_0))) = false → ((true = true) ∧ ((True) ∧ (True) ∧ (True) ∧ (NIs b2_2 false → True) ∧ (NIs b2_2 false → True) ∧ (NIs b2_2 false → True) ∧ (NIs b2_2 false → True) ∧ (NIs b2_2 false → True) ∧ (True) ∧ (True) ∧ (True) ∧ (True) ∧ (NIs b2_3 false → True) ∧ (NIs b2_3 false → True) ∧ (NIs b2_3 false → True) ∧ (NIs b2_3 false → True) ∧ (NIs b2_3 false → True) ∧ (True) ∧ (True) ∧ (True) ∧ (True) ∧ (NIs b2_4 false → True) ∧ (NIs b2_4 false → True) ∧ (NIs b2_4 false → True) ∧ (NIs b2_4 false → True) ∧ (NIs b2_4 false → True) ∧ (True) ∧ (True) ∧ (True) ∧ (True) ∧ (NIs b2_5 false → True) ∧ (NIs b2_5 false → True) ∧ (NIs b2_5 false → True) ∧ (NIs b2_5 false → True) ∧ (NIs b2_5 false → True) ∧ (True) ∧ (True) ∧ True) ∧ (True) ∧ (true = true) ∧ ((True) ∧ (True) ∧ (True) ∧ True) ∧ ((true = true) ∧ (((b2_1 : Bool) = b2_1) ∧ (((iadd i2_0 (1 : Int)) : Int) = (iadd i2_0 (1 : Int))) ∧ ((i1_0 : Int) = i1_0) ∧ ((Cont.pts (l_16)) = (Cont.pts (l_16))) ∧ (((ilen (l_16)) : Int) = (ilen (l_16))) ∧ (((ilt i1_0 (ilen (l_16))) : Bool) = (ilt i1_0 (ilen (l_16)))) ∧ ((i1_0 : Int) = i1_0) ∧ (((false : Bool) = false) ∧ ((false : Bool) = false) ∧ ((false : Bool) = false) ∧ ((false : Bool) = false) ∧ True) ∧ (true = true) ∧ ((Cont.pts (l_16)) = (Cont.pts (l_16))) ∧ (((ilen (l_16)) : Int) = (ilen (l_16))) ∧ (((ieq (ilen (l_16)) (0 : Int)) : Bool) = (ieq (ilen (l_16)) (0 : Int))) ∧ ((((bLx (l_16)) : Int) = (bLx (l_16))) ∧ (((bLy (l_16)) : Int) = (bLy (l_16))) ∧ True) ∧ ((((bLx (l_16)) : Int) = (bLx (l_16))) ∧ (((bLy (l_16)) : Int) = (bLy (l_16))) ∧ True) ∧ (((bnot (band (ieq (bLx (l_16)) (bLx (l_16))) (ieq (bLy (l_16)) (bLy (l_16))))) : Bool) = (bnot (band (ieq (bLx (l_16)) (bLx (l_16))) (ieq (bLy (l_16)) (bLy (l_16)))))) ∧ (((bnot (band (ieq (bLx (l_16)) (bLx (l_16))) (ieq (bLy (l_16)) (bLy (l_16))))) : Bool) = (bnot (band (ieq (bLx (l_16)) (bLx (l_16))) (ieq (bLy (l_16)) (bLy (l_16)))))) ∧ (((bite (bnot (band (ieq (bLx (l_16)) (bLx (l_16))) (ieq (bLy (l_16)) (bLy (l_16))))) true (bnot (band (ieq (bHx (l_16)) (bHx (l_16))) (ieq (bHy (l_16)) (bHy (l_16)))))) : Bool) = (bite (bnot (band (ieq (bLx (l_16)) (bLx (l_16))) (ieq (bLy (l_16)) (bLy (l_16))))) true (bnot (band (ieq (bHx (l_16)) (bHx (l_16))) (ieq (bHy (l_16)) (bHy (l_16))))))) ∧ ((Cont.pts (l_16)) = (Cont.pts (l_16))) ∧ ((((bLx (l_16)) : Int) = (bLx (l_16))) ∧ (((bLy (l_16)) : Int) = (bLy (l_16))) ∧ True) ∧ ((((bHx (l_16)) : Int) = (bHx (l_16))) ∧ (((bHy (l_16)) : Int) = (bHy (l_16))) ∧ True) ∧ (true = true) ∧ (true = true) ∧ ((Cont.pts (l_16)) = (Cont.pts (l_16))) ∧ ((((bLx (l_16)) : Int) = (bLx (l_16))) ∧ (((bLy (l_16)) : Int) = (bLy (l_16))) ∧ True) ∧ ((((bHx (l_16)) : Int) = (bHx (l_16))) ∧ (((bHy (l_16)) : Int) = (bHy (l_16))) ∧ True) ∧ (true = true) ∧ (true = true) ∧ ((Cont.pts (l_16)) = (Cont.pts (l_16))) ∧ ((Cont.pts (l_16)) = (Cont.pts (l_16))) ∧ ((n : Int) = n) ∧ ((n : Int) = n) ∧ ((n : Int) = n) ∧ (((ilt (1048576 : Int) n) : Bool) = (ilt (1048576 : Int) n)) ∧ ((n : Int) = n) ∧ True) ∧ (((((bite b2_2 true (ieq (getx (l_16) i2_0) (bLx (l_16)))) : Bool) = (bite b2_2 true (ieq (getx (l_16) i2_0) (bLx (l_16))))) ∧ (((bite b2_3 true (ieq (getx (l_16) i2_0) (bHx (l_16)))) : Bool) = (bite b2_3 true (ieq (getx (l_16) i2_0) (bHx (l_16))))) ∧ (((bite b2_4 true (ieq (gety (l_16) i2_0) (bLy (l_16)))) : Bool) = (bite b2_4 true (ieq (gety (l_16) i2_0) (bLy (l_16))))) ∧ (((bite b2_5 true (ieq (gety (l_16) i2_0) (bHy (l_16)))) : Bool) = (bite b2_5 true (ieq (gety (l_16) i2_0) (bHy (l_16))))) ∧ True) ∧ ((((bHx (l_16)) : Int) = (bHx (l_16))) ∧ (((bHy (l_16)) : Int) = (bHy (l_16))) ∧ True) ∧ ((((bLx (l_16)) : Int) = (bLx (l_16))) ∧ (((bLy (l_16)) : Int) = (bLy (l_16))) ∧ True) ∧ ((((bHx (l_16)) : Int) = (bHx (l_16))) ∧ (((bHy (l_16)) : Int) = (bHy (l_16))) ∧ True) ∧ ((((bLx (l_16)) : Int) = (bLx (l_16))) ∧ (((bLy (l_16)) : Int) = (bLy (l_16))) ∧ True) ∧ True)) ∧ ((([GK.int, GK.bool, GK.bool, GK.bool, GK.bool, GK.bool] : List GK) = ([GK.int, GK.bool, GK.bool, GK.bool, GK.bool, GK.bool] : List GK)) ∧ I2 [GV.int (iadd i2_0 (1 : Int)), GV.bool b2_1, GV.bool (bite b2_2 true (ieq (getx (l_16) i2_0) (bLx (l_16)))), GV.bool (bite b2_3 true (ieq (getx (l_16) i2_0) (bHx (l_16)))), GV.bool (bite b2_4 true (ieq (gety (l_16) i2_0) (bLy (l_16)))), GV.bool (bite b2_5 true (ieq (gety (l_16) i2_0) (bHy (l_16))))] ∧ μ2 [GV.int (iadd i2_0 (1 : Int)), GV.bool b2_1, GV.bool (bite b2_2 true (ieq (getx (l_16) i2_0) (bLx (l_16)))), GV.bool (bite b2_3 true (ieq (getx (l_16) i2_0) (bHx (l_16)))), GV.bool (bite b2_4 true (ieq (gety (l_16) i2_0) (bLy (l_16)))), GV.bool (bite b2_5 true (ieq (gety (l_16) i2_0) (bHy (l_16))))] < μ2 [GV.int i2_0, GV.bool b2_1, GV.bool b2_2, GV.bool b2_3, GV.bool b2_4, GV.bool b2_5]))))) ∧ ((ilt i2_0 (ilen (l_16))) = false → ((true = true) ∧ ((True) ∧ (True) ∧ (True) ∧ (NIs b2_2 true → True) ∧ (NIs b2_2 true → True) ∧ (True) ∧ (True) ∧ (NIs (bite b2_2 b2_3 false) true → True) ∧ (NIs (bite b2_2 b2_3 false) true → True) ∧ (True) ∧ (True) ∧ (NIs (bite (bite b2_2 b2_3 false) b2_4 false) true → True) ∧ (NIs (bite (bite b2_2 b2_3 false) b2_4 false) true → True) ∧ (True) ∧ (True) ∧ True) ∧ (((bite (bite (bite b2_2 b2_3 false) b2_4 false) b2_5 false) : Bool) = (true)) ∧ True)))))))))))))))))) = ev sig_laws_FnBoxOf xs_laws_FnBoxOf Try.f4.ntmps (fun b => if b == 0 then [.v 9, .v 2] else if b == 2 then [.v 10, .v 2, .b 8] else []) (codeOf Try.f4) 0 (initS [.s (.rdr n)]) (retK Try.f4.results.toList [.s (.bool (true))]) := by kernel_rfl
set_option maxHeartbeats 400000 in
theorem F_laws_FnBoxOf : FunOK 4 g_laws_FnBoxOf := by
  refine fun_F (by kernel_rfl) Try.func4 rfl (by kernel_rfl) sig_laws_FnBoxOf_ok xs_laws_FnBoxOf_ok ?_
  intro avs sg h hn hl
  unfold g_laws_FnBoxOf at h
  split at h
  · rename_i n
    injection h with h; subst h
    refine ⟨by kernel_rfl, fun b => if b == 0 then [.v 9, .v 2] else if b == 2 then [.v 10, .v 2, .b 8] else [], Eq.mp (V_laws_FnBoxOf n) ?_⟩
    simp only [true_and, and_true, implies_true, and_self, forall_const, true_implies, lenA, lenL, SV.lenOK, Cont.lenOK] at hn hl ⊢
    simp only [ilt_t, ilt_f, ile_t, ile_f, ieq_t, ieq_f, bnot_e, band_e, bite_and, bite_or, NLt_e, NLe_e, NNe_e, NIs_e, imax_e, imin_e, irem_e, Bool.not_eq_true', Bool.not_eq_false', Bool.and_eq_true, Bool.or_eq_true, Bool.or_eq_false_iff, Bool.and_eq_false_iff, Cont.pts.injEq, Cont.ints.injEq, Cont.bools.injEq, Cont.ptss.injEq, Cont.intss.injEq, Cont.boolss.injEq, true_and, and_true, implies_true, bxor_self, reduceCtorEq, true_implies, false_implies, false_or, ne_eq, not_true_eq_false]
    intro h
    refine ⟨h, fun l hl => ⟨fun h0 => ?_, fun h0 => ?_⟩⟩
    · have hb : bVal l = false := by unfold bVal inB; simp; omega
      obtain ⟨h1, h2, h3, h4⟩ := boxV_no hb
      exact ⟨⟨h1, h2⟩, h3, h4⟩
    have hlen : 0 ≤ ilen l := by unfold ilen; omega
    refine ⟨fun | [.int k, .bool _] => 0 ≤ k ∧ k ≤ ilen l ∧ ∀ j, 0 ≤ j → j < k → vB (getx l j) (gety l j) = true | _ => False, fun | .int k :: _ => (ilen l - k).toNat | _ => 0, ⟨by omega, by omega, fun j _ _ => by omega⟩, ?_⟩
    rintro k b ⟨k0, k1, hv⟩
    refine ⟨fun hc => ⟨⟨k0, hc⟩, fun hv2 => ?_, fun hv2 => ?_⟩, fun hc => ?_⟩
    · have hb : bVal l = false := by unfold bVal; rw [allB_N, allN_no k k0 hc hv2]; simp
      obtain ⟨h1, h2, h3, h4⟩ := boxV_no hb
      exact ⟨⟨h1, h2⟩, h3, h4⟩
    · rw [iadd_e (by omega) (by omega)]
      refine ⟨⟨by omega, by omega, fun j j0 j1 => ?_⟩, by show (ilen l - (k + 1)).toNat < (ilen l - k).toNat; omega⟩
      by_cases hj : j < k
      · exact hv j j0 hj
      · obtain rfl : j = k := by omega
        exact hv2
    obtain rfl : k = ilen l := by omega
    have hb : bVal l = true := by
      unfold bVal
      rw [allB_N, allN_mk fun i i0 i1 => hv i i0 i1]
      have : inB (ilen l) 1 400 = true := by unfold inB; simp; omega
      rw [this]; rfl
    have T := boxT hb (by omega)
    refine ⟨fun | [.int k, .bool _, .bool a, .bool b, .bool c, .bool d] => 0 ≤ k ∧ k ≤ ilen l ∧ (∀ j, 0 ≤ j → j < k → (getx l j = bLx l → a = true) ∧ (getx l j = bHx l → b = true) ∧ (gety l j = bLy l → c = true) ∧ (gety l j = bHy l → d = true)) | _ => False, fun | .int k :: _ => (ilen l - k).toNat | _ => 0, ⟨by omega, by omega, fun j _ _ => by omega⟩, ?_⟩
    rintro k _ a b c d ⟨k0, k1, hf⟩
    refine ⟨fun hc => ⟨⟨k0, hc⟩, fun hx => ?_, fun hx => ?_⟩, fun hc => ?_⟩
    · have := T.le k k0 hc; omega
    · rw [iadd_e (by omega) (by omega)]
      refine ⟨⟨by omega, by omega, fun j j0 j1 => ?_⟩, by show (ilen l - (k + 1)).toNat < (ilen l - k).toNat; omega⟩
      by_cases hj : j < k
      · obtain ⟨a1, a2, a3, a4⟩ := hf j j0 hj
        exact ⟨fun e => by rw [a1 e]; rfl, fun e => by rw [a2 e]; rfl, fun e => by rw [a3 e]; rfl, fun e => by rw [a4 e]; rfl⟩
      · obtain rfl : j = k := by omega
        unfold ieq
        exact ⟨fun e => by simp [e], fun e => by simp [e], fun e => by simp [e], fun e => by simp [e]⟩
    · obtain rfl : k = ilen l := by omega
      obtain ⟨j1, p1, p2, p3⟩ := T.lx
      obtain ⟨j2, q1, q2, q3⟩ := T.hx
      obtain ⟨j3, r1, r2, r3⟩ := T.ly
      obtain ⟨j4, s1, s2, s3⟩ := T.hy
      exact ⟨⟨⟨(hf j1 p1 p2).1 p3, (hf j2 q1 q2).2.1 q3⟩, (hf j3 r1 r2).2.2.1 r3⟩, (hf j4 s1 s2).2.2.2 s3⟩
  · cases h
theorem fnBoxOf_walk (w : World) (v0 : Value) (x0 : Nat) (w0 : BytesArg w v0 x0) : Calls Try.prog 4 #[v0] w fun e w' => e = .returned (.bool true) ∧ Bel w w' :=
  walk_of F_laws_FnBoxOf (avs := [.s (.rdr x0)]) rfl trivial ⟨bytes_reads w0, trivial⟩
set_option maxRecDepth 100000 in
theorem fnBoxOf_lifted (os : Os) (started : os.Started) (H : Type) (enc : TypeId × Value → H) :
    ReturnsInHanded {} Try.checked os 4 .any (Rows.fnBoxOfSpec.pre6 enc Try.prog Try.f4 Rows.fnBoxOfRow.domain false) (Rows.fnBoxOfSpec.post enc Try.prog Try.f4 false true false false) := by
  have own : ownKnob Try.prog.godebug = none := by kernel_rfl
  have laidOut : laidOutB Try.prog = true := by kernel_rfl
  refine returnsInHanded_of_change (C := Try.checked) own started (by kernel_rfl) Try.func4
    (ChangeSpec.witness6 (enc := enc) (C := Try.checked) false ⟨#[], #[.slice none 0 0], []⟩ 8 (by kernel_rfl) (by kernel_rfl) (by kernel_rfl) (by kernel_rfl)) ?_
  intro W base args ds gs before hval0 hW hcnd _
  have hval : ∀ (j : Nat) t v, Try.f4.params[j]? = some t → args[j]? = some v → Value.okWide Try.prog W .any base t v := hval0
  have hW' := hW
  obtain ⟨p, q, hA0, hV, rfl, hfz, hnd⟩ := hW
  have hA : DataW.TrodAll enc Try.prog W 0 (fun _ => true) true Try.f4.params.toList args.toList ds p := hA0
  rw [Try.params4] at hA hval
  obtain ⟨v0, vs0, d0, ds0, p0, q0, hargs, rfl, rfl, h0, r0⟩ := trodAll_cons hA
  obtain ⟨rfl, rfl, rfl⟩ := trodAll_nil r0
  obtain rfl : args = #[v0] := by cases args; simp_all
  obtain ⟨rfl, rfl⟩ := trodVars_none hV
  have k0 := h0
  have lt0 : ∀ x ∈ p0, x.block < W.heap.size := by obtain ⟨m, hm⟩ := k0; exact DataW.trod_lt m _ _ _ hm
  obtain ⟨x0, w0⟩ := opn_bytes (hval 0 33 v0 rfl rfl) h0
  clear hA0 hval0
  refine (fnBoxOf_walk W v0 x0 w0).mono fun e W' ⟨he, bel⟩ => ?_
  subst he
  exact ⟨_, rfl, _, _, _, [], _, [], hW', trodAll_mk1 (shut_bool Try.underlying4 _), (trodAll_cons_mk (Below.trod laidOut (by kernel_rfl) (of_decide_eq_true (by kernel_rfl)) k0 bel lt0) trodAll_mk0), rfl, Below.frame bel _, fun h => by cases h⟩
theorem fnBoxOf_over : Rows.fnBoxOfRow.holds Try.pinned (OpenSpec.ofChange Rows.fnBoxOfSpec) :=
  OpenClaim.holds_of_wide 4 Try.f4 rfl rfl rfl rfl rfl rfl rfl ⟨rfl, rfl, rfl, rfl, rfl⟩ rfl rfl rfl rfl rfl (by kernel_rfl) Try.func4 (by kernel_rfl)
    (of_decide_eq_true (by kernel_rfl)) (by unfold Func.isWrapper; first | (rw [if_pos (by decide +kernel)]; kernel_rfl) | (rw [if_neg (by decide +kernel)]; exact ⟨rfl, rfl⟩))
    (fun os started H enc _ => fnBoxOf_lifted os started H enc)
theorem fnBoxOf_proved : Rows.FnBoxOfSaid := fnBoxOf_over
#print axioms fnBoxOf_proved
end Go.Proofs.Ytiddodphfbohmaa

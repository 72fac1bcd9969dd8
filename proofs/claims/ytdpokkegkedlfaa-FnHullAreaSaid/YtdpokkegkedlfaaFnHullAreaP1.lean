/- Contracts by evaluation, part 1. -/
import Derived.Test.YtdpokkegkedlfaaCat
namespace Go.Proofs.Ytdpokkegkedlfaa
open Go.ChangeShapes Go.WideShapes Go.ChangeAt Go.RowKit
set_option maxRecDepth 100000
set_option linter.unusedSimpArgs false
set_option linter.unusedVariables false
def s_spec_l20Point (r1 : Int) (r2 : Int) (n : Int) : SgX := ⟨r1 ≤ 2000 ∧ 0 ≤ r2 ∧ r2 ≤ 900000 ∧ -1000000 ≤ n ∧ n ≤ 1000000, [.int, .int, .int], (fun | [.int x, .int y, .int q] => -10001 ≤ x ∧ x ≤ 10001 ∧ -10000 ≤ y ∧ y ≤ 10000 ∧ (n ≤ 0 → -10000 ≤ x ∧ x ≤ 10000) ∧ r2 ≤ q ∧ q ≤ r2 + 10 | _ => False), (fun | [.int x, .int y, .int q] => [.agg [.int (x), .int (y)]] | _ => []), (fun | [.int x, .int y, .int q] => .box [.rdr r1, .int (q)] | _ => .box [])⟩
def g_spec_l20Point : Bx → List AV → Option SgX
  | .box [.rdr r1, .int r2], [.s (.int n)] => some (s_spec_l20Point r1 r2 n)
  | _, _ => none
def sig_spec_l20Point : FuncId → List AV → Option Sg := sigL []
def xs_spec_l20Point : XS := ⟨xsigL [(72, g_spec_l20Rd_pick), (104, g_spec_l20Rd_odd)], ysigL []⟩
theorem sig_spec_l20Point_ok : SigOK sig_spec_l20Point := sigL_nil
theorem xs_spec_l20Point_ok : XSigOK xs_spec_l20Point := ⟨xsigL_cons F_spec_l20Rd_pick (xsigL_cons F_spec_l20Rd_odd xsigL_nil), ysigL_nil⟩
def L_spec_l20Point_0 (n : Int) (r2 : Int) (k_8 : Int) (k_5 : Int) (r1 : Int) (q_7 : Int) : Prop := ∃ x : Int, ∃ y : Int, ∃ q : Int, ((-10001 ≤ x ∧ x ≤ 10001 ∧ -10000 ≤ y ∧ y ≤ 10000 ∧ (n ≤ 0 → -10000 ≤ x ∧ x ≤ 10000) ∧ r2 ≤ q ∧ q ≤ r2 + 10) ∧ (((((geti [(10001 : Int), (-10001 : Int), (10000 : Int)] (k_8)) : Int) = (x)) ∧ (((isub (imul (k_5) (4 : Int)) (500 : Int)) : Int) = (y)) ∧ True) ∧ True) ∧ ((true = true) ∧ (true = true) ∧ ((r1 : Int) = r1) ∧ ((((q_7) + 1) : Int) = (q)) ∧ True))
def L_spec_l20Point_1 (n : Int) (r2 : Int) (k_4 : Int) (k_5 : Int) (r1 : Int) (q_7 : Int) : Prop := ∃ x : Int, ∃ y : Int, ∃ q : Int, ((-10001 ≤ x ∧ x ≤ 10001 ∧ -10000 ≤ y ∧ y ≤ 10000 ∧ (n ≤ 0 → -10000 ≤ x ∧ x ≤ 10000) ∧ r2 ≤ q ∧ q ≤ r2 + 10) ∧ (((((isub (imul (k_4) (4 : Int)) (500 : Int)) : Int) = (x)) ∧ (((isub (imul (k_5) (4 : Int)) (500 : Int)) : Int) = (y)) ∧ True) ∧ True) ∧ ((true = true) ∧ (true = true) ∧ ((r1 : Int) = r1) ∧ (((q_7) : Int) = (q)) ∧ True))
def L_spec_l20Point_2 (n : Int) (r2 : Int) (k_11 : Int) (k_2 : Int) (r1 : Int) (q_10 : Int) : Prop := ∃ x : Int, ∃ y : Int, ∃ q : Int, ((-10001 ≤ x ∧ x ≤ 10001 ∧ -10000 ≤ y ∧ y ≤ 10000 ∧ (n ≤ 0 → -10000 ≤ x ∧ x ≤ 10000) ∧ r2 ≤ q ∧ q ≤ r2 + 10) ∧ (((((geti [(10001 : Int), (-10001 : Int), (10000 : Int)] (k_11)) : Int) = (x)) ∧ (((isub (k_2) (20 : Int)) : Int) = (y)) ∧ True) ∧ True) ∧ ((true = true) ∧ (true = true) ∧ ((r1 : Int) = r1) ∧ ((((q_10) + 1) : Int) = (q)) ∧ True))
def L_spec_l20Point_3 (n : Int) (r2 : Int) (k_1 : Int) (k_2 : Int) (r1 : Int) (q_10 : Int) : Prop := ∃ x : Int, ∃ y : Int, ∃ q : Int, ((-10001 ≤ x ∧ x ≤ 10001 ∧ -10000 ≤ y ∧ y ≤ 10000 ∧ (n ≤ 0 → -10000 ≤ x ∧ x ≤ 10000) ∧ r2 ≤ q ∧ q ≤ r2 + 10) ∧ (((((isub (k_1) (20 : Int)) : Int) = (x)) ∧ (((isub (k_2) (20 : Int)) : Int) = (y)) ∧ True) ∧ True) ∧ ((true = true) ∧ (true = true) ∧ ((r1 : Int) = r1) ∧ (((q_10) : Int) = (q)) ∧ True))
theorem V_spec_l20Point (r1 : Int) (r2 : Int) (n : Int) : ((true = true) ∧ ((True) ∧ True) ∧ (true = true) ∧ ((True) ∧ True) ∧ (true = true) ∧ ((r1 ≤ 2000 ∧ 0 ≤ r2 ∧ r2 ≤ 1000000)) ∧ (∀ k_1 : Int, ((pickP (41 : Int) k_1) → ((True) ∧ (True) ∧ (true = true) ∧ ((r1 ≤ 2000 ∧ 0 ≤ (r2 + 1) ∧ (r2 + 1) ≤ 1000000)) ∧ (∀ k_2 : Int, ((pickP (41 : Int) k_2) → ((True) ∧ (True) ∧ (True) ∧ (True) ∧ (true = true) ∧ ((True) ∧ True) ∧ (true = true) ∧ ((r1 ≤ 2000 ∧ 0 ≤ ((r2 + 1) + 1) ∧ ((r2 + 1) + 1) ≤ 1000000)) ∧ (∀ k_3 : Int, ((pickP (3 : Int) k_3) → ((True) ∧ ((ieq (k_3) (0 : Int)) = true → ((true = true) ∧ ((True) ∧ True) ∧ (true = true) ∧ ((r1 ≤ 2000 ∧ 0 ≤ (((r2 + 1) + 1) + 1) ∧ (((r2 + 1) + 1) + 1) ≤ 1000000)) ∧ (∀ k_4 : Int, ((pickP (256 : Int) k_4) → ((True) ∧ (True) ∧ (True) ∧ (true = true) ∧ ((r1 ≤ 2000 ∧ 0 ≤ ((((r2 + 1) + 1) + 1) + 1) ∧ ((((r2 + 1) + 1) + 1) + 1) ≤ 1000000)) ∧ (∀ k_5 : Int, ((pickP (256 : Int) k_5) → ((True) ∧ (True) ∧ (True) ∧ (True) ∧ (true = true) ∧ ((True) ∧ (True) ∧ True) ∧ (true = true) ∧ ((r1 ≤ 2000 ∧ 0 ≤ (((((r2 + 1) + 1) + 1) + 1) + 1) ∧ (((((r2 + 1) + 1) + 1) + 1) + 1) ≤ 1000000 ∧ -1000000 ≤ n ∧ n ≤ 1000000)) ∧ (∀ b_6 : Bool, ∀ q_7 : Int, (((n ≤ 0 → b_6 = false) ∧ (((((r2 + 1) + 1) + 1) + 1) + 1) ≤ q_7 ∧ q_7 ≤ (((((r2 + 1) + 1) + 1) + 1) + 1) + 1) → (((b_6) = true → ((true = true) ∧ ((True) ∧ (True) ∧ True) ∧ (true = true) ∧ ((r1 ≤ 2000 ∧ 0 ≤ (q_7) ∧ (q_7) ≤ 1000000)) ∧ (∀ k_8 : Int, ((pickP (3 : Int) k_8) → ((NLe 0 (k_8) ∧ NLt (k_8) (ilen [(10001 : Int), (-10001 : Int), (10000 : Int)])) ∧ (NLt (k_8) (ilen [(10001 : Int), (-10001 : Int), (10000 : Int)])) ∧ (True) ∧ (True) ∧ (true = true) ∧ ((True) ∧ True) ∧ (True) ∧ L_spec_l20Point_0 n r2 k_8 k_5 r1 q_7))))) ∧ ((b_6) = false → ((true = true) ∧ ((True) ∧ True) ∧ (True) ∧ L_spec_l20Point_1 n r2 k_4 k_5 r1 q_7))))))))))))) ∧ ((ieq (k_3) (0 : Int)) = false → ((true = true) ∧ ((True) ∧ (True) ∧ True) ∧ (true = true) ∧ ((r1 ≤ 2000 ∧ 0 ≤ (((r2 + 1) + 1) + 1) ∧ (((r2 + 1) + 1) + 1) ≤ 1000000 ∧ -1000000 ≤ n ∧ n ≤ 1000000)) ∧ (∀ b_9 : Bool, ∀ q_10 : Int, (((n ≤ 0 → b_9 = false) ∧ (((r2 + 1) + 1) + 1) ≤ q_10 ∧ q_10 ≤ (((r2 + 1) + 1) + 1) + 1) → (((b_9) = true → ((true = true) ∧ ((True) ∧ (True) ∧ True) ∧ (true = true) ∧ ((r1 ≤ 2000 ∧ 0 ≤ (q_10) ∧ (q_10) ≤ 1000000)) ∧ (∀ k_11 : Int, ((pickP (3 : Int) k_11) → ((NLe 0 (k_11) ∧ NLt (k_11) (ilen [(10001 : Int), (-10001 : Int), (10000 : Int)])) ∧ (NLt (k_11) (ilen [(10001 : Int), (-10001 : Int), (10000 : Int)])) ∧ (True) ∧ (True) ∧ (true = true) ∧ ((True) ∧ True) ∧ (True) ∧ L_spec_l20Point_2 n r2 k_11 k_2 r1 q_10))))) ∧ ((b_9) = false → ((true = true) ∧ ((True) ∧ True) ∧ (True) ∧ L_spec_l20Point_3 n r2 k_1 k_2 r1 q_10))))))))))))))))) = (fun sg => ev sig_spec_l20Point xs_spec_l20Point Try.f114.ntmps (fun b => []) (codeOf Try.f114) 0 (initX (.box [.rdr r1, .int r2]) [.s (.int n)]) (retX Try.f114.results.toList sg.kinds sg.post sg.ret sg.out)) (s_spec_l20Point r1 r2 n) := by kernel_rfl
set_option maxHeartbeats 4000000 in
theorem F_spec_l20Point : FunX 114 g_spec_l20Point := by
  refine fun_X (by kernel_rfl) Try.func114 rfl (by kernel_rfl) sig_spec_l20Point_ok xs_spec_l20Point_ok ?_
  intro bx avs sg h hn hl hlb
  unfold g_spec_l20Point at h
  split at h
  · rename_i r1 r2 n
    injection h with h; subst h
    refine ⟨by kernel_rfl, fun b => [], Eq.mp (V_spec_l20Point r1 r2 n) ?_⟩
    simp only [true_and, and_true, implies_true, and_self, forall_const, true_implies, lenA, lenL, SV.lenOK, Cont.lenOK, lenB, s_spec_l20Point, L_spec_l20Point_0, L_spec_l20Point_1, L_spec_l20Point_2, L_spec_l20Point_3] at hn hl hlb ⊢
    try simp only [ilt_t, ilt_f, ile_t, ile_f, ieq_t, ieq_f, bnot_e, band_e, bite_and, bite_or, NLt_e, NLe_e, NNe_e, NIs_e, imax_e, imin_e, irem_e, Bool.not_eq_true', Bool.not_eq_false', Bool.and_eq_true, Bool.or_eq_true, Bool.or_eq_false_iff, Bool.and_eq_false_iff, Cont.pts.injEq, Cont.ints.injEq, Cont.bools.injEq, Cont.ptss.injEq, Cont.intss.injEq, Cont.boolss.injEq, true_and, and_true, implies_true, pickP, iadd_u, isub_u, imul_u, ineg_u, ilen_cons, ilen_nil, geti_cons, geti_nil, exists_and_left, exists_and_right, exists_eq_left, exists_eq_left', exists_eq_right, exists_eq_right'] at hn ⊢
    repeat' (first | (intro _) | (refine ⟨_, _, _, ?_, ⟨rfl, rfl⟩, rfl⟩) | (apply And.intro) | omega | split)
    all_goals (first | (simp_all; done) | (simp_all; omega))
  · cases h
def PBp (x y : Int) : Prop := -20000 ≤ x ∧ x ≤ 20000 ∧ -20000 ≤ y ∧ y ≤ 20000
def PB (l : List Pt) : Prop := ∀ p ∈ l, PBp p.1 p.2
theorem PB_nil : PB [] := by intro p hp; cases hp
theorem PB_cons {x y : Int} {l : List Pt} (h : PBp x y) (hl : PB l) : PB ((x, y) :: l) := by
  intro p hp
  rcases List.mem_cons.1 hp with rfl | hp
  · exact h
  · exact hl p hp
theorem PB_app {l m : List Pt} (hl : PB l) (hm : PB m) : PB (iapp l m) := by
  intro p hp
  unfold iapp at hp
  rcases List.mem_append.1 hp with hp | hp
  · exact hl p hp
  · exact hm p hp
theorem PB_one {l : List Pt} {x y : Int} (hl : PB l) (h : PBp x y) : PB (iapp l [(x, y)]) := PB_app hl (PB_cons h PB_nil)
theorem PB_take {l : List Pt} {i : Int} (hl : PB l) : PB (itake l i) := by
  intro p hp
  unfold itake at hp
  exact hl p (List.mem_of_mem_take hp)
theorem PB_drop {l : List Pt} {i : Int} (hl : PB l) : PB (idrop l i) := by
  intro p hp
  unfold idrop at hp
  exact hl p (List.mem_of_mem_drop hp)
theorem PB_setp {l : List Pt} {i x y : Int} (hl : PB l) (h : PBp x y) : PB (setp l i x y) := by
  intro p hp
  unfold setp at hp
  rcases List.mem_or_eq_of_mem_set hp with hp | rfl
  · exact hl p hp
  · exact h
theorem PB_get {l : List Pt} (hl : PB l) (i : Int) : PBp (getx l i) (gety l i) := by
  unfold getx gety
  rw [List.getD_eq_getElem?_getD]
  cases h : l[i.toNat]? with
  | none => simp [PBp]
  | some p => exact hl p (List.mem_of_getElem? h)
theorem vB_PB {x y : Int} (h : vB x y = true) : PBp x y := by
  unfold vB at h
  simp only [Bool.and_eq_true] at h
  have a := inB_true h.1
  have b := inB_true h.2
  unfold PBp
  omega
attribute [irreducible] PB PBp
def s_spec_l20Cloud (r1 : Int) (r2 : Int) (n : Int) : SgX := ⟨r1 ≤ 2000 ∧ 0 ≤ r2 ∧ r2 ≤ 100000 ∧ -1000000 ≤ n ∧ n ≤ 1000000, [.pts, .int], (fun | [.pts l, .int q] => ilen l ≤ 20 ∧ PB l ∧ r2 ≤ q ∧ q ≤ r2 + 200 | _ => False), (fun | [.pts l, .int q] => [.s (.view (.pts (l)))] | _ => []), (fun | [.pts l, .int q] => .box [.rdr r1, .int (q)] | _ => .box [])⟩
def g_spec_l20Cloud : Bx → List AV → Option SgX
  | .box [.rdr r1, .int r2], [.s (.int n)] => some (s_spec_l20Cloud r1 r2 n)
  | _, _ => none
def sig_spec_l20Cloud : FuncId → List AV → Option Sg := sigL []
def xs_spec_l20Cloud : XS := ⟨xsigL [(72, g_spec_l20Rd_pick), (114, g_spec_l20Point), (104, g_spec_l20Rd_odd)], ysigL []⟩
theorem sig_spec_l20Cloud_ok : SigOK sig_spec_l20Cloud := sigL_nil
theorem xs_spec_l20Cloud_ok : XSigOK xs_spec_l20Cloud := ⟨xsigL_cons F_spec_l20Rd_pick (xsigL_cons F_spec_l20Point (xsigL_cons F_spec_l20Rd_odd xsigL_nil)), ysigL_nil⟩
def L_spec_l20Cloud_0 (r2 : Int) (l2_1 : List Pt) (r1 : Int) (q_19 : Int) : Prop := ∃ l : List Pt, ∃ q : Int, ((ilen l ≤ 20 ∧ PB l ∧ r2 ≤ q ∧ q ≤ r2 + 200) ∧ (((Cont.pts (idrop l2_1 (imax (0 : Int) (isub (ilen l2_1) (5 : Int))))) = (Cont.pts (l))) ∧ True) ∧ ((true = true) ∧ (true = true) ∧ ((r1 : Int) = r1) ∧ (((q_19) : Int) = (q)) ∧ True))
def L_spec_l20Cloud_1 (r2 : Int) (l1_1 : List Pt) (r1 : Int) (q_19 : Int) : Prop := ∃ l : List Pt, ∃ q : Int, ((ilen l ≤ 20 ∧ PB l ∧ r2 ≤ q ∧ q ≤ r2 + 200) ∧ (((true = true) ∧ ((Cont.pts (iapp l1_1 [((getx l1_1 (0 : Int)), (gety l1_1 (0 : Int)))])) = (Cont.pts (l)))) ∧ True) ∧ ((true = true) ∧ (true = true) ∧ ((r1 : Int) = r1) ∧ (((q_19) : Int) = (q)) ∧ True))
def L_spec_l20Cloud_2 (r2 : Int) (l3_1 : List Pt) (r1 : Int) (q_21 : Int) : Prop := ∃ l : List Pt, ∃ q : Int, ((ilen l ≤ 20 ∧ PB l ∧ r2 ≤ q ∧ q ≤ r2 + 200) ∧ (((Cont.pts (idrop l3_1 (imax (0 : Int) (isub (ilen l3_1) (5 : Int))))) = (Cont.pts (l))) ∧ True) ∧ ((true = true) ∧ (true = true) ∧ ((r1 : Int) = r1) ∧ (((q_21) : Int) = (q)) ∧ True))
def L_spec_l20Cloud_3 (r2 : Int) (l1_1 : List Pt) (r1 : Int) (q_21 : Int) : Prop := ∃ l : List Pt, ∃ q : Int, ((ilen l ≤ 20 ∧ PB l ∧ r2 ≤ q ∧ q ≤ r2 + 200) ∧ (((true = true) ∧ ((Cont.pts l1_1) = (Cont.pts (l)))) ∧ True) ∧ ((true = true) ∧ (true = true) ∧ ((r1 : Int) = r1) ∧ (((q_21) : Int) = (q)) ∧ True))
def L_spec_l20Cloud_4 (r2 : Int) (l4_1 : List Pt) (r1 : Int) (q_23 : Int) : Prop := ∃ l : List Pt, ∃ q : Int, ((ilen l ≤ 20 ∧ PB l ∧ r2 ≤ q ∧ q ≤ r2 + 200) ∧ (((Cont.pts (idrop l4_1 (imax (0 : Int) (isub (ilen l4_1) (5 : Int))))) = (Cont.pts (l))) ∧ True) ∧ ((true = true) ∧ (true = true) ∧ ((r1 : Int) = r1) ∧ (((q_23) : Int) = (q)) ∧ True))
def L_spec_l20Cloud_5 (r2 : Int) (l1_1 : List Pt) (r1 : Int) (q_23 : Int) : Prop := ∃ l : List Pt, ∃ q : Int, ((ilen l ≤ 20 ∧ PB l ∧ r2 ≤ q ∧ q ≤ r2 + 200) ∧ (((true = true) ∧ ((Cont.pts (iapp l1_1 [((getx l1_1 (0 : Int)), (gety l1_1 (0 : Int)))])) = (Cont.pts (l)))) ∧ True) ∧ ((true = true) ∧ (true = true) ∧ ((r1 : Int) = r1) ∧ (((q_23) : Int) = (q)) ∧ True))
def L_spec_l20Cloud_6 (r2 : Int) (l5_1 : List Pt) (r1 : Int) (q_25 : Int) : Prop := ∃ l : List Pt, ∃ q : Int, ((ilen l ≤ 20 ∧ PB l ∧ r2 ≤ q ∧ q ≤ r2 + 200) ∧ (((Cont.pts (idrop l5_1 (imax (0 : Int) (isub (ilen l5_1) (5 : Int))))) = (Cont.pts (l))) ∧ True) ∧ ((true = true) ∧ (true = true) ∧ ((r1 : Int) = r1) ∧ (((q_25) : Int) = (q)) ∧ True))
def L_spec_l20Cloud_7 (r2 : Int) (l1_1 : List Pt) (r1 : Int) (q_25 : Int) : Prop := ∃ l : List Pt, ∃ q : Int, ((ilen l ≤ 20 ∧ PB l ∧ r2 ≤ q ∧ q ≤ r2 + 200) ∧ (((true = true) ∧ ((Cont.pts l1_1) = (Cont.pts (l)))) ∧ True) ∧ ((true = true) ∧ (true = true) ∧ ((r1 : Int) = r1) ∧ (((q_25) : Int) = (q)) ∧ True))
def L_spec_l20Cloud_8 (r2 : Int) (l6_1 : List Pt) (r1 : Int) (q_27 : Int) : Prop := ∃ l : List Pt, ∃ q : Int, ((ilen l ≤ 20 ∧ PB l ∧ r2 ≤ q ∧ q ≤ r2 + 200) ∧ (((Cont.pts (idrop l6_1 (imax (0 : Int) (isub (ilen l6_1) (5 : Int))))) = (Cont.pts (l))) ∧ True) ∧ ((true = true) ∧ (true = true) ∧ ((r1 : Int) = r1) ∧ (((q_27) : Int) = (q)) ∧ True))
def L_spec_l20Cloud_9 (r2 : Int) (l1_1 : List Pt) (r1 : Int) (q_27 : Int) : Prop := ∃ l : List Pt, ∃ q : Int, ((ilen l ≤ 20 ∧ PB l ∧ r2 ≤ q ∧ q ≤ r2 + 200) ∧ (((true = true) ∧ ((Cont.pts (iapp l1_1 [((getx l1_1 (0 : Int)), (gety l1_1 (0 : Int)))])) = (Cont.pts (l)))) ∧ True) ∧ ((true = true) ∧ (true = true) ∧ ((r1 : Int) = r1) ∧ (((q_27) : Int) = (q)) ∧ True))
def L_spec_l20Cloud_10 (r2 : Int) (l7_1 : List Pt) (r1 : Int) (q_29 : Int) : Prop := ∃ l : List Pt, ∃ q : Int, ((ilen l ≤ 20 ∧ PB l ∧ r2 ≤ q ∧ q ≤ r2 + 200) ∧ (((Cont.pts (idrop l7_1 (imax (0 : Int) (isub (ilen l7_1) (5 : Int))))) = (Cont.pts (l))) ∧ True) ∧ ((true = true) ∧ (true = true) ∧ ((r1 : Int) = r1) ∧ (((q_29) : Int) = (q)) ∧ True))
def L_spec_l20Cloud_11 (r2 : Int) (l1_1 : List Pt) (r1 : Int) (q_29 : Int) : Prop := ∃ l : List Pt, ∃ q : Int, ((ilen l ≤ 20 ∧ PB l ∧ r2 ≤ q ∧ q ≤ r2 + 200) ∧ (((true = true) ∧ ((Cont.pts l1_1) = (Cont.pts (l)))) ∧ True) ∧ ((true = true) ∧ (true = true) ∧ ((r1 : Int) = r1) ∧ (((q_29) : Int) = (q)) ∧ True))
def L_spec_l20Cloud_12 (r2 : Int) (l8_1 : List Pt) (r1 : Int) (q_31 : Int) : Prop := ∃ l : List Pt, ∃ q : Int, ((ilen l ≤ 20 ∧ PB l ∧ r2 ≤ q ∧ q ≤ r2 + 200) ∧ (((Cont.pts (idrop l8_1 (imax (0 : Int) (isub (ilen l8_1) (5 : Int))))) = (Cont.pts (l))) ∧ True) ∧ ((true = true) ∧ (true = true) ∧ ((r1 : Int) = r1) ∧ (((q_31) : Int) = (q)) ∧ True))
def L_spec_l20Cloud_13 (r2 : Int) (l1_1 : List Pt) (r1 : Int) (q_31 : Int) : Prop := ∃ l : List Pt, ∃ q : Int, ((ilen l ≤ 20 ∧ PB l ∧ r2 ≤ q ∧ q ≤ r2 + 200) ∧ (((true = true) ∧ ((Cont.pts (iapp l1_1 [((getx l1_1 (0 : Int)), (gety l1_1 (0 : Int)))])) = (Cont.pts (l)))) ∧ True) ∧ ((true = true) ∧ (true = true) ∧ ((r1 : Int) = r1) ∧ (((q_31) : Int) = (q)) ∧ True))
def L_spec_l20Cloud_14 (r2 : Int) (l9_1 : List Pt) (r1 : Int) (q_33 : Int) : Prop := ∃ l : List Pt, ∃ q : Int, ((ilen l ≤ 20 ∧ PB l ∧ r2 ≤ q ∧ q ≤ r2 + 200) ∧ (((Cont.pts (idrop l9_1 (imax (0 : Int) (isub (ilen l9_1) (5 : Int))))) = (Cont.pts (l))) ∧ True) ∧ ((true = true) ∧ (true = true) ∧ ((r1 : Int) = r1) ∧ (((q_33) : Int) = (q)) ∧ True))
def L_spec_l20Cloud_15 (r2 : Int) (l1_1 : List Pt) (r1 : Int) (q_33 : Int) : Prop := ∃ l : List Pt, ∃ q : Int, ((ilen l ≤ 20 ∧ PB l ∧ r2 ≤ q ∧ q ≤ r2 + 200) ∧ (((true = true) ∧ ((Cont.pts l1_1) = (Cont.pts (l)))) ∧ True) ∧ ((true = true) ∧ (true = true) ∧ ((r1 : Int) = r1) ∧ (((q_33) : Int) = (q)) ∧ True))
def L_spec_l20Cloud_16 (r2 : Int) (l10_1 : List Pt) (r1 : Int) (q_35 : Int) : Prop := ∃ l : List Pt, ∃ q : Int, ((ilen l ≤ 20 ∧ PB l ∧ r2 ≤ q ∧ q ≤ r2 + 200) ∧ (((Cont.pts (idrop l10_1 (imax (0 : Int) (isub (ilen l10_1) (5 : Int))))) = (Cont.pts (l))) ∧ True) ∧ ((true = true) ∧ (true = true) ∧ ((r1 : Int) = r1) ∧ (((q_35) : Int) = (q)) ∧ True))
def L_spec_l20Cloud_17 (r2 : Int) (l1_1 : List Pt) (r1 : Int) (q_35 : Int) : Prop := ∃ l : List Pt, ∃ q : Int, ((ilen l ≤ 20 ∧ PB l ∧ r2 ≤ q ∧ q ≤ r2 + 200) ∧ (((true = true) ∧ ((Cont.pts (iapp l1_1 [((getx l1_1 (0 : Int)), (gety l1_1 (0 : Int)))])) = (Cont.pts (l)))) ∧ True) ∧ ((true = true) ∧ (true = true) ∧ ((r1 : Int) = r1) ∧ (((q_35) : Int) = (q)) ∧ True))
def L_spec_l20Cloud_18 (r2 : Int) (l11_1 : List Pt) (r1 : Int) (q_37 : Int) : Prop := ∃ l : List Pt, ∃ q : Int, ((ilen l ≤ 20 ∧ PB l ∧ r2 ≤ q ∧ q ≤ r2 + 200) ∧ (((Cont.pts (idrop l11_1 (imax (0 : Int) (isub (ilen l11_1) (5 : Int))))) = (Cont.pts (l))) ∧ True) ∧ ((true = true) ∧ (true = true) ∧ ((r1 : Int) = r1) ∧ (((q_37) : Int) = (q)) ∧ True))
def L_spec_l20Cloud_19 (r2 : Int) (l1_1 : List Pt) (r1 : Int) (q_37 : Int) : Prop := ∃ l : List Pt, ∃ q : Int, ((ilen l ≤ 20 ∧ PB l ∧ r2 ≤ q ∧ q ≤ r2 + 200) ∧ (((true = true) ∧ ((Cont.pts l1_1) = (Cont.pts (l)))) ∧ True) ∧ ((true = true) ∧ (true = true) ∧ ((r1 : Int) = r1) ∧ (((q_37) : Int) = (q)) ∧ True))
theorem V_spec_l20Cloud (r1 : Int) (r2 : Int) (n : Int) : ((true = true) ∧ ((True) ∧ True) ∧ (true = true) ∧ ((True) ∧ (True) ∧ True) ∧ (true = true) ∧ ((True) ∧ True) ∧ (true = true) ∧ ((r1 ≤ 2000 ∧ 0 ≤ r2 ∧ r2 ≤ 1000000)) ∧ (∀ k_12 : Int, ((pickP (10 : Int) k_12) → ((True) ∧ ∃ (I1 : List GV → Prop) (μ1 : List GV → Nat), (((true = true) ∧ ((((k_12) : Int) = (k_12)) ∧ (((k_12) : Int) = (k_12)) ∧ (true = true) ∧ (true = true) ∧ (true = true) ∧ (true = true) ∧ ((n : Int) = n) ∧ True) ∧ ((((r1 : Int) = r1) ∧ (((r2 + 1) : Int) = (r2 + 1)) ∧ True) ∧ ((true = true) ∧ ((Cont.pts []) = (Cont.pts []))) ∧ ((true = true) ∧ ((Cont.pts []) = (Cont.pts []))) ∧ True)) ∧ (([GK.int, GK.pts, GK.int] : List GK) = ([GK.int, GK.pts, GK.int] : List GK)) ∧ I1 [GV.int (k_12), GV.pts [], GV.int (r2 + 1)]) ∧ (∀ i1_0 : Int, ∀ l1_1 : List Pt, ∀ i1_2 : Int, I1 [GV.int i1_0, GV.pts l1_1, GV.int i1_2] → ((true = true) ∧ ((True) ∧ (True) ∧ True) ∧ ((ilt (0 : Int) i1_0) = true → ((true = true) ∧ ((True) ∧ (True) ∧ (True) ∧ True) ∧ (true = true) ∧ ((r1 ≤ 2000 ∧ 0 ≤ i1_2 ∧ i1_2 ≤ 900000 ∧ -1000000 ≤ n ∧ n ≤ 1000000)) ∧ (∀ x_13 : Int, ∀ y_14 : Int, ∀ q_15 : Int, ((-10001 ≤ x_13 ∧ x_13 ≤ 10001 ∧ -10000 ≤ y_14 ∧ y_14 ≤ 10000 ∧ (n ≤ 0 → -10000 ≤ x_13 ∧ x_13 ≤ 10000) ∧ i1_2 ≤ q_15 ∧ q_15 ≤ i1_2 + 10) → ((True) ∧ (NLe (ilen l1_1) 1000000000 ∧ NLe (ilen [((x_13), (y_14))]) 1000000000) ∧ (True) ∧ (true = true) ∧ ((True) ∧ (True) ∧ (True) ∧ True) ∧ ((true = true) ∧ ((((isub i1_0 (1 : Int)) : Int) = (isub i1_0 (1 : Int))) ∧ (((k_12) : Int) = (k_12)) ∧ (true = true) ∧ (true = true) ∧ (true = true) ∧ (true = true) ∧ ((n : Int) = n) ∧ True) ∧ ((((r1 : Int) = r1) ∧ (((q_15) : Int) = (q_15)) ∧ True) ∧ ((true = true) ∧ ((Cont.pts (iapp l1_1 [((x_13), (y_14))])) = (Cont.pts (iapp l1_1 [((x_13), (y_14))])))) ∧ ((true = true) ∧ ((Cont.pts []) = (Cont.pts []))) ∧ True)) ∧ ((([GK.int, GK.pts, GK.int] : List GK) = ([GK.int, GK.pts, GK.int] : List GK)) ∧ I1 [GV.int (isub i1_0 (1 : Int)), GV.pts (iapp l1_1 [((x_13), (y_14))]), GV.int (q_15)] ∧ μ1 [GV.int (isub i1_0 (1 : Int)), GV.pts (iapp l1_1 [((x_13), (y_14))]), GV.int (q_15)] < μ1 [GV.int i1_0, GV.pts l1_1, GV.int i1_2])))))) ∧ ((ilt (0 : Int) i1_0) = false → ((true = true) ∧ ((True) ∧ True) ∧ (true = true) ∧ ((r1 ≤ 2000 ∧ 0 ≤ i1_2 ∧ i1_2 ≤ 1000000 ∧ -1000000 ≤ (9 : Int) ∧ (9 : Int) ≤ 1000000)) ∧ (∀ b_16 : Bool, ∀ q_17 : Int, ((((9 : Int) ≤ 0 → b_16 = false) ∧ i1_2 ≤ q_17 ∧ q_17 ≤ i1_2 + 1) → ((True) ∧ (true = true) ∧ ((b_16) = true → ((True) ∧ (true = true) ∧ (true = true → ((True) ∧ (true = true) ∧ (true = true → ((True) ∧ (true = true) ∧ (true = true → (((ilt (0 : Int) (ilen l1_1)) = true → ((true = true) ∧ ((True) ∧ (True) ∧ (NLe 0 (0 : Int) ∧ NLt (0 : Int) (ilen l1_1)) ∧ (NLt (0 : Int) (ilen l1_1)) ∧ (True) ∧ True) ∧ (NLe (ilen l1_1) 1000000000 ∧ NLe (ilen [((getx l1_1 (0 : Int)), (gety l1_1 (0 : Int)))]) 1000000000) ∧ (True) ∧ (true = true) ∧ ((True) ∧ True) ∧ (true = true) ∧ ((r1 ≤ 2000 ∧ 0 ≤ (q_17) ∧ (q_17) ≤ 1000000 ∧ -1000000 ≤ (12 : Int) ∧ (12 : Int) ≤ 1000000)) ∧ (∀ b_18 : Bool, ∀ q_19 : Int, ((((12 : Int) ≤ 0 → b_18 = false) ∧ (q_17) ≤ q_19 ∧ q_19 ≤ (q_17) + 1) → (((b_18) = true → ((true = true) ∧ ((True) ∧ True) ∧ ∃ (I2 : List GV → Prop) (μ2 : List GV → Nat), (((true = true) ∧ ((((0 : Int) : Int) = (0 : Int)) ∧ (((b_18) : Bool) = (b_18)) ∧ (true = true) ∧ (true = true) ∧ ((((getx l1_1 (0 : Int)) : Int) = (getx l1_1 (0 : Int))) ∧ (((gety l1_1 (0 : Int)) : Int) = (gety l1_1 (0 : Int))) ∧ True) ∧ (true = true) ∧ (((ilt (0 : Int) (ilen l1_1)) : Bool) = (ilt (0 : Int) (ilen l1_1))) ∧ (((ilt (0 : Int) (ilen l1_1)) : Bool) = (ilt (0 : Int) (ilen l1_1))) ∧ ((true : Bool) = true) ∧ (((ilen l1_1) : Int) = (ilen l1_1)) ∧ (((b_16) : Bool) = (b_16)) ∧ (true = true) ∧ ((i1_0 : Int) = i1_0) ∧ (((ilt (0 : Int) i1_0) : Bool) = (ilt (0 : Int) i1_0)) ∧ ((i1_0 : Int) = i1_0) ∧ (((k_12) : Int) = (k_12)) ∧ (true = true) ∧ (true = true) ∧ (true = true) ∧ ((n : Int) = n) ∧ True) ∧ (((true = true) ∧ ((Cont.pts (iapp l1_1 [((getx l1_1 (0 : Int)), (gety l1_1 (0 : Int)))])) = (Cont.pts (iapp l1_1 [((getx l1_1 (0 : Int)), (gety l1_1 (0 : Int)))])))) ∧ (((r1 : Int) = r1) ∧ (((q_19) : Int) = (q_19)) ∧ True) ∧ ((true = true) ∧ ((Cont.pts [((getx l1_1 (0 : Int)), (gety l1_1 (0 : Int)))]) = (Cont.pts [((getx l1_1 (0 : Int)), (gety l1_1 (0 : Int)))]))) ∧ ((true = true) ∧ ((Cont.pts []) = (Cont.pts []))) ∧ True)) ∧ (([GK.int, GK.pts] : List GK) = ([GK.int, GK.pts] : List GK)) ∧ I2 [GV.int (0 : Int), GV.pts (iapp l1_1 [((getx l1_1 (0 : Int)), (gety l1_1 (0 : Int)))])]) ∧ (∀ i2_0 : Int, ∀ l2_1 : List Pt, I2 [GV.int i2_0, GV.pts l2_1] → ((true = true) ∧ ((True) ∧ (True) ∧ True) ∧ ((ilt i2_0 (5 : Int)) = true → ((true = true) ∧ ((True) ∧ (True) ∧ (True) ∧ (True) ∧ (True) ∧ (True) ∧ (True) ∧ True) ∧ (NLe (ilen l2_1) 1000000000 ∧ NLe (ilen [((imul (3 : Int) i2_0), (imul (5 : Int) i2_0))]) 1000000000) ∧ (True) ∧ (true = true) ∧ ((True) ∧ (True) ∧ (True) ∧ True) ∧ ((true = true) ∧ ((((iadd i2_0 (1 : Int)) : Int) = (iadd i2_0 (1 : Int))) ∧ (((b_18) : Bool) = (b_18)) ∧ (true = true) ∧ (true = true) ∧ ((((getx l1_1 (0 : Int)) : Int) = (getx l1_1 (0 : Int))) ∧ (((gety l1_1 (0 : Int)) : Int) = (gety l1_1 (0 : Int))) ∧ True) ∧ (true = true) ∧ (((ilt (0 : Int) (ilen l1_1)) : Bool) = (ilt (0 : Int) (ilen l1_1))) ∧ (((ilt (0 : Int) (ilen l1_1)) : Bool) = (ilt (0 : Int) (ilen l1_1))) ∧ ((true : Bool) = true) ∧ (((ilen l1_1) : Int) = (ilen l1_1)) ∧ (((b_16) : Bool) = (b_16)) ∧ (true = true) ∧ ((i1_0 : Int) = i1_0) ∧ (((ilt (0 : Int) i1_0) : Bool) = (ilt (0 : Int) i1_0)) ∧ ((i1_0 : Int) = i1_0) ∧ (((k_12) : Int) = (k_12)) ∧ (true = true) ∧ (true = true) ∧ (true = true) ∧ ((n : Int) = n) ∧ True) ∧ (((true = true) ∧ ((Cont.pts (iapp l2_1 [((imul (3 : Int) i2_0), (imul (5 : Int) i2_0))])) = (Cont.pts (iapp l2_1 [((imul (3 : Int) i2_0), (imul (5 : Int) i2_0))])))) ∧ (((r1 : Int) = r1) ∧ (((q_19) : Int) = (q_19)) ∧ True) ∧ ((true = true) ∧ ((Cont.pts [((getx l1_1 (0 : Int)), (gety l1_1 (0 : Int)))]) = (Cont.pts [((getx l1_1 (0 : Int)), (gety l1_1 (0 : Int)))]))) ∧ ((true = true) ∧ ((Cont.pts []) = (Cont.pts []))) ∧ True)) ∧ ((([GK.int, GK.pts] : List GK) = ([GK.int, GK.pts] : List GK)) ∧ I2 [GV.int (iadd i2_0 (1 : Int)), GV.pts (iapp l2_1 [((imul (3 : Int) i2_0), (imul (5 : Int) i2_0))])] ∧ μ2 [GV.int (iadd i2_0 (1 : Int)), GV.pts (iapp l2_1 [((imul (3 : Int) i2_0), (imul (5 : Int) i2_0))])] < μ2 [GV.int i2_0, GV.pts l2_1]))) ∧ ((ilt i2_0 (5 : Int)) = false → ((true = true) ∧ ((True) ∧ (True) ∧ (True) ∧ (True) ∧ (True) ∧ True) ∧ (NLe 0 (imax (0 : Int) (isub (ilen l2_1) (5 : Int))) ∧ NLe (imax (0 : Int) (isub (ilen l2_1) (5 : Int))) (ilen l2_1)) ∧ (True) ∧ L_spec_l20Cloud_0 r2 l2_1 r1 q_19)))))) ∧ ((b_18) = false → ((true = true) ∧ ((True) ∧ (True) ∧ True) ∧ L_spec_l20Cloud_1 r2 l1_1 r1 q_19))))))) ∧ ((ilt (0 : Int) (ilen l1_1)) = false → ((true = true) ∧ ((True) ∧ True) ∧ (true = true) ∧ ((r1 ≤ 2000 ∧ 0 ≤ (q_17) ∧ (q_17) ≤ 1000000 ∧ -1000000 ≤ (12 : Int) ∧ (12 : Int) ≤ 1000000)) ∧ (∀ b_20 : Bool, ∀ q_21 : Int, ((((12 : Int) ≤ 0 → b_20 = false) ∧ (q_17) ≤ q_21 ∧ q_21 ≤ (q_17) + 1) → (((b_20) = true → ((true = true) ∧ ((True) ∧ True) ∧ ∃ (I3 : List GV → Prop) (μ3 : List GV → Nat), (((true = true) ∧ ((((0 : Int) : Int) = (0 : Int)) ∧ (((b_20) : Bool) = (b_20)) ∧ (true = true) ∧ (((ilt (0 : Int) (ilen l1_1)) : Bool) = (ilt (0 : Int) (ilen l1_1))) ∧ (((ilt (0 : Int) (ilen l1_1)) : Bool) = (ilt (0 : Int) (ilen l1_1))) ∧ ((true : Bool) = true) ∧ (((ilen l1_1) : Int) = (ilen l1_1)) ∧ (((b_16) : Bool) = (b_16)) ∧ (true = true) ∧ ((i1_0 : Int) = i1_0) ∧ (((ilt (0 : Int) i1_0) : Bool) = (ilt (0 : Int) i1_0)) ∧ ((i1_0 : Int) = i1_0) ∧ (((k_12) : Int) = (k_12)) ∧ (true = true) ∧ (true = true) ∧ (true = true) ∧ (true = true) ∧ ((n : Int) = n) ∧ True) ∧ (((true = true) ∧ ((Cont.pts l1_1) = (Cont.pts l1_1))) ∧ (((r1 : Int) = r1) ∧ (((q_21) : Int) = (q_21)) ∧ True) ∧ ((true = true) ∧ ((Cont.pts []) = (Cont.pts []))) ∧ True)) ∧ (([GK.int, GK.pts] : List GK) = ([GK.int, GK.pts] : List GK)) ∧ I3 [GV.int (0 : Int), GV.pts l1_1]) ∧ (∀ i3_0 : Int, ∀ l3_1 : List Pt, I3 [GV.int i3_0, GV.pts l3_1] → ((true = true) ∧ ((True) ∧ (True) ∧ True) ∧ ((ilt i3_0 (5 : Int)) = true → ((true = true) ∧ ((True) ∧ (True) ∧ (True) ∧ (True) ∧ (True) ∧ (True) ∧ (True) ∧ True) ∧ (NLe (ilen l3_1) 1000000000 ∧ NLe (ilen [((imul (3 : Int) i3_0), (imul (5 : Int) i3_0))]) 1000000000) ∧ (True) ∧ (true = true) ∧ ((True) ∧ (True) ∧ (True) ∧ True) ∧ ((true = true) ∧ ((((iadd i3_0 (1 : Int)) : Int) = (iadd i3_0 (1 : Int))) ∧ (((b_20) : Bool) = (b_20)) ∧ (true = true) ∧ (((ilt (0 : Int) (ilen l1_1)) : Bool) = (ilt (0 : Int) (ilen l1_1))) ∧ (((ilt (0 : Int) (ilen l1_1)) : Bool) = (ilt (0 : Int) (ilen l1_1))) ∧ ((true : Bool) = true) ∧ (((ilen l1_1) : Int) = (ilen l1_1)) ∧ (((b_16) : Bool) = (b_16)) ∧ (true = true) ∧ ((i1_0 : Int) = i1_0) ∧ (((ilt (0 : Int) i1_0) : Bool) = (ilt (0 : Int) i1_0)) ∧ ((i1_0 : Int) = i1_0) ∧ (((k_12) : Int) = (k_12)) ∧ (true = true) ∧ (true = true) ∧ (true = true) ∧ (true = true) ∧ ((n : Int) = n) ∧ True) ∧ (((true = true) ∧ ((Cont.pts (iapp l3_1 [((imul (3 : Int) i3_0), (imul (5 : Int) i3_0))])) = (Cont.pts (iapp l3_1 [((imul (3 : Int) i3_0), (imul (5 : Int) i3_0))])))) ∧ (((r1 : Int) = r1) ∧ (((q_21) : Int) = (q_21)) ∧ True) ∧ ((true = true) ∧ ((Cont.pts []) = (Cont.pts []))) ∧ True)) ∧ ((([GK.int, GK.pts] : List GK) = ([GK.int, GK.pts] : List GK)) ∧ I3 [GV.int (iadd i3_0 (1 : Int)), GV.pts (iapp l3_1 [((imul (3 : Int) i3_0), (imul (5 : Int) i3_0))])] ∧ μ3 [GV.int (iadd i3_0 (1 : Int)), GV.pts (iapp l3_1 [((imul (3 : Int) i3_0), (imul (5 : Int) i3_0))])] < μ3 [GV.int i3_0, GV.pts l3_1]))) ∧ ((ilt i3_0 (5 : Int)) = false → ((true = true) ∧ ((True) ∧ (True) ∧ (True) ∧ (True) ∧ (True) ∧ True) ∧ (NLe 0 (imax (0 : Int) (isub (ilen l3_1) (5 : Int))) ∧ NLe (imax (0 : Int) (isub (ilen l3_1) (5 : Int))) (ilen l3_1)) ∧ (True) ∧ L_spec_l20Cloud_2 r2 l3_1 r1 q_21)))))) ∧ ((b_20) = false → ((true = true) ∧ ((True) ∧ (True) ∧ True) ∧ L_spec_l20Cloud_3 r2 l1_1 r1 q_21))))))))) ∧ (true = false → ((false = true → ((true = true) ∧ ((True) ∧ (True) ∧ (NLe 0 (0 : Int) ∧ NLt (0 : Int) (ilen l1_1)) ∧ (NLt (0 : Int) (ilen l1_1)) ∧ (True) ∧ True) ∧ (NLe (ilen l1_1) 1000000000 ∧ NLe (ilen [((getx l1_1 (0 : Int)), (gety l1_1 (0 : Int)))]) 1000000000) ∧ (True) ∧ (true = true) ∧ ((True) ∧ True) ∧ (true = true) ∧ ((r1 ≤ 2000 ∧ 0 ≤ (q_17) ∧ (q_17) ≤ 1000000 ∧ -1000000 ≤ (12 : Int) ∧ (12 : Int) ≤ 1000000)) ∧ (∀ b_22 : Bool, ∀ q_23 : Int, ((((12 : Int) ≤ 0 → b_22 = false) ∧ (q_17) ≤ q_23 ∧ q_23 ≤ (q_17) + 1) → (((b_22) = true → ((true = true) ∧ ((True) ∧ True) ∧ ∃ (I4 : List GV → Prop) (μ4 : List GV → Nat), (((true = true) ∧ ((((0 : Int) : Int) = (0 : Int)) ∧ (((b_22) : Bool) = (b_22)) ∧ (true = true) ∧ (true = true) ∧ ((((getx l1_1 (0 : Int)) : Int) = (getx l1_1 (0 : Int))) ∧ (((gety l1_1 (0 : Int)) : Int) = (gety l1_1 (0 : Int))) ∧ True) ∧ (true = true) ∧ ((false : Bool) = false) ∧ (((ilt (0 : Int) (ilen l1_1)) : Bool) = (ilt (0 : Int) (ilen l1_1))) ∧ ((true : Bool) = true) ∧ (((ilen l1_1) : Int) = (ilen l1_1)) ∧ (((b_16) : Bool) = (b_16)) ∧ (true = true) ∧ ((i1_0 : Int) = i1_0) ∧ (((ilt (0 : Int) i1_0) : Bool) = (ilt (0 : Int) i1_0)) ∧ ((i1_0 : Int) = i1_0) ∧ (((k_12) : Int) = (k_12)) ∧ (true = true) ∧ (true = true) ∧ (true = true) ∧ ((n : Int) = n) ∧ True) ∧ (((true = true) ∧ ((Cont.pts (iapp l1_1 [((getx l1_1 (0 : Int)), (gety l1_1 (0 : Int)))])) = (Cont.pts (iapp l1_1 [((getx l1_1 (0 : Int)), (gety l1_1 (0 : Int)))])))) ∧ (((r1 : Int) = r1) ∧ (((q_23) : Int) = (q_23)) ∧ True) ∧ ((true = true) ∧ ((Cont.pts [((getx l1_1 (0 : Int)), (gety l1_1 (0 : Int)))]) = (Cont.pts [((getx l1_1 (0 : Int)), (gety l1_1 (0 : Int)))]))) ∧ ((true = true) ∧ ((Cont.pts []) = (Cont.pts []))) ∧ True)) ∧ (([GK.int, GK.pts] : List GK) = ([GK.int, GK.pts] : List GK)) ∧ I4 [GV.int (0 : Int), GV.pts (iapp l1_1 [((getx l1_1 (0 : Int)), (gety l1_1 (0 : Int)))])]) ∧ (∀ i4_0 : Int, ∀ l4_1 : List Pt, I4 [GV.int i4_0, GV.pts l4_1] → ((true = true) ∧ ((True) ∧ (True) ∧ True) ∧ ((ilt i4_0 (5 : Int)) = true → ((true = true) ∧ ((True) ∧ (True) ∧ (True) ∧ (True) ∧ (True) ∧ (True) ∧ (True) ∧ True) ∧ (NLe (ilen l4_1) 1000000000 ∧ NLe (ilen [((imul (3 : Int) i4_0), (imul (5 : Int) i4_0))]) 1000000000) ∧ (True) ∧ (true = true) ∧ ((True) ∧ (True) ∧ (True) ∧ True) ∧ ((true = true) ∧ ((((iadd i4_0 (1 : Int)) : Int) = (iadd i4_0 (1 : Int))) ∧ (((b_22) : Bool) = (b_22)) ∧ (true = true) ∧ (true = true) ∧ ((((getx l1_1 (0 : Int)) : Int) = (getx l1_1 (0 : Int))) ∧ (((gety l1_1 (0 : Int)) : Int) = (gety l1_1 (0 : Int))) ∧ True) ∧ (true = true) ∧ ((false : Bool) = false) ∧ (((ilt (0 : Int) (ilen l1_1)) : Bool) = (ilt (0 : Int) (ilen l1_1))) ∧ ((true : Bool) = true) ∧ (((ilen l1_1) : Int) = (ilen l1_1)) ∧ (((b_16) : Bool) = (b_16)) ∧ (true = true) ∧ ((i1_0 : Int) = i1_0) ∧ (((ilt (0 : Int) i1_0) : Bool) = (ilt (0 : Int) i1_0)) ∧ ((i1_0 : Int) = i1_0) ∧ (((k_12) : Int) = (k_12)) ∧ (true = true) ∧ (true = true) ∧ (true = true) ∧ ((n : Int) = n) ∧ True) ∧ (((true = true) ∧ ((Cont.pts (iapp l4_1 [((imul (3 : Int) i4_0), (imul (5 : Int) i4_0))])) = (Cont.pts (iapp l4_1 [((imul (3 : Int) i4_0), (imul (5 : Int) i4_0))])))) ∧ (((r1 : Int) = r1) ∧ (((q_23) : Int) = (q_23)) ∧ True) ∧ ((true = true) ∧ ((Cont.pts [((getx l1_1 (0 : Int)), (gety l1_1 (0 : Int)))]) = (Cont.pts [((getx l1_1 (0 : Int)), (gety l1_1 (0 : Int)))]))) ∧ ((true = true) ∧ ((Cont.pts []) = (Cont.pts []))) ∧ True)) ∧ ((([GK.int, GK.pts] : List GK) = ([GK.int, GK.pts] : List GK)) ∧ I4 [GV.int (iadd i4_0 (1 : Int)), GV.pts (iapp l4_1 [((imul (3 : Int) i4_0), (imul (5 : Int) i4_0))])] ∧ μ4 [GV.int (iadd i4_0 (1 : Int)), GV.pts (iapp l4_1 [((imul (3 : Int) i4_0), (imul (5 : Int) i4_0))])] < μ4 [GV.int i4_0, GV.pts l4_1]))) ∧ ((ilt i4_0 (5 : Int)) = false → ((true = true) ∧ ((True) ∧ (True) ∧ (True) ∧ (True) ∧ (True) ∧ True) ∧ (NLe 0 (imax (0 : Int) (isub (ilen l4_1) (5 : Int))) ∧ NLe (imax (0 : Int) (isub (ilen l4_1) (5 : Int))) (ilen l4_1)) ∧ (True) ∧ L_spec_l20Cloud_4 r2 l4_1 r1 q_23)))))) ∧ ((b_22) = false → ((true = true) ∧ ((True) ∧ (True) ∧ True) ∧ L_spec_l20Cloud_5 r2 l1_1 r1 q_23))))))) ∧ (false = false → ((true = true) ∧ ((True) ∧ True) ∧ (true = true) ∧ ((r1 ≤ 2000 ∧ 0 ≤ (q_17) ∧ (q_17) ≤ 1000000 ∧ -1000000 ≤ (12 : Int) ∧ (12 : Int) ≤ 1000000)) ∧ (∀ b_24 : Bool, ∀ q_25 : Int, ((((12 : Int) ≤ 0 → b_24 = false) ∧ (q_17) ≤ q_25 ∧ q_25 ≤ (q_17) + 1) → (((b_24) = true → ((true = true) ∧ ((True) ∧ True) ∧ ∃ (I5 : List GV → Prop) (μ5 : List GV → Nat), (((true = true) ∧ ((((0 : Int) : Int) = (0 : Int)) ∧ (((b_24) : Bool) = (b_24)) ∧ (true = true) ∧ ((false : Bool) = false) ∧ (((ilt (0 : Int) (ilen l1_1)) : Bool) = (ilt (0 : Int) (ilen l1_1))) ∧ ((true : Bool) = true) ∧ (((ilen l1_1) : Int) = (ilen l1_1)) ∧ (((b_16) : Bool) = (b_16)) ∧ (true = true) ∧ ((i1_0 : Int) = i1_0) ∧ (((ilt (0 : Int) i1_0) : Bool) = (ilt (0 : Int) i1_0)) ∧ ((i1_0 : Int) = i1_0) ∧ (((k_12) : Int) = (k_12)) ∧ (true = true) ∧ (true = true) ∧ (true = true) ∧ (true = true) ∧ ((n : Int) = n) ∧ True) ∧ (((true = true) ∧ ((Cont.pts l1_1) = (Cont.pts l1_1))) ∧ (((r1 : Int) = r1) ∧ (((q_25) : Int) = (q_25)) ∧ True) ∧ ((true = true) ∧ ((Cont.pts []) = (Cont.pts []))) ∧ True)) ∧ (([GK.int, GK.pts] : List GK) = ([GK.int, GK.pts] : List GK)) ∧ I5 [GV.int (0 : Int), GV.pts l1_1]) ∧ (∀ i5_0 : Int, ∀ l5_1 : List Pt, I5 [GV.int i5_0, GV.pts l5_1] → ((true = true) ∧ ((True) ∧ (True) ∧ True) ∧ ((ilt i5_0 (5 : Int)) = true → ((true = true) ∧ ((True) ∧ (True) ∧ (True) ∧ (True) ∧ (True) ∧ (True) ∧ (True) ∧ True) ∧ (NLe (ilen l5_1) 1000000000 ∧ NLe (ilen [((imul (3 : Int) i5_0), (imul (5 : Int) i5_0))]) 1000000000) ∧ (True) ∧ (true = true) ∧ ((True) ∧ (True) ∧ (True) ∧ True) ∧ ((true = true) ∧ ((((iadd i5_0 (1 : Int)) : Int) = (iadd i5_0 (1 : Int))) ∧ (((b_24) : Bool) = (b_24)) ∧ (true = true) ∧ ((false : Bool) = false) ∧ (((ilt (0 : Int) (ilen l1_1)) : Bool) = (ilt (0 : Int) (ilen l1_1))) ∧ ((true : Bool) = true) ∧ (((ilen l1_1) : Int) = (ilen l1_1)) ∧ (((b_16) : Bool) = (b_16)) ∧ (true = true) ∧ ((i1_0 : Int) = i1_0) ∧ (((ilt (0 : Int) i1_0) : Bool) = (ilt (0 : Int) i1_0)) ∧ ((i1_0 : Int) = i1_0) ∧ (((k_12) : Int) = (k_12)) ∧ (true = true) ∧ (true = true) ∧ (true = true) ∧ (true = true) ∧ ((n : Int) = n) ∧ True) ∧ (((true = true) ∧ ((Cont.pts (iapp l5_1 [((imul (3 : Int) i5_0), (imul (5 : Int) i5_0))])) = (Cont.pts (iapp l5_1 [((imul (3 : Int) i5_0), (imul (5 : Int) i5_0))])))) ∧ (((r1 : Int) = r1) ∧ (((q_25) : Int) = (q_25)) ∧ True) ∧ ((true = true) ∧ ((Cont.pts []) = (Cont.pts []))) ∧ True)) ∧ ((([GK.int, GK.pts] : List GK) = ([GK.int, GK.pts] : List GK)) ∧ I5 [GV.int (iadd i5_0 (1 : Int)), GV.pts (iapp l5_1 [((imul (3 : Int) i5_0), (imul (5 : Int) i5_0))])] ∧ μ5 [GV.int (iadd i5_0 (1 : Int)), GV.pts (iapp l5_1 [((imul (3 : Int) i5_0), (imul (5 : Int) i5_0))])] < μ5 [GV.int i5_0, GV.pts l5_1]))) ∧ ((ilt i5_0 (5 : Int)) = false → ((true = true) ∧ ((True) ∧ (True) ∧ (True) ∧ (True) ∧ (True) ∧ True) ∧ (NLe 0 (imax (0 : Int) (isub (ilen l5_1) (5 : Int))) ∧ NLe (imax (0 : Int) (isub (ilen l5_1) (5 : Int))) (ilen l5_1)) ∧ (True) ∧ L_spec_l20Cloud_6 r2 l5_1 r1 q_25)))))) ∧ ((b_24) = false → ((true = true) ∧ ((True) ∧ (True) ∧ True) ∧ L_spec_l20Cloud_7 r2 l1_1 r1 q_25))))))))))) ∧ (true = false → ((true = true) ∧ (false = true → (False)) ∧ (false = false → ((false = true → ((true = true) ∧ ((True) ∧ (True) ∧ (NLe 0 (0 : Int) ∧ NLt (0 : Int) (ilen l1_1)) ∧ (NLt (0 : Int) (ilen l1_1)) ∧ (True) ∧ True) ∧ (NLe (ilen l1_1) 1000000000 ∧ NLe (ilen [((getx l1_1 (0 : Int)), (gety l1_1 (0 : Int)))]) 1000000000) ∧ (True) ∧ (true = true) ∧ ((True) ∧ True) ∧ (true = true) ∧ ((r1 ≤ 2000 ∧ 0 ≤ (q_17) ∧ (q_17) ≤ 1000000 ∧ -1000000 ≤ (12 : Int) ∧ (12 : Int) ≤ 1000000)) ∧ (∀ b_26 : Bool, ∀ q_27 : Int, ((((12 : Int) ≤ 0 → b_26 = false) ∧ (q_17) ≤ q_27 ∧ q_27 ≤ (q_17) + 1) → (((b_26) = true → ((true = true) ∧ ((True) ∧ True) ∧ ∃ (I6 : List GV → Prop) (μ6 : List GV → Nat), (((true = true) ∧ ((((0 : Int) : Int) = (0 : Int)) ∧ (((b_26) : Bool) = (b_26)) ∧ (true = true) ∧ (true = true) ∧ ((((getx l1_1 (0 : Int)) : Int) = (getx l1_1 (0 : Int))) ∧ (((gety l1_1 (0 : Int)) : Int) = (gety l1_1 (0 : Int))) ∧ True) ∧ (true = true) ∧ ((false : Bool) = false) ∧ ((false : Bool) = false) ∧ (((ilen l1_1) : Int) = (ilen l1_1)) ∧ (((b_16) : Bool) = (b_16)) ∧ (true = true) ∧ ((i1_0 : Int) = i1_0) ∧ (((ilt (0 : Int) i1_0) : Bool) = (ilt (0 : Int) i1_0)) ∧ ((i1_0 : Int) = i1_0) ∧ (((k_12) : Int) = (k_12)) ∧ (true = true) ∧ (true = true) ∧ (true = true) ∧ ((n : Int) = n) ∧ True) ∧ (((true = true) ∧ ((Cont.pts (iapp l1_1 [((getx l1_1 (0 : Int)), (gety l1_1 (0 : Int)))])) = (Cont.pts (iapp l1_1 [((getx l1_1 (0 : Int)), (gety l1_1 (0 : Int)))])))) ∧ (((r1 : Int) = r1) ∧ (((q_27) : Int) = (q_27)) ∧ True) ∧ ((true = true) ∧ ((Cont.pts [((getx l1_1 (0 : Int)), (gety l1_1 (0 : Int)))]) = (Cont.pts [((getx l1_1 (0 : Int)), (gety l1_1 (0 : Int)))]))) ∧ ((true = true) ∧ ((Cont.pts []) = (Cont.pts []))) ∧ True)) ∧ (([GK.int, GK.pts] : List GK) = ([GK.int, GK.pts] : List GK)) ∧ I6 [GV.int (0 : Int), GV.pts (iapp l1_1 [((getx l1_1 (0 : Int)), (gety l1_1 (0 : Int)))])]) ∧ (∀ i6_0 : Int, ∀ l6_1 : List Pt, I6 [GV.int i6_0, GV.pts l6_1] → ((true = true) ∧ ((True) ∧ (True) ∧ True) ∧ ((ilt i6_0 (5 : Int)) = true → ((true = true) ∧ ((True) ∧ (True) ∧ (True) ∧ (True) ∧ (True) ∧ (True) ∧ (True) ∧ True) ∧ (NLe (ilen l6_1) 1000000000 ∧ NLe (ilen [((imul (3 : Int) i6_0), (imul (5 : Int) i6_0))]) 1000000000) ∧ (True) ∧ (true = true) ∧ ((True) ∧ (True) ∧ (True) ∧ True) ∧ ((true = true) ∧ ((((iadd i6_0 (1 : Int)) : Int) = (iadd i6_0 (1 : Int))) ∧ (((b_26) : Bool) = (b_26)) ∧ (true = true) ∧ (true = true) ∧ ((((getx l1_1 (0 : Int)) : Int) = (getx l1_1 (0 : Int))) ∧ (((gety l1_1 (0 : Int)) : Int) = (gety l1_1 (0 : Int))) ∧ True) ∧ (true = true) ∧ ((false : Bool) = false) ∧ ((false : Bool) = false) ∧ (((ilen l1_1) : Int) = (ilen l1_1)) ∧ (((b_16) : Bool) = (b_16)) ∧ (true = true) ∧ ((i1_0 : Int) = i1_0) ∧ (((ilt (0 : Int) i1_0) : Bool) = (ilt (0 : Int) i1_0)) ∧ ((i1_0 : Int) = i1_0) ∧ (((k_12) : Int) = (k_12)) ∧ (true = true) ∧ (true = true) ∧ (true = true) ∧ ((n : Int) = n) ∧ True) ∧ (((true = true) ∧ ((Cont.pts (iapp l6_1 [((imul (3 : Int) i6_0), (imul (5 : Int) i6_0))])) = (Cont.pts (iapp l6_1 [((imul (3 : Int) i6_0), (imul (5 : Int) i6_0))])))) ∧ (((r1 : Int) = r1) ∧ (((q_27) : Int) = (q_27)) ∧ True) ∧ ((true = true) ∧ ((Cont.pts [((getx l1_1 (0 : Int)), (gety l1_1 (0 : Int)))]) = (Cont.pts [((getx l1_1 (0 : Int)), (gety l1_1 (0 : Int)))]))) ∧ ((true = true) ∧ ((Cont.pts []) = (Cont.pts []))) ∧ True)) ∧ ((([GK.int, GK.pts] : List GK) = ([GK.int, GK.pts] : List GK)) ∧ I6 [GV.int (iadd i6_0 (1 : Int)), GV.pts (iapp l6_1 [((imul (3 : Int) i6_0), (imul (5 : Int) i6_0))])] ∧ μ6 [GV.int (iadd i6_0 (1 : Int)), GV.pts (iapp l6_1 [((imul (3 : Int) i6_0), (imul (5 : Int) i6_0))])] < μ6 [GV.int i6_0, GV.pts l6_1]))) ∧ ((ilt i6_0 (5 : Int)) = false → ((true = true) ∧ ((True) ∧ (True) ∧ (True) ∧ (True) ∧ (True) ∧ True) ∧ (NLe 0 (imax (0 : Int) (isub (ilen l6_1) (5 : Int))) ∧ NLe (imax (0 : Int) (isub (ilen l6_1) (5 : Int))) (ilen l6_1)) ∧ (True) ∧ L_spec_l20Cloud_8 r2 l6_1 r1 q_27)))))) ∧ ((b_26) = false → ((true = true) ∧ ((True) ∧ (True) ∧ True) ∧ L_spec_l20Cloud_9 r2 l1_1 r1 q_27))))))) ∧ (false = false → ((true = true) ∧ ((True) ∧ True) ∧ (true = true) ∧ ((r1 ≤ 2000 ∧ 0 ≤ (q_17) ∧ (q_17) ≤ 1000000 ∧ -1000000 ≤ (12 : Int) ∧ (12 : Int) ≤ 1000000)) ∧ (∀ b_28 : Bool, ∀ q_29 : Int, ((((12 : Int) ≤ 0 → b_28 = false) ∧ (q_17) ≤ q_29 ∧ q_29 ≤ (q_17) + 1) → (((b_28) = true → ((true = true) ∧ ((True) ∧ True) ∧ ∃ (I7 : List GV → Prop) (μ7 : List GV → Nat), (((true = true) ∧ ((((0 : Int) : Int) = (0 : Int)) ∧ (((b_28) : Bool) = (b_28)) ∧ (true = true) ∧ ((false : Bool) = false) ∧ ((false : Bool) = false) ∧ (((ilen l1_1) : Int) = (ilen l1_1)) ∧ (((b_16) : Bool) = (b_16)) ∧ (true = true) ∧ ((i1_0 : Int) = i1_0) ∧ (((ilt (0 : Int) i1_0) : Bool) = (ilt (0 : Int) i1_0)) ∧ ((i1_0 : Int) = i1_0) ∧ (((k_12) : Int) = (k_12)) ∧ (true = true) ∧ (true = true) ∧ (true = true) ∧ (true = true) ∧ ((n : Int) = n) ∧ True) ∧ (((true = true) ∧ ((Cont.pts l1_1) = (Cont.pts l1_1))) ∧ (((r1 : Int) = r1) ∧ (((q_29) : Int) = (q_29)) ∧ True) ∧ ((true = true) ∧ ((Cont.pts []) = (Cont.pts []))) ∧ True)) ∧ (([GK.int, GK.pts] : List GK) = ([GK.int, GK.pts] : List GK)) ∧ I7 [GV.int (0 : Int), GV.pts l1_1]) ∧ (∀ i7_0 : Int, ∀ l7_1 : List Pt, I7 [GV.int i7_0, GV.pts l7_1] → ((true = true) ∧ ((True) ∧ (True) ∧ True) ∧ ((ilt i7_0 (5 : Int)) = true → ((true = true) ∧ ((True) ∧ (True) ∧ (True) ∧ (True) ∧ (True) ∧ (True) ∧ (True) ∧ True) ∧ (NLe (ilen l7_1) 1000000000 ∧ NLe (ilen [((imul (3 : Int) i7_0), (imul (5 : Int) i7_0))]) 1000000000) ∧ (True) ∧ (true = true) ∧ ((True) ∧ (True) ∧ (True) ∧ True) ∧ ((true = true) ∧ ((((iadd i7_0 (1 : Int)) : Int) = (iadd i7_0 (1 : Int))) ∧ (((b_28) : Bool) = (b_28)) ∧ (true = true) ∧ ((false : Bool) = false) ∧ ((false : Bool) = false) ∧ (((ilen l1_1) : Int) = (ilen l1_1)) ∧ (((b_16) : Bool) = (b_16)) ∧ (true = true) ∧ ((i1_0 : Int) = i1_0) ∧ (((ilt (0 : Int) i1_0) : Bool) = (ilt (0 : Int) i1_0)) ∧ ((i1_0 : Int) = i1_0) ∧ (((k_12) : Int) = (k_12)) ∧ (true = true) ∧ (true = true) ∧ (true = true) ∧ (true = true) ∧ ((n : Int) = n) ∧ True) ∧ (((true = true) ∧ ((Cont.pts (iapp l7_1 [((imul (3 : Int) i7_0), (imul (5 : Int) i7_0))])) = (Cont.pts (iapp l7_1 [((imul (3 : Int) i7_0), (imul (5 : Int) i7_0))])))) ∧ (((r1 : Int) = r1) ∧ (((q_29) : Int) = (q_29)) ∧ True) ∧ ((true = true) ∧ ((Cont.pts []) = (Cont.pts []))) ∧ True)) ∧ ((([GK.int, GK.pts] : List GK) = ([GK.int, GK.pts] : List GK)) ∧ I7 [GV.int (iadd i7_0 (1 : Int)), GV.pts (iapp l7_1 [((imul (3 : Int) i7_0), (imul (5 : Int) i7_0))])] ∧ μ7 [GV.int (iadd i7_0 (1 : Int)), GV.pts (iapp l7_1 [((imul (3 : Int) i7_0), (imul (5 : Int) i7_0))])] < μ7 [GV.int i7_0, GV.pts l7_1]))) ∧ ((ilt i7_0 (5 : Int)) = false → ((true = true) ∧ ((True) ∧ (True) ∧ (True) ∧ (True) ∧ (True) ∧ True) ∧ (NLe 0 (imax (0 : Int) (isub (ilen l7_1) (5 : Int))) ∧ NLe (imax (0 : Int) (isub (ilen l7_1) (5 : Int))) (ilen l7_1)) ∧ (True) ∧ L_spec_l20Cloud_10 r2 l7_1 r1 q_29)))))) ∧ ((b_28) = false → ((true = true) ∧ ((True) ∧ (True) ∧ True) ∧ L_spec_l20Cloud_11 r2 l1_1 r1 q_29))))))))))))) ∧ (true = false → ((true = true) ∧ (false = true → (False)) ∧ (false = false → ((true = true) ∧ (false = true → (False)) ∧ (false = false → ((false = true → ((true = true) ∧ ((True) ∧ (True) ∧ (NLe 0 (0 : Int) ∧ NLt (0 : Int) (ilen l1_1)) ∧ (NLt (0 : Int) (ilen l1_1)) ∧ (True) ∧ True) ∧ (NLe (ilen l1_1) 1000000000 ∧ NLe (ilen [((getx l1_1 (0 : Int)), (gety l1_1 (0 : Int)))]) 1000000000) ∧ (True) ∧ (true = true) ∧ ((True) ∧ True) ∧ (true = true) ∧ ((r1 ≤ 2000 ∧ 0 ≤ (q_17) ∧ (q_17) ≤ 1000000 ∧ -1000000 ≤ (12 : Int) ∧ (12 : Int) ≤ 1000000)) ∧ (∀ b_30 : Bool, ∀ q_31 : Int, ((((12 : Int) ≤ 0 → b_30 = false) ∧ (q_17) ≤ q_31 ∧ q_31 ≤ (q_17) + 1) → (((b_30) = true → ((true = true) ∧ ((True) ∧ True) ∧ ∃ (I8 : List GV → Prop) (μ8 : List GV → Nat), (((true = true) ∧ ((((0 : Int) : Int) = (0 : Int)) ∧ (((b_30) : Bool) = (b_30)) ∧ (true = true) ∧ (true = true) ∧ ((((getx l1_1 (0 : Int)) : Int) = (getx l1_1 (0 : Int))) ∧ (((gety l1_1 (0 : Int)) : Int) = (gety l1_1 (0 : Int))) ∧ True) ∧ (true = true) ∧ ((false : Bool) = false) ∧ ((false : Bool) = false) ∧ (((b_16) : Bool) = (b_16)) ∧ (true = true) ∧ ((i1_0 : Int) = i1_0) ∧ (((ilt (0 : Int) i1_0) : Bool) = (ilt (0 : Int) i1_0)) ∧ ((i1_0 : Int) = i1_0) ∧ (((k_12) : Int) = (k_12)) ∧ (true = true) ∧ (true = true) ∧ (true = true) ∧ ((n : Int) = n) ∧ True) ∧ (((true = true) ∧ ((Cont.pts (iapp l1_1 [((getx l1_1 (0 : Int)), (gety l1_1 (0 : Int)))])) = (Cont.pts (iapp l1_1 [((getx l1_1 (0 : Int)), (gety l1_1 (0 : Int)))])))) ∧ (((r1 : Int) = r1) ∧ (((q_31) : Int) = (q_31)) ∧ True) ∧ ((true = true) ∧ ((Cont.pts [((getx l1_1 (0 : Int)), (gety l1_1 (0 : Int)))]) = (Cont.pts [((getx l1_1 (0 : Int)), (gety l1_1 (0 : Int)))]))) ∧ ((true = true) ∧ ((Cont.pts []) = (Cont.pts []))) ∧ True)) ∧ (([GK.int, GK.pts] : List GK) = ([GK.int, GK.pts] : List GK)) ∧ I8 [GV.int (0 : Int), GV.pts (iapp l1_1 [((getx l1_1 (0 : Int)), (gety l1_1 (0 : Int)))])]) ∧ (∀ i8_0 : Int, ∀ l8_1 : List Pt, I8 [GV.int i8_0, GV.pts l8_1] → ((true = true) ∧ ((True) ∧ (True) ∧ True) ∧ ((ilt i8_0 (5 : Int)) = true → ((true = true) ∧ ((True) ∧ (True) ∧ (True) ∧ (True) ∧ (True) ∧ (True) ∧ (True) ∧ True) ∧ (NLe (ilen l8_1) 1000000000 ∧ NLe (ilen [((imul (3 : Int) i8_0), (imul (5 : Int) i8_0))]) 1000000000) ∧ (True) ∧ (true = true) ∧ ((True) ∧ (True) ∧ (True) ∧ True) ∧ ((true = true) ∧ ((((iadd i8_0 (1 : Int)) : Int) = (iadd i8_0 (1 : Int))) ∧ (((b_30) : Bool) = (b_30)) ∧ (true = true) ∧ (true = true) ∧ ((((getx l1_1 (0 : Int)) : Int) = (getx l1_1 (0 : Int))) ∧ (((gety l1_1 (0 : Int)) : Int) = (gety l1_1 (0 : Int))) ∧ True) ∧ (true = true) ∧ ((false : Bool) = false) ∧ ((false : Bool) = false) ∧ (((b_16) : Bool) = (b_16)) ∧ (true = true) ∧ ((i1_0 : Int) = i1_0) ∧ (((ilt (0 : Int) i1_0) : Bool) = (ilt (0 : Int) i1_0)) ∧ ((i1_0 : Int) = i1_0) ∧ (((k_12) : Int) = (k_12)) ∧ (true = true) ∧ (true = true) ∧ (true = true) ∧ ((n : Int) = n) ∧ True) ∧ (((true = true) ∧ ((Cont.pts (iapp l8_1 [((imul (3 : Int) i8_0), (imul (5 : Int) i8_0))])) = (Cont.pts (iapp l8_1 [((imul (3 : Int) i8_0), (imul (5 : Int) i8_0))])))) ∧ (((r1 : Int) = r1) ∧ (((q_31) : Int) = (q_31)) ∧ True) ∧ ((true = true) ∧ ((Cont.pts [((getx l1_1 (0 : Int)), (gety l1_1 (0 : Int)))]) = (Cont.pts [((getx l1_1 (0 : Int)), (gety l1_1 (0 : Int)))]))) ∧ ((true = true) ∧ ((Cont.pts []) = (Cont.pts []))) ∧ True)) ∧ ((([GK.int, GK.pts] : List GK) = ([GK.int, GK.pts] : List GK)) ∧ I8 [GV.int (iadd i8_0 (1 : Int)), GV.pts (iapp l8_1 [((imul (3 : Int) i8_0), (imul (5 : Int) i8_0))])] ∧ μ8 [GV.int (iadd i8_0 (1 : Int)), GV.pts (iapp l8_1 [((imul (3 : Int) i8_0), (imul (5 : Int) i8_0))])] < μ8 [GV.int i8_0, GV.pts l8_1]))) ∧ ((ilt i8_0 (5 : Int)) = false → ((true = true) ∧ ((True) ∧ (True) ∧ (True) ∧ (True) ∧ (True) ∧ True) ∧ (NLe 0 (imax (0 : Int) (isub (ilen l8_1) (5 : Int))) ∧ NLe (imax (0 : Int) (isub (ilen l8_1) (5 : Int))) (ilen l8_1)) ∧ (True) ∧ L_spec_l20Cloud_12 r2 l8_1 r1 q_31)))))) ∧ ((b_30) = false → ((true = true) ∧ ((True) ∧ (True) ∧ True) ∧ L_spec_l20Cloud_13 r2 l1_1 r1 q_31))))))) ∧ (false = false → ((true = true) ∧ ((True) ∧ True) ∧ (true = true) ∧ ((r1 ≤ 2000 ∧ 0 ≤ (q_17) ∧ (q_17) ≤ 1000000 ∧ -1000000 ≤ (12 : Int) ∧ (12 : Int) ≤ 1000000)) ∧ (∀ b_32 : Bool, ∀ q_33 : Int, ((((12 : Int) ≤ 0 → b_32 = false) ∧ (q_17) ≤ q_33 ∧ q_33 ≤ (q_17) + 1) → (((b_32) = true → ((true = true) ∧ ((True) ∧ True) ∧ ∃ (I9 : List GV → Prop) (μ9 : List GV → Nat), (((true = true) ∧ ((((0 : Int) : Int) = (0 : Int)) ∧ (((b_32) : Bool) = (b_32)) ∧ (true = true) ∧ ((false : Bool) = false) ∧ ((false : Bool) = false) ∧ (((b_16) : Bool) = (b_16)) ∧ (true = true) ∧ ((i1_0 : Int) = i1_0) ∧ (((ilt (0 : Int) i1_0) : Bool) = (ilt (0 : Int) i1_0)) ∧ ((i1_0 : Int) = i1_0) ∧ (((k_12) : Int) = (k_12)) ∧ (true = true) ∧ (true = true) ∧ (true = true) ∧ (true = true) ∧ ((n : Int) = n) ∧ True) ∧ (((true = true) ∧ ((Cont.pts l1_1) = (Cont.pts l1_1))) ∧ (((r1 : Int) = r1) ∧ (((q_33) : Int) = (q_33)) ∧ True) ∧ ((true = true) ∧ ((Cont.pts []) = (Cont.pts []))) ∧ True)) ∧ (([GK.int, GK.pts] : List GK) = ([GK.int, GK.pts] : List GK)) ∧ I9 [GV.int (0 : Int), GV.pts l1_1]) ∧ (∀ i9_0 : Int, ∀ l9_1 : List Pt, I9 [GV.int i9_0, GV.pts l9_1] → ((true = true) ∧ ((True) ∧ (True) ∧ True) ∧ ((ilt i9_0 (5 : Int)) = true → ((true = true) ∧ ((True) ∧ (True) ∧ (True) ∧ (True) ∧ (True) ∧ (True) ∧ (True) ∧ True) ∧ (NLe (ilen l9_1) 1000000000 ∧ NLe (ilen [((imul (3 : Int) i9_0), (imul (5 : Int) i9_0))]) 1000000000) ∧ (True) ∧ (true = true) ∧ ((True) ∧ (True) ∧ (True) ∧ True) ∧ ((true = true) ∧ ((((iadd i9_0 (1 : Int)) : Int) = (iadd i9_0 (1 : Int))) ∧ (((b_32) : Bool) = (b_32)) ∧ (true = true) ∧ ((false : Bool) = false) ∧ ((false : Bool) = false) ∧ (((b_16) : Bool) = (b_16)) ∧ (true = true) ∧ ((i1_0 : Int) = i1_0) ∧ (((ilt (0 : Int) i1_0) : Bool) = (ilt (0 : Int) i1_0)) ∧ ((i1_0 : Int) = i1_0) ∧ (((k_12) : Int) = (k_12)) ∧ (true = true) ∧ (true = true) ∧ (true = true) ∧ (true = true) ∧ ((n : Int) = n) ∧ True) ∧ (((true = true) ∧ ((Cont.pts (iapp l9_1 [((imul (3 : Int) i9_0), (imul (5 : Int) i9_0))])) = (Cont.pts (iapp l9_1 [((imul (3 : Int) i9_0), (imul (5 : Int) i9_0))])))) ∧ (((r1 : Int) = r1) ∧ (((q_33) : Int) = (q_33)) ∧ True) ∧ ((true = true) ∧ ((Cont.pts []) = (Cont.pts []))) ∧ True)) ∧ ((([GK.int, GK.pts] : List GK) = ([GK.int, GK.pts] : List GK)) ∧ I9 [GV.int (iadd i9_0 (1 : Int)), GV.pts (iapp l9_1 [((imul (3 : Int) i9_0), (imul (5 : Int) i9_0))])] ∧ μ9 [GV.int (iadd i9_0 (1 : Int)), GV.pts (iapp l9_1 [((imul (3 : Int) i9_0), (imul (5 : Int) i9_0))])] < μ9 [GV.int i9_0, GV.pts l9_1]))) ∧ ((ilt i9_0 (5 : Int)) = false → ((true = true) ∧ ((True) ∧ (True) ∧ (True) ∧ (True) ∧ (True) ∧ True) ∧ (NLe 0 (imax (0 : Int) (isub (ilen l9_1) (5 : Int))) ∧ NLe (imax (0 : Int) (isub (ilen l9_1) (5 : Int))) (ilen l9_1)) ∧ (True) ∧ L_spec_l20Cloud_14 r2 l9_1 r1 q_33)))))) ∧ ((b_32) = false → ((true = true) ∧ ((True) ∧ (True) ∧ True) ∧ L_spec_l20Cloud_15 r2 l1_1 r1 q_33))))))))))))))) ∧ ((b_16) = false → ((true = true) ∧ (false = true → (False)) ∧ (false = false → ((true = true) ∧ (false = true → (False)) ∧ (false = false → ((true = true) ∧ (false = true → (False)) ∧ (false = false → ((false = true → ((true = true) ∧ ((True) ∧ (True) ∧ (NLe 0 (0 : Int) ∧ NLt (0 : Int) (ilen l1_1)) ∧ (NLt (0 : Int) (ilen l1_1)) ∧ (True) ∧ True) ∧ (NLe (ilen l1_1) 1000000000 ∧ NLe (ilen [((getx l1_1 (0 : Int)), (gety l1_1 (0 : Int)))]) 1000000000) ∧ (True) ∧ (true = true) ∧ ((True) ∧ True) ∧ (true = true) ∧ ((r1 ≤ 2000 ∧ 0 ≤ (q_17) ∧ (q_17) ≤ 1000000 ∧ -1000000 ≤ (12 : Int) ∧ (12 : Int) ≤ 1000000)) ∧ (∀ b_34 : Bool, ∀ q_35 : Int, ((((12 : Int) ≤ 0 → b_34 = false) ∧ (q_17) ≤ q_35 ∧ q_35 ≤ (q_17) + 1) → (((b_34) = true → ((true = true) ∧ ((True) ∧ True) ∧ ∃ (I10 : List GV → Prop) (μ10 : List GV → Nat), (((true = true) ∧ ((((0 : Int) : Int) = (0 : Int)) ∧ (((b_34) : Bool) = (b_34)) ∧ (true = true) ∧ (true = true) ∧ ((((getx l1_1 (0 : Int)) : Int) = (getx l1_1 (0 : Int))) ∧ (((gety l1_1 (0 : Int)) : Int) = (gety l1_1 (0 : Int))) ∧ True) ∧ (true = true) ∧ ((false : Bool) = false) ∧ ((false : Bool) = false) ∧ (((b_16) : Bool) = (b_16)) ∧ (true = true) ∧ ((i1_0 : Int) = i1_0) ∧ (((ilt (0 : Int) i1_0) : Bool) = (ilt (0 : Int) i1_0)) ∧ ((i1_0 : Int) = i1_0) ∧ (((k_12) : Int) = (k_12)) ∧ (true = true) ∧ (true = true) ∧ (true = true) ∧ ((n : Int) = n) ∧ True) ∧ (((true = true) ∧ ((Cont.pts (iapp l1_1 [((getx l1_1 (0 : Int)), (gety l1_1 (0 : Int)))])) = (Cont.pts (iapp l1_1 [((getx l1_1 (0 : Int)), (gety l1_1 (0 : Int)))])))) ∧ (((r1 : Int) = r1) ∧ (((q_35) : Int) = (q_35)) ∧ True) ∧ ((true = true) ∧ ((Cont.pts [((getx l1_1 (0 : Int)), (gety l1_1 (0 : Int)))]) = (Cont.pts [((getx l1_1 (0 : Int)), (gety l1_1 (0 : Int)))]))) ∧ ((true = true) ∧ ((Cont.pts []) = (Cont.pts []))) ∧ True)) ∧ (([GK.int, GK.pts] : List GK) = ([GK.int, GK.pts] : List GK)) ∧ I10 [GV.int (0 : Int), GV.pts (iapp l1_1 [((getx l1_1 (0 : Int)), (gety l1_1 (0 : Int)))])]) ∧ (∀ i10_0 : Int, ∀ l10_1 : List Pt, I10 [GV.int i10_0, GV.pts l10_1] → ((true = true) ∧ ((True) ∧ (True) ∧ True) ∧ ((ilt i10_0 (5 : Int)) = true → ((true = true) ∧ ((True) ∧ (True) ∧ (True) ∧ (True) ∧ (True) ∧ (True) ∧ (True) ∧ True) ∧ (NLe (ilen l10_1) 1000000000 ∧ NLe (ilen [((imul (3 : Int) i10_0), (imul (5 : Int) i10_0))]) 1000000000) ∧ (True) ∧ (true = true) ∧ ((True) ∧ (True) ∧ (True) ∧ True) ∧ ((true = true) ∧ ((((iadd i10_0 (1 : Int)) : Int) = (iadd i10_0 (1 : Int))) ∧ (((b_34) : Bool) = (b_34)) ∧ (true = true) ∧ (true = true) ∧ ((((getx l1_1 (0 : Int)) : Int) = (getx l1_1 (0 : Int))) ∧ (((gety l1_1 (0 : Int)) : Int) = (gety l1_1 (0 : Int))) ∧ True) ∧ (true = true) ∧ ((false : Bool) = false) ∧ ((false : Bool) = false) ∧ (((b_16) : Bool) = (b_16)) ∧ (true = true) ∧ ((i1_0 : Int) = i1_0) ∧ (((ilt (0 : Int) i1_0) : Bool) = (ilt (0 : Int) i1_0)) ∧ ((i1_0 : Int) = i1_0) ∧ (((k_12) : Int) = (k_12)) ∧ (true = true) ∧ (true = true) ∧ (true = true) ∧ ((n : Int) = n) ∧ True) ∧ (((true = true) ∧ ((Cont.pts (iapp l10_1 [((imul (3 : Int) i10_0), (imul (5 : Int) i10_0))])) = (Cont.pts (iapp l10_1 [((imul (3 : Int) i10_0), (imul (5 : Int) i10_0))])))) ∧ (((r1 : Int) = r1) ∧ (((q_35) : Int) = (q_35)) ∧ True) ∧ ((true = true) ∧ ((Cont.pts [((getx l1_1 (0 : Int)), (gety l1_1 (0 : Int)))]) = (Cont.pts [((getx l1_1 (0 : Int)), (gety l1_1 (0 : Int)))]))) ∧ ((true = true) ∧ ((Cont.pts []) = (Cont.pts []))) ∧ True)) ∧ ((([GK.int, GK.pts] : List GK) = ([GK.int, GK.pts] : List GK)) ∧ I10 [GV.int (iadd i10_0 (1 : Int)), GV.pts (iapp l10_1 [((imul (3 : Int) i10_0), (imul (5 : Int) i10_0))])] ∧ μ10 [GV.int (iadd i10_0 (1 : Int)), GV.pts (iapp l10_1 [((imul (3 : Int) i10_0), (imul (5 : Int) i10_0))])] < μ10 [GV.int i10_0, GV.pts l10_1]))) ∧ ((ilt i10_0 (5 : Int)) = false → ((true = true) ∧ ((True) ∧ (True) ∧ (True) ∧ (True) ∧ (True) ∧ True) ∧ (NLe 0 (imax (0 : Int) (isub (ilen l10_1) (5 : Int))) ∧ NLe (imax (0 : Int) (isub (ilen l10_1) (5 : Int))) (ilen l10_1)) ∧ (True) ∧ L_spec_l20Cloud_16 r2 l10_1 r1 q_35)))))) ∧ ((b_34) = false → ((true = true) ∧ ((True) ∧ (True) ∧ True) ∧ L_spec_l20Cloud_17 r2 l1_1 r1 q_35))))))) ∧ (false = false → ((true = true) ∧ ((True) ∧ True) ∧ (true = true) ∧ ((r1 ≤ 2000 ∧ 0 ≤ (q_17) ∧ (q_17) ≤ 1000000 ∧ -1000000 ≤ (12 : Int) ∧ (12 : Int) ≤ 1000000)) ∧ (∀ b_36 : Bool, ∀ q_37 : Int, ((((12 : Int) ≤ 0 → b_36 = false) ∧ (q_17) ≤ q_37 ∧ q_37 ≤ (q_17) + 1) → (((b_36) = true → ((true = true) ∧ ((True) ∧ True) ∧ ∃ (I11 : List GV → Prop) (μ11 : List GV → Nat), (((true = true) ∧ ((((0 : Int) : Int) = (0 : Int)) ∧ (((b_36) : Bool) = (b_36)) ∧ (true = true) ∧ ((false : Bool) = false) ∧ ((false : Bool) = false) ∧ (((b_16) : Bool) = (b_16)) ∧ (true = true) ∧ ((i1_0 : Int) = i1_0) ∧ (((ilt (0 : Int) i1_0) : Bool) = (ilt (0 : Int) i1_0)) ∧ ((i1_0 : Int) = i1_0) ∧ (((k_12) : Int) = (k_12)) ∧ (true = true) ∧ (true = true) ∧ (true = true) ∧ (true = true) ∧ ((n : Int) = n) ∧ True) ∧ (((true = true) ∧ ((Cont.pts l1_1) = (Cont.pts l1_1))) ∧ (((r1 : Int) = r1) ∧ (((q_37) : Int) = (q_37)) ∧ True) ∧ ((true = true) ∧ ((Cont.pts []) = (Cont.pts []))) ∧ True)) ∧ (([GK.int, GK.pts] : List GK) = ([GK.int, GK.pts] : List GK)) ∧ I11 [GV.int (0 : Int), GV.pts l1_1]) ∧ (∀ i11_0 : Int, ∀ l11_1 : List Pt, I11 [GV.int i11_0, GV.pts l11_1] → ((true = true) ∧ ((True) ∧ (True) ∧ True) ∧ ((ilt i11_0 (5 : Int)) = true → ((true = true) ∧ ((True) ∧ (True) ∧ (True) ∧ (True) ∧ (True) ∧ (True) ∧ (True) ∧ True) ∧ (NLe (ilen l11_1) 1000000000 ∧ NLe (ilen [((imul (3 : Int) i11_0), (imul (5 : Int) i11_0))]) 1000000000) ∧ (True) ∧ (true = true) ∧ ((True) ∧ (True) ∧ (True) ∧ True) ∧ ((true = true) ∧ ((((iadd i11_0 (1 : Int)) : Int) = (iadd i11_0 (1 : Int))) ∧ (((b_36) : Bool) = (b_36)) ∧ (true = true) ∧ ((false : Bool) = false) ∧ ((false : Bool) = false) ∧ (((b_16) : Bool) = (b_16)) ∧ (true = true) ∧ ((i1_0 : Int) = i1_0) ∧ (((ilt (0 : Int) i1_0) : Bool) = (ilt (0 : Int) i1_0)) ∧ ((i1_0 : Int) = i1_0) ∧ (((k_12) : Int) = (k_12)) ∧ (true = true) ∧ (true = true) ∧ (true = true) ∧ (true = true) ∧ ((n : Int) = n) ∧ True) ∧ (((true = true) ∧ ((Cont.pts (iapp l11_1 [((imul (3 : Int) i11_0), (imul (5 : Int) i11_0))])) = (Cont.pts (iapp l11_1 [((imul (3 : Int) i11_0), (imul (5 : Int) i11_0))])))) ∧ (((r1 : Int) = r1) ∧ (((q_37) : Int) = (q_37)) ∧ True) ∧ ((true = true) ∧ ((Cont.pts []) = (Cont.pts []))) ∧ True)) ∧ ((([GK.int, GK.pts] : List GK) = ([GK.int, GK.pts] : List GK)) ∧ I11 [GV.int (iadd i11_0 (1 : Int)), GV.pts (iapp l11_1 [((imul (3 : Int) i11_0), (imul (5 : Int) i11_0))])] ∧ μ11 [GV.int (iadd i11_0 (1 : Int)), GV.pts (iapp l11_1 [((imul (3 : Int) i11_0), (imul (5 : Int) i11_0))])] < μ11 [GV.int i11_0, GV.pts l11_1]))) ∧ ((ilt i11_0 (5 : Int)) = false → ((true = true) ∧ ((True) ∧ (True) ∧ (True) ∧ (True) ∧ (True) ∧ True) ∧ (NLe 0 (imax (0 : Int) (isub (ilen l11_1) (5 : Int))) ∧ NLe (imax (0 : Int) (isub (ilen l11_1) (5 : Int))) (ilen l11_1)) ∧ (True) ∧ L_spec_l20Cloud_18 r2 l11_1 r1 q_37)))))) ∧ ((b_36) = false → ((true = true) ∧ ((True) ∧ (True) ∧ True) ∧ L_spec_l20Cloud_19 r2 l1_1 r1 q_37)))))))))))))))))))))))))) = (fun sg => ev sig_spec_l20Cloud xs_spec_l20Cloud Try.f100.ntmps (fun b => if b == 0 then [.v 6, .b 5, .b 0] else if b == 2 then [.v 7, .b 5] else []) (codeOf Try.f100) 0 (initX (.box [.rdr r1, .int r2]) [.s (.int n)]) (retX Try.f100.results.toList sg.kinds sg.post sg.ret sg.out)) (s_spec_l20Cloud r1 r2 n) := by kernel_rfl
set_option maxHeartbeats 400000 in
theorem F_spec_l20Cloud : FunX 100 g_spec_l20Cloud := by
  refine fun_X (by kernel_rfl) Try.func100 rfl (by kernel_rfl) sig_spec_l20Cloud_ok xs_spec_l20Cloud_ok ?_
  intro bx avs sg h hn hl hlb
  unfold g_spec_l20Cloud at h
  split at h
  · rename_i r1 r2 n
    injection h with h; subst h
    refine ⟨by kernel_rfl, fun b => if b == 0 then [.v 6, .b 5, .b 0] else if b == 2 then [.v 7, .b 5] else [], Eq.mp (V_spec_l20Cloud r1 r2 n) ?_⟩
    simp only [true_and, and_true, implies_true, and_self, forall_const, true_implies, lenA, lenL, SV.lenOK, Cont.lenOK, lenB, s_spec_l20Cloud, L_spec_l20Cloud_0, L_spec_l20Cloud_1, L_spec_l20Cloud_2, L_spec_l20Cloud_3, L_spec_l20Cloud_4, L_spec_l20Cloud_5, L_spec_l20Cloud_6, L_spec_l20Cloud_7, L_spec_l20Cloud_8, L_spec_l20Cloud_9, L_spec_l20Cloud_10, L_spec_l20Cloud_11, L_spec_l20Cloud_12, L_spec_l20Cloud_13, L_spec_l20Cloud_14, L_spec_l20Cloud_15, L_spec_l20Cloud_16, L_spec_l20Cloud_17, L_spec_l20Cloud_18, L_spec_l20Cloud_19] at hn hl hlb ⊢
    simp only [ilt_t, ilt_f, ile_t, ile_f, ieq_t, ieq_f, bnot_e, band_e, bite_and, bite_or, NLt_e, NLe_e, NNe_e, NIs_e, imax_e, imin_e, irem_e, Bool.not_eq_true', Bool.not_eq_false', Bool.and_eq_true, Bool.or_eq_true, Bool.or_eq_false_iff, Bool.and_eq_false_iff, Cont.pts.injEq, Cont.ints.injEq, Cont.bools.injEq, Cont.ptss.injEq, Cont.intss.injEq, Cont.boolss.injEq, true_and, and_true, implies_true, pickP, reduceCtorEq, false_implies, true_implies, and_true, true_and]
    have one : ∀ (m : List Pt) (x y : Int), ilen (iapp m [(x, y)]) = ilen m + 1 := fun m x y => by rw [ilen_app]; simp [ilen]
    have key : ∀ (L : List Pt) (Q : Int), ilen L ≤ 11 → PB L → r2 ≤ Q → Q ≤ r2 + 200 →
        ∃ (I3 : List GV → Prop) (μ3 : List GV → Nat), I3 [GV.int 0, GV.pts L] ∧ ∀ (i3_0 : Int) (l3_1 : List Pt), I3 [GV.int i3_0, GV.pts l3_1] →
          (i3_0 < 5 → (ilen l3_1 ≤ 1000000000 ∧ ilen [(imul 3 i3_0, imul 5 i3_0)] ≤ 1000000000) ∧ I3 [GV.int (iadd i3_0 1), GV.pts (iapp l3_1 [(imul 3 i3_0, imul 5 i3_0)])] ∧ μ3 [GV.int (iadd i3_0 1), GV.pts (iapp l3_1 [(imul 3 i3_0, imul 5 i3_0)])] < μ3 [GV.int i3_0, GV.pts l3_1]) ∧
          (5 ≤ i3_0 → (0 ≤ max 0 (isub (ilen l3_1) 5) ∧ max 0 (isub (ilen l3_1) 5) ≤ ilen l3_1) ∧ ∃ l q, (ilen l ≤ 20 ∧ PB l ∧ r2 ≤ q ∧ q ≤ r2 + 200) ∧ idrop l3_1 (max 0 (isub (ilen l3_1) 5)) = l ∧ Q = q) := by
      intro L Q h1 hL h2 h3
      refine ⟨fun | [.int k, .pts m] => 0 ≤ k ∧ k ≤ 5 ∧ ilen m ≤ 11 + k ∧ PB m | _ => False, fun | .int k :: _ => (5 - k).toNat | _ => 0, ⟨by omega, by omega, by omega, hL⟩, ?_⟩
      rintro k m ⟨h4, h5, h6, h7⟩
      have m0 := ilen_0 m
      have hle : ∀ x, ilen (idrop m x) ≤ ilen m := fun x => by unfold ilen idrop; simp
      refine ⟨fun hk => ⟨⟨by omega, by simp [ilen]⟩, ?_, ?_⟩, fun hk => ⟨?_, _, _, ⟨?_, PB_drop h7, h2, h3⟩, rfl, rfl⟩⟩
      · rw [iadd_e (by omega) (by omega)]
        refine ⟨by omega, by omega, by rw [one]; omega, PB_one h7 ?_⟩
        rw [imul_e (by omega) (by omega), imul_e (by omega) (by omega)]
        unfold PBp; omega
      · show (5 - iadd k 1).toNat < (5 - k).toNat
        rw [iadd_e (by omega) (by omega)]; omega
      · rw [isub_e (by omega) (by omega)]; omega
      · have := hle (max 0 (isub (ilen m) 5)); omega
    refine ⟨by omega, fun k0 hk0 => ?_⟩
    refine ⟨fun | [.int k, .pts l, .int q] => 0 ≤ k ∧ k ≤ 10 ∧ ilen l + k ≤ 10 ∧ PB l ∧ r2 ≤ q ∧ q + 10 * k ≤ r2 + 101 | _ => False, fun | .int k :: _ => k.toNat | _ => 0, ⟨by omega, by omega, by rw [ilen_nil]; omega, PB_nil, by omega, by omega⟩, ?_⟩
    rintro k l q ⟨h1, h2, h3, hL, h4, h5⟩
    have hL1 : PB (iapp l [(getx l 0, gety l 0)]) := PB_one hL (PB_get hL 0)
    have l0 := ilen_0 l
    refine ⟨fun hk => ⟨by omega, fun x y q' hq => ⟨⟨by omega, by simp [ilen]⟩, ?_, ?_⟩⟩, fun hk => ⟨by omega, fun b q' hq => ⟨fun _ => ⟨fun hl => ⟨by omega, ⟨by omega, by simp [ilen]⟩, by omega, fun b2 q2 hq2 => ⟨fun _ => ?_, fun _ => ?_⟩⟩, fun hl => ⟨by omega, fun b2 q2 hq2 => ⟨fun _ => ?_, fun _ => ?_⟩⟩⟩, fun _ => ⟨by omega, fun b2 q2 hq2 => ⟨fun _ => ?_, fun _ => ?_⟩⟩⟩⟩⟩
    · rw [isub_e (by omega) (by omega), ]
      exact ⟨by omega, by omega, by rw [one]; omega, PB_one hL (by unfold PBp; omega), by omega, by omega⟩
    · show (isub k 1).toNat < k.toNat
      rw [isub_e (by omega) (by omega)]; omega
    · exact key _ q2 (by rw [one]; omega) hL1 (by omega) (by omega)
    · exact ⟨_, _, ⟨by rw [one]; omega, hL1, by omega, by omega⟩, rfl, rfl⟩
    · exact key _ q2 (by omega) hL (by omega) (by omega)
    · exact ⟨_, _, ⟨by omega, hL, by omega, by omega⟩, rfl, rfl⟩
    · exact key _ q2 (by omega) hL (by omega) (by omega)
    · exact ⟨_, _, ⟨by omega, hL, by omega, by omega⟩, rfl, rfl⟩
  · cases h
def s_spec_DrawHullOf (n : Int) : SgY := ⟨n ≤ 1048576, [.pts], (fun | [.pts l] => ilen l ≤ 20 | _ => False), (fun | [.pts l] => [.s (.view (.pts (l)))] | _ => [])⟩
def g_spec_DrawHullOf : List AV → Option SgY
  | [.s (.rdr n)] => some (s_spec_DrawHullOf n)
  | _ => none
def sig_spec_DrawHullOf : FuncId → List AV → Option Sg := sigL [(67, g_spec_l20Open)]
def xs_spec_DrawHullOf : XS := ⟨xsigL [(100, g_spec_l20Cloud)], ysigL []⟩
theorem sig_spec_DrawHullOf_ok : SigOK sig_spec_DrawHullOf := sigL_cons F_spec_l20Open sigL_nil
theorem xs_spec_DrawHullOf_ok : XSigOK xs_spec_DrawHullOf := ⟨xsigL_cons F_spec_l20Cloud xsigL_nil, ysigL_nil⟩
theorem V_spec_DrawHullOf (n : Int) : ((true = true) ∧ ((True) ∧ True) ∧ (true = true) ∧ ((True) ∧ ((n ≤ 1048576)) ∧ True) ∧ (true = true) ∧ (((if n ≤ 2000 then n else 2000) ≤ 2000 ∧ 0 ≤ ((0 : Int)) ∧ ((0 : Int)) ≤ 100000 ∧ -1000000 ≤ (40 : Int) ∧ (40 : Int) ≤ 1000000)) ∧ (∀ l_38 : List Pt, ∀ q_39 : Int, ((ilen l_38 ≤ 20 ∧ PB l_38 ∧ ((0 : Int)) ≤ q_39 ∧ q_39 ≤ ((0 : Int)) + 200) → ((True) ∧ ∃ l : List Pt, ((ilen l ≤ 20) ∧ (((Cont.pts (l_38)) = (Cont.pts (l))) ∧ True)))))) = (fun sg => ev sig_spec_DrawHullOf xs_spec_DrawHullOf Try.f50.ntmps (fun b => []) (codeOf Try.f50) 0 (initS [.s (.rdr n)]) (retY Try.f50.results.toList sg.kinds sg.post sg.ret)) (s_spec_DrawHullOf n) := by kernel_rfl
set_option maxHeartbeats 400000 in
theorem F_spec_DrawHullOf : FunY 50 g_spec_DrawHullOf := by
  refine fun_Y (by kernel_rfl) Try.func50 rfl (by kernel_rfl) sig_spec_DrawHullOf_ok xs_spec_DrawHullOf_ok ?_
  intro avs sg h hn hl
  unfold g_spec_DrawHullOf at h
  split at h
  · rename_i n
    injection h with h; subst h
    refine ⟨by kernel_rfl, fun b => [], Eq.mp (V_spec_DrawHullOf n) ?_⟩
    simp only [true_and, and_true, implies_true, and_self, forall_const, true_implies, lenA, lenL, SV.lenOK, Cont.lenOK, s_spec_DrawHullOf] at hn hl ⊢
    simp only [ilt_t, ilt_f, ile_t, ile_f, ieq_t, ieq_f, bnot_e, band_e, bite_and, bite_or, NLt_e, NLe_e, NNe_e, NIs_e, imax_e, imin_e, irem_e, Bool.not_eq_true', Bool.not_eq_false', Bool.and_eq_true, Bool.or_eq_true, Bool.or_eq_false_iff, Bool.and_eq_false_iff, Cont.pts.injEq, Cont.ints.injEq, Cont.bools.injEq, Cont.ptss.injEq, Cont.intss.injEq, Cont.boolss.injEq, true_and, and_true, implies_true]
    exact ⟨hn, by split <;> omega, fun l q h => ⟨_, h.1, rfl⟩⟩
  · cases h
def crW (a1 a2 b1 b2 c1 c2 : Int) : Int := isub (imul (isub b1 a1) (isub c2 a2)) (imul (isub b2 a2) (isub c1 a1))
def cr (l : List Pt) (i j k : Int) : Int := crW (getx l i) (gety l i) (getx l j) (gety l j) (getx l k) (gety l k)
def nx (l : List Pt) (i : Int) : Int := (i + 1).tmod (ilen l)
def convE (l : List Pt) (i j : Int) : Bool := decide (j = i ∨ j = nx l i ∨ 0 < cr l i (nx l i) j)
def convB (l : List Pt) : Bool := inB (ilen l) 3 8 && allB l && allN (ilen l) fun i => allN (ilen l) fun j => convE l i j
theorem nx_in {l : List Pt} {i : Int} (h0 : 0 ≤ i) (h1 : i < ilen l) : 0 ≤ nx l i ∧ nx l i < ilen l ∧ ((i + 1 < ilen l ∧ nx l i = i + 1) ∨ (i + 1 = ilen l ∧ nx l i = 0)) := by
  have e : nx l i = (i + 1) % ilen l := Int.tmod_eq_emod_of_nonneg (by omega)
  rcases Int.lt_or_le (i + 1) (ilen l) with h | h
  · rw [e, Int.emod_eq_of_lt (by omega) h]; omega
  · have h2 : i + 1 = ilen l := by omega
    rw [e, h2, Int.emod_self]; omega
theorem allN_up {f : Int → Bool} {k : Int} (h : ∀ j, 0 ≤ j → j < k → f j = true) (hk : f k = true) : ∀ j, 0 ≤ j → j < k + 1 → f j = true := by
  intro j h0 h1
  rcases Int.lt_or_le j k with h2 | h2
  · exact h j h0 h2
  · rw [show j = k by omega]; exact hk
theorem upTo {P : Int → Prop} {k : Int} (h : ∀ j, 0 ≤ j → j < k → P j) (hk : P k) : ∀ j, 0 ≤ j → j < k + 1 → P j := by
  intro j h0 h1
  rcases Int.lt_or_le j k with h2 | h2
  · exact h j h0 h2
  · rw [show j = k by omega]; exact hk
theorem iadd_1 {k n : Int} (h0 : 0 ≤ k) (h1 : k < n) (h2 : n ≤ 9223372036854775807) : iadd k 1 = k + 1 := iadd_e (by omega) (by omega)
theorem mul20 {x y : Int} (hx : -20000 ≤ x ∧ x ≤ 20000) (hy : -20000 ≤ y ∧ y ≤ 20000) : -400000000 ≤ x * y ∧ x * y ≤ 400000000 := by
  have h := mul_box hx.1 hx.2 hy.1 hy.2
  generalize x * y = z at *
  have e1 : min (min ((-20000 : Int) * -20000) (-20000 * 20000)) (min (20000 * -20000) (20000 * 20000)) = -400000000 := by decide
  have e2 : max (max ((-20000 : Int) * -20000) (-20000 * 20000)) (max (20000 * -20000) (20000 * 20000)) = 400000000 := by decide
  rw [e1, e2] at h
  exact h
theorem crW_e {a1 a2 b1 b2 c1 c2 : Int} (ha : vB a1 a2 = true) (hb : vB b1 b2 = true) (hc : vB c1 c2 = true) : crW a1 a2 b1 b2 c1 c2 = crs (a1, a2) (b1, b2) (c1, c2) := by
  unfold vB at ha hb hc
  simp only [Bool.and_eq_true] at ha hb hc
  have a1' := inB_true ha.1; have a2' := inB_true ha.2; have b1' := inB_true hb.1; have b2' := inB_true hb.2; have c1' := inB_true hc.1; have c2' := inB_true hc.2
  unfold crW crs
  rw [isub_e (a := b1) (by omega) (by omega), isub_e (a := c2) (by omega) (by omega), isub_e (a := b2) (by omega) (by omega), isub_e (a := c1) (by omega) (by omega)]
  have m1 := mul20 (x := b1 - a1) (y := c2 - a2) (by omega) (by omega)
  have m2 := mul20 (x := b2 - a2) (y := c1 - a1) (by omega) (by omega)
  rw [imul_e (a := b1 - a1) (by omega) (by omega), imul_e (a := b2 - a2) (by omega) (by omega), isub_e (by omega) (by omega)]
def P (l : List Pt) (i : Int) : Pt := (getx l i, gety l i)
theorem sgn_01 (z : Int) : -1 ≤ sgn z ∧ sgn z ≤ 1 := by unfold sgn; split <;> (try split) <;> omega
theorem ieq_sgn (z : Int) : ieq (sgn z) 0 = decide (z = 0) := by
  unfold ieq
  congr 1
  simp only [eq_iff_iff]
  unfold sgn; split <;> (try split) <;> omega
theorem imul_sgn (x y : Int) : imul (sgn x) (sgn y) = sgn x * sgn y := by
  have s1 := sgn_01 x; have s2 := sgn_01 y
  have := mul20 (x := sgn x) (y := sgn y) (by omega) (by omega)
  exact imul_e (by omega) (by omega)
theorem sgn_0 (z : Int) : sgn z = 0 ↔ z = 0 := by unfold sgn; split <;> (try split) <;> omega
def btW (a1 a2 b1 b2 p1 p2 : Int) : Bool := inB p1 (min a1 b1) (max a1 b1) && inB p2 (min a2 b2) (max a2 b2)
theorem btW_e (a1 a2 b1 b2 p1 p2 : Int) : btW a1 a2 b1 b2 p1 p2 = btw (a1, a2) (b1, b2) (p1, p2) := by
  unfold btW btw inB
  simp only [← Bool.decide_and]
  congr 1
  simp only [eq_iff_iff]
  constructor
  · rintro ⟨⟨h1, h2⟩, h3, h4⟩; exact ⟨h1, h2, h3, h4⟩
  · rintro ⟨h1, h2, h3, h4⟩; exact ⟨⟨h1, h2⟩, h3, h4⟩
def nearB (x y : Int) : Bool := inB x (-1000) 1000 && inB y (-1000) 1000
def idxN (n : Int) (f : Int → Bool) : Int := foldN n (fun s i => if s < 0 ∧ f i = true then i else s) (-1)
theorem idxN_no {f : Int → Bool} {k : Nat} (h : ∀ j, 0 ≤ j → j < (k : Int) → f j = false) : idxN k f = -1 := by
  induction k with
  | zero => rfl
  | succ k ih =>
    have e : ((k + 1 : Nat) : Int) = (k : Int) + 1 := by omega
    have := ih (fun j h0 h1 => h j h0 (by omega))
    unfold idxN at this ⊢
    rw [e, foldN_1 (by omega), this, h k (by omega) (by omega)]
    simp
theorem idxN_keep {f : Int → Bool} {i : Int} (hi : 0 ≤ i) {n : Nat} (h : idxN n f = i) (m : Nat) : idxN ((n + m : Nat) : Int) f = i := by
  induction m with
  | zero => exact h
  | succ m ih =>
    have e : ((n + (m + 1) : Nat) : Int) = ((n + m : Nat) : Int) + 1 := by omega
    unfold idxN at ih ⊢
    rw [e, foldN_1 (by omega), ih, if_neg (by omega)]
theorem idxN_at {f : Int → Bool} {k n : Int} (h0 : 0 ≤ k) (h1 : k < n) (h : ∀ j, 0 ≤ j → j < k → f j = false) (hk : f k = true) : idxN n f = k := by
  obtain ⟨a, rfl⟩ := Int.eq_ofNat_of_zero_le h0
  obtain ⟨b, hb⟩ := Int.eq_ofNat_of_zero_le (show 0 ≤ n - (a + 1) by omega)
  have e : n = ((a + 1 + b : Nat) : Int) := by omega
  rw [e]
  refine idxN_keep h0 ?_ b
  have := idxN_no h
  have e2 : ((a + 1 : Nat) : Int) = (a : Int) + 1 := by omega
  unfold idxN at this ⊢
  rw [e2, foldN_1 (by omega), this, if_pos ⟨by omega, hk⟩]
theorem idxN_any {f : Int → Bool} {n : Int} (h0 : 0 ≤ n) : ile 0 (idxN n f) = anyN n f := by
  obtain ⟨a, rfl⟩ := Int.eq_ofNat_of_zero_le h0
  clear h0
  induction a with
  | zero => simp [idxN, foldN, anyN, ile]
  | succ a ih =>
    have e : ((a + 1 : Nat) : Int) = (a : Int) + 1 := by omega
    have hs : anyN ((a + 1 : Nat) : Int) f = (anyN a f || f a) := by
      unfold anyN
      rw [show ((a + 1 : Nat) : Int).toNat = a + 1 by omega, show ((a : Nat) : Int).toNat = a by omega, List.range_succ, List.any_append]
      simp
    rw [hs, ← ih]
    unfold idxN
    rw [e, foldN_1 (by omega)]
    generalize foldN (a : Int) (fun s i => if s < 0 ∧ f i = true then i else s) (-1) = s
    unfold ile
    by_cases hs0 : s < 0
    · cases hf : f a with
      | true => simp [hs0, hf]
      | false => simp [hs0, hf]
    · simp [hs0]; omega
def sqE (a1 a2 b1 b2 : Int) : Int := (a1 - b1) * (a1 - b1) + (a2 - b2) * (a2 - b2)
def alE (p1 p2 a1 a2 b1 b2 : Int) : Int := (p1 - a1) * (b1 - a1) + (p2 - a2) * (b2 - a2)
def ssqE (p1 p2 a1 a2 b1 b2 : Int) : Int := if alE p1 p2 a1 a2 b1 b2 ≤ 0 then sqE p1 p2 a1 a2 else if sqE a1 a2 b1 b2 ≤ alE p1 p2 a1 a2 b1 b2 then sqE p1 p2 b1 b2 else (crs (a1, a2) (b1, b2) (p1, p2) * crs (a1, a2) (b1, b2) (p1, p2)).tdiv (sqE a1 a2 b1 b2)
theorem near_bd {x y : Int} (h : nearB x y = true) : -1000 ≤ x ∧ x ≤ 1000 ∧ -1000 ≤ y ∧ y ≤ 1000 := by
  unfold nearB at h
  simp only [Bool.and_eq_true] at h
  have a1 := inB_true h.1; have a2 := inB_true h.2
  omega
theorem mul4 {x y : Int} (hx : -8000000 ≤ x ∧ x ≤ 8000000) (hy : -8000000 ≤ y ∧ y ≤ 8000000) : imul x y = x * y := by
  have h := mul_box hx.1 hx.2 hy.1 hy.2
  have e1 : min (min ((-8000000 : Int) * -8000000) (-8000000 * 8000000)) (min (8000000 * -8000000) (8000000 * 8000000)) = -64000000000000 := by decide
  have e2 : max (max ((-8000000 : Int) * -8000000) (-8000000 * 8000000)) (max (8000000 * -8000000) (8000000 * 8000000)) = 64000000000000 := by decide
  rw [e1, e2] at h
  exact imul_e (by omega) (by omega)
theorem mul2 {x y : Int} (hx : -2000 ≤ x ∧ x ≤ 2000) (hy : -2000 ≤ y ∧ y ≤ 2000) : imul x y = x * y ∧ -4000000 ≤ x * y ∧ x * y ≤ 4000000 := by
  refine ⟨mul4 (by omega) (by omega), ?_⟩
  have h := mul_box hx.1 hx.2 hy.1 hy.2
  generalize x * y = z at *
  have e1 : min (min ((-2000 : Int) * -2000) (-2000 * 2000)) (min (2000 * -2000) (2000 * 2000)) = -4000000 := by decide
  have e2 : max (max ((-2000 : Int) * -2000) (-2000 * 2000)) (max (2000 * -2000) (2000 * 2000)) = 4000000 := by decide
  rw [e1, e2] at h
  exact h
theorem sub_n {x y : Int} (hx : -1000 ≤ x ∧ x ≤ 1000) (hy : -1000 ≤ y ∧ y ≤ 1000) : isub x y = x - y := isub_e (by omega) (by omega)
theorem near_v {x y : Int} (h : nearB x y = true) : vB x y = true := by
  have := near_bd h
  exact vB_mk (by omega)
theorem crs_bd {a1 a2 b1 b2 c1 c2 : Int} (ha : nearB a1 a2 = true) (hb : nearB b1 b2 = true) (hc : nearB c1 c2 = true) : -8000000 ≤ crs (a1, a2) (b1, b2) (c1, c2) ∧ crs (a1, a2) (b1, b2) (c1, c2) ≤ 8000000 := by
  have := near_bd ha; have := near_bd hb; have := near_bd hc
  have m1 := mul2 (x := b1 - a1) (y := c2 - a2) (by omega) (by omega)
  have m2 := mul2 (x := b2 - a2) (y := c1 - a1) (by omega) (by omega)
  unfold crs
  dsimp only
  omega
theorem sq_w {a1 a2 b1 b2 : Int} (ha : nearB a1 a2 = true) (hb : nearB b1 b2 = true) : iadd (imul (isub a1 b1) (isub a1 b1)) (imul (isub a2 b2) (isub a2 b2)) = sqE a1 a2 b1 b2 ∧ 0 ≤ sqE a1 a2 b1 b2 ∧ sqE a1 a2 b1 b2 ≤ 8000000 := by
  have := near_bd ha; have := near_bd hb
  have m1 := mul2 (x := a1 - b1) (y := a1 - b1) (by omega) (by omega)
  have m2 := mul2 (x := a2 - b2) (y := a2 - b2) (by omega) (by omega)
  have q1 : 0 ≤ (a1 - b1) * (a1 - b1) := by rcases Int.le_total 0 (a1 - b1) with h | h; exact Int.mul_nonneg h h; exact Int.mul_nonneg_of_nonpos_of_nonpos h h
  have q2 : 0 ≤ (a2 - b2) * (a2 - b2) := by rcases Int.le_total 0 (a2 - b2) with h | h; exact Int.mul_nonneg h h; exact Int.mul_nonneg_of_nonpos_of_nonpos h h
  rw [sub_n (by omega) (by omega), sub_n (by omega) (by omega), m1.1, m2.1]
  unfold sqE
  exact ⟨iadd_e (by omega) (by omega), by omega, by omega⟩
theorem al_w {p1 p2 a1 a2 b1 b2 : Int} (hp : nearB p1 p2 = true) (ha : nearB a1 a2 = true) (hb : nearB b1 b2 = true) : iadd (imul (isub p1 a1) (isub b1 a1)) (imul (isub p2 a2) (isub b2 a2)) = alE p1 p2 a1 a2 b1 b2 := by
  have := near_bd ha; have := near_bd hb; have := near_bd hp
  have m1 := mul2 (x := p1 - a1) (y := b1 - a1) (by omega) (by omega)
  have m2 := mul2 (x := p2 - a2) (y := b2 - a2) (by omega) (by omega)
  rw [sub_n (by omega) (by omega), sub_n (x := b1) (by omega) (by omega), sub_n (x := p2) (by omega) (by omega), sub_n (x := b2) (by omega) (by omega), m1.1, m2.1]
  unfold alE
  exact iadd_e (by omega) (by omega)
theorem sqE_comm (a1 a2 b1 b2 : Int) : sqE a1 a2 b1 b2 = sqE b1 b2 a1 a2 := by unfold sqE; grind
theorem mul4b {x y : Int} (hx : -8000000 ≤ x ∧ x ≤ 8000000) (hy : -8000000 ≤ y ∧ y ≤ 8000000) : -64000000000000 ≤ x * y ∧ x * y ≤ 64000000000000 := by
  have h := mul_box hx.1 hx.2 hy.1 hy.2
  have e1 : min (min ((-8000000 : Int) * -8000000) (-8000000 * 8000000)) (min (8000000 * -8000000) (8000000 * 8000000)) = -64000000000000 := by decide
  have e2 : max (max ((-8000000 : Int) * -8000000) (-8000000 * 8000000)) (max (8000000 * -8000000) (8000000 * 8000000)) = 64000000000000 := by decide
  rw [e1, e2] at h
  exact h
theorem sqE_0 (a1 a2 b1 b2 : Int) : 0 ≤ sqE a1 a2 b1 b2 := by
  have q : ∀ x : Int, 0 ≤ x * x := fun x => by rcases Int.le_total 0 x with h | h; exact Int.mul_nonneg h h; exact Int.mul_nonneg_of_nonpos_of_nonpos h h
  have := q (a1 - b1); have := q (a2 - b2)
  unfold sqE; omega
theorem ssqE_0 (p1 p2 a1 a2 b1 b2 : Int) : 0 ≤ ssqE p1 p2 a1 a2 b1 b2 := by
  have q : ∀ x : Int, 0 ≤ x * x := fun x => by rcases Int.le_total 0 x with h | h; exact Int.mul_nonneg h h; exact Int.mul_nonneg_of_nonpos_of_nonpos h h
  unfold ssqE
  split
  · exact sqE_0 ..
  · split
    · exact sqE_0 ..
    · exact Int.tdiv_nonneg (q _) (sqE_0 ..)
def ssQ (p1 p2 a1 a2 b1 b2 : Int) : Int := if nearB p1 p2 && nearB a1 a2 && nearB b1 b2 then ssqE p1 p2 a1 a2 b1 b2 else -1
theorem ssQ_e {p1 p2 a1 a2 b1 b2 : Int} (hp : nearB p1 p2 = true) (ha : nearB a1 a2 = true) (hb : nearB b1 b2 = true) : ssQ p1 p2 a1 a2 b1 b2 = ssqE p1 p2 a1 a2 b1 b2 := by unfold ssQ; rw [hp, ha, hb]; rfl
theorem ssQ_0 {p1 p2 a1 a2 b1 b2 : Int} (h : 0 ≤ ssQ p1 p2 a1 a2 b1 b2) : nearB p1 p2 = true ∧ nearB a1 a2 = true ∧ nearB b1 b2 = true := by
  unfold ssQ at h
  cases h1 : nearB p1 p2 <;> cases h2 : nearB a1 a2 <;> cases h3 : nearB b1 b2 <;> simp [h1, h2, h3] at h ⊢
theorem vB_bd {x y : Int} (h : vB x y = true) : -10000 ≤ x ∧ x ≤ 10000 ∧ -10000 ≤ y ∧ y ≤ 10000 := by
  unfold vB at h
  simp only [Bool.and_eq_true] at h
  have a1 := inB_true h.1; have a2 := inB_true h.2
  omega
theorem sq_v {a1 a2 b1 b2 : Int} (ha : vB a1 a2 = true) (hb : vB b1 b2 = true) : iadd (imul (isub a1 b1) (isub a1 b1)) (imul (isub a2 b2) (isub a2 b2)) = sqE a1 a2 b1 b2 ∧ sqE a1 a2 b1 b2 ≤ 800000000 := by
  have := vB_bd ha; have := vB_bd hb
  have m1 := mul20 (x := a1 - b1) (y := a1 - b1) (by omega) (by omega)
  have m2 := mul20 (x := a2 - b2) (y := a2 - b2) (by omega) (by omega)
  rw [isub_e (by omega) (by omega), isub_e (by omega) (by omega), imul_e (by omega) (by omega), imul_e (by omega) (by omega)]
  unfold sqE
  exact ⟨iadd_e (by omega) (by omega), by omega⟩
def insE (l : List Pt) (p1 p2 i : Int) : Bool := decide (0 ≤ crW (getx l i) (gety l i) (getx l (nx l i)) (gety l (nx l i)) p1 p2)
def insB (l : List Pt) (p1 p2 : Int) : Bool := allN (ilen l) (insE l p1 p2)
namespace Pl
def nth (ps : List Pt) (i : Nat) : Pt := ps.getD i (0, 0)
theorem nth_eq {ps : List Pt} {i : Nat} (h : i < ps.length) : nth ps i = ps[i] := by
  unfold nth; rw [List.getD_eq_getElem?_getD, List.getElem?_eq_getElem h]; rfl
theorem nth_mem {ps : List Pt} {i : Nat} (h : i < ps.length) : nth ps i ∈ ps := by rw [nth_eq h]; exact List.getElem_mem h
/-- The corner behind corner i. -/
def nx (ps : List Pt) (i : Nat) : Nat := (i + 1) % ps.length
theorem nx_lt {ps : List Pt} {i : Nat} (h : i < ps.length) : nx ps i < ps.length := Nat.mod_lt _ (by omega)
def Strict (ps : List Pt) : Prop := ∀ i, i < ps.length → ∀ n, n < ps.length → n ≠ i → n ≠ nx ps i → 0 < crs (nth ps i) (nth ps (nx ps i)) (nth ps n)
def insP (ps : List Pt) (p : Pt) : Prop := ∀ i, i < ps.length → 0 ≤ crs (nth ps i) (nth ps (nx ps i)) p
/-- Begin with the second corner. -/
def turn : List Pt → List Pt
  | [] => []
  | a :: l => l ++ [a]
theorem turn_length (ps : List Pt) : (turn ps).length = ps.length := by cases ps <;> simp [turn]
theorem turn_nth {ps : List Pt} {i : Nat} (h : i < ps.length) : nth (turn ps) i = nth ps (nx ps i) := by
  cases ps with
  | nil => simp at h
  | cons a l =>
    unfold turn nx
    simp only [List.length_cons] at h ⊢
    by_cases hi : i < l.length
    · rw [Nat.mod_eq_of_lt (by omega)]
      rw [nth_eq (by simp; omega), nth_eq (by simp; omega)]
      simp [List.getElem_append_left, hi]
    · have : i = l.length := by omega
      subst this
      rw [Nat.mod_self, nth_eq (by simp), nth_eq (by simp)]
      simp
theorem nx_turn (ps : List Pt) (i : Nat) : nx (turn ps) i = nx ps i := by unfold nx; rw [turn_length]
/-- Every corner is the one behind some corner. -/
theorem nx_onto {ps : List Pt} {i : Nat} (h : i < ps.length) : ∃ j, j < ps.length ∧ nx ps j = i := by
  unfold nx
  cases i with
  | zero => exact ⟨ps.length - 1, by omega, by rw [show ps.length - 1 + 1 = ps.length from by omega, Nat.mod_self]⟩
  | succ i => exact ⟨i, by omega, Nat.mod_eq_of_lt h⟩
theorem nx_inj {ps : List Pt} {i j : Nat} (hi : i < ps.length) (hj : j < ps.length) (h : nx ps i = nx ps j) : i = j := by
  unfold nx at h
  by_cases h1 : i + 1 < ps.length
  · by_cases h2 : j + 1 < ps.length
    · rw [Nat.mod_eq_of_lt h1, Nat.mod_eq_of_lt h2] at h; omega
    · have e : j + 1 = ps.length := by omega
      rw [e, Nat.mod_self, Nat.mod_eq_of_lt h1] at h; omega
  · have e1 : i + 1 = ps.length := by omega
    by_cases h2 : j + 1 < ps.length
    · rw [e1, Nat.mod_self, Nat.mod_eq_of_lt h2] at h; omega
    · omega
theorem insP_turn {ps : List Pt} {p : Pt} : insP (turn ps) p ↔ insP ps p := by
  unfold insP
  rw [turn_length]
  constructor
  · intro h i hi
    obtain ⟨j, hj, rfl⟩ := nx_onto hi
    have := h j hj
    rw [turn_nth hj, nx_turn, turn_nth (nx_lt hj)] at this
    exact this
  · intro h i hi
    rw [turn_nth hi, nx_turn, turn_nth (nx_lt hi)]
    exact h _ (nx_lt hi)
theorem strict_turn {ps : List Pt} (h : Strict ps) : Strict (turn ps) := by
  intro i hi n hn h1 h2
  rw [turn_length] at hi hn
  rw [nx_turn] at h2 ⊢
  rw [turn_nth hi, turn_nth (nx_lt hi), turn_nth hn]
  exact h _ (nx_lt hi) _ (nx_lt hn) (fun e => h1 (nx_inj hn hi e)) (fun e => h2 (nx_inj hn (nx_lt hi) e))
/-- A sum over the corners. -/
def sumN (f : Nat → Int) : Nat → Int
  | 0 => 0
  | n + 1 => sumN f n + f n
theorem sumN_congr {f g : Nat → Int} : ∀ n, (∀ i, i < n → f i = g i) → sumN f n = sumN g n
  | 0, _ => rfl
  | n + 1, h => by rw [sumN, sumN, sumN_congr n (fun i hi => h i (by omega)), h n (by omega)]
theorem sumN_add (f g : Nat → Int) : ∀ n, sumN (fun i => f i + g i) n = sumN f n + sumN g n
  | 0 => rfl
  | n + 1 => by simp only [sumN]; rw [sumN_add f g n]; omega
theorem sumN_shift (f : Nat → Int) : ∀ n, sumN (fun i => f (i + 1)) n + f 0 = sumN f (n + 1)
  | 0 => by simp [sumN]
  | n + 1 => by have := sumN_shift f n; simp only [sumN] at *; omega
theorem sumN_nx {ps : List Pt} (f : Nat → Int) (hn : 0 < ps.length) : sumN (fun i => f (nx ps i)) ps.length = sumN f ps.length := by
  obtain ⟨m, hm⟩ : ∃ m, ps.length = m + 1 := ⟨ps.length - 1, by omega⟩
  have e : sumN (fun i => f (nx ps i)) ps.length = sumN (fun i => f (i + 1)) m + f 0 := by
    rw [hm, sumN]
    congr 1
    · refine sumN_congr m fun i hi => ?_
      unfold nx; rw [Nat.mod_eq_of_lt (by omega)]
    · unfold nx; rw [hm, Nat.mod_self]
  rw [e, sumN_shift, ← hm]
theorem sumN_le {f g : Nat → Int} : ∀ n, (∀ i, i < n → f i ≤ g i) → sumN f n ≤ sumN g n
  | 0, _ => Int.le_refl _
  | n + 1, h => by have := sumN_le n (fun i hi => h i (by omega)); have := h n (by omega); simp only [sumN]; omega
theorem sumN_eq_le {f g : Nat → Int} : ∀ n, (∀ i, i < n → f i ≤ g i) → sumN f n = sumN g n → ∀ i, i < n → f i = g i
  | 0, _, _, i, hi => by omega
  | n + 1, h, he, i, hi => by
    have h1 := sumN_le n (fun i hi => h i (by omega))
    have h2 := h n (by omega)
    simp only [sumN] at he
    rcases Nat.lt_or_ge i n with hin | hin
    · exact sumN_eq_le n (fun i hi => h i (by omega)) (by omega) i hin
    · have : i = n := by omega
      subst this; omega
/-- Twice the area, as the program sums it. -/
def area2 (ps : List Pt) : Int := sumN (fun i => (nth ps i).1 * (nth ps (nx ps i)).2 - (nth ps i).2 * (nth ps (nx ps i)).1) ps.length
theorem area_from (ps : List Pt) (o : Pt) (hn : 0 < ps.length) : sumN (fun i => crs o (nth ps i) (nth ps (nx ps i))) ps.length = area2 ps := by
  have e : ∀ i, crs o (nth ps i) (nth ps (nx ps i)) = ((nth ps i).1 * (nth ps (nx ps i)).2 - (nth ps i).2 * (nth ps (nx ps i)).1) + ((o.2 * (nth ps (nx ps i)).1 - o.1 * (nth ps (nx ps i)).2) + (o.1 * (nth ps i).2 - o.2 * (nth ps i).1)) := by
    intro i; unfold crs; grind
  rw [sumN_congr _ (fun i _ => e i), sumN_add, sumN_add]
  have e2 := sumN_nx (ps := ps) (fun j => o.2 * (nth ps j).1 - o.1 * (nth ps j).2) hn
  have e3 : sumN (fun i => o.2 * (nth ps (nx ps i)).1 - o.1 * (nth ps (nx ps i)).2) ps.length + sumN (fun i => o.1 * (nth ps i).2 - o.2 * (nth ps i).1) ps.length = 0 := by
    rw [e2, ← sumN_add]
    have : ∀ n, sumN (fun i => o.2 * (nth ps i).1 - o.1 * (nth ps i).2 + (o.1 * (nth ps i).2 - o.2 * (nth ps i).1)) n = 0 := by
      intro n; induction n with
      | zero => rfl
      | succ n ih => simp only [sumN, ih]; omega
    exact this _
  unfold area2
  omega
theorem area_turn (ps : List Pt) : area2 (turn ps) = area2 ps := by
  by_cases hn : 0 < ps.length
  · unfold area2
    rw [turn_length]
    rw [← sumN_nx (fun i => (nth ps i).1 * (nth ps (nx ps i)).2 - (nth ps i).2 * (nth ps (nx ps i)).1) hn]
    refine sumN_congr _ fun i hi => ?_
    rw [turn_nth hi, nx_turn, turn_nth (nx_lt hi)]
  · cases ps with
    | nil => rfl
    | cons a l => simp at hn
/-- The reference's sum of triangles. -/
def fan (ps : List Pt) (n : Nat) : Int := sumN (fun k => crs (nth ps 0) (nth ps (k + 1)) (nth ps (k + 2))) n
theorem area_fan (ps : List Pt) (hn : 2 ≤ ps.length) : fan ps (ps.length - 2) = area2 ps := by
  rw [← area_from ps (nth ps 0) (by omega)]
  obtain ⟨m, hm⟩ : ∃ m, ps.length = m + 2 := ⟨ps.length - 2, by omega⟩
  rw [hm, show m + 2 - 2 = m from by omega]
  have e := sumN_shift (fun i => crs (nth ps 0) (nth ps i) (nth ps (nx ps i))) (m + 1)
  rw [show m + 2 = m + 1 + 1 from rfl, ← e, sumN]
  have h0 : crs (nth ps 0) (nth ps 0) (nth ps (nx ps 0)) = 0 := by unfold crs; grind
  have hl : crs (nth ps 0) (nth ps (m + 1)) (nth ps (nx ps (m + 1))) = 0 := by
    have : nx ps (m + 1) = 0 := by unfold nx; rw [hm]; exact Nat.mod_self _
    rw [this]; unfold crs; grind
  rw [h0, hl]
  unfold fan
  rw [sumN_congr (f := fun k => crs (nth ps 0) (nth ps (k + 1)) (nth ps (k + 2))) (g := fun i => crs (nth ps 0) (nth ps (i + 1)) (nth ps (nx ps (i + 1)))) m]
  · omega
  · intro i hi
    have : nx ps (i + 1) = i + 2 := by unfold nx; exact Nat.mod_eq_of_lt (by omega)
    rw [this]
theorem crs_rot (a b c : Pt) : crs b c a = crs a b c := by unfold crs; grind
theorem area_pos {ps : List Pt} (h : Strict ps) (hn : 3 ≤ ps.length) : 0 < area2 ps := by
  rw [← area_fan ps (by omega)]
  have key : ∀ n, n + 2 ≤ ps.length → 0 ≤ fan ps n ∧ (0 < n → 0 < fan ps n) := by
    intro n
    induction n with
    | zero => intro _; exact ⟨Int.le_refl _, fun h => by omega⟩
    | succ n ih =>
      intro hle
      have ih := ih (by omega)
      have e : nx ps (n + 1) = n + 2 := by unfold nx; exact Nat.mod_eq_of_lt (by omega)
      have := h (n + 1) (by omega) 0 (by omega) (by omega) (by rw [e]; omega)
      rw [e, ← crs_rot, ← crs_rot, crs_rot] at this
      have e3 : fan ps (n + 1) = fan ps n + crs (nth ps 0) (nth ps (n + 1)) (nth ps (n + 2)) := rfl
      rw [e3]
      have e4 : crs (nth ps (n + 1)) (nth ps (n + 2)) (nth ps 0) = crs (nth ps 0) (nth ps (n + 1)) (nth ps (n + 2)) := by unfold crs; grind
      have e5 := h (n + 1) (by omega) 0 (by omega) (by omega) (by rw [e]; omega)
      rw [e, e4] at e5
      exact ⟨by omega, fun _ => by omega⟩
  exact (key (ps.length - 2) (by omega)).2 (by omega)
/-- Without its first corner a polygon loses a triangle. -/
theorem area_tail (a b : Pt) (l : List Pt) (hl : l ≠ []) : area2 (a :: b :: l) = area2 (b :: l) + crs (nth (a :: b :: l) (l.length + 1)) a b := by
  obtain ⟨m, hm⟩ : ∃ m, l.length = m + 1 := ⟨l.length - 1, by have := List.length_pos_iff.2 hl; omega⟩
  have h1 := area_fan (turn (a :: b :: l)) (by rw [turn_length]; simp)
  have h2 := area_fan (b :: l) (by simp; omega)
  rw [area_turn, turn_length] at h1
  rw [← h1, ← h2]
  have ht : turn (a :: b :: l) = b :: (l ++ [a]) := rfl
  simp only [List.length_cons, hm]
  rw [show m + 1 + 1 + 1 - 2 = m + 1 from by omega, show m + 1 + 1 - 2 = m from by omega]
  unfold fan
  rw [sumN]
  have hsame : ∀ i, i < m + 2 → nth (turn (a :: b :: l)) i = nth (b :: l) i := by
    intro i hi
    rw [ht, nth_eq (by simp; omega), nth_eq (by simp; omega)]
    cases i with
    | zero => rfl
    | succ i => simp [List.getElem_append_left, show i < l.length by omega]
  rw [sumN_congr (f := fun k => crs (nth (turn (a :: b :: l)) 0) (nth (turn (a :: b :: l)) (k + 1)) (nth (turn (a :: b :: l)) (k + 2))) (g := fun k => crs (nth (b :: l) 0) (nth (b :: l) (k + 1)) (nth (b :: l) (k + 2))) m (fun i hi => by rw [hsame 0 (by omega), hsame (i + 1) (by omega), hsame (i + 2) (by omega)])]
  have e0 : nth (turn (a :: b :: l)) 0 = b := rfl
  have e1 : nth (turn (a :: b :: l)) (m + 1) = nth (a :: b :: l) (m + 1 + 1) := by
    rw [turn_nth (by simp; omega)]
    congr 1
    unfold nx
    rw [Nat.mod_eq_of_lt (by simp; omega)]
  have e2 : nth (turn (a :: b :: l)) (m + 2) = a := by
    rw [ht, nth_eq (by simp; omega)]
    simp only [List.getElem_cons_succ]
    rw [List.getElem_append_right (by omega)]
    simp
  rw [e0, e1, e2]
  have : crs b (nth (a :: b :: l) (m + 1 + 1)) a = crs (nth (a :: b :: l) (m + 1 + 1)) a b := by unfold crs; grind
  omega
def absI (x : Int) : Int := max x (-x)
/-- A point is inside exactly if the triangles to the edges make up the area. -/
theorem inside_area {ps : List Pt} (hn : 0 < ps.length) (p : Pt) : insP ps p ↔ sumN (fun i => absI (crs p (nth ps i) (nth ps (nx ps i)))) ps.length = area2 ps := by
  rw [← area_from ps p hn]
  constructor
  · intro h
    refine sumN_congr _ fun i hi => ?_
    have := h i hi
    rw [show crs (nth ps i) (nth ps (nx ps i)) p = crs p (nth ps i) (nth ps (nx ps i)) from by unfold crs; grind] at this
    unfold absI; omega
  · intro h i hi
    have := sumN_eq_le ps.length (f := fun i => crs p (nth ps i) (nth ps (nx ps i))) (g := fun i => absI (crs p (nth ps i) (nth ps (nx ps i)))) (fun i _ => by unfold absI; omega) h.symm i hi
    rw [show crs (nth ps i) (nth ps (nx ps i)) p = crs p (nth ps i) (nth ps (nx ps i)) from by unfold crs; grind]
    unfold absI at this; omega
theorem corner_inside {ps : List Pt} (h : Strict ps) {n : Nat} (hn : n < ps.length) : insP ps (nth ps n) := by
  intro i hi
  by_cases h1 : n = i
  · subst h1
    have : crs (nth ps n) (nth ps (nx ps n)) (nth ps n) = 0 := by unfold crs; grind
    omega
  · by_cases h2 : n = nx ps i
    · rw [← h2]
      have : crs (nth ps i) (nth ps n) (nth ps n) = 0 := by unfold crs; grind
      omega
    · have := h i hi n hn h1 h2; omega
/-- The corners in the opposite order go clockwise. -/
theorem strict_rev {ps : List Pt} (h : Strict ps) (hn : 3 ≤ ps.length) : ¬ Strict ps.reverse := by
  intro hr
  have h1 := hr 0 (by simp; omega) 2 (by simp; omega) (by omega) (by unfold nx; rw [Nat.mod_eq_of_lt (by simp; omega)]; omega)
  have e0 : nth ps.reverse 0 = nth ps (ps.length - 1) := by rw [nth_eq (by simp; omega), nth_eq (by omega)]; simp
  have en : nx ps.reverse 0 = 1 := by unfold nx; exact Nat.mod_eq_of_lt (by simp; omega)
  have e1 : nth ps.reverse 1 = nth ps (ps.length - 2) := by rw [nth_eq (by simp; omega), nth_eq (by omega)]; simp; congr 1
  have e2 : nth ps.reverse 2 = nth ps (ps.length - 3) := by rw [nth_eq (by simp; omega), nth_eq (by omega)]; simp; congr 1
  rw [en, e0, e1, e2] at h1
  have ek : nx ps (ps.length - 2) = ps.length - 1 := by unfold nx; rw [Nat.mod_eq_of_lt (by omega)]; omega
  have h2 := h (ps.length - 2) (by omega) (ps.length - 3) (by omega) (by omega) (by rw [ek]; omega)
  rw [ek] at h2
  have : crs (nth ps (ps.length - 1)) (nth ps (ps.length - 2)) (nth ps (ps.length - 3)) = - crs (nth ps (ps.length - 2)) (nth ps (ps.length - 1)) (nth ps (ps.length - 3)) := by unfold crs; grind
  omega

end Pl
theorem ilen_nat (l : List Pt) : ilen l = (l.length : Int) := by unfold ilen; rfl
theorem nth_get (l : List Pt) (i : Nat) : (getx l i, gety l i) = Pl.nth l i := by unfold getx gety Pl.nth; simp
theorem nx_nat {l : List Pt} {i : Nat} (h : i < l.length) : nx l i = (Pl.nx l i : Int) := by
  unfold nx Pl.nx
  rw [ilen_nat, Int.tmod_eq_emod_of_nonneg (by omega), show ((i : Int) + 1) = ((i + 1 : Nat) : Int) by omega]
  exact (Int.natCast_emod _ _).symm
theorem cr_nat {l : List Pt} (h : allB l = true) {a b c : Nat} (ha : a < l.length) (hb : b < l.length) (hc : c < l.length) : cr l a b c = crs (Pl.nth l a) (Pl.nth l b) (Pl.nth l c) := by
  rw [allB_N] at h
  have hv := allN_iff.1 h
  rw [ilen_nat] at hv
  unfold cr
  rw [crW_e (hv a (by omega) (by omega)) (hv b (by omega) (by omega)) (hv c (by omega) (by omega)), nth_get, nth_get, nth_get]
theorem conv_iff (l : List Pt) : convB l = true ↔ (3 ≤ l.length ∧ l.length ≤ 8 ∧ allB l = true ∧ Pl.Strict l) := by
  constructor
  · intro h
    have hh := h
    unfold convB at hh
    simp only [Bool.and_eq_true] at hh
    obtain ⟨⟨h1, h2⟩, h3⟩ := hh
    have h4 := inB_true h1
    rw [ilen_nat] at h4
    refine ⟨by omega, by omega, h2, fun i hi n hn n1 n2 => ?_⟩
    have h5 := allN_iff.1 (allN_iff.1 h3 i (by omega) (by rw [ilen_nat]; omega)) n (by omega) (by rw [ilen_nat]; omega)
    unfold convE at h5
    rw [nx_nat hi, cr_nat h2 hi (Pl.nx_lt hi) hn] at h5
    simp only [decide_eq_true_eq] at h5
    omega
  · rintro ⟨h1, h2, h3, h4⟩
    unfold convB
    rw [h3]
    simp only [Bool.and_true, Bool.and_eq_true]
    refine ⟨by unfold inB; rw [ilen_nat]; simp; omega, allN_iff.2 fun i i0 i1 => allN_iff.2 fun j j0 j1 => ?_⟩
    obtain ⟨i, rfl⟩ := Int.eq_ofNat_of_zero_le i0
    obtain ⟨j, rfl⟩ := Int.eq_ofNat_of_zero_le j0
    rw [ilen_nat] at i1 j1
    have hi : i < l.length := by omega
    have hj : j < l.length := by omega
    unfold convE
    rw [nx_nat hi, cr_nat h3 hi (Pl.nx_lt hi) hj]
    simp only [decide_eq_true_eq]
    by_cases e1 : j = i
    · exact .inl (by omega)
    · by_cases e2 : j = Pl.nx l i
      · exact .inr (.inl (by omega))
      · exact .inr (.inr (h4 i hi j hj e1 e2))
theorem allB_turn {l : List Pt} (h : allB l = true) : allB (Pl.turn l) = true := by
  cases l with
  | nil => exact h
  | cons a l =>
    simp only [allB, Pl.turn, List.all_append, List.all_cons, List.all_nil, Bool.and_true, Bool.and_eq_true] at h ⊢
    exact ⟨h.2, h.1⟩
theorem conv_turn {l : List Pt} (h : convB l = true) : convB (Pl.turn l) = true := by
  obtain ⟨h1, h2, h3, h4⟩ := (conv_iff l).1 h
  exact (conv_iff _).2 ⟨by rw [Pl.turn_length]; exact h1, by rw [Pl.turn_length]; exact h2, allB_turn h3, Pl.strict_turn h4⟩
theorem conv_rev {l : List Pt} (h : convB l = true) : convB l.reverse = false := by
  obtain ⟨h1, _, _, h4⟩ := (conv_iff l).1 h
  cases hc : convB l.reverse with
  | false => rfl
  | true => exact absurd ((conv_iff _).1 hc).2.2.2 (Pl.strict_rev h4 h1)
theorem rev_step {l : List Pt} {k : Int} (h0 : 0 ≤ k) (h1 : k < ilen l) : iapp (l.drop (k + 1).toNat).reverse [(getx l k, gety l k)] = (l.drop k.toNat).reverse := by
  obtain ⟨k, rfl⟩ := Int.eq_ofNat_of_zero_le h0
  rw [ilen_nat] at h1
  have hk : k < l.length := by omega
  rw [nth_get, Pl.nth_eq hk, show ((k : Int) + 1).toNat = k + 1 by omega, show ((k : Int)).toNat = k by omega]
  unfold iapp
  rw [show l.drop k = l[k] :: l.drop (k + 1) from List.drop_eq_getElem_cons hk, List.reverse_cons]
namespace Pl
def sqd (a b : Pt) : Int := (a.1 - b.1) * (a.1 - b.1) + (a.2 - b.2) * (a.2 - b.2)
/-- a lies before b, by X and then by Y. -/
def lexLt (a b : Pt) : Prop := a.1 < b.1 ∨ (a.1 = b.1 ∧ a.2 < b.2)
def lexLe (a b : Pt) : Prop := a.1 < b.1 ∨ (a.1 = b.1 ∧ a.2 ≤ b.2)
theorem lexLt.le {a b : Pt} (h : lexLt a b) : lexLe a b := by unfold lexLt lexLe at *; omega
theorem lexLe.refl (a : Pt) : lexLe a a := by unfold lexLe; omega
theorem lexLe.trans {a b c : Pt} (h : lexLe a b) (k : lexLe b c) : lexLe a c := by unfold lexLe at *; omega
theorem lexLt_of_le {a b c : Pt} (h : lexLe a b) (k : lexLt b c) : lexLt a c := by unfold lexLe lexLt at *; omega
theorem lexLt_of_lt {a b c : Pt} (h : lexLt a b) (k : lexLe b c) : lexLt a c := by unfold lexLe lexLt at *; omega
theorem lexLt.ne {a b : Pt} (h : lexLt a b) : a ≠ b := by rintro rfl; unfold lexLt at h; omega
theorem lexLt_or {a b : Pt} (h : lexLe a b) : a = b ∨ lexLt a b := by
  obtain ⟨x, y⟩ := a; obtain ⟨z, t⟩ := b
  unfold lexLe at h; unfold lexLt
  simp only [Prod.mk.injEq] at *
  omega
def vx (u v : Pt) : Int := u.1 * v.2 - u.2 * v.1
def nonneg (u : Pt) : Prop := 0 < u.1 ∨ (u.1 = 0 ∧ 0 ≤ u.2)
def pos (u : Pt) : Prop := 0 < u.1 ∨ (u.1 = 0 ∧ 0 < u.2)
theorem tr_id (u v w : Pt) : v.1 * vx u w = u.1 * vx v w + w.1 * vx u v := by unfold vx; grind
theorem pos_of_mul {a b : Int} (ha : 0 < a) (h : 0 < a * b) : 0 < b := by
  apply Int.not_le.1; intro hb
  have := Int.mul_nonneg (show 0 ≤ a by omega) (show 0 ≤ -b by omega)
  rw [Int.mul_neg] at this; omega
theorem nonneg_of_mul {a b : Int} (ha : 0 < a) (h : 0 ≤ a * b) : 0 ≤ b := by
  apply Int.not_lt.1; intro hb
  have := Int.mul_pos ha (show 0 < -b by omega)
  rw [Int.mul_neg] at this; omega
theorem tr0 {u v w : Pt} (hu : nonneg u) (hv : pos v) (hw : nonneg w) (h1 : 0 ≤ vx u v) (h2 : 0 ≤ vx v w) : 0 ≤ vx u w := by
  have id := tr_id u v w
  unfold nonneg pos at *
  rcases hv with hv | ⟨hv, hv2⟩
  · have a1 := Int.mul_nonneg (show 0 ≤ u.1 by omega) h2
    have a2 := Int.mul_nonneg (show 0 ≤ w.1 by omega) h1
    exact nonneg_of_mul hv (by omega)
  · have e : vx v w = -(v.2 * w.1) := by unfold vx; rw [hv]; grind
    have hw1 : w.1 = 0 := by
      rcases hw with hw | hw
      · have := Int.mul_pos hv2 hw; omega
      · exact hw.1
    have hw2 : 0 ≤ w.2 := by omega
    have e2 : vx u w = u.1 * w.2 := by unfold vx; rw [hw1]; grind
    rw [e2]; exact Int.mul_nonneg (by omega) hw2
theorem tr1 {u v w : Pt} (hu : nonneg u) (hv : pos v) (hw : pos w) (h1 : 0 < vx u v) (h2 : 0 ≤ vx v w) : 0 < vx u w := by
  have id := tr_id u v w
  have hu1 : 0 < u.1 := by
    unfold nonneg pos at *
    rcases hu with hu | ⟨hu, hu2⟩
    · exact hu
    · have e : vx u v = -(u.2 * v.1) := by unfold vx; rw [hu]; grind
      have := Int.mul_nonneg hu2 (show 0 ≤ v.1 by omega)
      omega
  unfold nonneg pos at *
  rcases hv with hv | ⟨hv, hv2⟩
  · have a1 := Int.mul_nonneg (show 0 ≤ u.1 by omega) h2
    rcases hw with hw | ⟨hw, hw2⟩
    · have a2 := Int.mul_pos hw h1
      exact pos_of_mul hv (by omega)
    · have e2 : vx u w = u.1 * w.2 := by unfold vx; rw [hw]; grind
      rw [e2]; exact Int.mul_pos hu1 hw2
  · have e : vx v w = -(v.2 * w.1) := by unfold vx; rw [hv]; grind
    have hw1 : w.1 = 0 := by
      rcases hw with hw | hw
      · have := Int.mul_pos hv2 hw; omega
      · exact hw.1
    have hw2 : 0 < w.2 := by omega
    have e2 : vx u w = u.1 * w.2 := by unfold vx; rw [hw1]; grind
    rw [e2]; exact Int.mul_pos hu1 hw2
theorem tr2 {u v w : Pt} (hu : pos u) (hv : pos v) (hw : nonneg w) (h1 : 0 ≤ vx u v) (h2 : 0 < vx v w) : 0 < vx u w := by
  have id := tr_id u v w
  unfold nonneg pos at *
  rcases hv with hv | ⟨hv, hv2⟩
  · have a2 := Int.mul_nonneg (show 0 ≤ w.1 by omega) h1
    rcases hu with hu | ⟨hu, hu2⟩
    · have a1 := Int.mul_pos hu h2
      exact pos_of_mul hv (by omega)
    · have e : vx u v = -(u.2 * v.1) := by unfold vx; rw [hu]; grind
      have := Int.mul_pos hu2 hv
      omega
  · have e : vx v w = -(v.2 * w.1) := by unfold vx; rw [hv]; grind
    have := Int.mul_nonneg (show 0 ≤ v.2 by omega) (show 0 ≤ w.1 by omega)
    omega
def sub (a b : Pt) : Pt := (a.1 - b.1, a.2 - b.2)
theorem sub_pos {a b : Pt} (h : lexLt a b) : pos (sub b a) := by unfold lexLt at h; unfold pos sub; simp only; omega
theorem sub_nonneg {a b : Pt} (h : lexLe a b) : nonneg (sub b a) := by unfold lexLe at h; unfold nonneg sub; simp only; omega
theorem pos.nn {u : Pt} (h : pos u) : nonneg u := by unfold pos nonneg at *; omega
/-- The right-hand chain of sorted points; the newest corner first. -/
def popH : List Pt → Pt → List Pt
  | b :: a :: st, p => if crs a b p ≤ 0 then popH (a :: st) p else b :: a :: st
  | st, _ => st
def pushH (st : List Pt) (p : Pt) : List Pt := p :: popH st p
def halfH (P : List Pt) : List Pt := P.foldl pushH []
def Desc : List Pt → Prop
  | b :: a :: st => lexLt a b ∧ Desc (a :: st)
  | _ => True
def Conv : List Pt → Prop
  | c :: b :: a :: st => 0 < crs a b c ∧ Conv (b :: a :: st)
  | _ => True
def Above : List Pt → Pt → Prop
  | b :: a :: st, q => (lexLe a q ∧ lexLe q b ∧ 0 ≤ crs a b q) ∨ Above (a :: st) q
  | [b], q => q = b
  | [], _ => False
theorem crs_self (a b : Pt) : crs a b a = 0 := by unfold crs; grind
theorem crs_self2 (a b : Pt) : crs a b b = 0 := by unfold crs; grind
theorem Desc.tail {b : Pt} {st : List Pt} (h : Desc (b :: st)) : Desc st := by
  cases st with
  | nil => trivial
  | cons a st => exact h.2
theorem Conv.tail {b : Pt} {st : List Pt} (h : Conv (b :: st)) : Conv st := by
  match st, h with
  | [], _ => trivial
  | [_], _ => trivial
  | _ :: _ :: _, h => exact h.2
theorem pop_spec : ∀ (t : Pt) (st : List Pt) (p : Pt), Desc (t :: st) → Conv (t :: st) → lexLt t p →
    Desc (pushH (t :: st) p) ∧ Conv (pushH (t :: st) p) ∧
    (∀ q, lexLe t q → lexLe q p → 0 ≤ crs t p q → Above (pushH (t :: st) p) q) ∧
    (∀ q, Above (t :: st) q → Above (pushH (t :: st) p) q) ∧ (∃ l, t :: st = l ++ popH (t :: st) p) ∧ popH (t :: st) p ≠ []
  | t, [], p, _, _, hp => by
    refine ⟨⟨hp, trivial⟩, trivial, fun q h1 h2 h3 => .inl ⟨h1, h2, h3⟩, fun q hq => ?_, ⟨[], rfl⟩, by simp [popH]⟩
    have hq : q = t := hq
    subst hq
    exact .inl ⟨lexLe.refl _, hp.le, by rw [crs_self]; exact Int.le_refl _⟩
  | b, a :: st, p, hd, hc, hp => by
    unfold pushH popH
    have hab : lexLt a b := hd.1
    by_cases hcr : crs a b p ≤ 0
    · rw [if_pos hcr]
      have hap : lexLt a p := lexLt_of_lt hab hp.le
      obtain ⟨i1, i2, i3, i4, ⟨l, i5⟩, i6⟩ := pop_spec a st p hd.tail hc.tail hap
      refine ⟨i1, i2, fun q h1 h2 h3 => ?_, fun q hq => ?_, ⟨b :: l, by rw [List.cons_append, ← i5]⟩, i6⟩
      · refine i3 q (hab.le.trans h1) h2 ?_
        have t1 : crs b p q = vx (sub p q) (sub p b) := by unfold crs vx sub; grind
        have t2 : crs a b p = - vx (sub p b) (sub p a) := by unfold crs vx sub; grind
        have t3 : crs a p q = vx (sub p q) (sub p a) := by unfold crs vx sub; grind
        rw [t3]
        exact tr0 (sub_nonneg h2) (sub_pos hp) (sub_nonneg hap.le) (by omega) (by omega)
      · rcases hq with ⟨h1, h2, h3⟩ | hq
        · refine i3 q h1 (h2.trans hp.le) ?_
          have t1 : crs a b q = vx (sub b a) (sub q a) := by unfold crs vx sub; grind
          have t2 : crs a b p = - vx (sub p a) (sub b a) := by unfold crs vx sub; grind
          have t3 : crs a p q = vx (sub p a) (sub q a) := by unfold crs vx sub; grind
          rw [t3]
          exact tr0 (sub_nonneg hap.le) (sub_pos hab) (sub_nonneg h1) (by omega) (by omega)
        · exact i4 q hq
    · rw [if_neg hcr]
      exact ⟨⟨hp, hd⟩, ⟨by omega, hc⟩, fun q h1 h2 h3 => .inl ⟨h1, h2, h3⟩, fun q hq => .inr hq, ⟨[], rfl⟩, by simp⟩
/-- a and then b follow one another in the chain (the newest first). -/
def Adj (st : List Pt) (a b : Pt) : Prop := ∃ l1 l2, st = l1 ++ b :: a :: l2
theorem adj_cons {t c a b : Pt} {st : List Pt} (h : Adj (t :: c :: st) a b) : (b = t ∧ a = c) ∨ Adj (c :: st) a b := by
  obtain ⟨l1, l2, h⟩ := h
  cases l1 with
  | nil =>
    rw [List.nil_append] at h
    injection h with h1 h
    injection h with h2 h
    exact .inl ⟨h1.symm, h2.symm⟩
  | cons x l1 =>
    rw [List.cons_append] at h
    injection h with h1 h
    exact .inr ⟨l1, l2, h⟩
theorem claimA : ∀ (st : List Pt) (b a : Pt) (q : Pt), Desc (b :: a :: st) → Conv (b :: a :: st) → lexLe a q → 0 ≤ crs a b q → ∀ a' b', Adj (a :: st) a' b' → 0 ≤ crs a' b' q ∧ (crs a' b' q = 0 → lexLe a' q ∧ lexLe q b')
  | [], b, a, q, _, _, _, _, a', b', h => by
    obtain ⟨l1, l2, h⟩ := h
    cases l1 with
    | nil => simp at h
    | cons x l1 => simp at h
  | c :: st, b, a, q, hd, hc, h1, h2, a', b', h => by
    have hab : lexLt a b := hd.1
    have hca : lexLt c a := hd.2.1
    have hcv : 0 < crs c a b := hc.1
    have t1 : crs c a b = vx (sub a c) (sub b a) := by unfold crs vx sub; grind
    have t2 : crs a b q = vx (sub b a) (sub q a) := by unfold crs vx sub; grind
    have t3 : crs c a q = vx (sub a c) (sub q a) := by unfold crs vx sub; grind
    have key : 0 ≤ crs c a q ∧ (crs c a q = 0 → lexLe c q ∧ lexLe q a) := by
      rcases lexLt_or h1 with rfl | hlt
      · exact ⟨by rw [crs_self2]; exact Int.le_refl _, fun _ => ⟨hca.le, lexLe.refl _⟩⟩
      · have := tr1 (sub_pos hca).nn (sub_pos hab) (sub_pos hlt) (by omega) (by omega : 0 ≤ vx (sub b a) (sub q a))
        exact ⟨by omega, fun h => by omega⟩
    rcases adj_cons h with ⟨rfl, rfl⟩ | h
    · exact key
    · exact claimA st a c q hd.tail hc.tail (hca.le.trans h1) key.1 a' b' h
theorem above_le : ∀ (st : List Pt) (b q : Pt), Desc (b :: st) → Above (b :: st) q → lexLe q b
  | [], b, q, _, h => by have h : q = b := h; subst h; exact lexLe.refl _
  | a :: st, b, q, hd, h => by
    rcases h with h | h
    · exact h.2.1
    · exact (above_le st a q hd.tail h).trans hd.1.le
theorem claimB : ∀ (st : List Pt) (b a : Pt) (q : Pt), Desc (b :: a :: st) → Conv (b :: a :: st) → Above (a :: st) q → 0 ≤ crs a b q ∧ (crs a b q = 0 → lexLe a q ∧ lexLe q b)
  | [], b, a, q, hd, _, h => by
    have h : q = a := h
    subst h
    exact ⟨by rw [crs_self]; exact Int.le_refl _, fun _ => ⟨lexLe.refl _, hd.1.le⟩⟩
  | c :: st, b, a, q, hd, hc, h => by
    have hab : lexLt a b := hd.1
    have hca : lexLt c a := hd.2.1
    have hcv : 0 < crs c a b := hc.1
    have hqa := above_le _ _ _ hd.tail h
    have hca2 : 0 ≤ crs c a q := by
      rcases h with h | h
      · exact h.2.2
      · exact (claimB st a c q hd.tail hc.tail h).1
    rcases lexLt_or hqa with rfl | hlt
    · exact ⟨by rw [crs_self]; exact Int.le_refl _, fun _ => ⟨lexLe.refl _, hab.le⟩⟩
    · have t1 : crs c a b = vx (sub a c) (sub b a) := by unfold crs vx sub; grind
      have t2 : crs c a q = vx (sub a q) (sub a c) := by unfold crs vx sub; grind
      have t3 : crs a b q = vx (sub a q) (sub b a) := by unfold crs vx sub; grind
      have := tr2 (sub_pos hlt) (sub_pos hca) (sub_pos hab).nn (by omega) (by omega : 0 < vx (sub a c) (sub b a))
      exact ⟨by omega, fun h => by omega⟩
theorem support : ∀ (st : List Pt) (q : Pt), Desc st → Conv st → Above st q → ∀ a b, Adj st a b → 0 ≤ crs a b q ∧ (crs a b q = 0 → lexLe a q ∧ lexLe q b)
  | [], q, _, _, h, _, _, _ => absurd h id
  | [t], q, _, _, _, a, b, h => by
    obtain ⟨l1, l2, h⟩ := h
    cases l1 with
    | nil => simp at h
    | cons x l1 => simp at h
  | t :: c :: st, q, hd, hc, hq, a, b, h => by
    rcases adj_cons h with ⟨rfl, rfl⟩ | h
    · rcases hq with hq | hq
      · exact ⟨hq.2.2, fun _ => ⟨hq.1, hq.2.1⟩⟩
      · exact claimB st b a q hd hc hq
    · rcases hq with hq | hq
      · exact claimA st t c q hd hc hq.1 hq.2.2 a b h
      · exact support (c :: st) q hd.tail hc.tail hq a b h
def Asc : List Pt → Prop
  | a :: b :: l => lexLt a b ∧ Asc (b :: l)
  | _ => True
theorem pop_suffix : ∀ (st : List Pt) (p : Pt), ∃ l, st = l ++ popH st p
  | [], _ => ⟨[], rfl⟩
  | [t], _ => ⟨[], rfl⟩
  | b :: a :: st, p => by
    unfold popH
    split
    · obtain ⟨l, h⟩ := pop_suffix (a :: st) p
      exact ⟨b :: l, by rw [List.cons_append, ← h]⟩
    · exact ⟨[], rfl⟩
theorem half_fold : ∀ (L : List Pt) (t : Pt) (st : List Pt), Desc (t :: st) → Conv (t :: st) → Asc (t :: L) →
    ∃ st', L.foldl pushH (t :: st) = (t :: L).getLast (by simp) :: st' ∧ Desc (L.foldl pushH (t :: st)) ∧ Conv (L.foldl pushH (t :: st)) ∧ (∀ q, Above (t :: st) q → Above (L.foldl pushH (t :: st)) q) ∧ (∀ q ∈ L, Above (L.foldl pushH (t :: st)) q) ∧
      (L.foldl pushH (t :: st)).getLast? = (t :: st).getLast? ∧ ∀ c ∈ L.foldl pushH (t :: st), c ∈ t :: st ∨ c ∈ L
  | [], t, st, hd, hc, _ => ⟨st, rfl, hd, hc, fun _ h => h, fun q h => absurd h (by simp), rfl, fun c h => Or.inl h⟩
  | p :: L, t, st, hd, hc, ha => by
    obtain ⟨d, c, e1, e2, ⟨l, e3⟩, e4⟩ := pop_spec t st p hd hc ha.1
    obtain ⟨st', i1, i2, i3, i4, i5, i6, i7⟩ := half_fold L p (popH (t :: st) p) d c ha.2
    simp only [List.foldl_cons]
    refine ⟨st', ?_, i2, i3, fun q h => i4 q (e2 q h), fun q h => ?_, ?_, fun c h => ?_⟩
    · rw [show pushH (t :: st) p = p :: popH (t :: st) p from rfl, i1]
      simp
    · rcases List.mem_cons.1 h with rfl | h
      · exact i4 _ (e1 _ ha.1.le (lexLe.refl _) (by rw [crs_self2]; exact Int.le_refl _))
      · exact i5 q h
    · rw [show pushH (t :: st) p = p :: popH (t :: st) p from rfl, i6]
      conv => rhs; rw [e3]
      cases hp : popH (t :: st) p with
      | nil => exact absurd hp e4
      | cons x xs =>
        simp only [List.getLast?_append, List.getLast?_cons_cons]
        cases hh : (x :: xs).getLast? with
        | none => simp at hh
        | some v => rfl
    · rcases i7 c h with h | h
      · rcases List.mem_cons.1 h with rfl | h
        · exact .inr (List.mem_cons_self ..)
        · left; rw [e3]; exact List.mem_append_right _ h
      · exact .inr (List.mem_cons_of_mem _ h)
theorem half_spec (f : Pt) (L : List Pt) (ha : Asc (f :: L)) :
    ∃ st, halfH (f :: L) = (f :: L).getLast (by simp) :: st ∧ Desc (halfH (f :: L)) ∧ Conv (halfH (f :: L)) ∧ (∀ q ∈ f :: L, Above (halfH (f :: L)) q) ∧ (halfH (f :: L)).getLast? = some f ∧ ∀ c ∈ halfH (f :: L), c ∈ f :: L := by
  have e : halfH (f :: L) = L.foldl pushH [f] := by simp [halfH, pushH, popH]
  obtain ⟨st', i1, i2, i3, i4, i5, i6, i7⟩ := half_fold L f [] trivial trivial ha
  rw [e]
  refine ⟨st', i1, i2, i3, fun q h => ?_, i6, fun c h => ?_⟩
  · rcases List.mem_cons.1 h with rfl | h
    · exact i4 _ rfl
    · exact i5 q h
  · rcases i7 c h with h | h
    · rw [List.mem_singleton] at h; subst h; exact List.mem_cons_self ..
    · exact List.mem_cons_of_mem _ h
def neg (p : Pt) : Pt := (-p.1, -p.2)
theorem neg_neg (p : Pt) : neg (neg p) = p := by unfold neg; simp
theorem crs_neg (a b c : Pt) : crs (neg a) (neg b) (neg c) = crs a b c := by unfold crs neg; grind
theorem lexLt_neg {a b : Pt} : lexLt (neg a) (neg b) ↔ lexLt b a := by unfold lexLt neg; simp only; omega
theorem lexLe_neg {a b : Pt} : lexLe (neg a) (neg b) ↔ lexLe b a := by unfold lexLe neg; simp only; omega
theorem pop_neg : ∀ (st : List Pt) (p : Pt), popH (st.map neg) (neg p) = (popH st p).map neg
  | [], _ => rfl
  | [t], _ => rfl
  | b :: a :: st, p => by
    have ih := pop_neg (a :: st) p
    simp only [List.map_cons] at ih ⊢
    unfold popH
    rw [crs_neg]
    split
    · exact ih
    · rfl
theorem fold_neg : ∀ (L st : List Pt), (L.map neg).foldl pushH (st.map neg) = (L.foldl pushH st).map neg
  | [], _ => rfl
  | p :: L, st => by
    simp only [List.map_cons, List.foldl_cons]
    rw [show pushH (st.map neg) (neg p) = (pushH st p).map neg from by unfold pushH; rw [pop_neg]; rfl]
    exact fold_neg L _
theorem half_neg (L : List Pt) : halfH (L.map neg) = (halfH L).map neg := fold_neg L []
/-- b follows a on the border of the points S. -/
def Nxt (S : List Pt) (a b : Pt) : Prop := b ∈ S ∧ b ≠ a ∧ ∀ q ∈ S, 0 ≤ crs a b q ∧ (crs a b q = 0 → btw a b q = true)
theorem lex_btw {a b q : Pt} (h : crs a b q = 0) (h1 : lexLe a q) (h2 : lexLe q b) : btw a b q = true := by
  by_cases hx : a.1 = b.1
  · rw [btw_iff]; unfold lexLe at h1 h2; omega
  · exact btw_x h hx (by unfold lexLe at h1 h2; omega) (by unfold lexLe at h1 h2; omega)
theorem btw_flip (a b q : Pt) : btw b a q = btw a b q := by
  rw [Bool.eq_iff_iff, btw_iff, btw_iff]; omega
theorem sq_cancel {n x y : Int} (hn : 0 < n) (h : n * n * x ≤ n * n * y) : x ≤ y := by
  have hnn := Int.mul_pos hn hn
  exact Int.le_of_mul_le_mul_left h hnn
theorem btw_sqd {a b q : Pt} (h : crs a b q = 0) (hb : btw a b q = true) : sqd a q ≤ sqd a b ∧ (sqd a q = sqd a b → q = b) := by
  obtain ⟨s, t, k1, k2, k3, k4, k5⟩ := on_seg h hb
  have e1 : (s + t) * (a.1 - q.1) = t * (a.1 - b.1) := by grind
  have e2 : (s + t) * (a.2 - q.2) = t * (a.2 - b.2) := by grind
  have e : (s + t) * (s + t) * sqd a q = t * t * sqd a b := by
    unfold sqd
    have f1 : (s + t) * (s + t) * ((a.1 - q.1) * (a.1 - q.1) + (a.2 - q.2) * (a.2 - q.2)) = ((s + t) * (a.1 - q.1)) * ((s + t) * (a.1 - q.1)) + ((s + t) * (a.2 - q.2)) * ((s + t) * (a.2 - q.2)) := by grind
    rw [f1, e1, e2]; grind
  have hsq : 0 ≤ sqd a b := by
    unfold sqd
    have z : ∀ x : Int, 0 ≤ x * x := fun x => by
      rcases Int.le_total 0 x with h | h
      · exact Int.mul_nonneg h h
      · exact Int.mul_nonneg_of_nonpos_of_nonpos h h
    have := z (a.1 - b.1); have := z (a.2 - b.2); omega
  have e3 : (s + t) * (s + t) * sqd a b = t * t * sqd a b + (s * s + 2 * (s * t)) * sqd a b := by grind
  have p1 := Int.mul_nonneg k1 k1
  have p2 := Int.mul_nonneg k1 k2
  have p3 := Int.mul_nonneg (show 0 ≤ s * s + 2 * (s * t) by omega) hsq
  refine ⟨sq_cancel k3 (by omega), fun heq => ?_⟩
  rw [heq] at e
  have z0 : (s * s + 2 * (s * t)) * sqd a b = 0 := by omega
  rcases Int.mul_eq_zero.1 z0 with z | z
  · have hs : s = 0 := by
      by_cases hs : s = 0
      · exact hs
      · have := Int.mul_pos (show 0 < s by omega) (show 0 < s by omega); omega
    subst hs
    have g1 : t * q.1 = t * b.1 := by grind
    have g2 : t * q.2 = t * b.2 := by grind
    have ht : t ≠ 0 := by omega
    have := Int.eq_of_mul_eq_mul_left ht g1
    have := Int.eq_of_mul_eq_mul_left ht g2
    exact Prod.ext ‹_› ‹_›
  · -- a = b, so q = a = b
    have zz : ∀ x : Int, 0 ≤ x * x := fun x => by
      rcases Int.le_total 0 x with h | h
      · exact Int.mul_nonneg h h
      · exact Int.mul_nonneg_of_nonpos_of_nonpos h h
    have z' : (a.1 - b.1) * (a.1 - b.1) + (a.2 - b.2) * (a.2 - b.2) = 0 := z
    have y1 := zz (a.1 - b.1)
    have y2 := zz (a.2 - b.2)
    have x1 : (a.1 - b.1) * (a.1 - b.1) = 0 := by omega
    have x2 : (a.2 - b.2) * (a.2 - b.2) = 0 := by omega
    have w1 : a.1 = b.1 := by rcases Int.mul_eq_zero.1 x1 with h | h <;> omega
    have w2 : a.2 = b.2 := by rcases Int.mul_eq_zero.1 x2 with h | h <;> omega
    rw [btw_iff] at hb
    exact Prod.ext (by omega) (by omega)
theorem nxt_lower {S st : List Pt} (hd : Desc st) (hc : Conv st) (hS : ∀ q ∈ S, Above st q) (hm : ∀ c ∈ st, c ∈ S) {a b : Pt} (h : Adj st a b) (hab : lexLt a b) : Nxt S a b := by
  refine ⟨hm b ?_, fun e => hab.ne e.symm, fun q hq => ?_⟩
  · obtain ⟨l1, l2, rfl⟩ := h; simp
  · obtain ⟨h1, h2⟩ := support st q hd hc (hS q hq) a b h
    exact ⟨h1, fun h0 => lex_btw h0 (h2 h0).1 (h2 h0).2⟩
theorem desc_adj : ∀ (st : List Pt) (a b : Pt), Desc st → Adj st a b → lexLt a b
  | [], a, b, _, h => by obtain ⟨l1, l2, h⟩ := h; simp at h
  | [t], a, b, _, h => by
    obtain ⟨l1, l2, h⟩ := h
    cases l1 <;> simp at h
  | t :: c :: st, a, b, hd, h => by
    rcases adj_cons h with ⟨rfl, rfl⟩ | h
    · exact hd.1
    · exact desc_adj (c :: st) a b hd.2 h
theorem adj_neg {st : List Pt} {a b : Pt} (h : Adj st a b) : Adj (st.map neg) (neg a) (neg b) := by
  obtain ⟨l1, l2, rfl⟩ := h
  exact ⟨l1.map neg, l2.map neg, by simp⟩
/-- A way from corner to corner that ends at e. -/
def Path (R : Pt → Pt → Prop) : List Pt → Pt → Prop
  | [], _ => True
  | [x], e => R x e
  | x :: y :: l, e => R x y ∧ Path R (y :: l) e
theorem path_rev {R : Pt → Pt → Prop} : ∀ (st : List Pt) (t : Pt) (L : List Pt) (e : Pt), (∀ a b, Adj (t :: st) a b → R a b) → Path R (t :: L) e → Path R (st.reverse ++ t :: L) e
  | [], _, _, _, _, h => h
  | c :: st, t, L, e, hA, h => by
    have h1 : R c t := hA c t ⟨[], st, rfl⟩
    have := path_rev st c (t :: L) e (fun a b hab => hA a b (by obtain ⟨l1, l2, h⟩ := hab; exact ⟨t :: l1, l2, by rw [h]; rfl⟩)) ⟨h1, h⟩
    simpa using this
theorem path_rev_end {R : Pt → Pt → Prop} (c : Pt) (st : List Pt) (t : Pt) (hA : ∀ a b, Adj (t :: c :: st) a b → R a b) : Path R ((c :: st).reverse) t := by
  have := path_rev (R := R) st c [] t (fun a b hab => hA a b (by obtain ⟨l1, l2, h⟩ := hab; exact ⟨t :: l1, l2, by rw [h]; rfl⟩)) (hA c t ⟨[], st, rfl⟩)
  simpa using this
/-- The point that the reference takes next. -/
def selN (h : Pt) (S : List Pt) : Pt := S.foldl (fun nx q => if q = h then nx else if nx = h ∨ crs h nx q < 0 ∨ (crs h nx q = 0 ∧ sqd h nx < sqd h q) then q else nx) h
theorem crs_swap23 (a b c : Pt) : crs a c b = - crs a b c := by unfold crs; grind
theorem selN_fold {S : List Pt} {a b : Pt} (h : Nxt S a b) : ∀ (L : List Pt) (nx : Pt), (∀ q ∈ L, q ∈ S) → (nx = a ∨ nx ∈ S) → (nx = b ∨ b ∈ L) →
    L.foldl (fun nx q => if q = a then nx else if nx = a ∨ crs a nx q < 0 ∨ (crs a nx q = 0 ∧ sqd a nx < sqd a q) then q else nx) nx = b
  | [], nx, _, _, h3 => by
    rcases h3 with h3 | h3
    · exact h3
    · cases h3
  | q :: L, nx, h1, h2, h3 => by
    simp only [List.foldl_cons]
    have hqS := h1 q (List.mem_cons_self ..)
    have hL : ∀ x ∈ L, x ∈ S := fun x hx => h1 x (List.mem_cons_of_mem _ hx)
    by_cases hqa : q = a
    · rw [if_pos hqa]
      refine selN_fold h L nx hL h2 ?_
      rcases h3 with h3 | h3
      · exact .inl h3
      · rcases List.mem_cons.1 h3 with h3 | h3
        · exact absurd (h3.trans hqa) h.2.1
        · exact .inr h3
    · rw [if_neg hqa]
      by_cases hnb : nx = b
      · subst hnb
        have hq := h.2.2 q hqS
        rw [if_neg]
        · exact selN_fold h L nx hL h2 (.inl rfl)
        · rintro (e | e | ⟨e1, e2⟩)
          · exact h.2.1 e
          · omega
          · have := (btw_sqd e1 (hq.2 e1)).1; omega
      · have hb : b ∈ q :: L := h3.resolve_left hnb
        by_cases hqb : q = b
        · subst hqb
          rw [if_pos]
          · exact selN_fold h L q hL (.inr hqS) (.inl rfl)
          · rcases h2 with h2 | h2
            · exact .inl h2
            · have hq := h.2.2 nx h2
              rw [crs_swap23]
              by_cases e : crs a q nx = 0
              · have := btw_sqd e (hq.2 e)
                right; right
                refine ⟨by omega, ?_⟩
                rcases Int.lt_or_eq_of_le this.1 with hl | hl
                · exact hl
                · exact absurd (this.2 hl) hnb
              · right; left; omega
        · have hbL : b ∈ L := by
            rcases List.mem_cons.1 hb with h | h
            · exact absurd h.symm hqb
            · exact h
          split
          · exact selN_fold h L q hL (.inr hqS) (.inr hbL)
          · exact selN_fold h L nx hL h2 (.inr hbL)
theorem selN_eq {S : List Pt} {a b : Pt} (h : Nxt S a b) : selN a S = b := selN_fold h S a (fun _ h => h) (.inl rfl) (.inr h.1)
def gift (first : Pt) (S : List Pt) : Nat → Pt → List Pt → List Pt
  | 0, _, out => out
  | n + 1, x, out => if selN x S = first ∨ selN x S = x ∨ 16 < (out ++ [x]).length then out ++ [x] else gift first S n (selN x S) (out ++ [x])
theorem gift_path {S : List Pt} {f : Pt} : ∀ (L : List Pt) (x : Pt) (out : List Pt) (n : Nat), Path (Nxt S) (x :: L) f → f ∉ L → (out ++ x :: L).length ≤ 16 → L.length < n → gift f S n x out = out ++ x :: L
  | [], x, out, n, hp, _, _, hn => by
    cases n with
    | zero => omega
    | succ n =>
      unfold gift
      rw [if_pos (.inl (selN_eq hp))]
  | y :: L, x, out, n, hp, hf, hl, hn => by
    cases n with
    | zero => simp at hn
    | succ n =>
      unfold gift
      have hs := selN_eq hp.1
      rw [hs, if_neg]
      · rw [gift_path L y (out ++ [x]) n hp.2 (fun h => hf (List.mem_cons_of_mem _ h)) (by simpa using hl) (by simp at hn; omega)]
        simp
      · rintro (e | e | e)
        · exact hf (by rw [← e]; exact List.mem_cons_self ..)
        · exact hp.1.2.1 e
        · simp at hl e; omega
theorem asc_append {a b : Pt} : ∀ (l : List Pt), Asc (a :: l) → (∀ h : l ≠ [], lexLt (l.getLast h) b) → (l = [] → lexLt a b) → Asc (a :: (l ++ [b]))
  | [], _, _, h => ⟨h rfl, trivial⟩
  | c :: l, ha, h1, _ => by
    refine ⟨ha.1, asc_append l ha.2 (fun h => ?_) (fun h => ?_)⟩
    · have := h1 (by simp); rw [List.getLast_cons h] at this; exact this
    · subst h; exact h1 (by simp)
theorem asc_neg_rev : ∀ (P : List Pt), Asc P → Asc (P.reverse.map neg)
  | [], _ => trivial
  | [a], _ => trivial
  | a :: b :: l, h => by
    have ih := asc_neg_rev (b :: l) h.2
    rw [List.reverse_cons, List.map_append, List.map_cons, List.map_nil]
    cases hr : (b :: l).reverse.map neg with
    | nil => simp at hr
    | cons x xs =>
      rw [hr] at ih
      have hlast : (x :: xs).getLast (by simp) = neg b := by
        have : ((b :: l).reverse.map neg).getLast (by simp) = neg b := by simp
        rw [← this]; congr 1; exact hr.symm
      refine asc_append xs ih (fun hne => ?_) (fun he => ?_)
      · rw [List.getLast_cons hne] at hlast
        rw [hlast]; exact lexLt_neg.2 h.1
      · subst he
        simp only [List.getLast_singleton] at hlast
        rw [hlast]; exact lexLt_neg.2 h.1
theorem asc_all : ∀ (l : List Pt) (a : Pt), Asc (a :: l) → ∀ q ∈ l, lexLt a q
  | [], _, _, q, h => by cases h
  | b :: l, a, h, q, hq => by
    rcases List.mem_cons.1 hq with rfl | hq
    · exact h.1
    · exact lexLt_of_lt h.1 (asc_all l b h.2 q hq).le
theorem asc_nodup : ∀ (P : List Pt), Asc P → P.Nodup
  | [], _ => List.nodup_nil
  | a :: l, h => List.nodup_cons.2 ⟨fun hm => (asc_all l a h a hm).ne rfl, asc_nodup l (by cases l with | nil => trivial | cons b l => exact h.2)⟩
theorem desc_all : ∀ (l : List Pt) (a : Pt), Desc (a :: l) → ∀ q ∈ l, lexLt q a
  | [], _, _, q, h => by cases h
  | b :: l, a, h, q, hq => by
    rcases List.mem_cons.1 hq with rfl | hq
    · exact h.1
    · exact lexLt_of_lt (desc_all l b h.2 q hq) h.1.le
theorem desc_nodup : ∀ (P : List Pt), Desc P → P.Nodup
  | [], _ => List.nodup_nil
  | a :: l, h => List.nodup_cons.2 ⟨fun hm => (desc_all l a h a hm).ne rfl, desc_nodup l h.tail⟩
theorem nodup_rev {l : List Pt} (h : l.Nodup) : l.reverse.Nodup := by
  unfold List.Nodup at *
  rw [List.pairwise_reverse]
  exact h.imp (fun h e => h e.symm)
theorem nodup_len : ∀ (l m : List Pt), l.Nodup → (∀ x ∈ l, x ∈ m) → l.length ≤ m.length
  | [], _, _, _ => Nat.zero_le _
  | a :: l, m, hn, hs => by
    obtain ⟨h1, h2⟩ := List.nodup_cons.1 hn
    obtain ⟨m1, m2, rfl⟩ := List.append_of_mem (hs a (List.mem_cons_self ..))
    have := nodup_len l (m1 ++ m2) h2 (fun x hx => by
      have := hs x (List.mem_cons_of_mem _ hx)
      rcases List.mem_append.1 this with h | h
      · exact List.mem_append_left _ h
      · rcases List.mem_cons.1 h with rfl | h
        · exact absurd hx h1
        · exact List.mem_append_right _ h)
    simp at this ⊢; omega
/-- Inner corners of a chain lie strictly on its right-hand side. -/
theorem chain_side {t f : Pt} {st : List Pt} (hd : Desc (t :: st)) (hc : Conv (t :: st)) (hf : Above (t :: st) f) (ht : Above (t :: st) t) {c : Pt} (hcm : c ∈ st) (hfc : lexLt f c) : 0 < crs f c t := by
  have hct : lexLt c t := desc_all st t hd c hcm
  obtain ⟨l1, l2, hl⟩ := List.append_of_mem hcm
  have hadj : ∃ d, Adj (t :: st) c d := by
    cases hl1 : l1.reverse with
    | nil =>
      have : l1 = [] := by simpa using hl1
      subst this
      exact ⟨t, [], l2, by rw [hl]; rfl⟩
    | cons d l =>
      have : l1 = l.reverse ++ [d] := by rw [← List.reverse_reverse l1, hl1]; simp
      exact ⟨d, t :: l.reverse, l2, by rw [hl, this]; simp⟩
  obtain ⟨d, hadj⟩ := hadj
  have hcd := desc_adj _ _ _ hd hadj
  obtain ⟨s1, s2⟩ := support _ f hd hc hf c d hadj
  obtain ⟨s3, s4⟩ := support _ t hd hc ht c d hadj
  have p1 : 0 < crs c d f := by
    rcases Int.lt_or_eq_of_le s1 with h | h
    · exact h
    · have := (s2 h.symm).1
      exact absurd rfl (lexLt_of_lt hfc this).ne
  have t1 : crs c d f = vx (sub c f) (sub d c) := by unfold crs vx sub; grind
  have t2 : crs c d t = vx (sub d c) (sub t c) := by unfold crs vx sub; grind
  have t3 : crs f c t = vx (sub c f) (sub t c) := by unfold crs vx sub; grind
  rw [t3]
  exact tr1 (sub_pos hfc).nn (sub_pos hcd) (sub_pos hct) (by omega) (by omega)
/-- The corners of the hull of sorted different points. -/
def hullH (P : List Pt) : List Pt := (halfH P).tail.reverse ++ (halfH P.reverse).tail.reverse
theorem last_lt {f : Pt} {L : List Pt} (ha : Asc (f :: L)) (hL : L ≠ []) : lexLt f ((f :: L).getLast (by simp)) := by
  rw [List.getLast_cons hL]; exact asc_all L f ha _ (List.getLast_mem hL)
theorem upper_spec (f : Pt) (L : List Pt) (ha : Asc (f :: L)) :
    ∃ st, halfH (f :: L).reverse = f :: st ∧ Desc ((f :: st).map neg) ∧ Conv ((f :: st).map neg) ∧ (∀ q ∈ f :: L, Above ((f :: st).map neg) (neg q)) ∧ (f :: st).getLast? = some ((f :: L).getLast (by simp)) ∧ ∀ c ∈ f :: st, c ∈ f :: L := by
  have hasc := asc_neg_rev (f :: L) ha
  cases hr : (f :: L).reverse.map neg with
  | nil => simp at hr
  | cons g M =>
    rw [hr] at hasc
    obtain ⟨st, i1, i2, i3, i4, i5, i6⟩ := half_spec g M hasc
    have e : halfH (g :: M) = (halfH (f :: L).reverse).map neg := by rw [← hr, half_neg]
    rw [e] at i1 i2 i3 i4 i5 i6
    have hg : g = neg ((f :: L).getLast (by simp)) := by
      have : ((f :: L).reverse.map neg).head? = some g := by rw [hr]; rfl
      simp only [List.head?_map, List.head?_reverse] at this
      rw [List.getLast?_eq_some_getLast (by simp)] at this
      simpa using this.symm
    have hlast : (g :: M).getLast (by simp) = neg f := by
      have : ((f :: L).reverse.map neg).getLast (by simp) = neg f := by simp
      rw [← this]; congr 1; exact hr.symm
    cases hh : halfH (f :: L).reverse with
    | nil => rw [hh] at i1; simp at i1
    | cons x st' =>
      rw [hh] at i1 i2 i3 i4 i5 i6
      have hx : x = f := by
        rw [List.map_cons] at i1
        injection i1 with i1 _
        rw [hlast] at i1
        rw [← neg_neg x, i1, neg_neg]
      subst hx
      refine ⟨st', rfl, i2, i3, fun q hq => i4 (neg q) ?_, ?_, fun c hc => ?_⟩
      · rw [← hr]; exact List.mem_map_of_mem (List.mem_reverse.2 hq)
      · rw [List.getLast?_map, hg] at i5
        cases hgl : (x :: st').getLast? with
        | none => rw [hgl] at i5; simp at i5
        | some v =>
          rw [hgl] at i5
          simp only [Option.map_some, Option.some.injEq] at i5
          rw [← neg_neg v, i5, neg_neg]
      · have := i6 (neg c) (List.mem_map_of_mem hc)
        rw [← hr] at this
        obtain ⟨y, hy, hy2⟩ := List.mem_map.1 this
        have : c = y := by rw [← neg_neg c, ← hy2, neg_neg]
        rw [this]; exact List.mem_reverse.1 hy
theorem nxt_upper {S st : List Pt} (hd : Desc (st.map neg)) (hc : Conv (st.map neg)) (hS : ∀ q ∈ S, Above (st.map neg) (neg q)) (hm : ∀ c ∈ st, c ∈ S) {a b : Pt} (h : Adj st a b) : Nxt S a b := by
  have hadj := adj_neg h
  have hlt := lexLt_neg.1 (desc_adj _ _ _ hd hadj)
  refine ⟨hm b ?_, fun e => hlt.ne e, fun q hq => ?_⟩
  · obtain ⟨l1, l2, rfl⟩ := h; simp
  · obtain ⟨h1, h2⟩ := support _ (neg q) hd hc (hS q hq) _ _ hadj
    rw [crs_neg] at h1 h2
    refine ⟨h1, fun h0 => ?_⟩
    have h3 := h2 h0
    rw [lexLe_neg, lexLe_neg] at h3
    rw [← btw_flip]
    exact lex_btw (by rw [crs_flip]; omega) h3.2 h3.1
/-- The corners go round the points, begin with the first point, and differ. -/
theorem hull_path (f : Pt) (L : List Pt) (ha : Asc (f :: L)) (hL : L ≠ []) :
    ∃ R, hullH (f :: L) = f :: R ∧ Path (Nxt (f :: L)) (f :: R) f ∧ (f :: R).Nodup ∧ (∀ c ∈ f :: R, c ∈ f :: L) ∧ (f :: R).length + 2 = (halfH (f :: L)).length + (halfH (f :: L).reverse).length := by
  obtain ⟨sl, l1, l2, l3, l4, l5, l6⟩ := half_spec f L ha
  obtain ⟨su, u1, u2, u3, u4, u5, u6⟩ := upper_spec f L ha
  generalize hl : (f :: L).getLast (by simp) = l at *
  have hfl : lexLt f l := by rw [← hl]; exact last_lt ha hL
  rw [l1] at l2 l3 l4 l5 l6
  -- both chains have more than one corner
  cases sl with
  | nil => simp at l5; exact absurd l5 (fun e => hfl.ne e.symm)
  | cons c sl =>
    cases su with
    | nil => simp at u5; exact absurd u5 hfl.ne
    | cons d su =>
      have hlS : l ∈ f :: L := l6 l (List.mem_cons_self ..)
      have hfS : f ∈ f :: L := List.mem_cons_self ..
      have hlo : ∀ a b, Adj (l :: c :: sl) a b → Nxt (f :: L) a b := fun a b h => nxt_lower l2 l3 l4 l6 h (desc_adj _ _ _ l2 h)
      have hup : ∀ a b, Adj (f :: d :: su) a b → Nxt (f :: L) a b := fun a b h => nxt_upper u2 u3 u4 u6 h
      have p1 := path_rev_end (R := Nxt (f :: L)) d su f hup
      -- the upper chain begins with l
      have hul : ∃ M, (d :: su).reverse = l :: M := by
        have : (d :: su).reverse.head? = some l := by
          rw [List.head?_reverse]; rw [List.getLast?_cons_cons] at u5; exact u5
        cases hh : (d :: su).reverse with
        | nil => simp at hh
        | cons x M => rw [hh] at this; simp at this; exact ⟨M, by rw [this]⟩
      obtain ⟨M, hM⟩ := hul
      rw [hM] at p1
      have p2 := path_rev (c :: sl) l M f hlo p1
      have hlf : ∃ R, (c :: sl).reverse = f :: R := by
        have : (c :: sl).reverse.head? = some f := by
          rw [List.head?_reverse]; rw [List.getLast?_cons_cons] at l5; exact l5
        cases hh : (c :: sl).reverse with
        | nil => simp at hh
        | cons x M => rw [hh] at this; simp at this; exact ⟨M, by rw [this]⟩
      obtain ⟨R, hR⟩ := hlf
      have hH : hullH (f :: L) = f :: (R ++ l :: M) := by
        unfold hullH
        rw [l1, u1]
        simp only [List.tail_cons]
        rw [hR, hM]; rfl
      rw [hR] at p2
      have nd1 : (c :: sl).Nodup := desc_nodup _ l2.tail
      have nd2 : (d :: su).Nodup := by
        have h0 := desc_nodup _ u2
        have : ((d :: su).map neg).Nodup := (List.nodup_cons.1 h0).2
        exact List.Pairwise.imp (fun {a b} h e => h (by rw [e])) (List.pairwise_map.1 this)
      have hmem1 : ∀ x, x ∈ f :: R ↔ x ∈ c :: sl := fun x => by rw [← hR, List.mem_reverse]
      have hmem2 : ∀ x, x ∈ l :: M ↔ x ∈ d :: su := fun x => by rw [← hM, List.mem_reverse]
      refine ⟨R ++ l :: M, hH, p2, ?_, fun x hx => ?_, ?_⟩
      · rw [← List.cons_append, ← hR, ← hM]
        rw [List.nodup_append]
        refine ⟨nodup_rev nd1, nodup_rev nd2, fun x hx y hy e => ?_⟩
        subst e
        rw [List.mem_reverse] at hx hy
        have hxl : lexLt x l := desc_all _ _ l2 x hx
        have hxf : lexLt f x := by
          have := desc_all _ _ u2 (neg x) (List.mem_map_of_mem hy)
          exact lexLt_neg.1 this
        have s1 := chain_side l2 l3 (l4 f hfS) (l4 l hlS) hx hxf
        have s2 := chain_side (f := neg l) (c := neg x) (t := neg f) (st := (d :: su).map neg) u2 u3 (u4 l hlS) (u4 f hfS) (List.mem_map_of_mem hy) (lexLt_neg.2 hxl)
        rw [crs_neg] at s2
        have : crs l x f = - crs f x l := by unfold crs; grind
        omega
      · rw [← List.cons_append] at hx
        rcases List.mem_append.1 hx with h | h
        · exact l6 x (List.mem_cons_of_mem _ ((hmem1 x).1 h))
        · exact u6 x (List.mem_cons_of_mem _ ((hmem2 x).1 h))
      · have e1 : (c :: sl).length = (f :: R).length := by rw [← hR, List.length_reverse]
        have e2 : (d :: su).length = (l :: M).length := by rw [← hM, List.length_reverse]
        rw [l1, u1]
        simp only [List.length_cons, List.length_append] at *
        omega
/-- The reference's hull is the program's. -/
theorem gift_hull (f : Pt) (L : List Pt) (ha : Asc (f :: L)) (hL : L ≠ []) (S : List Pt) (hS : ∀ x, x ∈ S ↔ x ∈ f :: L) (hlen : (f :: L).length ≤ 16) (n : Nat) (hn : 16 < n) :
    gift f S n f [] = hullH (f :: L) := by
  obtain ⟨R, h1, h2, h3, h4, h5⟩ := hull_path f L ha hL
  have hle := nodup_len _ _ h3 h4
  have hpath : ∀ (M : List Pt) (x : Pt), Path (Nxt (f :: L)) (x :: M) f → Path (Nxt S) (x :: M) f := by
    have hn : ∀ a b, Nxt (f :: L) a b → Nxt S a b := fun a b h => ⟨(hS b).2 h.1, h.2.1, fun q hq => h.2.2 q ((hS q).1 hq)⟩
    intro M
    induction M with
    | nil => intro x h; exact hn _ _ h
    | cons y M ih => intro x h; exact ⟨hn _ _ h.1, ih y h.2⟩
  have hf : f ∉ R := (List.nodup_cons.1 h3).1
  rw [gift_path R f [] n (hpath R f h2) hf (by rw [List.nil_append]; omega) (by simp at hle hlen ⊢; omega), h1]
  rfl
theorem path_adj {R : Pt → Pt → Prop} : ∀ (H : List Pt) (e : Pt), Path R H e → ∀ i, i < H.length → R (nth H i) (if i + 1 < H.length then nth H (i + 1) else e)
  | [], _, _, i, h => by simp at h
  | [x], e, h, i, hi => by
    have : i = 0 := by simpa using hi
    subst this
    rw [if_neg (by simp)]; exact h
  | x :: y :: l, e, h, i, hi => by
    cases i with
    | zero => rw [if_pos (by simp)]; exact h.1
    | succ i =>
      have := path_adj (y :: l) e h.2 i (by simpa using hi)
      by_cases h2 : i + 1 < (y :: l).length
      · rw [if_pos h2] at this; rw [if_pos (by simpa using h2)]; exact this
      · rw [if_neg h2] at this; rw [if_neg (by simpa using h2)]; exact this
theorem path_nx {R : Pt → Pt → Prop} {f : Pt} {L : List Pt} (h : Path R (f :: L) f) {i : Nat} (hi : i < (f :: L).length) : R (nth (f :: L) i) (nth (f :: L) (nx (f :: L) i)) := by
  have := path_adj (f :: L) f h i hi
  by_cases h2 : i + 1 < (f :: L).length
  · rw [if_pos h2] at this
    unfold nx; rw [Nat.mod_eq_of_lt h2]; exact this
  · rw [if_neg h2] at this
    have e : nx (f :: L) i = 0 := by unfold nx; rw [show i + 1 = (f :: L).length by omega, Nat.mod_self]
    rw [e]; exact this
/-- A border that goes round points which contain its corners is strictly convex. -/
theorem nxt_strict {S : List Pt} {ps : List Pt} (hN : ∀ i, i < ps.length → Nxt S (nth ps i) (nth ps (nx ps i))) (hS : ∀ c ∈ ps, c ∈ S) (hnd : ps.Nodup) : Strict ps := by
  intro i hi n hn h1 h2
  have hq := (hN i hi).2.2 (nth ps n) (hS _ (nth_mem hn))
  have inj : ∀ {a b : Nat}, a < ps.length → b < ps.length → nth ps a = nth ps b → a = b := by
    intro a b ha hb h
    rw [nth_eq ha, nth_eq hb] at h
    have hp := List.pairwise_iff_getElem.1 hnd
    rcases Nat.lt_trichotomy a b with hab | hab | hab
    · exact absurd h (hp a b ha hb hab)
    · exact hab
    · exact absurd h.symm (hp b a hb ha hab)
  rcases Int.lt_or_eq_of_le hq.1 with h | h
  · exact h
  · exfalso
    have hb := hq.2 h.symm
    have hqa : nth ps n ≠ nth ps i := fun e => h1 (inj hn hi e)
    have hqb : nth ps n ≠ nth ps (nx ps i) := fun e => h2 (inj hn (nx_lt hi) e)
    obtain ⟨s, t, k1, k2, k3, k4, k5⟩ := on_seg h.symm hb
    -- the corner behind n
    have hm := (hN n hn)
    generalize ea : nth ps i = a at *
    generalize eb : nth ps (nx ps i) = b at *
    generalize eq : nth ps n = q at *
    generalize er : nth ps (nx ps n) = r at *
    have haS : a ∈ S := by rw [← ea]; exact hS _ (nth_mem hi)
    have hbS : b ∈ S := by rw [← eb]; exact hS _ (nth_mem (nx_lt hi))
    have A := hm.2.2 a haS
    have B := hm.2.2 b hbS
    have hs : 0 < s := by
      rcases Int.lt_or_eq_of_le k1 with h | h
      · exact h
      · exfalso; apply hqb
        subst h
        have g1 : t * b.1 = t * q.1 := by grind
        have g2 : t * b.2 = t * q.2 := by grind
        have ht : t ≠ 0 := by omega
        exact Prod.ext (Int.eq_of_mul_eq_mul_left ht g1).symm (Int.eq_of_mul_eq_mul_left ht g2).symm
    have ht : 0 < t := by
      rcases Int.lt_or_eq_of_le k2 with h | h
      · exact h
      · exfalso; apply hqa
        subst h
        have g1 : s * a.1 = s * q.1 := by grind
        have g2 : s * a.2 = s * q.2 := by grind
        have ht : s ≠ 0 := by omega
        exact Prod.ext (Int.eq_of_mul_eq_mul_left ht g1).symm (Int.eq_of_mul_eq_mul_left ht g2).symm
    have e : s * crs q r a + t * crs q r b = 0 := by
      have : s * crs q r a + t * crs q r b = (r.1 - q.1) * ((s * a.2 + t * b.2) - (s + t) * q.2) - (r.2 - q.2) * ((s * a.1 + t * b.1) - (s + t) * q.1) := by unfold crs; grind
      rw [this, k4, k5]; grind
    have zA : crs q r a = 0 := by
      rcases Int.lt_or_eq_of_le A.1 with h | h
      · have := Int.mul_pos hs h; have := Int.mul_nonneg k2 B.1; omega
      · exact h.symm
    have zB : crs q r b = 0 := by
      rcases Int.lt_or_eq_of_le B.1 with h | h
      · have := Int.mul_pos ht h; have := Int.mul_nonneg k1 A.1; omega
      · exact h.symm
    have bA := A.2 zA
    have bB := B.2 zB
    rw [btw_iff] at bA bB
    have e1 : s * (a.1 - q.1) + t * (b.1 - q.1) = 0 := by grind
    have e2 : s * (a.2 - q.2) + t * (b.2 - q.2) = 0 := by grind
    have key : ∀ {x y : Int}, s * x + t * y = 0 → (0 ≤ x ∧ 0 ≤ y) ∨ (x ≤ 0 ∧ y ≤ 0) → x = 0 ∧ y = 0 := by
      intro x y h hxy
      rcases hxy with ⟨hx, hy⟩ | ⟨hx, hy⟩
      · have p := Int.mul_nonneg k1 hx
        have p' := Int.mul_nonneg k2 hy
        constructor
        · rcases Int.lt_or_eq_of_le hx with h | h
          · have := Int.mul_pos hs h; omega
          · exact h.symm
        · rcases Int.lt_or_eq_of_le hy with h | h
          · have := Int.mul_pos ht h; omega
          · exact h.symm
      · have p := Int.mul_nonneg k1 (show 0 ≤ -x by omega)
        have p' := Int.mul_nonneg k2 (show 0 ≤ -y by omega)
        rw [Int.mul_neg] at p p'
        constructor
        · rcases Int.lt_or_eq_of_le hx with h | h
          · have := Int.mul_pos hs (show 0 < -x by omega); rw [Int.mul_neg] at this; omega
          · exact h
        · rcases Int.lt_or_eq_of_le hy with h | h
          · have := Int.mul_pos ht (show 0 < -y by omega); rw [Int.mul_neg] at this; omega
          · exact h
    have c1 := key e1 (by omega)
    have c2 := key e2 (by omega)
    exact hqa (Prod.ext (by omega) (by omega))
theorem asc_tail {a : Pt} {l : List Pt} (h : Asc (a :: l)) : Asc l := by cases l with | nil => trivial | cons b l => exact h.2
/-- The hull of different sorted points: strictly convex, and all points are inside. -/
theorem hull_strict (f : Pt) (L : List Pt) (ha : Asc (f :: L)) (hL : L ≠ []) : Strict (hullH (f :: L)) ∧ ∀ q ∈ f :: L, insP (hullH (f :: L)) q := by
  obtain ⟨R, h1, h2, h3, h4, h5⟩ := hull_path f L ha hL
  rw [h1]
  have hN : ∀ i, i < (f :: R).length → Nxt (f :: L) (nth (f :: R) i) (nth (f :: R) (nx (f :: R) i)) := fun i hi => path_nx h2 hi
  exact ⟨nxt_strict hN h4 h3, fun q hq i hi => ((hN i hi).2.2 q hq).1⟩
/-! The hull of more points has no smaller area. -/
theorem argmin (f : Nat → Int) : ∀ n, 0 < n → ∃ i, i < n ∧ ∀ j, j < n → f i ≤ f j
  | 0, h => by omega
  | 1, _ => ⟨0, by omega, fun j hj => by rw [show j = 0 by omega]; exact Int.le_refl _⟩
  | n + 2, _ => by
    obtain ⟨i, hi, hm⟩ := argmin f (n + 1) (by omega)
    by_cases h : f i ≤ f (n + 1)
    · exact ⟨i, by omega, fun j hj => by
        by_cases e : j = n + 1
        · rw [e]; exact h
        · exact hm j (by omega)⟩
    · exact ⟨n + 1, by omega, fun j hj => by
        by_cases e : j = n + 1
        · rw [e]; exact Int.le_refl _
        · have := hm j (by omega); omega⟩
theorem cone_id (a b h u v : Pt) : crs h u v * crs a b h = -(crs h a v * (crs a b u - crs a b h) + crs h u a * (crs a b v - crs a b h)) := by unfold crs; grind
theorem col3 {a b x y z : Pt} (hn : a ≠ b) (hx : crs a b x = 0) (hy : crs a b y = 0) (hz : crs a b z = 0) : crs x y z = 0 := by
  have e1 : (b.1 - a.1) * crs x y z = (z.1 - x.1) * (crs a b x - crs a b y) + (y.1 - x.1) * (crs a b z - crs a b x) := by unfold crs; grind
  have e2 : (b.2 - a.2) * crs x y z = (z.2 - x.2) * (crs a b x - crs a b y) + (y.2 - x.2) * (crs a b z - crs a b x) := by unfold crs; grind
  rw [hx, hy, hz] at e1 e2
  have e1 := Int.mul_eq_zero.1 (e1.trans (by simp))
  have e2 := Int.mul_eq_zero.1 (e2.trans (by simp))
  rcases e1 with e1 | e1
  · rcases e2 with e2 | e2
    · exact absurd (Prod.ext (by omega) (by omega)) hn
    · exact e2
  · exact e1
theorem line_x {a b x : Pt} (hn : a ≠ b) (h : crs a b x = 0) (hb : btw a b x = true) (e : (a.1 ≠ b.1 ∧ x.1 = a.1) ∨ (a.1 = b.1 ∧ x.2 = a.2)) : x = a := by
  obtain ⟨b1, b2, b3, b4⟩ := btw_iff.1 hb
  rcases e with ⟨h1, e⟩ | ⟨h1, e⟩
  · unfold crs at h
    rw [e] at h
    have h := Int.mul_eq_zero.1 (show (b.1 - a.1) * (x.2 - a.2) = 0 by rw [Int.sub_self, Int.mul_zero] at h; omega)
    rcases h with h | h
    · omega
    · exact Prod.ext e (by omega)
  · exact Prod.ext (by omega) e
/-- On the line of a and b, with all of the segment ahead of a, no point of a segment other than its ends is a. -/
theorem on_seg2 {a b x y : Pt} (hn : a ≠ b) (hx : crs a b x = 0) (hbx : btw a b x = true) (hy : crs a b y = 0) (hby : btw a b y = true) (hb : btw x y a = true) : a = x ∨ a = y := by
  obtain ⟨x1, x2, x3, x4⟩ := btw_iff.1 hbx
  obtain ⟨y1, y2, y3, y4⟩ := btw_iff.1 hby
  obtain ⟨z1, z2, z3, z4⟩ := btw_iff.1 hb
  by_cases h1 : a.1 = b.1
  · have : x.2 = a.2 ∨ y.2 = a.2 := by omega
    rcases this with e | e
    · exact .inl (line_x hn hx hbx (.inr ⟨h1, e⟩)).symm
    · exact .inr (line_x hn hy hby (.inr ⟨h1, e⟩)).symm
  · have : x.1 = a.1 ∨ y.1 = a.1 := by omega
    rcases this with e | e
    · exact .inl (line_x hn hx hbx (.inl ⟨h1, e⟩)).symm
    · exact .inr (line_x hn hy hby (.inl ⟨h1, e⟩)).symm
/-- y is on the line of a and b, if x and a are, and are not the same. -/
theorem line_y {a b x y : Pt} (hxa : a ≠ x) (hx : crs a b x = 0) (h : crs x y a = 0) : crs a b y = 0 := by
  have e1 : (x.1 - a.1) * crs a b y = (y.1 - a.1) * crs a b x + (b.1 - a.1) * crs x y a := by unfold crs; grind
  have e2 : (x.2 - a.2) * crs a b y = (y.2 - a.2) * crs a b x + (b.2 - a.2) * crs x y a := by unfold crs; grind
  rw [hx, h] at e1 e2
  have e1 := Int.mul_eq_zero.1 (e1.trans (by simp))
  have e2 := Int.mul_eq_zero.1 (e2.trans (by simp))
  rcases e1 with e1 | e1
  · rcases e2 with e2 | e2
    · exact absurd (Prod.ext (by omega) (by omega)) hxa
    · exact e2
  · exact e1
structure Ring (S H : List Pt) : Prop where
  nxt : ∀ i, i < H.length → Nxt S (nth H i) (nth H (nx H i))
  mem : ∀ c ∈ H, c ∈ S
  nodup : H.Nodup
  three : 3 ≤ H.length
theorem mul_z {x y : Int} (hx : 0 ≤ x) (hy : 0 ≤ y) : 0 ≤ x * y := Int.mul_nonneg hx hy
/-- A point with a next one is a corner. -/
theorem corner_of {S H : List Pt} (h : Ring S H) {a b : Pt} (ha : a ∈ S) (hN : Nxt S a b) : a ∈ H := by
  have hst := nxt_strict h.nxt h.mem h.nodup
  have h3 := h.three
  obtain ⟨m, hm, hmin⟩ := argmin (fun i => crs a b (nth H i)) H.length (by omega)
  obtain ⟨j, hj, hjm⟩ := nx_onto hm
  have hne : j ≠ m := fun e => by
    rw [e] at hjm
    unfold nx at hjm
    by_cases h1 : m + 1 < H.length
    · rw [Nat.mod_eq_of_lt h1] at hjm; omega
    · rw [show m + 1 = H.length by omega, Nat.mod_self] at hjm; omega
  have hne2 : j ≠ nx H m := fun e => by
    rw [e] at hjm
    unfold nx at hjm
    by_cases h1 : m + 1 < H.length
    · rw [Nat.mod_eq_of_lt h1] at hjm
      by_cases h2 : m + 1 + 1 < H.length
      · rw [Nat.mod_eq_of_lt h2] at hjm; omega
      · rw [show m + 1 + 1 = H.length by omega, Nat.mod_self] at hjm; omega
    · rw [show m + 1 = H.length by omega, Nat.mod_self, Nat.mod_eq_of_lt (by omega)] at hjm; omega
  have huv := hst m hm j hj hne hne2
  have n1 := h.nxt m hm
  have n2 := h.nxt j hj
  rw [hjm] at n2
  have g1 := hmin (nx H m) (nx_lt hm)
  have g2 := hmin j hj
  have p0 := hN.2.2 (nth H m) (h.mem _ (nth_mem hm))
  have pu := hN.2.2 (nth H (nx H m)) (h.mem _ (nth_mem (nx_lt hm)))
  have pv := hN.2.2 (nth H j) (h.mem _ (nth_mem hj))
  have c1 := n1.2.2 a ha
  have c2 := n2.2.2 a ha
  have hmm : nth H m ∈ H := nth_mem hm
  have hmu : nth H (nx H m) ∈ H := nth_mem (nx_lt hm)
  have hmv : nth H j ∈ H := nth_mem hj
  generalize nth H m = x at *
  generalize nth H (nx H m) = u at *
  generalize nth H j = v at *
  have hid := cone_id a b x u v
  have er : crs x a v = crs v x a := crs_rot v x a
  rw [er] at hid
  have q1 := mul_z c2.1 (show 0 ≤ crs a b u - crs a b x by omega)
  have q2 := mul_z c1.1 (show 0 ≤ crs a b v - crs a b x by omega)
  have q3 := mul_z (Int.le_of_lt huv) p0.1
  have z0 : crs x u v * crs a b x = 0 := by omega
  have z1 : crs v x a * (crs a b u - crs a b x) = 0 := by omega
  have z2 : crs x u a * (crs a b v - crs a b x) = 0 := by omega
  have hx0 : crs a b x = 0 := by
    rcases Int.mul_eq_zero.1 z0 with h | h
    · omega
    · exact h
  have hab : a ≠ b := fun e => hN.2.1 e.symm
  by_cases hax : a = x
  · rw [hax]; exact hmm
  by_cases k1 : crs x u a = 0
  · have hy := line_y hax hx0 k1
    rcases on_seg2 hab hx0 (p0.2 hx0) hy (pu.2 hy) (c1.2 k1) with e | e
    · exact absurd e hax
    · rw [e]; exact hmu
  by_cases k2 : crs v x a = 0
  · have k2' : crs x v a = 0 := by
      have : crs x v a = - crs v x a := by unfold crs; grind
      omega
    have hy := line_y hax hx0 k2'
    rcases on_seg2 hab hx0 (p0.2 hx0) hy (pv.2 hy) (by rw [btw_flip]; exact c2.2 k2) with e | e
    · exact absurd e hax
    · rw [e]; exact hmv
  exfalso
  have hu : crs a b u = 0 := by
    rcases Int.mul_eq_zero.1 z1 with h | h
    · exact absurd h k2
    · omega
  have hv : crs a b v = 0 := by
    rcases Int.mul_eq_zero.1 z2 with h | h
    · exact absurd h k1
    · omega
  have := col3 hab hx0 hu hv
  omega
def sumL (f : Pt → Int) : List Pt → Int
  | [] => 0
  | a :: l => f a + sumL f l
theorem sumL_app (f : Pt → Int) : ∀ l m, sumL f (l ++ m) = sumL f l + sumL f m
  | [], m => by simp [sumL]
  | a :: l, m => by simp only [List.cons_append, sumL]; rw [sumL_app f l m]; omega
theorem sumL_le {f g : Pt → Int} : ∀ l, (∀ a ∈ l, f a ≤ g a) → sumL f l ≤ sumL g l
  | [], _ => Int.le_refl _
  | a :: l, h => by
    have h1 := h a (List.mem_cons_self ..)
    have h2 := sumL_le l fun x hx => h x (List.mem_cons_of_mem _ hx)
    simp only [sumL]; omega
theorem sumN_take (f : Pt → Int) (l : List Pt) : ∀ n, n ≤ l.length → sumN (fun i => f (nth l i)) n = sumL f (l.take n)
  | 0, _ => by simp [sumN, sumL]
  | n + 1, h => by
    have e : l.take (n + 1) = l.take n ++ [l[n]] := (List.take_append_getElem (by omega)).symm
    rw [e, sumL_app, ← sumN_take f l n (by omega)]
    show sumN (fun i => f (nth l i)) n + f (nth l n) = _
    rw [nth_eq (show n < l.length by omega)]
    simp [sumL]
theorem sumN_list (f : Pt → Int) (l : List Pt) : sumN (fun i => f (nth l i)) l.length = sumL f l := by
  have := sumN_take f l l.length (Nat.le_refl _)
  rwa [List.take_length] at this
theorem sum_in (W : Pt → Int) : ∀ (L M : List Pt), L.Nodup → (∀ a ∈ M, 0 ≤ W a) → sumL (fun a => if a ∈ M then W a else 0) L ≤ sumL W M
  | [], M, _, h => by
    have : ∀ M : List Pt, (∀ a ∈ M, 0 ≤ W a) → 0 ≤ sumL W M := by
      intro M
      induction M with
      | nil => intro _; exact Int.le_refl _
      | cons a M ih =>
        intro h
        have h1 := h a (List.mem_cons_self ..)
        have h2 := ih fun x hx => h x (List.mem_cons_of_mem _ hx)
        simp only [sumL]; omega
    exact this M h
  | a :: L, M, hn, h => by
    obtain ⟨hna, hnl⟩ := List.nodup_cons.1 hn
    by_cases hm : a ∈ M
    · obtain ⟨s, t, rfl⟩ := List.append_of_mem hm
      have ih := sum_in W L (s ++ t) hnl (fun x hx => h x (by
        rcases List.mem_append.1 hx with hx | hx
        · exact List.mem_append_left _ hx
        · exact List.mem_append_right _ (List.mem_cons_of_mem _ hx)))
      have hle : sumL (fun x => if x ∈ s ++ a :: t then W x else 0) L ≤ sumL (fun x => if x ∈ s ++ t then W x else 0) L := sumL_le L fun x hx => by
        have hxa : x ≠ a := fun e => hna (e ▸ hx)
        by_cases hx2 : x ∈ s ++ t
        · rw [if_pos hx2]
          split <;> first | exact Int.le_refl _ | (rename_i hx3; exact absurd (by
            rcases List.mem_append.1 hx2 with hx | hx
            · exact List.mem_append_left _ hx
            · exact List.mem_append_right _ (List.mem_cons_of_mem _ hx)) hx3)
        · rw [if_neg hx2, if_neg]
          · exact Int.le_refl _
          · intro hx3
            apply hx2
            rcases List.mem_append.1 hx3 with hx | hx
            · exact List.mem_append_left _ hx
            · rcases List.mem_cons.1 hx with hx | hx
              · exact absurd hx hxa
              · exact List.mem_append_right _ hx
      simp only [sumL, if_pos hm]
      rw [sumL_app] at ih ⊢
      simp only [sumL]
      omega
    · have ih := sum_in W L M hnl h
      simp only [sumL, if_neg hm]
      omega
theorem ring_area {S H : List Pt} (h : Ring S H) (p : Pt) : area2 H = sumL (fun a => crs p a (selN a S)) H := by
  have h3 := h.three
  rw [← area_from H p (by omega), ← sumN_list]
  exact sumN_congr _ fun i hi => by rw [selN_eq (h.nxt i hi)]
/-- The hull of more points has no smaller area. -/
theorem area_mono {S S' H H' : List Pt} {p : Pt} (h : Ring S H) (h' : Ring S' H') (hs : ∀ q ∈ S', q ∈ S) (hp : p ∈ S) (hS : ∀ q ∈ S, q ∈ S' ∨ q = p) : area2 H' ≤ area2 H := by
  rw [ring_area h p, ring_area h' p]
  have hW : ∀ a ∈ H, 0 ≤ crs p a (selN a S) := fun a ha => by
    obtain ⟨i, hi, rfl⟩ := List.mem_iff_getElem.1 ha
    have hn := h.nxt i hi
    rw [← nth_eq hi, selN_eq hn]
    have := (hn.2.2 p hp).1
    have e := crs_rot p (nth H i) (nth H (nx H i))
    omega
  refine Int.le_trans (sumL_le (g := fun a => if a ∈ H then crs p a (selN a S) else 0) H' fun a ha => ?_) (sum_in _ H' H h'.nodup hW)
  obtain ⟨i, hi, rfl⟩ := List.mem_iff_getElem.1 ha
  have hn := h'.nxt i hi
  rw [← nth_eq hi, selN_eq hn]
  have hna : nth H' i ∈ S := hs _ (h'.mem _ (nth_mem hi))
  generalize nth H' i = a at *
  generalize nth H' (nx H' i) = b at *
  have er := crs_rot p a b
  by_cases hN : Nxt S a b
  · rw [if_pos (corner_of h hna hN), selN_eq hN]
    exact Int.le_refl _
  · have hle : crs a b p ≤ 0 := by
      apply Int.not_lt.1
      intro hlt
      refine hN ⟨hs _ hn.1, hn.2.1, fun q hq => ?_⟩
      rcases hS q hq with hq | rfl
      · exact hn.2.2 q hq
      · exact ⟨by omega, fun e => by omega⟩
    split
    · rename_i hm
      have := hW a hm
      omega
    · omega
/-! The hull as a function of the points. -/
def insS (a : Pt) : List Pt → List Pt
  | [] => [a]
  | b :: l => if a.1 < b.1 ∨ (a.1 = b.1 ∧ a.2 < b.2) then a :: b :: l else if a = b then b :: l else b :: insS a l
def srt : List Pt → List Pt
  | [] => []
  | a :: l => insS a (srt l)
theorem lex_tri {a b : Pt} (h : ¬ lexLt a b) (hn : a ≠ b) : lexLt b a := by
  unfold lexLt at *
  by_cases h1 : a.1 = b.1
  · by_cases h2 : a.2 = b.2
    · exact absurd (Prod.ext h1 h2) hn
    · omega
  · omega
theorem insS_mem (a : Pt) : ∀ (l : List Pt) (x : Pt), x ∈ insS a l ↔ x = a ∨ x ∈ l
  | [], x => by simp [insS]
  | b :: l, x => by
    unfold insS
    split
    · simp
    · split
      · rename_i e; subst e; simp
      · simp only [List.mem_cons, insS_mem a l x]
        constructor
        · rintro (h | h | h)
          · exact .inr (.inl h)
          · exact .inl h
          · exact .inr (.inr h)
        · rintro (h | h | h)
          · exact .inr (.inl h)
          · exact .inl h
          · exact .inr (.inr h)
theorem asc_cons {a : Pt} {l : List Pt} (h : Asc l) (ha : ∀ x ∈ l, lexLt a x) : Asc (a :: l) := by
  cases l with
  | nil => trivial
  | cons b l => exact ⟨ha b (List.mem_cons_self ..), h⟩
theorem insS_asc (a : Pt) : ∀ l : List Pt, Asc l → Asc (insS a l)
  | [], _ => trivial
  | b :: l, h => by
    unfold insS
    split
    · rename_i hl; exact ⟨hl, h⟩
    · rename_i hl
      split
      · exact h
      · rename_i hn
        refine asc_cons (insS_asc a l (asc_tail h)) fun x hx => ?_
        rcases (insS_mem a l x).1 hx with rfl | hx
        · exact lex_tri hl hn
        · exact asc_all l b h x hx
theorem srt_mem : ∀ (l : List Pt) (x : Pt), x ∈ srt l ↔ x ∈ l
  | [], x => by simp [srt]
  | a :: l, x => by
    show x ∈ insS a (srt l) ↔ _
    rw [insS_mem, srt_mem l x, List.mem_cons]
theorem srt_asc : ∀ l : List Pt, Asc (srt l)
  | [] => trivial
  | a :: l => insS_asc a _ (srt_asc l)
theorem lex_irr {a : Pt} (h : lexLt a a) : False := by unfold lexLt at h; omega
theorem lex_asym {a b : Pt} (h : lexLt a b) (k : lexLt b a) : False := by unfold lexLt at h k; omega
theorem asc_unique : ∀ (P Q : List Pt), Asc P → Asc Q → (∀ x, x ∈ P ↔ x ∈ Q) → P = Q
  | [], [], _, _, _ => rfl
  | [], b :: Q, _, _, h => by have := (h b).2 (List.mem_cons_self ..); cases this
  | a :: P, [], _, _, h => by have := (h a).1 (List.mem_cons_self ..); cases this
  | a :: P, b :: Q, hP, hQ, h => by
    have e : a = b := by
      rcases List.mem_cons.1 ((h a).1 (List.mem_cons_self ..)) with e | h1
      · exact e
      · rcases List.mem_cons.1 ((h b).2 (List.mem_cons_self ..)) with e | h2
        · exact e.symm
        · exact (lex_asym (asc_all Q b hQ a h1) (asc_all P a hP b h2)).elim
    subst e
    rw [asc_unique P Q (asc_tail hP) (asc_tail hQ) fun x => ?_]
    constructor
    · intro hx
      rcases List.mem_cons.1 ((h x).1 (List.mem_cons_of_mem _ hx)) with e | h1
      · exact (lex_irr (e ▸ asc_all P a hP x hx)).elim
      · exact h1
    · intro hx
      rcases List.mem_cons.1 ((h x).2 (List.mem_cons_of_mem _ hx)) with e | h1
      · exact (lex_irr (e ▸ asc_all Q a hQ x hx)).elim
      · exact h1
/-- The hull; none if all points are on one line. -/
def hullG (l : List Pt) : List Pt := if (hullH (srt l)).length < 3 then [] else hullH (srt l)
theorem hullG_ring {l : List Pt} (h : hullG l ≠ []) : Ring l (hullG l) ∧ ∃ f R, hullG l = f :: R ∧ Path (Nxt l) (f :: R) f ∧ (f :: R).length ≤ (srt l).length ∧ f ∈ l ∧ ∀ q ∈ l, lexLe f q := by
  unfold hullG at h ⊢
  by_cases hl : (hullH (srt l)).length < 3
  · rw [if_pos hl] at h; exact absurd rfl h
  rw [if_neg hl] at h ⊢
  have ha := srt_asc l
  have hm := srt_mem l
  match hs : srt l with
  | [] => rw [hs] at hl; exact absurd (by decide) hl
  | [f] => rw [hs] at hl; exact absurd (by simp [hullH, halfH, pushH, popH]) hl
  | f :: g :: L =>
    rw [hs] at ha hm hl
    obtain ⟨R, h1, h2, h3, h4, h5⟩ := hull_path f (g :: L) ha (by simp)
    have hp : ∀ (M : List Pt) (x : Pt), Path (Nxt (f :: g :: L)) (x :: M) f → Path (Nxt l) (x :: M) f := by
      have hn : ∀ a b, Nxt (f :: g :: L) a b → Nxt l a b := fun a b h => ⟨(hm b).1 h.1, h.2.1, fun q hq => h.2.2 q ((hm q).2 hq)⟩
      intro M
      induction M with
      | nil => intro x h; exact hn _ _ h
      | cons y M ih => intro x h; exact ⟨hn _ _ h.1, ih y h.2⟩
    have h2' := hp R f h2
    rw [h1] at hl ⊢
    exact ⟨⟨fun i hi => path_nx h2' hi, fun c hc => (hm c).1 (h4 c hc), h3, by omega⟩, f, R, rfl, h2', nodup_len _ _ h3 h4, (hm f).1 (List.mem_cons_self ..), fun q hq => by
      rcases List.mem_cons.1 ((hm q).2 hq) with rfl | hq
      · exact lexLe.refl _
      · exact (asc_all _ _ ha q hq).le⟩
theorem srt_len : ∀ l : List Pt, (srt l).length ≤ l.length := by
  intro l
  exact nodup_len _ _ (asc_nodup _ (srt_asc l)) fun x hx => (srt_mem l x).1 hx
/-- What the reference does. -/
theorem gift_G {l : List Pt} {f : Pt} (hf : f ∈ l) (hm : ∀ q ∈ l, lexLe f q) (hl : l.length ≤ 16) : (if (gift f l 17 f []).length < 3 then [] else gift f l 17 f []) = hullG l := by
  have ha := srt_asc l
  have hs := srt_mem l
  have hle := srt_len l
  unfold hullG
  match hq : srt l with
  | [] => rw [hq] at hs; have := (hs f).2 hf; cases this
  | [g] =>
    rw [hq] at hs
    have hg : ∀ q ∈ l, q = f := fun q h => by
      have h1 := (hs q).2 h
      have h2 := (hs f).2 hf
      simp at h1 h2
      rw [h1, h2]
    have hsel : selN f l = f := by
      have : ∀ m : List Pt, (∀ q ∈ m, q = f) → m.foldl (fun nx q => if q = f then nx else if nx = f ∨ crs f nx q < 0 ∨ (crs f nx q = 0 ∧ sqd f nx < sqd f q) then q else nx) f = f := by
        intro m
        induction m with
        | nil => intro _; rfl
        | cons q m ih =>
          intro h
          rw [List.foldl_cons, if_pos (h q (List.mem_cons_self ..))]
          exact ih fun x hx => h x (List.mem_cons_of_mem _ hx)
      exact this l hg
    have e1 : gift f l 17 f [] = [f] := by unfold gift; rw [if_pos (.inl hsel)]; rfl
    rw [e1, if_pos (by simp), if_pos (by simp [hullH, halfH, pushH, popH])]
  | g :: h :: L =>
    rw [hq] at ha hs hle
    have hg : g = f := by
      rcases List.mem_cons.1 ((hs f).2 hf) with e | h1
      · exact e.symm
      · have := hm g ((hs g).1 (List.mem_cons_self ..))
        exact (lex_irr (lexLt_of_lt (asc_all _ _ ha f h1) this)).elim
    subst hg
    rw [gift_hull g (h :: L) ha (by simp) l (fun x => (hs x).symm) (by omega) 17 (by omega)]
/-- The hull of the corners is the hull. -/
theorem hull_idem {l : List Pt} (h : hullG l ≠ []) (hl : l.length ≤ 16) : hullG (hullG l) = hullG l := by
  obtain ⟨hr, f, R, e, hp, hlen, hf, hm⟩ := hullG_ring h
  have h3 := hr.three
  have hle := srt_len l
  have hR : f ∉ R := by have := hr.nodup; rw [e] at this; exact (List.nodup_cons.1 this).1
  have hfm : f ∈ hullG l := by rw [e]; exact List.mem_cons_self ..
  have hg := gift_G (l := hullG l) hfm (fun q hq => hm q (hr.mem q hq)) (by rw [e]; omega)
  rw [← hg]
  have hn : ∀ i, i < (hullG l).length → Nxt (hullG l) (nth (hullG l) i) (nth (hullG l) (nx (hullG l) i)) := fun i hi => by
    have := hr.nxt i hi
    exact ⟨nth_mem (nx_lt hi), this.2.1, fun q hq => this.2.2 q (hr.mem q hq)⟩
  have hp2 : Path (Nxt (hullG l)) (f :: R) f := by
    have : ∀ (M : List Pt) (x : Pt), (∀ c ∈ x :: M, c ∈ hullG l) → Path (Nxt l) (x :: M) f → Path (Nxt (hullG l)) (x :: M) f := by
      have hn : ∀ a b, b ∈ hullG l → Nxt l a b → Nxt (hullG l) a b := fun a b hb h => ⟨hb, h.2.1, fun q hq => h.2.2 q (hr.mem q hq)⟩
      intro M
      induction M with
      | nil => intro x hx h; exact hn _ _ hfm h
      | cons y M ih => intro x hx h; exact ⟨hn _ _ (hx y (by simp)) h.1, ih y (fun c hc => hx c (List.mem_cons_of_mem _ hc)) h.2⟩
    exact this R f (fun c hc => by rw [e]; exact hc) hp
  have e2 : gift f (hullG l) 17 f [] = f :: R := gift_path R f [] 17 hp2 hR (by simp at hlen ⊢; omega) (by simp at hlen ⊢; omega)
  rw [e2, ← e, if_neg (by omega)]
theorem hull_in {l : List Pt} (h : hullG l ≠ []) : Strict (hullG l) ∧ ∀ q ∈ l, insP (hullG l) q := by
  obtain ⟨hr, _⟩ := hullG_ring h
  exact ⟨nxt_strict hr.nxt hr.mem hr.nodup, fun q hq i hi => ((hr.nxt i hi).2.2 q hq).1⟩
theorem hull_more {l : List Pt} {p : Pt} (h : hullG (l ++ [p]) ≠ []) (h' : hullG l ≠ []) : area2 (hullG l) ≤ area2 (hullG (l ++ [p])) :=
  area_mono (p := p) (hullG_ring h).1 (hullG_ring h').1 (fun q hq => List.mem_append_left _ hq) (by simp) (fun q hq => by
    rcases List.mem_append.1 hq with hq | hq
    · exact .inl hq
    · exact .inr (by simpa using hq))
end Pl
def gp (l : List Pt) (k : Int) : Pt := (getx l k, gety l k)
theorem gp_get {l : List Pt} {k : Nat} (h : k < l.length) : gp l (k : Int) = l[k] := by
  unfold gp getx gety
  simp [List.getD_eq_getElem?_getD, h]
theorem allB_mem {l : List Pt} (h : allB l = true) {p : Pt} (hp : p ∈ l) : vB p.1 p.2 = true := by
  unfold allB at h
  exact List.all_eq_true.1 h p hp
def Hst (l : List Pt) (k : Nat) : List Pt := (l.take k).foldl Pl.pushH []
def halfL (l : List Pt) : List Pt := (Pl.halfH l).reverse
theorem pop_sub : ∀ (st : List Pt) (p : Pt), (∀ q ∈ Pl.popH st p, q ∈ st) ∧ (Pl.popH st p).length ≤ st.length := fun st p => by
  obtain ⟨l, h⟩ := Pl.pop_suffix st p
  refine ⟨fun q hq => ?_, ?_⟩
  · rw [h]; exact List.mem_append_right _ hq
  · have : st.length = (l ++ Pl.popH st p).length := by rw [← h]
    rw [List.length_append] at this
    omega
theorem Hst_s {l : List Pt} {k : Nat} (h : k < l.length) : Hst l (k + 1) = Pl.pushH (Hst l k) (gp l k) := by
  unfold Hst
  rw [← List.take_append_getElem h, List.foldl_append, gp_get h]; rfl
theorem Hst_sub (l : List Pt) : ∀ k, k ≤ l.length → (∀ q ∈ Hst l k, q ∈ l) ∧ (Hst l k).length ≤ k
  | 0, _ => ⟨fun q hq => (by cases hq), Nat.le_refl _⟩
  | k + 1, h => by
    obtain ⟨h1, h2⟩ := Hst_sub l k (by omega)
    obtain ⟨h3, h4⟩ := pop_sub (Hst l k) (gp l k)
    rw [Hst_s h]
    refine ⟨fun q hq => ?_, by unfold Pl.pushH; simp only [List.length_cons]; omega⟩
    rcases List.mem_cons.1 hq with e | hq
    · rw [e, gp_get h]; exact List.getElem_mem h
    · exact h1 q (h3 q hq)
theorem Hst_all (l : List Pt) : (Hst l l.length).reverse = halfL l := by unfold Hst halfL Pl.halfH; rw [List.take_length]
theorem rev_two (b a : Pt) (s : List Pt) : ilen (b :: a :: s).reverse = (s.length : Int) + 2 ∧ gp (b :: a :: s).reverse (s.length : Int) = a ∧ gp (b :: a :: s).reverse ((s.length : Int) + 1) = b ∧ itake (b :: a :: s).reverse ((s.length : Int) + 1) = (a :: s).reverse := by
  have e : (b :: a :: s).reverse = s.reverse ++ [a, b] := by simp
  have hl : (s.reverse ++ [a, b]).length = s.length + 2 := by simp
  rw [e]
  refine ⟨by unfold ilen; rw [hl]; omega, ?_, ?_, ?_⟩
  · rw [gp_get (by omega), List.getElem_append_right (by simp)]
    simp
  · rw [show ((s.length : Int) + 1) = ((s.length + 1 : Nat) : Int) by omega, gp_get (by omega), List.getElem_append_right (by simp)]
    simp
  · unfold itake
    rw [show ((s.length : Int) + 1).toNat = s.length + 1 by omega, List.take_append, List.length_reverse, show s.length + 1 - s.length = 1 by omega, List.take_of_length_le (by simp)]
    simp
def hulF (l : List Pt) : List Pt := if ilen l ≤ 16 ∧ allB l = true then Pl.hullG l else []
theorem gp_mem {l : List Pt} {k : Int} (h0 : 0 ≤ k) (h1 : k < ilen l) : gp l k ∈ l := by
  obtain ⟨n, rfl⟩ := Int.eq_ofNat_of_zero_le h0
  rw [ilen_nat] at h1
  rw [gp_get (by omega)]; exact List.getElem_mem _
def selK (l : List Pt) (h : Pt) (k : Nat) : Pt := (l.take k).foldl (fun nx q => if q = h then nx else if nx = h ∨ crs h nx q < 0 ∨ (crs h nx q = 0 ∧ Pl.sqd h nx < Pl.sqd h q) then q else nx) h
theorem selK_s {l : List Pt} {h : Pt} {k : Nat} (hk : k < l.length) : selK l h (k + 1) = if gp l k = h then selK l h k else if selK l h k = h ∨ crs h (selK l h k) (gp l k) < 0 ∨ (crs h (selK l h k) (gp l k) = 0 ∧ Pl.sqd h (selK l h k) < Pl.sqd h (gp l k)) then gp l k else selK l h k := by
  unfold selK
  rw [← List.take_append_getElem hk, List.foldl_append, gp_get hk]; rfl
theorem selK_mem {l : List Pt} {h : Pt} (hh : h ∈ l) : ∀ k, k ≤ l.length → selK l h k ∈ l
  | 0, _ => hh
  | k + 1, hk => by
    have ih := selK_mem hh k (by omega)
    have hg : gp l k ∈ l := by rw [gp_get (by omega)]; exact List.getElem_mem _
    rw [selK_s (by omega)]
    split
    · exact ih
    · split
      · exact hg
      · exact ih
theorem selK_all (l : List Pt) (h : Pt) : selK l h l.length = Pl.selN h l := by unfold selK Pl.selN; rw [List.take_length]
theorem pne {a b c d : Int} (h : a ≠ c ∨ b ≠ d) : ((a, b) : Pt) ≠ (c, d) := fun e => by
  have e1 := congrArg Prod.fst e
  have e2 := congrArg Prod.snd e
  simp only at e1 e2
  omega
theorem asc_snoc : ∀ (l : List Pt) (b : Pt), Pl.Asc l → (∀ x ∈ l, Pl.lexLt x b) → Pl.Asc (l ++ [b])
  | [], b, _, _ => trivial
  | [a], b, _, h => ⟨h a (by simp), trivial⟩
  | a :: c :: l, b, ha, h => ⟨ha.1, asc_snoc (c :: l) b ha.2 (fun x hx => h x (List.mem_cons_of_mem _ hx))⟩
theorem comp_asc {m : List Pt} (hs : ∀ i j, i < j → j < m.length → ¬ (m[j]!.1 < m[i]!.1 ∨ (m[j]!.1 = m[i]!.1 ∧ m[j]!.2 < m[i]!.2))) : ∀ n, n ≤ m.length → Pl.Asc (Lib.compactUpTo m.toArray n) ∧ ∀ x, x ∈ Lib.compactUpTo m.toArray n ↔ ∃ j, j < n ∧ m[j]! = x
  | 0, _ => ⟨trivial, fun x => ⟨fun h => (by cases h), fun ⟨j, h, _⟩ => (by omega)⟩⟩
  | n + 1, h => by
    obtain ⟨ih1, ih2⟩ := comp_asc hs n (by omega)
    have eg : ∀ i, m.toArray[i]! = m[i]! := fun i => (arr_get m.toArray i).symm
    rw [Lib.compactUpTo_succ]
    by_cases hk : Lib.keeps m.toArray n = true
    · rw [if_pos hk, eg]
      refine ⟨asc_snoc _ _ ih1 fun x hx => ?_, fun x => ?_⟩
      · obtain ⟨j, hj, rfl⟩ := (ih2 x).1 hx
        have hn : n ≠ 0 := by omega
        unfold Lib.keeps at hk
        rw [decide_eq_true_eq, eg, eg] at hk
        have hne := hk.resolve_left hn
        have h1 : Pl.lexLt m[n - 1]! m[n]! := Pl.lex_tri (by unfold Pl.lexLt; exact hs (n - 1) n (by omega) (by omega)) hne
        by_cases e : j = n - 1
        · rw [e]; exact h1
        · have h2 := hs j (n - 1) (by omega) (by omega)
          have h3 : Pl.lexLe m[j]! m[n - 1]! := by unfold Pl.lexLe; omega
          exact Pl.lexLt_of_le h3 h1
      · rw [List.mem_append, ih2, List.mem_singleton]
        constructor
        · rintro (⟨j, hj, e⟩ | e)
          · exact ⟨j, by omega, e⟩
          · exact ⟨n, by omega, e.symm⟩
        · rintro ⟨j, hj, e⟩
          by_cases hjn : j = n
          · subst hjn; exact .inr e.symm
          · exact .inl ⟨j, by omega, e⟩
    · rw [if_neg hk, List.append_nil]
      refine ⟨ih1, fun x => ?_⟩
      rw [ih2]
      unfold Lib.keeps at hk
      rw [decide_eq_true_eq, eg, eg, not_or] at hk
      have hn := hk.1
      have he := Decidable.not_not.1 hk.2
      constructor
      · rintro ⟨j, hj, e⟩; exact ⟨j, by omega, e⟩
      · rintro ⟨j, hj, e⟩
        by_cases hjn : j = n
        · subst hjn; exact ⟨j - 1, by omega, by rw [← he]; exact e⟩
        · exact ⟨j, by omega, e⟩
theorem comp_srt {m l : List Pt} (hp : m.Perm l) (hs : ∀ i j, i < j → j < m.length → ¬ (m[j]!.1 < m[i]!.1 ∨ (m[j]!.1 = m[i]!.1 ∧ m[j]!.2 < m[i]!.2))) : Lib.compactUpTo m.toArray m.length = Pl.srt l := by
  obtain ⟨h1, h2⟩ := comp_asc hs m.length (Nat.le_refl _)
  refine Pl.asc_unique _ _ h1 (Pl.srt_asc l) fun x => ?_
  rw [h2, Pl.srt_mem, ← hp.mem_iff, List.mem_iff_getElem]
  constructor
  · rintro ⟨j, hj, e⟩; exact ⟨j, hj, by rw [← e, getElem!_pos m j hj]⟩
  · rintro ⟨j, hj, e⟩; exact ⟨j, hj, by rw [← e, getElem!_pos m j hj]⟩
theorem half_ne {p : List Pt} (h : p ≠ []) : halfL p ≠ [] := by
  have h1 : Pl.halfH p ≠ [] := by
    rcases List.eq_nil_or_concat p with e | ⟨q, a, e⟩
    · exact absurd e h
    · rw [e, List.concat_eq_append]
      unfold Pl.halfH
      rw [List.foldl_append]
      exact List.cons_ne_nil _ _
  unfold halfL
  intro e
  exact h1 (List.reverse_eq_nil_iff.1 e)
theorem half_take (p : List Pt) : (halfL p).take ((halfL p).length - 1) = (Pl.halfH p).tail.reverse := by
  unfold halfL
  cases Pl.halfH p with
  | nil => rfl
  | cons a s => simp
theorem hull_cut (p : List Pt) : Pl.hullH p = (halfL p).take ((halfL p).length - 1) ++ (halfL p.reverse).take ((halfL p.reverse).length - 1) := by rw [half_take, half_take]; rfl
theorem hull_five (p : List Pt) : ((halfL p).length + (halfL p.reverse).length < 5) ↔ (Pl.hullH p).length < 3 := by
  rw [hull_cut, List.length_append, List.length_take, List.length_take]
  by_cases h : p = []
  · subst h; simp [halfL, Pl.halfH]
  · have h1 := List.length_pos_iff.2 (half_ne h)
    have h2 := List.length_pos_iff.2 (half_ne (p := p.reverse) (fun e => h (List.reverse_eq_nil_iff.1 e)))
    omega
theorem allB_sub {l m : List Pt} (h : allB l = true) (hs : ∀ x ∈ m, x ∈ l) : allB m = true := allB_true fun q hq => allB_mem h (hs q hq)
theorem half_len {p : List Pt} : (halfL p).length ≤ p.length := by
  have h := (Hst_sub p p.length (Nat.le_refl _)).2
  rw [← Hst_all, List.length_reverse]; exact h
theorem hul_len (l : List Pt) : ilen (hulF l) ≤ 16 := by
  unfold hulF
  split
  · rename_i h
    by_cases he : Pl.hullG l = []
    · rw [he, ilen_nil]; omega
    · obtain ⟨_, f, R, e, _, hle, _⟩ := Pl.hullG_ring he
      have h2 := Pl.srt_len l
      have h3 := h.1
      rw [ilen_nat] at h3 ⊢
      rw [e]; omega
  · rw [ilen_nil]; omega
def g_impl_HullOf : List AV → Option Sg
  | [.s (.view (.pts l))] => some ⟨True, [.nrow 74 (.pts (hulF l))]⟩
  | _ => none
theorem inB_eq (n lo hi : Int) : inB n lo hi = (ile lo n && ile n hi) := by
  unfold inB ile
  by_cases h1 : lo ≤ n <;> by_cases h2 : n ≤ hi <;> simp [h1, h2]
def g_impl_within : List AV → Option Sg
  | [.s (.int n), .s (.int lo), .s (.int hi)] => some ⟨True, [.s (.bool (inB n lo hi))]⟩
  | _ => none
def sig_impl_within : FuncId → List AV → Option Sg := sigL []
def xs_impl_within : XS := ⟨xsigL [], ysigL []⟩
theorem sig_impl_within_ok : SigOK sig_impl_within := sigL_nil
theorem xs_impl_within_ok : XSigOK xs_impl_within := ⟨xsigL_nil, ysigL_nil⟩
theorem V_impl_within (n : Int) (lo : Int) (hi : Int) : ((true = true) ∧ ((True) ∧ True) ∧ (true = true) ∧ ((True) ∧ (True) ∧ (True) ∧ (True) ∧ (NIs (ile lo n) true → True) ∧ (NIs (ile lo n) true → True) ∧ (NIs (ile lo n) true → True) ∧ (True) ∧ (True) ∧ True) ∧ (((bite (ile lo n) (ile n hi) false) : Bool) = (inB n lo hi)) ∧ True) = ev sig_impl_within xs_impl_within Try.f71.ntmps (fun b => []) (codeOf Try.f71) 0 (initS [.s (.int n), .s (.int lo), .s (.int hi)]) (retK Try.f71.results.toList [.s (.bool (inB n lo hi))]) := by kernel_rfl
set_option maxHeartbeats 400000 in
theorem F_impl_within : FunOK 71 g_impl_within := by
  refine fun_F (by kernel_rfl) Try.func71 rfl (by kernel_rfl) sig_impl_within_ok xs_impl_within_ok ?_
  intro avs sg h hn hl
  unfold g_impl_within at h
  split at h
  · rename_i n lo hi
    injection h with h; subst h
    refine ⟨by kernel_rfl, fun b => [], Eq.mp (V_impl_within n lo hi) ?_⟩
    simp only [true_and, and_true, implies_true, and_self, forall_const, true_implies, lenA, lenL, SV.lenOK, Cont.lenOK] at hn hl ⊢
    simp only [bite_and, inB_eq]
  · cases h
def g_impl_PointValid : List AV → Option Sg
  | [.agg [.int p1, .int p2]] => some ⟨True, [.s (.bool (vB p1 p2))]⟩
  | _ => none
def sig_impl_PointValid : FuncId → List AV → Option Sg := sigL [(71, g_impl_within)]
def xs_impl_PointValid : XS := ⟨xsigL [], ysigL []⟩
theorem sig_impl_PointValid_ok : SigOK sig_impl_PointValid := sigL_cons F_impl_within sigL_nil
theorem xs_impl_PointValid_ok : XSigOK xs_impl_PointValid := ⟨xsigL_nil, ysigL_nil⟩
theorem V_impl_PointValid (p1 : Int) (p2 : Int) : ((true = true) ∧ ((True) ∧ (True) ∧ True) ∧ (true = true) ∧ ((True) ∧ (True) ∧ ((True)) ∧ (True) ∧ (NIs (inB p1 (-10000 : Int) (10000 : Int)) true → True) ∧ (NIs (inB p1 (-10000 : Int) (10000 : Int)) true → True) ∧ (NIs (inB p1 (-10000 : Int) (10000 : Int)) true → (True)) ∧ (True) ∧ (True) ∧ True) ∧ (((bite (inB p1 (-10000 : Int) (10000 : Int)) (inB p2 (-10000 : Int) (10000 : Int)) false) : Bool) = (vB p1 p2)) ∧ True) = ev sig_impl_PointValid xs_impl_PointValid Try.f101.ntmps (fun b => []) (codeOf Try.f101) 0 (initS [.agg [.int p1, .int p2]]) (retK Try.f101.results.toList [.s (.bool (vB p1 p2))]) := by kernel_rfl
set_option maxHeartbeats 400000 in
theorem F_impl_PointValid : FunOK 101 g_impl_PointValid := by
  refine fun_F (by kernel_rfl) Try.func101 rfl (by kernel_rfl) sig_impl_PointValid_ok xs_impl_PointValid_ok ?_
  intro avs sg h hn hl
  unfold g_impl_PointValid at h
  split at h
  · rename_i p1 p2
    injection h with h; subst h
    refine ⟨by kernel_rfl, fun b => [], Eq.mp (V_impl_PointValid p1 p2) ?_⟩
    simp only [true_and, and_true, implies_true, and_self, forall_const, true_implies, lenA, lenL, SV.lenOK, Cont.lenOK] at hn hl ⊢
    simp only [bite_and, vB]
  · cases h
def g_impl_allPoints : List AV → Option Sg
  | [.s (.view (.pts l))] => some ⟨True, [.s (.bool (allB l))]⟩
  | _ => none
def sig_impl_allPoints : FuncId → List AV → Option Sg := sigL [(101, g_impl_PointValid)]
def xs_impl_allPoints : XS := ⟨xsigL [], ysigL []⟩
theorem sig_impl_allPoints_ok : SigOK sig_impl_allPoints := sigL_cons F_impl_PointValid sigL_nil
theorem xs_impl_allPoints_ok : XSigOK xs_impl_allPoints := ⟨xsigL_nil, ysigL_nil⟩
theorem V_impl_allPoints (l : List Pt) : ((true = true) ∧ ((True) ∧ True) ∧ (true = true) ∧ ((True) ∧ (True) ∧ (True) ∧ True) ∧ ∃ (I1 : List GV → Prop) (μ1 : List GV → Nat), (((true = true) ∧ (((false : Bool) = false) ∧ (((0 : Int) : Int) = (0 : Int)) ∧ ((Cont.pts l) = (Cont.pts l)) ∧ (((ilen l) : Int) = (ilen l)) ∧ ((Cont.pts l) = (Cont.pts l)) ∧ True) ∧ (True)) ∧ (([GK.int, GK.bool] : List GK) = ([GK.int, GK.bool] : List GK)) ∧ I1 [GV.int (0 : Int), GV.bool false]) ∧ (∀ i1_0 : Int, ∀ b1_1 : Bool, I1 [GV.int i1_0, GV.bool b1_1] → ((true = true) ∧ ((True) ∧ True) ∧ ((ilt i1_0 (ilen l)) = true → ((true = true) ∧ ((NLe 0 i1_0 ∧ NLt i1_0 (ilen l)) ∧ (True) ∧ (True) ∧ True) ∧ (True) ∧ (true = true) ∧ ((True) ∧ ((True)) ∧ (True) ∧ True) ∧ ((bnot (vB (getx l i1_0) (gety l i1_0))) = true → ((true = true) ∧ ((True) ∧ True) ∧ ((false : Bool) = (allB l)) ∧ True)) ∧ ((bnot (vB (getx l i1_0) (gety l i1_0))) = false → ((true = true) ∧ ((True) ∧ (True) ∧ True) ∧ ((true = true) ∧ (((b1_1 : Bool) = b1_1) ∧ (((iadd i1_0 (1 : Int)) : Int) = (iadd i1_0 (1 : Int))) ∧ ((Cont.pts l) = (Cont.pts l)) ∧ (((ilen l) : Int) = (ilen l)) ∧ ((Cont.pts l) = (Cont.pts l)) ∧ True) ∧ (True)) ∧ ((([GK.int, GK.bool] : List GK) = ([GK.int, GK.bool] : List GK)) ∧ I1 [GV.int (iadd i1_0 (1 : Int)), GV.bool b1_1] ∧ μ1 [GV.int (iadd i1_0 (1 : Int)), GV.bool b1_1] < μ1 [GV.int i1_0, GV.bool b1_1]))))) ∧ ((ilt i1_0 (ilen l)) = false → ((true = true) ∧ ((True) ∧ True) ∧ ((true : Bool) = (allB l)) ∧ True))))) = ev sig_impl_allPoints xs_impl_allPoints Try.f89.ntmps (fun b => if b == 0 then [.v 7, .v 2] else []) (codeOf Try.f89) 0 (initS [.s (.view (.pts l))]) (retK Try.f89.results.toList [.s (.bool (allB l))]) := by kernel_rfl
set_option maxHeartbeats 400000 in
theorem F_impl_allPoints : FunOK 89 g_impl_allPoints := by
  refine fun_F (by kernel_rfl) Try.func89 rfl (by kernel_rfl) sig_impl_allPoints_ok xs_impl_allPoints_ok ?_
  intro avs sg h hn hl
  unfold g_impl_allPoints at h
  split at h
  · rename_i l
    injection h with h; subst h
    refine ⟨by kernel_rfl, fun b => if b == 0 then [.v 7, .v 2] else [], Eq.mp (V_impl_allPoints l) ?_⟩
    simp only [true_and, and_true, implies_true, and_self, forall_const, true_implies, lenA, lenL, SV.lenOK, Cont.lenOK] at hn hl ⊢
    have h0 := ilen_0 l
    simp only [ilt_t, ilt_f, ile_t, ile_f, ieq_t, ieq_f, bnot_e, band_e, bite_and, bite_or, NLt_e, NLe_e, NNe_e, NIs_e, imax_e, imin_e, irem_e, Bool.not_eq_true', Bool.not_eq_false', Bool.and_eq_true, Bool.or_eq_true, Bool.or_eq_false_iff, Bool.and_eq_false_iff, Cont.pts.injEq, Cont.ints.injEq, Cont.bools.injEq, Cont.ptss.injEq, Cont.intss.injEq, Cont.boolss.injEq, true_and, and_true, implies_true]
    refine ⟨fun | .int k :: _ => 0 ≤ k ∧ k ≤ ilen l ∧ (∀ j, 0 ≤ j → j < k → vB (getx l j) (gety l j) = true) | _ => False, fun | .int k :: _ => (ilen l - k).toNat | _ => 0, ?_, ?_⟩
    · exact ⟨Int.le_refl 0, h0, fun j h0 h1 => absurd h1 (by omega)⟩
    · rintro k _ ⟨hk0, hk1, hk⟩
      simp only [ilt_t, ilt_f, ile_t, ile_f, ieq_t, ieq_f, bnot_e, band_e, bite_and, bite_or, NLt_e, NLe_e, NNe_e, NIs_e, imax_e, imin_e, irem_e, Bool.not_eq_true', Bool.not_eq_false', Bool.and_eq_true, Bool.or_eq_true, Bool.or_eq_false_iff, Bool.and_eq_false_iff, Cont.pts.injEq, Cont.ints.injEq, Cont.bools.injEq, Cont.ptss.injEq, Cont.intss.injEq, Cont.boolss.injEq, true_and, and_true, implies_true]
      refine ⟨fun hc => ⟨⟨hk0, hc⟩, fun hv => ?_, fun hv => ?_⟩, fun hc => ?_⟩
      · rw [allB_N, allN_no k hk0 hc hv]
      · rw [iadd_1 hk0 hc hl]
        exact ⟨⟨by omega, by omega, allN_up hk hv⟩, by omega⟩
      · rw [allB_N, allN_mk fun j h0 h1 => hk j h0 (by omega)]
  · cases h
def g_impl_cross : List AV → Option Sg
  | [.agg [.int a1, .int a2], .agg [.int b1, .int b2], .agg [.int c1, .int c2]] => some ⟨True, [.s (.int (crW a1 a2 b1 b2 c1 c2))]⟩
  | _ => none
def sig_impl_cross : FuncId → List AV → Option Sg := sigL []
def xs_impl_cross : XS := ⟨xsigL [], ysigL []⟩
theorem sig_impl_cross_ok : SigOK sig_impl_cross := sigL_nil
theorem xs_impl_cross_ok : XSigOK xs_impl_cross := ⟨xsigL_nil, ysigL_nil⟩
theorem V_impl_cross (a1 : Int) (a2 : Int) (b1 : Int) (b2 : Int) (c1 : Int) (c2 : Int) : ((true = true) ∧ ((True) ∧ (True) ∧ (True) ∧ (True) ∧ True) ∧ (true = true) ∧ ((True) ∧ (True) ∧ (True) ∧ (True) ∧ (True) ∧ (True) ∧ (True) ∧ (True) ∧ (True) ∧ (True) ∧ (True) ∧ (True) ∧ (True) ∧ (True) ∧ (True) ∧ (True) ∧ (True) ∧ (True) ∧ (True) ∧ (True) ∧ (True) ∧ (True) ∧ (True) ∧ (True) ∧ True) ∧ (((isub (imul (isub b1 a1) (isub c2 a2)) (imul (isub b2 a2) (isub c1 a1))) : Int) = (crW a1 a2 b1 b2 c1 c2)) ∧ True) = ev sig_impl_cross xs_impl_cross Try.f103.ntmps (fun b => []) (codeOf Try.f103) 0 (initS [.agg [.int a1, .int a2], .agg [.int b1, .int b2], .agg [.int c1, .int c2]]) (retK Try.f103.results.toList [.s (.int (crW a1 a2 b1 b2 c1 c2))]) := by kernel_rfl
set_option maxHeartbeats 400000 in
theorem F_impl_cross : FunOK 103 g_impl_cross := by
  refine fun_F (by kernel_rfl) Try.func103 rfl (by kernel_rfl) sig_impl_cross_ok xs_impl_cross_ok ?_
  intro avs sg h hn hl
  unfold g_impl_cross at h
  split at h
  · rename_i a1 a2 b1 b2 c1 c2
    injection h with h; subst h
    refine ⟨by kernel_rfl, fun b => [], Eq.mp (V_impl_cross a1 a2 b1 b2 c1 c2) ?_⟩
    simp only [true_and, and_true, implies_true, and_self, forall_const, true_implies, lenA, lenL, SV.lenOK, Cont.lenOK] at hn hl ⊢
    simp only [crW]
  · cases h
end Go.Proofs.Ytdpokkegkedlfaa

/- 'FnExactBoxOf': for all arguments the program's BoxOf returns what the reference's returns and leaves its arguments alone. Conditions: none. -/
import Derived.Test.YtiddodphfbohmaaAxO
namespace Go.Proofs.Ytiddodphfbohmaa
open Go.ChangeShapes Go.WideShapes Go.ChangeAt Go.RowKit
set_option maxRecDepth 100000
set_option linter.unusedSimpArgs false
set_option linter.unusedVariables false
def szI (k n : Int) : Int := if k ≤ n then n - k else -1
def g_laws_szPointS : List AV → Option Sg
  | [.s (.view (.pts l)), .s (.int n)] => some ⟨0 ≤ n ∧ n ≤ 1048576, [.s (.int (szI (ilen l) n))]⟩
  | _ => none
def sig_laws_szPointS : FuncId → List AV → Option Sg := sigL []
def xs_laws_szPointS : XS := ⟨xsigL [], ysigL []⟩
theorem sig_laws_szPointS_ok : SigOK sig_laws_szPointS := sigL_nil
theorem xs_laws_szPointS_ok : XSigOK xs_laws_szPointS := ⟨xsigL_nil, ysigL_nil⟩
theorem V_laws_szPointS (l : List Pt) (n : Int) : ((true = true) ∧ ((True) ∧ True) ∧ (true = true) ∧ ((True) ∧ (True) ∧ (True) ∧ (True) ∧ (True) ∧ True) ∧ (true = true) ∧ ((True) ∧ (True) ∧ True) ∧ ((ilt (isub n (ilen l)) (0 : Int)) = true → ((true = true) ∧ ((True) ∧ True) ∧ (((-1 : Int) : Int) = (szI (ilen l) n)) ∧ True)) ∧ ((ilt (isub n (ilen l)) (0 : Int)) = false → ((true = true) ∧ ((True) ∧ (True) ∧ True) ∧ (((isub n (ilen l)) : Int) = (szI (ilen l) n)) ∧ True))) = ev sig_laws_szPointS xs_laws_szPointS Try.f16.ntmps (fun b => []) (codeOf Try.f16) 0 (initS [.s (.view (.pts l)), .s (.int n)]) (retK Try.f16.results.toList [.s (.int (szI (ilen l) n))]) := by kernel_rfl
set_option maxHeartbeats 400000 in
theorem F_laws_szPointS : FunOK 16 g_laws_szPointS := by
  refine fun_F (by kernel_rfl) Try.func16 rfl (by kernel_rfl) sig_laws_szPointS_ok xs_laws_szPointS_ok ?_
  intro avs sg h hn hl
  unfold g_laws_szPointS at h
  split at h
  · rename_i l n
    injection h with h; subst h
    refine ⟨by kernel_rfl, fun b => [], Eq.mp (V_laws_szPointS l n) ?_⟩
    simp only [true_and, and_true, implies_true, and_self, forall_const, true_implies, lenA, lenL, SV.lenOK, Cont.lenOK] at hn hl ⊢
    simp only [ilt_t, ilt_f, ile_t, ile_f, ieq_t, ieq_f, bnot_e, band_e, bite_and, bite_or, NLt_e, NLe_e, NNe_e, NIs_e, imax_e, imin_e, irem_e, Bool.not_eq_true', Bool.not_eq_false', Bool.and_eq_true, Bool.or_eq_true, Bool.or_eq_false_iff, Bool.and_eq_false_iff, Cont.pts.injEq, Cont.ints.injEq, Cont.bools.injEq, Cont.ptss.injEq, Cont.intss.injEq, Cont.boolss.injEq, true_and, and_true, implies_true]
    have := ilen_0 l
    rw [isub_e (by omega) (by omega)]
    unfold szI
    refine ⟨fun h => ?_, fun h => ?_⟩
    · rw [if_neg (by omega)]
    · rw [if_pos (by omega)]
  · cases h
def g_laws_toPoint : List AV → Option Sg
  | [.agg [.int p1, .int p2]] => some ⟨True, [.agg [.int (p1), .int (p2)]]⟩
  | _ => none
def sig_laws_toPoint : FuncId → List AV → Option Sg := sigL []
def xs_laws_toPoint : XS := ⟨xsigL [], ysigL []⟩
theorem sig_laws_toPoint_ok : SigOK sig_laws_toPoint := sigL_nil
theorem xs_laws_toPoint_ok : XSigOK xs_laws_toPoint := ⟨xsigL_nil, ysigL_nil⟩
theorem V_laws_toPoint (p1 : Int) (p2 : Int) : ((true = true) ∧ ((True) ∧ (True) ∧ True) ∧ (true = true) ∧ ((True) ∧ True) ∧ (true = true) ∧ ((True) ∧ (True) ∧ (True) ∧ True) ∧ (True) ∧ (true = true) ∧ ((True) ∧ (True) ∧ (True) ∧ True) ∧ (True) ∧ (true = true) ∧ ((True) ∧ True) ∧ (True) ∧ (((p1 : Int) = (p1)) ∧ ((p2 : Int) = (p2)) ∧ True) ∧ True) = ev sig_laws_toPoint xs_laws_toPoint Try.f59.ntmps (fun b => []) (codeOf Try.f59) 0 (initS [.agg [.int p1, .int p2]]) (retK Try.f59.results.toList [.agg [.int (p1), .int (p2)]]) := by kernel_rfl
set_option maxHeartbeats 400000 in
theorem F_laws_toPoint : FunOK 59 g_laws_toPoint := by
  refine fun_F (by kernel_rfl) Try.func59 rfl (by kernel_rfl) sig_laws_toPoint_ok xs_laws_toPoint_ok ?_
  intro avs sg h hn hl
  unfold g_laws_toPoint at h
  split at h
  · rename_i p1 p2
    injection h with h; subst h
    refine ⟨by kernel_rfl, fun b => [], Eq.mp (V_laws_toPoint p1 p2) ?_⟩
    simp only [true_and, and_true, implies_true, and_self, forall_const, true_implies, lenA, lenL, SV.lenOK, Cont.lenOK] at hn hl ⊢
  · cases h
def g_laws_toPointS : List AV → Option Sg
  | [.s (.view (.pts l))] => some ⟨ilen l ≤ 100000000, [.nrow 25 (.pts (l))]⟩
  | _ => none
def sig_laws_toPointS : FuncId → List AV → Option Sg := sigL [(59, g_laws_toPoint)]
def xs_laws_toPointS : XS := ⟨xsigL [], ysigL []⟩
theorem sig_laws_toPointS_ok : SigOK sig_laws_toPointS := sigL_cons F_laws_toPoint sigL_nil
theorem xs_laws_toPointS_ok : XSigOK xs_laws_toPointS := ⟨xsigL_nil, ysigL_nil⟩
theorem V_laws_toPointS (l : List Pt) : ((true = true) ∧ ((True) ∧ True) ∧ (true = true) ∧ ((True) ∧ (True) ∧ (NLe 0 (ilen l) ∧ NLe (ilen l) 100000000 ∧ NIs (ieq (ilen l) (ilen l)) true) ∧ (True) ∧ True) ∧ (true = true) ∧ ((True) ∧ True) ∧ ∃ (I1 : List GV → Prop) (μ1 : List GV → Nat), (((true = true) ∧ ((((0 : Int) : Int) = (0 : Int)) ∧ ((Cont.pts l) = (Cont.pts l)) ∧ (((ilen l) : Int) = (ilen l)) ∧ (true = true) ∧ (true = true) ∧ ((Cont.pts l) = (Cont.pts l)) ∧ True) ∧ (((true = true) ∧ ((Cont.pts (irep (ilen l) (0, 0))) = (Cont.pts (irep (ilen l) (0, 0))))) ∧ ((true = true) ∧ ((Cont.pts []) = (Cont.pts []))) ∧ True)) ∧ (([GK.int, GK.pts] : List GK) = ([GK.int, GK.pts] : List GK)) ∧ I1 [GV.int (0 : Int), GV.pts (irep (ilen l) (0, 0))]) ∧ (∀ i1_0 : Int, ∀ l1_1 : List Pt, I1 [GV.int i1_0, GV.pts l1_1] → ((true = true) ∧ ((True) ∧ (True) ∧ (True) ∧ (True) ∧ True) ∧ ((ilt i1_0 (ilen l)) = true → ((true = true) ∧ ((True) ∧ (True) ∧ (True) ∧ (True) ∧ (NLe 0 i1_0 ∧ NLt i1_0 (ilen l)) ∧ (True) ∧ ((True)) ∧ (NLe 0 i1_0 ∧ NLt i1_0 (ilen l1_1)) ∧ True) ∧ (NLt i1_0 (ilen l1_1)) ∧ (true = true) ∧ ((True) ∧ (True) ∧ (True) ∧ True) ∧ ((true = true) ∧ ((((iadd i1_0 (1 : Int)) : Int) = (iadd i1_0 (1 : Int))) ∧ ((Cont.pts l) = (Cont.pts l)) ∧ (((ilen l) : Int) = (ilen l)) ∧ (true = true) ∧ (true = true) ∧ ((Cont.pts l) = (Cont.pts l)) ∧ True) ∧ (((true = true) ∧ ((Cont.pts (setp l1_1 i1_0 ((getx l i1_0)) ((gety l i1_0)))) = (Cont.pts (setp l1_1 i1_0 ((getx l i1_0)) ((gety l i1_0)))))) ∧ ((true = true) ∧ ((Cont.pts []) = (Cont.pts []))) ∧ True)) ∧ ((([GK.int, GK.pts] : List GK) = ([GK.int, GK.pts] : List GK)) ∧ I1 [GV.int (iadd i1_0 (1 : Int)), GV.pts (setp l1_1 i1_0 ((getx l i1_0)) ((gety l i1_0)))] ∧ μ1 [GV.int (iadd i1_0 (1 : Int)), GV.pts (setp l1_1 i1_0 ((getx l i1_0)) ((gety l i1_0)))] < μ1 [GV.int i1_0, GV.pts l1_1]))) ∧ ((ilt i1_0 (ilen l)) = false → ((true = true) ∧ ((True) ∧ (True) ∧ True) ∧ ((true = true) ∧ ((Cont.pts l1_1) = (Cont.pts (l)))) ∧ True))))) = ev sig_laws_toPointS xs_laws_toPointS Try.f18.ntmps (fun b => if b == 0 then [.v 4, .b 3] else []) (codeOf Try.f18) 0 (initS [.s (.view (.pts l))]) (retK Try.f18.results.toList [.nrow 25 (.pts (l))]) := by kernel_rfl
set_option maxHeartbeats 400000 in
theorem F_laws_toPointS : FunOK 18 g_laws_toPointS := by
  refine fun_F (by kernel_rfl) Try.func18 rfl (by kernel_rfl) sig_laws_toPointS_ok xs_laws_toPointS_ok ?_
  intro avs sg h hn hl
  unfold g_laws_toPointS at h
  split at h
  · rename_i l
    injection h with h; subst h
    refine ⟨by kernel_rfl, fun b => if b == 0 then [.v 4, .b 3] else [], Eq.mp (V_laws_toPointS l) ?_⟩
    simp only [true_and, and_true, implies_true, and_self, forall_const, true_implies, lenA, lenL, SV.lenOK, Cont.lenOK] at hn hl ⊢
    simp only [ilt_t, ilt_f, ile_t, ile_f, ieq_t, ieq_f, bnot_e, band_e, bite_and, bite_or, NLt_e, NLe_e, NNe_e, NIs_e, imax_e, imin_e, irem_e, Bool.not_eq_true', Bool.not_eq_false', Bool.and_eq_true, Bool.or_eq_true, Bool.or_eq_false_iff, Bool.and_eq_false_iff, Cont.pts.injEq, Cont.ints.injEq, Cont.bools.injEq, Cont.ptss.injEq, Cont.intss.injEq, Cont.boolss.injEq, true_and, and_true, implies_true]
    have h0 := ilen_0 l
    refine ⟨⟨h0, hn⟩, ?_⟩
    refine ⟨fun | [.int k, .pts m] => 0 ≤ k ∧ k ≤ ilen l ∧ ilen m = ilen l ∧ ∀ j, 0 ≤ j → j < k → getx m j = getx l j ∧ gety m j = gety l j | _ => False, fun | [.int k, .pts m] => (ilen l - k).toNat | _ => 0, ?_, ?_⟩
    · exact ⟨Int.le_refl 0, h0, ilen_rep _ h0, fun j h0 h1 => absurd h1 (by omega)⟩
    · rintro k m ⟨hk0, hk1, hm, hk⟩
      refine ⟨fun hc => ?_, fun hc => ?_⟩
      · rw [iadd_e (by omega) (by omega)]
        refine ⟨⟨⟨hk0, hc⟩, hk0, by omega⟩, by omega, ⟨by omega, by omega, by rw [ilen_setp]; exact hm, fun j j0 j1 => ?_⟩, by dsimp only; omega⟩
        rw [getx_setp hk0 (by omega) j0, gety_setp hk0 (by omega) j0]
        by_cases hj : j = k
        · simp only [hj, if_pos, and_self]
        · simp only [if_neg hj]; exact hk j j0 (by omega)
      · rw [pts_ext (l := m) (m := l) hm fun j j0 j1 => hk j j0 (by omega)]
  · cases h
theorem inB_eq (n lo hi : Int) : inB n lo hi = (ile lo n && ile n hi) := by
  unfold inB ile
  by_cases h1 : lo ≤ n <;> by_cases h2 : n ≤ hi <;> simp [h1, h2]
def g_spec_l1In : List AV → Option Sg
  | [.s (.int n), .s (.int lo), .s (.int hi)] => some ⟨True, [.s (.bool (inB n lo hi))]⟩
  | _ => none
def sig_spec_l1In : FuncId → List AV → Option Sg := sigL []
def xs_spec_l1In : XS := ⟨xsigL [], ysigL []⟩
theorem sig_spec_l1In_ok : SigOK sig_spec_l1In := sigL_nil
theorem xs_spec_l1In_ok : XSigOK xs_spec_l1In := ⟨xsigL_nil, ysigL_nil⟩
theorem V_spec_l1In (n : Int) (lo : Int) (hi : Int) : ((true = true) ∧ ((True) ∧ True) ∧ (true = true) ∧ ((True) ∧ (True) ∧ (True) ∧ (True) ∧ (NIs (ile lo n) true → True) ∧ (NIs (ile lo n) true → True) ∧ (NIs (ile lo n) true → True) ∧ (True) ∧ (True) ∧ True) ∧ (((bite (ile lo n) (ile n hi) false) : Bool) = (inB n lo hi)) ∧ True) = ev sig_spec_l1In xs_spec_l1In Try.f67.ntmps (fun b => []) (codeOf Try.f67) 0 (initS [.s (.int n), .s (.int lo), .s (.int hi)]) (retK Try.f67.results.toList [.s (.bool (inB n lo hi))]) := by kernel_rfl
set_option maxHeartbeats 400000 in
theorem F_spec_l1In : FunOK 67 g_spec_l1In := by
  refine fun_F (by kernel_rfl) Try.func67 rfl (by kernel_rfl) sig_spec_l1In_ok xs_spec_l1In_ok ?_
  intro avs sg h hn hl
  unfold g_spec_l1In at h
  split at h
  · rename_i n lo hi
    injection h with h; subst h
    refine ⟨by kernel_rfl, fun b => [], Eq.mp (V_spec_l1In n lo hi) ?_⟩
    simp only [true_and, and_true, implies_true, and_self, forall_const, true_implies, lenA, lenL, SV.lenOK, Cont.lenOK] at hn hl ⊢
    simp only [bite_and, inB_eq]
  · cases h
def g_spec_PointValid : List AV → Option Sg
  | [.agg [.int p1, .int p2]] => some ⟨True, [.s (.bool (vB p1 p2))]⟩
  | _ => none
def sig_spec_PointValid : FuncId → List AV → Option Sg := sigL [(67, g_spec_l1In)]
def xs_spec_PointValid : XS := ⟨xsigL [], ysigL []⟩
theorem sig_spec_PointValid_ok : SigOK sig_spec_PointValid := sigL_cons F_spec_l1In sigL_nil
theorem xs_spec_PointValid_ok : XSigOK xs_spec_PointValid := ⟨xsigL_nil, ysigL_nil⟩
theorem V_spec_PointValid (p1 : Int) (p2 : Int) : ((true = true) ∧ ((True) ∧ (True) ∧ True) ∧ (true = true) ∧ ((True) ∧ (True) ∧ ((True)) ∧ (True) ∧ (NIs (inB p1 (-10000 : Int) (10000 : Int)) true → True) ∧ (NIs (inB p1 (-10000 : Int) (10000 : Int)) true → True) ∧ (NIs (inB p1 (-10000 : Int) (10000 : Int)) true → (True)) ∧ (True) ∧ (True) ∧ True) ∧ (((bite (inB p1 (-10000 : Int) (10000 : Int)) (inB p2 (-10000 : Int) (10000 : Int)) false) : Bool) = (vB p1 p2)) ∧ True) = ev sig_spec_PointValid xs_spec_PointValid Try.f37.ntmps (fun b => []) (codeOf Try.f37) 0 (initS [.agg [.int p1, .int p2]]) (retK Try.f37.results.toList [.s (.bool (vB p1 p2))]) := by kernel_rfl
set_option maxHeartbeats 400000 in
theorem F_spec_PointValid : FunOK 37 g_spec_PointValid := by
  refine fun_F (by kernel_rfl) Try.func37 rfl (by kernel_rfl) sig_spec_PointValid_ok xs_spec_PointValid_ok ?_
  intro avs sg h hn hl
  unfold g_spec_PointValid at h
  split at h
  · rename_i p1 p2
    injection h with h; subst h
    refine ⟨by kernel_rfl, fun b => [], Eq.mp (V_spec_PointValid p1 p2) ?_⟩
    simp only [true_and, and_true, implies_true, and_self, forall_const, true_implies, lenA, lenL, SV.lenOK, Cont.lenOK] at hn hl ⊢
    simp only [bite_and, vB]
  · cases h
def bVal (l : List Pt) : Bool := inB (ilen l) 1 400 && allB l
def bLx (l : List Pt) : Int := if bVal l then foldN (ilen l) (fun a j => min a (getx l j)) (getx l 0) else 0
def bLy (l : List Pt) : Int := if bVal l then foldN (ilen l) (fun a j => min a (gety l j)) (gety l 0) else 0
def bHx (l : List Pt) : Int := if bVal l then foldN (ilen l) (fun a j => max a (getx l j)) (getx l 0) else 0
def bHy (l : List Pt) : Int := if bVal l then foldN (ilen l) (fun a j => max a (gety l j)) (gety l 0) else 0
theorem boxV_no {l : List Pt} (h : bVal l = false) : bLx l = 0 ∧ bLy l = 0 ∧ bHx l = 0 ∧ bHy l = 0 := by simp [bLx, bLy, bHx, bHy, h]
def g_spec_BoxOf : List AV → Option Sg
  | [.s (.view (.pts l))] => some ⟨True, [.agg [.int (bLx l), .int (bLy l)], .agg [.int (bHx l), .int (bHy l)]]⟩
  | _ => none
def sig_spec_BoxOf : FuncId → List AV → Option Sg := sigL [(67, g_spec_l1In), (37, g_spec_PointValid)]
def xs_spec_BoxOf : XS := ⟨xsigL [], ysigL []⟩
theorem sig_spec_BoxOf_ok : SigOK sig_spec_BoxOf := sigL_cons F_spec_l1In (sigL_cons F_spec_PointValid sigL_nil)
theorem xs_spec_BoxOf_ok : XSigOK xs_spec_BoxOf := ⟨xsigL_nil, ysigL_nil⟩
theorem V_spec_BoxOf (l : List Pt) : ((true = true) ∧ ((True) ∧ (True) ∧ True) ∧ (true = true) ∧ ((True) ∧ (True) ∧ ((True)) ∧ (True) ∧ True) ∧ ((bnot (inB (ilen l) (1 : Int) (400 : Int))) = true → ((true = true) ∧ ((True) ∧ (True) ∧ True) ∧ (True) ∧ (True) ∧ ((((0 : Int) : Int) = (bLx l)) ∧ (((0 : Int) : Int) = (bLy l)) ∧ True) ∧ ((((0 : Int) : Int) = (bHx l)) ∧ (((0 : Int) : Int) = (bHy l)) ∧ True) ∧ True)) ∧ ((bnot (inB (ilen l) (1 : Int) (400 : Int))) = false → ((true = true) ∧ ((True) ∧ (NLe 0 (0 : Int) ∧ NLt (0 : Int) (ilen l)) ∧ (True) ∧ (True) ∧ True) ∧ (True) ∧ (true = true) ∧ ((True) ∧ (NLe 0 (0 : Int) ∧ NLt (0 : Int) (ilen l)) ∧ (True) ∧ (True) ∧ True) ∧ (True) ∧ (true = true) ∧ ((True) ∧ True) ∧ ∃ (I1 : List GV → Prop) (μ1 : List GV → Nat), (((true = true) ∧ ((((0 : Int) : Int) = (0 : Int)) ∧ ((Cont.pts l) = (Cont.pts l)) ∧ ((((getx l (0 : Int)) : Int) = (getx l (0 : Int))) ∧ (((gety l (0 : Int)) : Int) = (gety l (0 : Int))) ∧ True) ∧ (true = true) ∧ ((Cont.pts l) = (Cont.pts l)) ∧ ((((getx l (0 : Int)) : Int) = (getx l (0 : Int))) ∧ (((gety l (0 : Int)) : Int) = (gety l (0 : Int))) ∧ True) ∧ (true = true) ∧ ((Cont.pts l) = (Cont.pts l)) ∧ (((ilen l) : Int) = (ilen l)) ∧ (((inB (ilen l) (1 : Int) (400 : Int)) : Bool) = (inB (ilen l) (1 : Int) (400 : Int))) ∧ (((bnot (inB (ilen l) (1 : Int) (400 : Int))) : Bool) = (bnot (inB (ilen l) (1 : Int) (400 : Int)))) ∧ (true = true) ∧ (true = true) ∧ ((Cont.pts l) = (Cont.pts l)) ∧ True) ∧ (((((getx l (0 : Int)) : Int) = (getx l (0 : Int))) ∧ (((gety l (0 : Int)) : Int) = (gety l (0 : Int))) ∧ True) ∧ ((((getx l (0 : Int)) : Int) = (getx l (0 : Int))) ∧ (((gety l (0 : Int)) : Int) = (gety l (0 : Int))) ∧ True) ∧ ((((0 : Int) : Int) = (0 : Int)) ∧ (((0 : Int) : Int) = (0 : Int)) ∧ True) ∧ ((((0 : Int) : Int) = (0 : Int)) ∧ (((0 : Int) : Int) = (0 : Int)) ∧ True) ∧ True)) ∧ (([GK.int, GK.int, GK.int, GK.int, GK.int, GK.int, GK.int, GK.int, GK.int] : List GK) = ([GK.int, GK.int, GK.int, GK.int, GK.int, GK.int, GK.int, GK.int, GK.int] : List GK)) ∧ I1 [GV.int (0 : Int), GV.int (0 : Int), GV.int (0 : Int), GV.int (0 : Int), GV.int (0 : Int), GV.int (getx l (0 : Int)), GV.int (gety l (0 : Int)), GV.int (getx l (0 : Int)), GV.int (gety l (0 : Int))]) ∧ (∀ i1_0 : Int, ∀ i1_1 : Int, ∀ i1_2 : Int, ∀ i1_3 : Int, ∀ i1_4 : Int, ∀ i1_5 : Int, ∀ i1_6 : Int, ∀ i1_7 : Int, ∀ i1_8 : Int, I1 [GV.int i1_0, GV.int i1_1, GV.int i1_2, GV.int i1_3, GV.int i1_4, GV.int i1_5, GV.int i1_6, GV.int i1_7, GV.int i1_8] → ((true = true) ∧ ((True) ∧ (True) ∧ (True) ∧ (True) ∧ True) ∧ ((ilt i1_0 (ilen l)) = true → ((true = true) ∧ ((True) ∧ (True) ∧ (NLe 0 i1_0 ∧ NLt i1_0 (ilen l)) ∧ (True) ∧ ((True)) ∧ (True) ∧ True) ∧ ((bnot (vB (getx l i1_0) (gety l i1_0))) = true → ((true = true) ∧ ((True) ∧ (True) ∧ True) ∧ (True) ∧ (True) ∧ ((((0 : Int) : Int) = (bLx l)) ∧ (((0 : Int) : Int) = (bLy l)) ∧ True) ∧ ((((0 : Int) : Int) = (bHx l)) ∧ (((0 : Int) : Int) = (bHy l)) ∧ True) ∧ True)) ∧ ((bnot (vB (getx l i1_0) (gety l i1_0))) = false → ((true = true) ∧ ((True) ∧ (True) ∧ (True) ∧ (True) ∧ (NLe 0 i1_0 ∧ NLt i1_0 (ilen l)) ∧ (True) ∧ (True) ∧ (True) ∧ (True) ∧ (True) ∧ (True) ∧ (True) ∧ (NLe 0 i1_0 ∧ NLt i1_0 (ilen l)) ∧ (True) ∧ (True) ∧ (True) ∧ (True) ∧ True) ∧ (True) ∧ (true = true) ∧ ((True) ∧ (True) ∧ (True) ∧ (True) ∧ (NLe 0 i1_0 ∧ NLt i1_0 (ilen l)) ∧ (True) ∧ (True) ∧ (True) ∧ (True) ∧ (True) ∧ (True) ∧ (True) ∧ (NLe 0 i1_0 ∧ NLt i1_0 (ilen l)) ∧ (True) ∧ (True) ∧ (True) ∧ (True) ∧ True) ∧ (True) ∧ (true = true) ∧ ((True) ∧ (True) ∧ (True) ∧ True) ∧ ((true = true) ∧ ((((iadd i1_0 (1 : Int)) : Int) = (iadd i1_0 (1 : Int))) ∧ ((Cont.pts l) = (Cont.pts l)) ∧ ((((getx l (0 : Int)) : Int) = (getx l (0 : Int))) ∧ (((gety l (0 : Int)) : Int) = (gety l (0 : Int))) ∧ True) ∧ (true = true) ∧ ((Cont.pts l) = (Cont.pts l)) ∧ ((((getx l (0 : Int)) : Int) = (getx l (0 : Int))) ∧ (((gety l (0 : Int)) : Int) = (gety l (0 : Int))) ∧ True) ∧ (true = true) ∧ ((Cont.pts l) = (Cont.pts l)) ∧ (((ilen l) : Int) = (ilen l)) ∧ (((inB (ilen l) (1 : Int) (400 : Int)) : Bool) = (inB (ilen l) (1 : Int) (400 : Int))) ∧ (((bnot (inB (ilen l) (1 : Int) (400 : Int))) : Bool) = (bnot (inB (ilen l) (1 : Int) (400 : Int)))) ∧ (true = true) ∧ (true = true) ∧ ((Cont.pts l) = (Cont.pts l)) ∧ True) ∧ (((((imax i1_7 (getx l i1_0)) : Int) = (imax i1_7 (getx l i1_0))) ∧ (((imax i1_8 (gety l i1_0)) : Int) = (imax i1_8 (gety l i1_0))) ∧ True) ∧ ((((imin i1_5 (getx l i1_0)) : Int) = (imin i1_5 (getx l i1_0))) ∧ (((imin i1_6 (gety l i1_0)) : Int) = (imin i1_6 (gety l i1_0))) ∧ True) ∧ (((i1_3 : Int) = i1_3) ∧ ((i1_4 : Int) = i1_4) ∧ True) ∧ (((i1_1 : Int) = i1_1) ∧ ((i1_2 : Int) = i1_2) ∧ True) ∧ True)) ∧ ((([GK.int, GK.int, GK.int, GK.int, GK.int, GK.int, GK.int, GK.int, GK.int] : List GK) = ([GK.int, GK.int, GK.int, GK.int, GK.int, GK.int, GK.int, GK.int, GK.int] : List GK)) ∧ I1 [GV.int (iadd i1_0 (1 : Int)), GV.int i1_1, GV.int i1_2, GV.int i1_3, GV.int i1_4, GV.int (imin i1_5 (getx l i1_0)), GV.int (imin i1_6 (gety l i1_0)), GV.int (imax i1_7 (getx l i1_0)), GV.int (imax i1_8 (gety l i1_0))] ∧ μ1 [GV.int (iadd i1_0 (1 : Int)), GV.int i1_1, GV.int i1_2, GV.int i1_3, GV.int i1_4, GV.int (imin i1_5 (getx l i1_0)), GV.int (imin i1_6 (gety l i1_0)), GV.int (imax i1_7 (getx l i1_0)), GV.int (imax i1_8 (gety l i1_0))] < μ1 [GV.int i1_0, GV.int i1_1, GV.int i1_2, GV.int i1_3, GV.int i1_4, GV.int i1_5, GV.int i1_6, GV.int i1_7, GV.int i1_8]))))) ∧ ((ilt i1_0 (ilen l)) = false → ((true = true) ∧ (((true = true) ∧ ((True) ∧ (((true = true) ∧ ((True) ∧ (((true = true) ∧ ((True) ∧ (((true = true) ∧ ((True) ∧ ((((i1_5 : Int) = (bLx l)) ∧ ((i1_6 : Int) = (bLy l)) ∧ True) ∧ (((i1_7 : Int) = (bHx l)) ∧ ((i1_8 : Int) = (bHy l)) ∧ True) ∧ True))) ∧ True))) ∧ True))) ∧ ((true = true) ∧ ((True) ∧ (((true = true) ∧ ((True) ∧ (((true = true) ∧ ((True) ∧ ((((i1_5 : Int) = (bLx l)) ∧ ((i1_6 : Int) = (bLy l)) ∧ True) ∧ (((i1_7 : Int) = (bHx l)) ∧ ((i1_8 : Int) = (bHy l)) ∧ True) ∧ True))) ∧ True))) ∧ True))) ∧ True))) ∧ ((true = true) ∧ ((True) ∧ (((true = true) ∧ ((True) ∧ (((true = true) ∧ ((True) ∧ (((true = true) ∧ ((True) ∧ ((((i1_5 : Int) = (bLx l)) ∧ ((i1_6 : Int) = (bLy l)) ∧ True) ∧ (((i1_7 : Int) = (bHx l)) ∧ ((i1_8 : Int) = (bHy l)) ∧ True) ∧ True))) ∧ True))) ∧ True))) ∧ True))) ∧ True)))))))) = ev sig_spec_BoxOf xs_spec_BoxOf Try.f17.ntmps (fun b => if b == 0 then [.v 6, .b 2, .b 3, .b 4, .b 5] else []) (codeOf Try.f17) 0 (initS [.s (.view (.pts l))]) (retK Try.f17.results.toList [.agg [.int (bLx l), .int (bLy l)], .agg [.int (bHx l), .int (bHy l)]]) := by kernel_rfl
set_option maxHeartbeats 400000 in
theorem F_spec_BoxOf : FunOK 17 g_spec_BoxOf := by
  refine fun_F (by kernel_rfl) Try.func17 rfl (by kernel_rfl) sig_spec_BoxOf_ok xs_spec_BoxOf_ok ?_
  intro avs sg h hn hl
  unfold g_spec_BoxOf at h
  split at h
  · rename_i l
    injection h with h; subst h
    refine ⟨by kernel_rfl, fun b => if b == 0 then [.v 6, .b 2, .b 3, .b 4, .b 5] else [], Eq.mp (V_spec_BoxOf l) ?_⟩
    simp only [true_and, and_true, implies_true, and_self, forall_const, true_implies, lenA, lenL, SV.lenOK, Cont.lenOK] at hn hl ⊢
    simp only [ilt_t, ilt_f, ile_t, ile_f, ieq_t, ieq_f, bnot_e, band_e, bite_and, bite_or, NLt_e, NLe_e, NNe_e, NIs_e, imax_e, imin_e, irem_e, Bool.not_eq_true', Bool.not_eq_false', Bool.and_eq_true, Bool.or_eq_true, Bool.or_eq_false_iff, Bool.and_eq_false_iff, Cont.pts.injEq, Cont.ints.injEq, Cont.bools.injEq, Cont.ptss.injEq, Cont.intss.injEq, Cont.boolss.injEq, true_and, and_true, implies_true]
    refine ⟨fun h => ?_, fun h => ?_⟩
    · have hb : bVal l = false := by unfold bVal; simp [h]
      obtain ⟨h1, h2, h3, h4⟩ := boxV_no hb
      simp [h1, h2, h3, h4]
    · have hlen := (inB_true h).1
      refine ⟨⟨by omega, by omega⟩, ⟨by omega, by omega⟩, ?_⟩
      refine ⟨fun | [.int k, _, _, _, _, .int a, .int b, .int c, .int d] => 0 ≤ k ∧ k ≤ ilen l ∧ a = foldN k (fun a j => min a (getx l j)) (getx l 0) ∧ b = foldN k (fun a j => min a (gety l j)) (gety l 0) ∧ c = foldN k (fun a j => max a (getx l j)) (getx l 0) ∧ d = foldN k (fun a j => max a (gety l j)) (gety l 0) ∧ ∀ j, 0 ≤ j → j < k → vB (getx l j) (gety l j) = true | _ => False, fun | .int k :: _ => (ilen l - k).toNat | _ => 0, ?_, ?_⟩
      · exact ⟨Int.le_refl 0, by omega, rfl, rfl, rfl, rfl, fun j h0 h1 => absurd h1 (by omega)⟩
      · rintro k _ _ _ _ a b c d ⟨hk0, hk1, rfl, rfl, rfl, rfl, hk⟩
        refine ⟨fun hc => ⟨⟨hk0, hc⟩, fun hv => ?_, fun hv => ?_⟩, fun hc => ?_⟩
        · have hb : bVal l = false := by unfold bVal; rw [allB_N, allN_no k hk0 hc hv]; simp
          obtain ⟨h1, h2, h3, h4⟩ := boxV_no hb
          simp [h1, h2, h3, h4]
        · rw [iadd_e (by omega) (by omega)]
          refine ⟨⟨hk0, hc⟩, ⟨hk0, hc⟩, ⟨by omega, by omega, by rw [foldN_1 hk0], by rw [foldN_1 hk0], by rw [foldN_1 hk0], by rw [foldN_1 hk0], fun j h0 h1 => ?_⟩, by show (ilen l - (k + 1)).toNat < (ilen l - k).toNat; omega⟩
          · rcases Int.lt_or_le j k with h | h
            · exact hk j h0 h
            · rw [show j = k by omega]; exact hv
        · have hb : bVal l = true := by unfold bVal; rw [h, allB_N, allN_mk fun j h0 h1 => hk j h0 (by omega)]; rfl
          obtain rfl : k = ilen l := by omega
          simp [bLx, bLy, bHx, bHy, hb]
  · cases h
def g_impl_within : List AV → Option Sg
  | [.s (.int n), .s (.int lo), .s (.int hi)] => some ⟨True, [.s (.bool (inB n lo hi))]⟩
  | _ => none
def sig_impl_within : FuncId → List AV → Option Sg := sigL []
def xs_impl_within : XS := ⟨xsigL [], ysigL []⟩
theorem sig_impl_within_ok : SigOK sig_impl_within := sigL_nil
theorem xs_impl_within_ok : XSigOK xs_impl_within := ⟨xsigL_nil, ysigL_nil⟩
theorem V_impl_within (n : Int) (lo : Int) (hi : Int) : ((true = true) ∧ ((True) ∧ True) ∧ (true = true) ∧ ((True) ∧ (True) ∧ (True) ∧ (True) ∧ (NIs (ile lo n) true → True) ∧ (NIs (ile lo n) true → True) ∧ (NIs (ile lo n) true → True) ∧ (True) ∧ (True) ∧ True) ∧ (((bite (ile lo n) (ile n hi) false) : Bool) = (inB n lo hi)) ∧ True) = ev sig_impl_within xs_impl_within Try.f68.ntmps (fun b => []) (codeOf Try.f68) 0 (initS [.s (.int n), .s (.int lo), .s (.int hi)]) (retK Try.f68.results.toList [.s (.bool (inB n lo hi))]) := by kernel_rfl
set_option maxHeartbeats 400000 in
theorem F_impl_within : FunOK 68 g_impl_within := by
  refine fun_F (by kernel_rfl) Try.func68 rfl (by kernel_rfl) sig_impl_within_ok xs_impl_within_ok ?_
  intro avs sg h hn hl
  unfold g_impl_within at h
  split at h
  · rename_i n lo hi
    injection h with h; subst h
    refine ⟨by kernel_rfl, fun b => [], Eq.mp (V_impl_within n lo hi) ?_⟩
    simp only [true_and, and_true, implies_true, and_self, forall_const, true_implies, lenA, lenL, SV.lenOK, Cont.lenOK] at hn hl ⊢
    simp only [bite_and, inB_eq]
  · cases h
def g_impl_PointValid : List AV → Option Sg
  | [.agg [.int p1, .int p2]] => some ⟨True, [.s (.bool (vB p1 p2))]⟩
  | _ => none
def sig_impl_PointValid : FuncId → List AV → Option Sg := sigL [(68, g_impl_within)]
def xs_impl_PointValid : XS := ⟨xsigL [], ysigL []⟩
theorem sig_impl_PointValid_ok : SigOK sig_impl_PointValid := sigL_cons F_impl_within sigL_nil
theorem xs_impl_PointValid_ok : XSigOK xs_impl_PointValid := ⟨xsigL_nil, ysigL_nil⟩
theorem V_impl_PointValid (p1 : Int) (p2 : Int) : ((true = true) ∧ ((True) ∧ (True) ∧ True) ∧ (true = true) ∧ ((True) ∧ (True) ∧ ((True)) ∧ (True) ∧ (NIs (inB p1 (-10000 : Int) (10000 : Int)) true → True) ∧ (NIs (inB p1 (-10000 : Int) (10000 : Int)) true → True) ∧ (NIs (inB p1 (-10000 : Int) (10000 : Int)) true → (True)) ∧ (True) ∧ (True) ∧ True) ∧ (((bite (inB p1 (-10000 : Int) (10000 : Int)) (inB p2 (-10000 : Int) (10000 : Int)) false) : Bool) = (vB p1 p2)) ∧ True) = ev sig_impl_PointValid xs_impl_PointValid Try.f24.ntmps (fun b => []) (codeOf Try.f24) 0 (initS [.agg [.int p1, .int p2]]) (retK Try.f24.results.toList [.s (.bool (vB p1 p2))]) := by kernel_rfl
set_option maxHeartbeats 400000 in
theorem F_impl_PointValid : FunOK 24 g_impl_PointValid := by
  refine fun_F (by kernel_rfl) Try.func24 rfl (by kernel_rfl) sig_impl_PointValid_ok xs_impl_PointValid_ok ?_
  intro avs sg h hn hl
  unfold g_impl_PointValid at h
  split at h
  · rename_i p1 p2
    injection h with h; subst h
    refine ⟨by kernel_rfl, fun b => [], Eq.mp (V_impl_PointValid p1 p2) ?_⟩
    simp only [true_and, and_true, implies_true, and_self, forall_const, true_implies, lenA, lenL, SV.lenOK, Cont.lenOK] at hn hl ⊢
    simp only [bite_and, vB]
  · cases h
def crW (a1 a2 b1 b2 c1 c2 : Int) : Int := isub (imul (isub b1 a1) (isub c2 a2)) (imul (isub b2 a2) (isub c1 a1))
def cr (l : List Pt) (i j k : Int) : Int := crW (getx l i) (gety l i) (getx l j) (gety l j) (getx l k) (gety l k)
def nx (l : List Pt) (i : Int) : Int := (i + 1).tmod (ilen l)
def convE (l : List Pt) (i j : Int) : Bool := decide (j = i ∨ j = nx l i ∨ 0 < cr l i (nx l i) j)
def convB (l : List Pt) : Bool := inB (ilen l) 3 8 && allB l && allN (ilen l) fun i => allN (ilen l) fun j => convE l i j
theorem nx_in {l : List Pt} {i : Int} (h0 : 0 ≤ i) (h1 : i < ilen l) : 0 ≤ nx l i ∧ nx l i < ilen l ∧ ((i + 1 < ilen l ∧ nx l i = i + 1) ∨ (i + 1 = ilen l ∧ nx l i = 0)) := by
  have e : nx l i = (i + 1) % ilen l := Int.tmod_eq_emod_of_nonneg (by omega)
  rcases Int.lt_or_le (i + 1) (ilen l) with h | h
  · rw [e, Int.emod_eq_of_lt (by omega) h]; omega
  · have h2 : i + 1 = ilen l := by omega
    rw [e, h2, Int.emod_self]; omega
theorem allN_up {f : Int → Bool} {k : Int} (h : ∀ j, 0 ≤ j → j < k → f j = true) (hk : f k = true) : ∀ j, 0 ≤ j → j < k + 1 → f j = true := by
  intro j h0 h1
  rcases Int.lt_or_le j k with h2 | h2
  · exact h j h0 h2
  · rw [show j = k by omega]; exact hk
theorem upTo {P : Int → Prop} {k : Int} (h : ∀ j, 0 ≤ j → j < k → P j) (hk : P k) : ∀ j, 0 ≤ j → j < k + 1 → P j := by
  intro j h0 h1
  rcases Int.lt_or_le j k with h2 | h2
  · exact h j h0 h2
  · rw [show j = k by omega]; exact hk
theorem iadd_1 {k n : Int} (h0 : 0 ≤ k) (h1 : k < n) (h2 : n ≤ 9223372036854775807) : iadd k 1 = k + 1 := iadd_e (by omega) (by omega)
def g_impl_allPoints : List AV → Option Sg
  | [.s (.view (.pts l))] => some ⟨True, [.s (.bool (allB l))]⟩
  | _ => none
def sig_impl_allPoints : FuncId → List AV → Option Sg := sigL [(24, g_impl_PointValid)]
def xs_impl_allPoints : XS := ⟨xsigL [], ysigL []⟩
theorem sig_impl_allPoints_ok : SigOK sig_impl_allPoints := sigL_cons F_impl_PointValid sigL_nil
theorem xs_impl_allPoints_ok : XSigOK xs_impl_allPoints := ⟨xsigL_nil, ysigL_nil⟩
theorem V_impl_allPoints (l : List Pt) : ((true = true) ∧ ((True) ∧ True) ∧ (true = true) ∧ ((True) ∧ (True) ∧ (True) ∧ True) ∧ ∃ (I1 : List GV → Prop) (μ1 : List GV → Nat), (((true = true) ∧ (((false : Bool) = false) ∧ (((0 : Int) : Int) = (0 : Int)) ∧ ((Cont.pts l) = (Cont.pts l)) ∧ (((ilen l) : Int) = (ilen l)) ∧ ((Cont.pts l) = (Cont.pts l)) ∧ True) ∧ (True)) ∧ (([GK.int, GK.bool] : List GK) = ([GK.int, GK.bool] : List GK)) ∧ I1 [GV.int (0 : Int), GV.bool false]) ∧ (∀ i1_0 : Int, ∀ b1_1 : Bool, I1 [GV.int i1_0, GV.bool b1_1] → ((true = true) ∧ ((True) ∧ True) ∧ ((ilt i1_0 (ilen l)) = true → ((true = true) ∧ ((NLe 0 i1_0 ∧ NLt i1_0 (ilen l)) ∧ (True) ∧ (True) ∧ True) ∧ (True) ∧ (true = true) ∧ ((True) ∧ ((True)) ∧ (True) ∧ True) ∧ ((bnot (vB (getx l i1_0) (gety l i1_0))) = true → ((true = true) ∧ ((True) ∧ True) ∧ ((false : Bool) = (allB l)) ∧ True)) ∧ ((bnot (vB (getx l i1_0) (gety l i1_0))) = false → ((true = true) ∧ ((True) ∧ (True) ∧ True) ∧ ((true = true) ∧ (((b1_1 : Bool) = b1_1) ∧ (((iadd i1_0 (1 : Int)) : Int) = (iadd i1_0 (1 : Int))) ∧ ((Cont.pts l) = (Cont.pts l)) ∧ (((ilen l) : Int) = (ilen l)) ∧ ((Cont.pts l) = (Cont.pts l)) ∧ True) ∧ (True)) ∧ ((([GK.int, GK.bool] : List GK) = ([GK.int, GK.bool] : List GK)) ∧ I1 [GV.int (iadd i1_0 (1 : Int)), GV.bool b1_1] ∧ μ1 [GV.int (iadd i1_0 (1 : Int)), GV.bool b1_1] < μ1 [GV.int i1_0, GV.bool b1_1]))))) ∧ ((ilt i1_0 (ilen l)) = false → ((true = true) ∧ ((True) ∧ True) ∧ ((true : Bool) = (allB l)) ∧ True))))) = ev sig_impl_allPoints xs_impl_allPoints Try.f69.ntmps (fun b => if b == 0 then [.v 7, .v 2] else []) (codeOf Try.f69) 0 (initS [.s (.view (.pts l))]) (retK Try.f69.results.toList [.s (.bool (allB l))]) := by kernel_rfl
set_option maxHeartbeats 400000 in
theorem F_impl_allPoints : FunOK 69 g_impl_allPoints := by
  refine fun_F (by kernel_rfl) Try.func69 rfl (by kernel_rfl) sig_impl_allPoints_ok xs_impl_allPoints_ok ?_
  intro avs sg h hn hl
  unfold g_impl_allPoints at h
  split at h
  · rename_i l
    injection h with h; subst h
    refine ⟨by kernel_rfl, fun b => if b == 0 then [.v 7, .v 2] else [], Eq.mp (V_impl_allPoints l) ?_⟩
    simp only [true_and, and_true, implies_true, and_self, forall_const, true_implies, lenA, lenL, SV.lenOK, Cont.lenOK] at hn hl ⊢
    have h0 := ilen_0 l
    simp only [ilt_t, ilt_f, ile_t, ile_f, ieq_t, ieq_f, bnot_e, band_e, bite_and, bite_or, NLt_e, NLe_e, NNe_e, NIs_e, imax_e, imin_e, irem_e, Bool.not_eq_true', Bool.not_eq_false', Bool.and_eq_true, Bool.or_eq_true, Bool.or_eq_false_iff, Bool.and_eq_false_iff, Cont.pts.injEq, Cont.ints.injEq, Cont.bools.injEq, Cont.ptss.injEq, Cont.intss.injEq, Cont.boolss.injEq, true_and, and_true, implies_true]
    refine ⟨fun | .int k :: _ => 0 ≤ k ∧ k ≤ ilen l ∧ (∀ j, 0 ≤ j → j < k → vB (getx l j) (gety l j) = true) | _ => False, fun | .int k :: _ => (ilen l - k).toNat | _ => 0, ?_, ?_⟩
    · exact ⟨Int.le_refl 0, h0, fun j h0 h1 => absurd h1 (by omega)⟩
    · rintro k _ ⟨hk0, hk1, hk⟩
      simp only [ilt_t, ilt_f, ile_t, ile_f, ieq_t, ieq_f, bnot_e, band_e, bite_and, bite_or, NLt_e, NLe_e, NNe_e, NIs_e, imax_e, imin_e, irem_e, Bool.not_eq_true', Bool.not_eq_false', Bool.and_eq_true, Bool.or_eq_true, Bool.or_eq_false_iff, Bool.and_eq_false_iff, Cont.pts.injEq, Cont.ints.injEq, Cont.bools.injEq, Cont.ptss.injEq, Cont.intss.injEq, Cont.boolss.injEq, true_and, and_true, implies_true]
      refine ⟨fun hc => ⟨⟨hk0, hc⟩, fun hv => ?_, fun hv => ?_⟩, fun hc => ?_⟩
      · rw [allB_N, allN_no k hk0 hc hv]
      · rw [iadd_1 hk0 hc hl]
        exact ⟨⟨by omega, by omega, allN_up hk hv⟩, by omega⟩
      · rw [allB_N, allN_mk fun j h0 h1 => hk j h0 (by omega)]
  · cases h
def g_impl_BoxOf : List AV → Option Sg
  | [.s (.view (.pts l))] => some ⟨True, [.agg [.int (bLx l), .int (bLy l)], .agg [.int (bHx l), .int (bHy l)]]⟩
  | _ => none
def sig_impl_BoxOf : FuncId → List AV → Option Sg := sigL [(68, g_impl_within), (69, g_impl_allPoints)]
def xs_impl_BoxOf : XS := ⟨xsigL [], ysigL []⟩
theorem sig_impl_BoxOf_ok : SigOK sig_impl_BoxOf := sigL_cons F_impl_within (sigL_cons F_impl_allPoints sigL_nil)
theorem xs_impl_BoxOf_ok : XSigOK xs_impl_BoxOf := ⟨xsigL_nil, ysigL_nil⟩
theorem V_impl_BoxOf (l : List Pt) : ((true = true) ∧ ((True) ∧ (True) ∧ True) ∧ (true = true) ∧ ((True) ∧ (True) ∧ ((True)) ∧ (True) ∧ (True) ∧ (NIs (bnot (inB (ilen l) (1 : Int) (400 : Int))) false → True) ∧ (NIs (bnot (inB (ilen l) (1 : Int) (400 : Int))) false → (True)) ∧ (NIs (bnot (inB (ilen l) (1 : Int) (400 : Int))) false → True) ∧ (True) ∧ True) ∧ ((bite (bnot (inB (ilen l) (1 : Int) (400 : Int))) true (bnot (allB l))) = true → ((true = true) ∧ ((True) ∧ (True) ∧ True) ∧ (True) ∧ (True) ∧ ((((0 : Int) : Int) = (bLx l)) ∧ (((0 : Int) : Int) = (bLy l)) ∧ True) ∧ ((((0 : Int) : Int) = (bHx l)) ∧ (((0 : Int) : Int) = (bHy l)) ∧ True) ∧ True)) ∧ ((bite (bnot (inB (ilen l) (1 : Int) (400 : Int))) true (bnot (allB l))) = false → ((true = true) ∧ ((true = true) ∧ (True) ∧ ((true = true) ∧ (NLe 0 (0 : Int) ∧ NLt (0 : Int) (ilen l)) ∧ ((true = true) ∧ (True) ∧ ((true = true) ∧ (True) ∧ ((true = true) ∧ (NLe 0 (0 : Int) ∧ NLt (0 : Int) (ilen l)) ∧ ((true = true) ∧ (True) ∧ ((((true = true) ∧ ((((true = true) ∧ ((((true = true) ∧ (True) ∧ ((((true = true) ∧ (True) ∧ (((true = true) ∧ ((True) ∧ (True) ∧ (True) ∧ True) ∧ ∃ (I2 : List GV → Prop) (μ2 : List GV → Nat), (((true = true) ∧ ((((0 : Int) : Int) = (0 : Int)) ∧ ((Cont.pts l) = (Cont.pts l)) ∧ (((ilen l) : Int) = (ilen l)) ∧ (true = true) ∧ (true = true) ∧ ((((getx l (0 : Int)) : Int) = (getx l (0 : Int))) ∧ (((gety l (0 : Int)) : Int) = (gety l (0 : Int))) ∧ True) ∧ ((Cont.pts l) = (Cont.pts l)) ∧ ((((getx l (0 : Int)) : Int) = (getx l (0 : Int))) ∧ (((gety l (0 : Int)) : Int) = (gety l (0 : Int))) ∧ True) ∧ ((Cont.pts l) = (Cont.pts l)) ∧ ((Cont.pts l) = (Cont.pts l)) ∧ (((ilen l) : Int) = (ilen l)) ∧ (((inB (ilen l) (1 : Int) (400 : Int)) : Bool) = (inB (ilen l) (1 : Int) (400 : Int))) ∧ (((bnot (inB (ilen l) (1 : Int) (400 : Int))) : Bool) = (bnot (inB (ilen l) (1 : Int) (400 : Int)))) ∧ (((bnot (inB (ilen l) (1 : Int) (400 : Int))) : Bool) = (bnot (inB (ilen l) (1 : Int) (400 : Int)))) ∧ (((bite (bnot (inB (ilen l) (1 : Int) (400 : Int))) true (bnot (allB l))) : Bool) = (bite (bnot (inB (ilen l) (1 : Int) (400 : Int))) true (bnot (allB l)))) ∧ (true = true) ∧ (true = true) ∧ ((Cont.pts l) = (Cont.pts l)) ∧ True) ∧ (((((getx l (0 : Int)) : Int) = (getx l (0 : Int))) ∧ (((gety l (0 : Int)) : Int) = (gety l (0 : Int))) ∧ True) ∧ ((((getx l (0 : Int)) : Int) = (getx l (0 : Int))) ∧ (((gety l (0 : Int)) : Int) = (gety l (0 : Int))) ∧ True) ∧ ((((0 : Int) : Int) = (0 : Int)) ∧ (((0 : Int) : Int) = (0 : Int)) ∧ True) ∧ ((((0 : Int) : Int) = (0 : Int)) ∧ (((0 : Int) : Int) = (0 : Int)) ∧ True) ∧ True)) ∧ (([GK.int, GK.int, GK.int, GK.int, GK.int] : List GK) = ([GK.int, GK.int, GK.int, GK.int, GK.int] : List GK)) ∧ I2 [GV.int (0 : Int), GV.int (getx l (0 : Int)), GV.int (gety l (0 : Int)), GV.int (getx l (0 : Int)), GV.int (gety l (0 : Int))]) ∧ (∀ i2_0 : Int, ∀ i2_1 : Int, ∀ i2_2 : Int, ∀ i2_3 : Int, ∀ i2_4 : Int, I2 [GV.int i2_0, GV.int i2_1, GV.int i2_2, GV.int i2_3, GV.int i2_4] → ((true = true) ∧ ((True) ∧ True) ∧ ((ilt i2_0 (ilen l)) = true → ((true = true) ∧ ((NLe 0 i2_0 ∧ NLt i2_0 (ilen l)) ∧ (True) ∧ (True) ∧ True) ∧ (True) ∧ (true = true) ∧ ((True) ∧ (True) ∧ (True) ∧ (True) ∧ (True) ∧ (True) ∧ (True) ∧ (True) ∧ (True) ∧ (True) ∧ (True) ∧ True) ∧ (True) ∧ (true = true) ∧ ((True) ∧ (True) ∧ (True) ∧ (True) ∧ (True) ∧ (True) ∧ (True) ∧ (True) ∧ (True) ∧ (True) ∧ (True) ∧ True) ∧ (True) ∧ (true = true) ∧ ((True) ∧ (True) ∧ True) ∧ ((true = true) ∧ ((((iadd i2_0 (1 : Int)) : Int) = (iadd i2_0 (1 : Int))) ∧ ((Cont.pts l) = (Cont.pts l)) ∧ (((ilen l) : Int) = (ilen l)) ∧ (true = true) ∧ (true = true) ∧ ((((getx l (0 : Int)) : Int) = (getx l (0 : Int))) ∧ (((gety l (0 : Int)) : Int) = (gety l (0 : Int))) ∧ True) ∧ ((Cont.pts l) = (Cont.pts l)) ∧ ((((getx l (0 : Int)) : Int) = (getx l (0 : Int))) ∧ (((gety l (0 : Int)) : Int) = (gety l (0 : Int))) ∧ True) ∧ ((Cont.pts l) = (Cont.pts l)) ∧ ((Cont.pts l) = (Cont.pts l)) ∧ (((ilen l) : Int) = (ilen l)) ∧ (((inB (ilen l) (1 : Int) (400 : Int)) : Bool) = (inB (ilen l) (1 : Int) (400 : Int))) ∧ (((bnot (inB (ilen l) (1 : Int) (400 : Int))) : Bool) = (bnot (inB (ilen l) (1 : Int) (400 : Int)))) ∧ (((bnot (inB (ilen l) (1 : Int) (400 : Int))) : Bool) = (bnot (inB (ilen l) (1 : Int) (400 : Int)))) ∧ (((bite (bnot (inB (ilen l) (1 : Int) (400 : Int))) true (bnot (allB l))) : Bool) = (bite (bnot (inB (ilen l) (1 : Int) (400 : Int))) true (bnot (allB l)))) ∧ (true = true) ∧ (true = true) ∧ ((Cont.pts l) = (Cont.pts l)) ∧ True) ∧ (((((imax i2_3 (getx l i2_0)) : Int) = (imax i2_3 (getx l i2_0))) ∧ (((imax i2_4 (gety l i2_0)) : Int) = (imax i2_4 (gety l i2_0))) ∧ True) ∧ ((((imin i2_1 (getx l i2_0)) : Int) = (imin i2_1 (getx l i2_0))) ∧ (((imin i2_2 (gety l i2_0)) : Int) = (imin i2_2 (gety l i2_0))) ∧ True) ∧ ((((0 : Int) : Int) = (0 : Int)) ∧ (((0 : Int) : Int) = (0 : Int)) ∧ True) ∧ ((((0 : Int) : Int) = (0 : Int)) ∧ (((0 : Int) : Int) = (0 : Int)) ∧ True) ∧ True)) ∧ ((([GK.int, GK.int, GK.int, GK.int, GK.int] : List GK) = ([GK.int, GK.int, GK.int, GK.int, GK.int] : List GK)) ∧ I2 [GV.int (iadd i2_0 (1 : Int)), GV.int (imin i2_1 (getx l i2_0)), GV.int (imin i2_2 (gety l i2_0)), GV.int (imax i2_3 (getx l i2_0)), GV.int (imax i2_4 (gety l i2_0))] ∧ μ2 [GV.int (iadd i2_0 (1 : Int)), GV.int (imin i2_1 (getx l i2_0)), GV.int (imin i2_2 (gety l i2_0)), GV.int (imax i2_3 (getx l i2_0)), GV.int (imax i2_4 (gety l i2_0))] < μ2 [GV.int i2_0, GV.int i2_1, GV.int i2_2, GV.int i2_3, GV.int i2_4]))) ∧ ((ilt i2_0 (ilen l)) = false → ((true = true) ∧ (((true = true) ∧ ((True) ∧ (((true = true) ∧ ((True) ∧ (((true = true) ∧ ((True) ∧ (((true = true) ∧ ((True) ∧ ((((i2_1 : Int) = (bLx l)) ∧ ((i2_2 : Int) = (bLy l)) ∧ True) ∧ (((i2_3 : Int) = (bHx l)) ∧ ((i2_4 : Int) = (bHy l)) ∧ True) ∧ True))) ∧ True))) ∧ True))) ∧ ((true = true) ∧ ((True) ∧ (((true = true) ∧ ((True) ∧ (((true = true) ∧ ((True) ∧ ((((i2_1 : Int) = (bLx l)) ∧ ((i2_2 : Int) = (bLy l)) ∧ True) ∧ (((i2_3 : Int) = (bHx l)) ∧ ((i2_4 : Int) = (bHy l)) ∧ True) ∧ True))) ∧ True))) ∧ True))) ∧ True))) ∧ ((true = true) ∧ ((True) ∧ (((true = true) ∧ ((True) ∧ (((true = true) ∧ ((True) ∧ (((true = true) ∧ ((True) ∧ ((((i2_1 : Int) = (bLx l)) ∧ ((i2_2 : Int) = (bLy l)) ∧ True) ∧ (((i2_3 : Int) = (bHx l)) ∧ ((i2_4 : Int) = (bHy l)) ∧ True) ∧ True))) ∧ True))) ∧ True))) ∧ True))) ∧ True)))))))) ∧ True))) ∧ True))) ∧ True))) ∧ ((true = true) ∧ ((((true = true) ∧ ((((true = true) ∧ (True) ∧ ((((true = true) ∧ (True) ∧ (((true = true) ∧ ((True) ∧ (True) ∧ (True) ∧ True) ∧ ∃ (I1 : List GV → Prop) (μ1 : List GV → Nat), (((true = true) ∧ ((((0 : Int) : Int) = (0 : Int)) ∧ ((Cont.pts l) = (Cont.pts l)) ∧ (((ilen l) : Int) = (ilen l)) ∧ (true = true) ∧ (true = true) ∧ ((((getx l (0 : Int)) : Int) = (getx l (0 : Int))) ∧ (((gety l (0 : Int)) : Int) = (gety l (0 : Int))) ∧ True) ∧ ((Cont.pts l) = (Cont.pts l)) ∧ ((((getx l (0 : Int)) : Int) = (getx l (0 : Int))) ∧ (((gety l (0 : Int)) : Int) = (gety l (0 : Int))) ∧ True) ∧ ((Cont.pts l) = (Cont.pts l)) ∧ ((Cont.pts l) = (Cont.pts l)) ∧ (((ilen l) : Int) = (ilen l)) ∧ (((inB (ilen l) (1 : Int) (400 : Int)) : Bool) = (inB (ilen l) (1 : Int) (400 : Int))) ∧ (((bnot (inB (ilen l) (1 : Int) (400 : Int))) : Bool) = (bnot (inB (ilen l) (1 : Int) (400 : Int)))) ∧ (((bnot (inB (ilen l) (1 : Int) (400 : Int))) : Bool) = (bnot (inB (ilen l) (1 : Int) (400 : Int)))) ∧ (((bite (bnot (inB (ilen l) (1 : Int) (400 : Int))) true (bnot (allB l))) : Bool) = (bite (bnot (inB (ilen l) (1 : Int) (400 : Int))) true (bnot (allB l)))) ∧ (true = true) ∧ (true = true) ∧ ((Cont.pts l) = (Cont.pts l)) ∧ True) ∧ (((((getx l (0 : Int)) : Int) = (getx l (0 : Int))) ∧ (((gety l (0 : Int)) : Int) = (gety l (0 : Int))) ∧ True) ∧ ((((getx l (0 : Int)) : Int) = (getx l (0 : Int))) ∧ (((gety l (0 : Int)) : Int) = (gety l (0 : Int))) ∧ True) ∧ ((((0 : Int) : Int) = (0 : Int)) ∧ (((0 : Int) : Int) = (0 : Int)) ∧ True) ∧ ((((0 : Int) : Int) = (0 : Int)) ∧ (((0 : Int) : Int) = (0 : Int)) ∧ True) ∧ True)) ∧ (([GK.int, GK.int, GK.int, GK.int, GK.int] : List GK) = ([GK.int, GK.int, GK.int, GK.int, GK.int] : List GK)) ∧ I1 [GV.int (0 : Int), GV.int (getx l (0 : Int)), GV.int (gety l (0 : Int)), GV.int (getx l (0 : Int)), GV.int (gety l (0 : Int))]) ∧ (∀ i1_0 : Int, ∀ i1_1 : Int, ∀ i1_2 : Int, ∀ i1_3 : Int, ∀ i1_4 : Int, I1 [GV.int i1_0, GV.int i1_1, GV.int i1_2, GV.int i1_3, GV.int i1_4] → ((true = true) ∧ ((True) ∧ True) ∧ ((ilt i1_0 (ilen l)) = true → ((true = true) ∧ ((NLe 0 i1_0 ∧ NLt i1_0 (ilen l)) ∧ (True) ∧ (True) ∧ True) ∧ (True) ∧ (true = true) ∧ ((True) ∧ (True) ∧ (True) ∧ (True) ∧ (True) ∧ (True) ∧ (True) ∧ (True) ∧ (True) ∧ (True) ∧ (True) ∧ True) ∧ (True) ∧ (true = true) ∧ ((True) ∧ (True) ∧ (True) ∧ (True) ∧ (True) ∧ (True) ∧ (True) ∧ (True) ∧ (True) ∧ (True) ∧ (True) ∧ True) ∧ (True) ∧ (true = true) ∧ ((True) ∧ (True) ∧ True) ∧ ((true = true) ∧ ((((iadd i1_0 (1 : Int)) : Int) = (iadd i1_0 (1 : Int))) ∧ ((Cont.pts l) = (Cont.pts l)) ∧ (((ilen l) : Int) = (ilen l)) ∧ (true = true) ∧ (true = true) ∧ ((((getx l (0 : Int)) : Int) = (getx l (0 : Int))) ∧ (((gety l (0 : Int)) : Int) = (gety l (0 : Int))) ∧ True) ∧ ((Cont.pts l) = (Cont.pts l)) ∧ ((((getx l (0 : Int)) : Int) = (getx l (0 : Int))) ∧ (((gety l (0 : Int)) : Int) = (gety l (0 : Int))) ∧ True) ∧ ((Cont.pts l) = (Cont.pts l)) ∧ ((Cont.pts l) = (Cont.pts l)) ∧ (((ilen l) : Int) = (ilen l)) ∧ (((inB (ilen l) (1 : Int) (400 : Int)) : Bool) = (inB (ilen l) (1 : Int) (400 : Int))) ∧ (((bnot (inB (ilen l) (1 : Int) (400 : Int))) : Bool) = (bnot (inB (ilen l) (1 : Int) (400 : Int)))) ∧ (((bnot (inB (ilen l) (1 : Int) (400 : Int))) : Bool) = (bnot (inB (ilen l) (1 : Int) (400 : Int)))) ∧ (((bite (bnot (inB (ilen l) (1 : Int) (400 : Int))) true (bnot (allB l))) : Bool) = (bite (bnot (inB (ilen l) (1 : Int) (400 : Int))) true (bnot (allB l)))) ∧ (true = true) ∧ (true = true) ∧ ((Cont.pts l) = (Cont.pts l)) ∧ True) ∧ (((((imax i1_3 (getx l i1_0)) : Int) = (imax i1_3 (getx l i1_0))) ∧ (((imax i1_4 (gety l i1_0)) : Int) = (imax i1_4 (gety l i1_0))) ∧ True) ∧ ((((imin i1_1 (getx l i1_0)) : Int) = (imin i1_1 (getx l i1_0))) ∧ (((imin i1_2 (gety l i1_0)) : Int) = (imin i1_2 (gety l i1_0))) ∧ True) ∧ ((((0 : Int) : Int) = (0 : Int)) ∧ (((0 : Int) : Int) = (0 : Int)) ∧ True) ∧ ((((0 : Int) : Int) = (0 : Int)) ∧ (((0 : Int) : Int) = (0 : Int)) ∧ True) ∧ True)) ∧ ((([GK.int, GK.int, GK.int, GK.int, GK.int] : List GK) = ([GK.int, GK.int, GK.int, GK.int, GK.int] : List GK)) ∧ I1 [GV.int (iadd i1_0 (1 : Int)), GV.int (imin i1_1 (getx l i1_0)), GV.int (imin i1_2 (gety l i1_0)), GV.int (imax i1_3 (getx l i1_0)), GV.int (imax i1_4 (gety l i1_0))] ∧ μ1 [GV.int (iadd i1_0 (1 : Int)), GV.int (imin i1_1 (getx l i1_0)), GV.int (imin i1_2 (gety l i1_0)), GV.int (imax i1_3 (getx l i1_0)), GV.int (imax i1_4 (gety l i1_0))] < μ1 [GV.int i1_0, GV.int i1_1, GV.int i1_2, GV.int i1_3, GV.int i1_4]))) ∧ ((ilt i1_0 (ilen l)) = false → ((true = true) ∧ (((true = true) ∧ ((True) ∧ (((true = true) ∧ ((True) ∧ (((true = true) ∧ ((True) ∧ (((true = true) ∧ ((True) ∧ ((((i1_1 : Int) = (bLx l)) ∧ ((i1_2 : Int) = (bLy l)) ∧ True) ∧ (((i1_3 : Int) = (bHx l)) ∧ ((i1_4 : Int) = (bHy l)) ∧ True) ∧ True))) ∧ True))) ∧ True))) ∧ ((true = true) ∧ ((True) ∧ (((true = true) ∧ ((True) ∧ (((true = true) ∧ ((True) ∧ ((((i1_1 : Int) = (bLx l)) ∧ ((i1_2 : Int) = (bLy l)) ∧ True) ∧ (((i1_3 : Int) = (bHx l)) ∧ ((i1_4 : Int) = (bHy l)) ∧ True) ∧ True))) ∧ True))) ∧ True))) ∧ True))) ∧ ((true = true) ∧ ((True) ∧ (((true = true) ∧ ((True) ∧ (((true = true) ∧ ((True) ∧ (((true = true) ∧ ((True) ∧ ((((i1_1 : Int) = (bLx l)) ∧ ((i1_2 : Int) = (bLy l)) ∧ True) ∧ (((i1_3 : Int) = (bHx l)) ∧ ((i1_4 : Int) = (bHy l)) ∧ True) ∧ True))) ∧ True))) ∧ True))) ∧ True))) ∧ True)))))))) ∧ True))) ∧ True))) ∧ True))) ∧ True))))))))))) = ev sig_impl_BoxOf xs_impl_BoxOf Try.f19.ntmps (fun b => if b == 0 then [.v 27, .b 4, .b 5] else []) (codeOf Try.f19) 0 (initS [.s (.view (.pts l))]) (retK Try.f19.results.toList [.agg [.int (bLx l), .int (bLy l)], .agg [.int (bHx l), .int (bHy l)]]) := by kernel_rfl
set_option maxHeartbeats 400000 in
theorem F_impl_BoxOf : FunOK 19 g_impl_BoxOf := by
  refine fun_F (by kernel_rfl) Try.func19 rfl (by kernel_rfl) sig_impl_BoxOf_ok xs_impl_BoxOf_ok ?_
  intro avs sg h hn hl
  unfold g_impl_BoxOf at h
  split at h
  · rename_i l
    injection h with h; subst h
    refine ⟨by kernel_rfl, fun b => if b == 0 then [.v 27, .b 4, .b 5] else [], Eq.mp (V_impl_BoxOf l) ?_⟩
    simp only [true_and, and_true, implies_true, and_self, forall_const, true_implies, lenA, lenL, SV.lenOK, Cont.lenOK] at hn hl ⊢
    simp only [ilt_t, ilt_f, ile_t, ile_f, ieq_t, ieq_f, bnot_e, band_e, bite_and, bite_or, NLt_e, NLe_e, NNe_e, NIs_e, imax_e, imin_e, irem_e, Bool.not_eq_true', Bool.not_eq_false', Bool.and_eq_true, Bool.or_eq_true, Bool.or_eq_false_iff, Bool.and_eq_false_iff, Cont.pts.injEq, Cont.ints.injEq, Cont.bools.injEq, Cont.ptss.injEq, Cont.intss.injEq, Cont.boolss.injEq, true_and, and_true, implies_true]
    refine ⟨fun h => ?_, fun h => ?_⟩
    · have hb : bVal l = false := by unfold bVal; rcases h with h | h <;> simp [h]
      obtain ⟨h1, h2, h3, h4⟩ := boxV_no hb
      simp [h1, h2, h3, h4]
    · have hb : bVal l = true := by unfold bVal; rw [h.1, h.2]; rfl
      have hlen := (inB_true h.1).1
      refine ⟨⟨by omega, by omega⟩, ⟨by omega, by omega⟩, ?_⟩
      refine ⟨fun | [.int k, .int a, .int b, .int c, .int d] => 0 ≤ k ∧ k ≤ ilen l ∧ a = foldN k (fun a j => min a (getx l j)) (getx l 0) ∧ b = foldN k (fun a j => min a (gety l j)) (gety l 0) ∧ c = foldN k (fun a j => max a (getx l j)) (getx l 0) ∧ d = foldN k (fun a j => max a (gety l j)) (gety l 0) | _ => False, fun | [.int k, .int a, .int b, .int c, .int d] => (ilen l - k).toNat | _ => 0, ?_, ?_⟩
      · exact ⟨Int.le_refl 0, by omega, rfl, rfl, rfl, rfl⟩
      · rintro k a b c d ⟨hk0, hk1, rfl, rfl, rfl, rfl⟩
        refine ⟨fun hc => ?_, fun hc => ?_⟩
        · rw [iadd_e (by omega) (by omega)]
          refine ⟨⟨hk0, hc⟩, ⟨by omega, by omega, ?_⟩, by show (ilen l - (k + 1)).toNat < (ilen l - k).toNat; omega⟩
          simp only [foldN_1 hk0, and_self]
        · obtain rfl : k = ilen l := by omega
          simp [bLx, bLy, bHx, bHy, hb]
  · cases h
def eqPt (p1 p2 q1 q2 : Int) : Bool := decide (p1 = q1) && decide (p2 = q2)
theorem eqPt_same (p q : Int) : eqPt p q p q = true := by simp [eqPt]
def g_laws_eqPoint : List AV → Option Sg
  | [.agg [.int p1, .int p2], .agg [.int q1, .int q2]] => some ⟨True, [.s (.bool (eqPt p1 p2 q1 q2))]⟩
  | _ => none
def sig_laws_eqPoint : FuncId → List AV → Option Sg := sigL []
def xs_laws_eqPoint : XS := ⟨xsigL [], ysigL []⟩
theorem sig_laws_eqPoint_ok : SigOK sig_laws_eqPoint := sigL_nil
theorem xs_laws_eqPoint_ok : XSigOK xs_laws_eqPoint := ⟨xsigL_nil, ysigL_nil⟩
theorem V_laws_eqPoint (p1 : Int) (p2 : Int) (q1 : Int) (q2 : Int) : ((true = true) ∧ ((True) ∧ (True) ∧ (True) ∧ True) ∧ (true = true) ∧ ((True) ∧ (True) ∧ (True) ∧ (True) ∧ (True) ∧ True) ∧ ((bnot (ieq p1 q1)) = true → ((true = true) ∧ ((True) ∧ True) ∧ ((false : Bool) = (eqPt p1 p2 q1 q2)) ∧ True)) ∧ ((bnot (ieq p1 q1)) = false → ((true = true) ∧ ((True) ∧ (True) ∧ (True) ∧ (True) ∧ (True) ∧ True) ∧ ((bnot (ieq p2 q2)) = true → ((true = true) ∧ ((True) ∧ True) ∧ ((false : Bool) = (eqPt p1 p2 q1 q2)) ∧ True)) ∧ ((bnot (ieq p2 q2)) = false → ((true = true) ∧ ((True) ∧ True) ∧ ((true : Bool) = (eqPt p1 p2 q1 q2)) ∧ True))))) = ev sig_laws_eqPoint xs_laws_eqPoint Try.f20.ntmps (fun b => []) (codeOf Try.f20) 0 (initS [.agg [.int p1, .int p2], .agg [.int q1, .int q2]]) (retK Try.f20.results.toList [.s (.bool (eqPt p1 p2 q1 q2))]) := by kernel_rfl
set_option maxHeartbeats 400000 in
theorem F_laws_eqPoint : FunOK 20 g_laws_eqPoint := by
  refine fun_F (by kernel_rfl) Try.func20 rfl (by kernel_rfl) sig_laws_eqPoint_ok xs_laws_eqPoint_ok ?_
  intro avs sg h hn hl
  unfold g_laws_eqPoint at h
  split at h
  · rename_i p1 p2 q1 q2
    injection h with h; subst h
    refine ⟨by kernel_rfl, fun b => [], Eq.mp (V_laws_eqPoint p1 p2 q1 q2) ?_⟩
    simp only [true_and, and_true, implies_true, and_self, forall_const, true_implies, lenA, lenL, SV.lenOK, Cont.lenOK] at hn hl ⊢
    simp only [ilt_t, ilt_f, ile_t, ile_f, ieq_t, ieq_f, bnot_e, band_e, bite_and, bite_or, NLt_e, NLe_e, NNe_e, NIs_e, imax_e, imin_e, irem_e, Bool.not_eq_true', Bool.not_eq_false', Bool.and_eq_true, Bool.or_eq_true, Bool.or_eq_false_iff, Bool.and_eq_false_iff, Cont.pts.injEq, Cont.ints.injEq, Cont.bools.injEq, Cont.ptss.injEq, Cont.intss.injEq, Cont.boolss.injEq, true_and, and_true, implies_true]
    unfold eqPt
    refine ⟨fun h => by simp [h], fun h => ⟨fun h2 => by simp [h2], fun h2 => by simp [h, h2]⟩⟩
  · cases h
def eqL (l m : List Pt) : Bool := decide (ilen l = ilen m) && allN (ilen l) fun j => eqPt (getx l j) (gety l j) (getx m j) (gety m j)
theorem eqL_same (l : List Pt) : eqL l l = true := by
  unfold eqL
  rw [allN_mk fun j _ _ => eqPt_same _ _]
  simp
def g_laws_eqPointS : List AV → Option Sg
  | [.s (.view (.pts l)), .s (.view (.pts m))] => some ⟨True, [.s (.bool (eqL l m))]⟩
  | _ => none
def sig_laws_eqPointS : FuncId → List AV → Option Sg := sigL [(20, g_laws_eqPoint)]
def xs_laws_eqPointS : XS := ⟨xsigL [], ysigL []⟩
theorem sig_laws_eqPointS_ok : SigOK sig_laws_eqPointS := sigL_cons F_laws_eqPoint sigL_nil
theorem xs_laws_eqPointS_ok : XSigOK xs_laws_eqPointS := ⟨xsigL_nil, ysigL_nil⟩
theorem V_laws_eqPointS (l : List Pt) (m : List Pt) : ((true = true) ∧ ((True) ∧ True) ∧ (true = true) ∧ ((True) ∧ (True) ∧ (True) ∧ (True) ∧ (True) ∧ True) ∧ ((bnot (ieq (ilen l) (ilen m))) = true → ((true = true) ∧ ((True) ∧ True) ∧ ((false : Bool) = (eqL l m)) ∧ True)) ∧ ((bnot (ieq (ilen l) (ilen m))) = false → ((true = true) ∧ ((True) ∧ True) ∧ ∃ (I1 : List GV → Prop) (μ1 : List GV → Nat), (((true = true) ∧ (((false : Bool) = false) ∧ (((0 : Int) : Int) = (0 : Int)) ∧ ((Cont.pts l) = (Cont.pts l)) ∧ (((ilen l) : Int) = (ilen l)) ∧ ((Cont.pts m) = (Cont.pts m)) ∧ (((ilen m) : Int) = (ilen m)) ∧ (((bnot (ieq (ilen l) (ilen m))) : Bool) = (bnot (ieq (ilen l) (ilen m)))) ∧ ((Cont.pts l) = (Cont.pts l)) ∧ ((Cont.pts m) = (Cont.pts m)) ∧ True) ∧ (True)) ∧ (([GK.int, GK.bool] : List GK) = ([GK.int, GK.bool] : List GK)) ∧ I1 [GV.int (0 : Int), GV.bool false]) ∧ (∀ i1_0 : Int, ∀ b1_1 : Bool, I1 [GV.int i1_0, GV.bool b1_1] → ((true = true) ∧ ((True) ∧ (True) ∧ (True) ∧ (True) ∧ True) ∧ ((ilt i1_0 (ilen l)) = true → ((true = true) ∧ ((True) ∧ (True) ∧ (NLe 0 i1_0 ∧ NLt i1_0 (ilen l)) ∧ (True) ∧ (True) ∧ (True) ∧ (NLe 0 i1_0 ∧ NLt i1_0 (ilen m)) ∧ (True) ∧ ((True)) ∧ (True) ∧ True) ∧ ((bnot (eqPt (getx l i1_0) (gety l i1_0) (getx m i1_0) (gety m i1_0))) = true → ((true = true) ∧ ((True) ∧ True) ∧ ((false : Bool) = (eqL l m)) ∧ True)) ∧ ((bnot (eqPt (getx l i1_0) (gety l i1_0) (getx m i1_0) (gety m i1_0))) = false → ((true = true) ∧ ((True) ∧ (True) ∧ (True) ∧ True) ∧ ((true = true) ∧ (((b1_1 : Bool) = b1_1) ∧ (((iadd i1_0 (1 : Int)) : Int) = (iadd i1_0 (1 : Int))) ∧ ((Cont.pts l) = (Cont.pts l)) ∧ (((ilen l) : Int) = (ilen l)) ∧ ((Cont.pts m) = (Cont.pts m)) ∧ (((ilen m) : Int) = (ilen m)) ∧ (((bnot (ieq (ilen l) (ilen m))) : Bool) = (bnot (ieq (ilen l) (ilen m)))) ∧ ((Cont.pts l) = (Cont.pts l)) ∧ ((Cont.pts m) = (Cont.pts m)) ∧ True) ∧ (True)) ∧ ((([GK.int, GK.bool] : List GK) = ([GK.int, GK.bool] : List GK)) ∧ I1 [GV.int (iadd i1_0 (1 : Int)), GV.bool b1_1] ∧ μ1 [GV.int (iadd i1_0 (1 : Int)), GV.bool b1_1] < μ1 [GV.int i1_0, GV.bool b1_1]))))) ∧ ((ilt i1_0 (ilen l)) = false → ((true = true) ∧ ((True) ∧ True) ∧ ((true : Bool) = (eqL l m)) ∧ True))))))) = ev sig_laws_eqPointS xs_laws_eqPointS Try.f21.ntmps (fun b => if b == 0 then [.v 5, .v 4] else []) (codeOf Try.f21) 0 (initS [.s (.view (.pts l)), .s (.view (.pts m))]) (retK Try.f21.results.toList [.s (.bool (eqL l m))]) := by kernel_rfl
set_option maxHeartbeats 400000 in
theorem F_laws_eqPointS : FunOK 21 g_laws_eqPointS := by
  refine fun_F (by kernel_rfl) Try.func21 rfl (by kernel_rfl) sig_laws_eqPointS_ok xs_laws_eqPointS_ok ?_
  intro avs sg h hn hl
  unfold g_laws_eqPointS at h
  split at h
  · rename_i l m
    injection h with h; subst h
    refine ⟨by kernel_rfl, fun b => if b == 0 then [.v 5, .v 4] else [], Eq.mp (V_laws_eqPointS l m) ?_⟩
    simp only [true_and, and_true, implies_true, and_self, forall_const, true_implies, lenA, lenL, SV.lenOK, Cont.lenOK] at hn hl ⊢
    have h0 := ilen_0 l
    simp only [ilt_t, ilt_f, ile_t, ile_f, ieq_t, ieq_f, bnot_e, band_e, bite_and, bite_or, NLt_e, NLe_e, NNe_e, NIs_e, imax_e, imin_e, irem_e, Bool.not_eq_true', Bool.not_eq_false', Bool.and_eq_true, Bool.or_eq_true, Bool.or_eq_false_iff, Bool.and_eq_false_iff, Cont.pts.injEq, Cont.ints.injEq, Cont.bools.injEq, Cont.ptss.injEq, Cont.intss.injEq, Cont.boolss.injEq, true_and, and_true, implies_true]
    unfold eqL
    refine ⟨fun h => by simp [h], fun h => ?_⟩
    refine ⟨fun | .int k :: _ => 0 ≤ k ∧ k ≤ ilen l ∧ ∀ j, 0 ≤ j → j < k → eqPt (getx l j) (gety l j) (getx m j) (gety m j) = true | _ => False, fun | .int k :: _ => (ilen l - k).toNat | _ => 0, ?_, ?_⟩
    · exact ⟨Int.le_refl 0, h0, fun j h0 h1 => absurd h1 (by omega)⟩
    · rintro k _ ⟨hk0, hk1, hk⟩
      simp only [ilt_t, ilt_f, ile_t, ile_f, ieq_t, ieq_f, bnot_e, band_e, bite_and, bite_or, NLt_e, NLe_e, NNe_e, NIs_e, imax_e, imin_e, irem_e, Bool.not_eq_true', Bool.not_eq_false', Bool.and_eq_true, Bool.or_eq_true, Bool.or_eq_false_iff, Bool.and_eq_false_iff, Cont.pts.injEq, Cont.ints.injEq, Cont.bools.injEq, Cont.ptss.injEq, Cont.intss.injEq, Cont.boolss.injEq, true_and, and_true, implies_true]
      refine ⟨fun hc => ⟨⟨⟨hk0, hc⟩, hk0, by omega⟩, fun hv => ?_, fun hv => ?_⟩, fun hc => ?_⟩
      · rw [allN_no k hk0 hc hv]; simp
      · rw [iadd_1 hk0 hc hl.1]
        exact ⟨⟨by omega, by omega, allN_up hk hv⟩, by omega⟩
      · rw [allN_mk fun j h0 h1 => hk j h0 (by omega)]; simp [h]
  · cases h
def g_laws_FnExactBoxOf : List AV → Option Sg
  | [.s (.view (.pts l))] => some ⟨True, [.s (.bool (true))]⟩
  | _ => none
def sig_laws_FnExactBoxOf : FuncId → List AV → Option Sg := sigL [(16, g_laws_szPointS), (18, g_laws_toPointS), (17, g_spec_BoxOf), (19, g_impl_BoxOf), (20, g_laws_eqPoint), (21, g_laws_eqPointS)]
def xs_laws_FnExactBoxOf : XS := ⟨xsigL [], ysigL []⟩
theorem sig_laws_FnExactBoxOf_ok : SigOK sig_laws_FnExactBoxOf := sigL_cons F_laws_szPointS (sigL_cons F_laws_toPointS (sigL_cons F_spec_BoxOf (sigL_cons F_impl_BoxOf (sigL_cons F_laws_eqPoint (sigL_cons F_laws_eqPointS sigL_nil)))))
theorem xs_laws_FnExactBoxOf_ok : XSigOK xs_laws_FnExactBoxOf := ⟨xsigL_nil, ysigL_nil⟩
theorem V_laws_FnExactBoxOf (l : List Pt) : ((true = true) ∧ ((True) ∧ True) ∧ (true = true) ∧ ((True) ∧ True) ∧ (true = true) ∧ ((True) ∧ (True) ∧ ((0 ≤ (1048576 : Int) ∧ (1048576 : Int) ≤ 1048576)) ∧ (True) ∧ True) ∧ (true = true) ∧ ((True) ∧ (True) ∧ True) ∧ ((ilt (szI (ilen l) (1048576 : Int)) (0 : Int)) = true → ((true = true) ∧ ((True) ∧ True) ∧ ((true : Bool) = (true)) ∧ True)) ∧ ((ilt (szI (ilen l) (1048576 : Int)) (0 : Int)) = false → ((true = true) ∧ ((True) ∧ ((ilen l ≤ 100000000)) ∧ ((True)) ∧ (True) ∧ (True) ∧ (True) ∧ (True) ∧ (True) ∧ True) ∧ (True) ∧ (True) ∧ (true = true) ∧ ((True) ∧ ((ilen l ≤ 100000000)) ∧ (True) ∧ True) ∧ (true = true) ∧ ((True) ∧ ((True)) ∧ (True) ∧ (True) ∧ (True) ∧ (True) ∧ (True) ∧ True) ∧ (True) ∧ (True) ∧ (true = true) ∧ ((True) ∧ (True) ∧ ((True)) ∧ (True) ∧ (True) ∧ (NIs (bnot (eqPt (bLx (l)) (bLy (l)) (bLx (l)) (bLy (l)))) false → True) ∧ (NIs (bnot (eqPt (bLx (l)) (bLy (l)) (bLx (l)) (bLy (l)))) false → True) ∧ (NIs (bnot (eqPt (bLx (l)) (bLy (l)) (bLx (l)) (bLy (l)))) false → (True)) ∧ (NIs (bnot (eqPt (bLx (l)) (bLy (l)) (bLx (l)) (bLy (l)))) false → True) ∧ (True) ∧ True) ∧ ((bite (bnot (eqPt (bLx (l)) (bLy (l)) (bLx (l)) (bLy (l)))) true (bnot (eqPt (bHx (l)) (bHy (l)) (bHx (l)) (bHy (l))))) = true → ((true = true) ∧ ((True) ∧ True) ∧ ((false : Bool) = (true)) ∧ True)) ∧ ((bite (bnot (eqPt (bLx (l)) (bLy (l)) (bLx (l)) (bLy (l)))) true (bnot (eqPt (bHx (l)) (bHy (l)) (bHx (l)) (bHy (l))))) = false → ((true = true) ∧ ((True) ∧ (True) ∧ ((ilen l ≤ 100000000)) ∧ ((True)) ∧ (True) ∧ True) ∧ ((bnot (eqL (l) (l))) = true → ((true = true) ∧ ((True) ∧ True) ∧ ((false : Bool) = (true)) ∧ True)) ∧ ((bnot (eqL (l) (l))) = false → ((true = true) ∧ ((True) ∧ True) ∧ ((true : Bool) = (true)) ∧ True))))))) = ev sig_laws_FnExactBoxOf xs_laws_FnExactBoxOf Try.f3.ntmps (fun b => []) (codeOf Try.f3) 0 (initS [.s (.view (.pts l))]) (retK Try.f3.results.toList [.s (.bool (true))]) := by kernel_rfl
set_option maxHeartbeats 400000 in
theorem F_laws_FnExactBoxOf : FunOK 3 g_laws_FnExactBoxOf := by
  refine fun_F (by kernel_rfl) Try.func3 rfl (by kernel_rfl) sig_laws_FnExactBoxOf_ok xs_laws_FnExactBoxOf_ok ?_
  intro avs sg h hn hl
  unfold g_laws_FnExactBoxOf at h
  split at h
  · rename_i l
    injection h with h; subst h
    refine ⟨by kernel_rfl, fun b => [], Eq.mp (V_laws_FnExactBoxOf l) ?_⟩
    simp only [true_and, and_true, implies_true, and_self, forall_const, true_implies, lenA, lenL, SV.lenOK, Cont.lenOK] at hn hl ⊢
    have h0 := ilen_0 l
    simp only [ilt_t, ilt_f, ile_t, ile_f, ieq_t, ieq_f, bnot_e, band_e, bite_and, bite_or, NLt_e, NLe_e, NNe_e, NIs_e, imax_e, imin_e, irem_e, Bool.not_eq_true', Bool.not_eq_false', Bool.and_eq_true, Bool.or_eq_true, Bool.or_eq_false_iff, Bool.and_eq_false_iff, Cont.pts.injEq, Cont.ints.injEq, Cont.bools.injEq, Cont.ptss.injEq, Cont.intss.injEq, Cont.boolss.injEq, true_and, and_true, implies_true, eqPt_same, eqL_same]
    unfold szI
    split <;> simp <;> omega
  · cases h
theorem fnExactBoxOf_walk (w : World) (v0 : Value) (x0 : List Pt) (w0 : PointsArg w v0 x0) : Calls Try.prog 3 #[v0] w fun e w' => e = .returned (.bool true) ∧ Bel w w' :=
  walk_of F_laws_FnExactBoxOf (avs := [.s (.view (.pts x0))]) rfl trivial ⟨pts_reads w0.1, trivial⟩
set_option maxRecDepth 100000 in
theorem fnExactBoxOf_lifted (os : Os) (started : os.Started) (H : Type) (enc : TypeId × Value → H) :
    ReturnsInHanded {} Try.checked os 3 .any (Rows.fnExactBoxOfSpec.pre6 enc Try.prog Try.f3 Rows.fnExactBoxOfRow.domain false) (Rows.fnExactBoxOfSpec.post enc Try.prog Try.f3 false true false false) := by
  have own : ownKnob Try.prog.godebug = none := by kernel_rfl
  have laidOut : laidOutB Try.prog = true := by kernel_rfl
  refine returnsInHanded_of_change (C := Try.checked) own started (by kernel_rfl) Try.func3
    (ChangeSpec.witness6 (enc := enc) (C := Try.checked) false ⟨#[], #[.slice none 0 0], []⟩ 8 (by kernel_rfl) (by kernel_rfl) (by kernel_rfl) (by kernel_rfl)) ?_
  intro W base args ds gs before hval0 hW hcnd _
  have hval : ∀ (j : Nat) t v, Try.f3.params[j]? = some t → args[j]? = some v → Value.okWide Try.prog W .any base t v := hval0
  have hW' := hW
  obtain ⟨p, q, hA0, hV, rfl, hfz, hnd⟩ := hW
  have hA : DataW.TrodAll enc Try.prog W 0 (fun _ => true) true Try.f3.params.toList args.toList ds p := hA0
  rw [Try.params3] at hA hval
  obtain ⟨v0, vs0, d0, ds0, p0, q0, hargs, rfl, rfl, h0, r0⟩ := trodAll_cons hA
  obtain ⟨rfl, rfl, rfl⟩ := trodAll_nil r0
  obtain rfl : args = #[v0] := by cases args; simp_all
  obtain ⟨rfl, rfl⟩ := trodVars_none hV
  have k0 := h0
  have lt0 : ∀ x ∈ p0, x.block < W.heap.size := by obtain ⟨m, hm⟩ := k0; exact DataW.trod_lt m _ _ _ hm
  obtain ⟨x0, w0⟩ := opn_Points (hval 0 22 v0 rfl rfl) h0
  clear hA0 hval0
  refine (fnExactBoxOf_walk W v0 x0 w0).mono fun e W' ⟨he, bel⟩ => ?_
  subst he
  exact ⟨_, rfl, _, _, _, [], _, [], hW', trodAll_mk1 (shut_bool Try.underlying4 _), (trodAll_cons_mk (Below.trod laidOut (by kernel_rfl) (of_decide_eq_true (by kernel_rfl)) k0 bel lt0) trodAll_mk0), rfl, Below.frame bel _, fun h => by cases h⟩
theorem fnExactBoxOf_over : Rows.fnExactBoxOfRow.holds Try.pinned (OpenSpec.ofChange Rows.fnExactBoxOfSpec) :=
  OpenClaim.holds_of_wide 3 Try.f3 rfl rfl rfl rfl rfl rfl rfl ⟨rfl, rfl, rfl, rfl, rfl⟩ rfl rfl rfl rfl rfl (by kernel_rfl) Try.func3 (by kernel_rfl)
    (of_decide_eq_true (by kernel_rfl)) (by unfold Func.isWrapper; first | (rw [if_pos (by decide +kernel)]; kernel_rfl) | (rw [if_neg (by decide +kernel)]; exact ⟨rfl, rfl⟩))
    (fun os started H enc _ => fnExactBoxOf_lifted os started H enc)
theorem fnExactBoxOf_proved : Rows.FnExactBoxOfSaid := fnExactBoxOf_over
#print axioms fnExactBoxOf_proved
end Go.Proofs.Ytiddodphfbohmaa

/- 'FnExactPathCorners': for all arguments the program's PathCorners returns what the reference's returns and leaves its arguments alone. Conditions: none. -/
import Derived.Test.YtnhgojcleepdiaaAxO
namespace Go.Proofs.Ytnhgojcleepdiaa
open Go.ChangeShapes Go.WideShapes Go.ChangeAt Go.RowKit
set_option maxRecDepth 100000
set_option linter.unusedSimpArgs false
set_option linter.unusedVariables false
def szI (k n : Int) : Int := if k ≤ n then n - k else -1
def g_laws_szCellS : List AV → Option Sg
  | [.s (.view (.pts l)), .s (.int n)] => some ⟨0 ≤ n ∧ n ≤ 1048576, [.s (.int (szI (ilen l) n))]⟩
  | _ => none
def sig_laws_szCellS : FuncId → List AV → Option Sg := sigL []
def xs_laws_szCellS : XS := ⟨xsigL [], ysigL []⟩
theorem sig_laws_szCellS_ok : SigOK sig_laws_szCellS := sigL_nil
theorem xs_laws_szCellS_ok : XSigOK xs_laws_szCellS := ⟨xsigL_nil, ysigL_nil⟩
theorem V_laws_szCellS (l : List Pt) (n : Int) : ((true = true) ∧ ((True) ∧ True) ∧ (true = true) ∧ ((True) ∧ (True) ∧ (True) ∧ (True) ∧ (True) ∧ True) ∧ (true = true) ∧ ((True) ∧ (True) ∧ True) ∧ ((ilt (isub n (ilen l)) (0 : Int)) = true → ((true = true) ∧ ((True) ∧ True) ∧ (((-1 : Int) : Int) = (szI (ilen l) n)) ∧ True)) ∧ ((ilt (isub n (ilen l)) (0 : Int)) = false → ((true = true) ∧ ((True) ∧ (True) ∧ True) ∧ (((isub n (ilen l)) : Int) = (szI (ilen l) n)) ∧ True))) = ev sig_laws_szCellS xs_laws_szCellS Try.f14.ntmps (fun b => []) (codeOf Try.f14) 0 (initS [.s (.view (.pts l)), .s (.int n)]) (retK Try.f14.results.toList [.s (.int (szI (ilen l) n))]) := by kernel_rfl
set_option maxHeartbeats 400000 in
theorem F_laws_szCellS : FunOK 14 g_laws_szCellS := by
  refine fun_F (by kernel_rfl) Try.func14 rfl (by kernel_rfl) sig_laws_szCellS_ok xs_laws_szCellS_ok ?_
  intro avs sg h hn hl
  unfold g_laws_szCellS at h
  split at h
  · rename_i l n
    injection h with h; subst h
    refine ⟨by kernel_rfl, fun b => [], Eq.mp (V_laws_szCellS l n) ?_⟩
    simp only [true_and, and_true, implies_true, and_self, forall_const, true_implies, lenA, lenL, SV.lenOK, Cont.lenOK] at hn hl ⊢
    simp only [ilt_t, ilt_f, ile_t, ile_f, ieq_t, ieq_f, bnot_e, band_e, bite_and, bite_or, NLt_e, NLe_e, NNe_e, NIs_e, imax_e, imin_e, irem_e, Bool.not_eq_true', Bool.not_eq_false', Bool.and_eq_true, Bool.or_eq_true, Bool.or_eq_false_iff, Bool.and_eq_false_iff, Cont.pts.injEq, Cont.ints.injEq, Cont.bools.injEq, Cont.ptss.injEq, Cont.intss.injEq, Cont.boolss.injEq, true_and, and_true, implies_true]
    have := ilen_0 l
    rw [isub_e (by omega) (by omega)]
    unfold szI
    refine ⟨fun h => ?_, fun h => ?_⟩
    · rw [if_neg (by omega)]
    · rw [if_pos (by omega)]
  · cases h
def g_laws_toCell : List AV → Option Sg
  | [.agg [.int p1, .int p2]] => some ⟨True, [.agg [.int (p1), .int (p2)]]⟩
  | _ => none
def sig_laws_toCell : FuncId → List AV → Option Sg := sigL []
def xs_laws_toCell : XS := ⟨xsigL [], ysigL []⟩
theorem sig_laws_toCell_ok : SigOK sig_laws_toCell := sigL_nil
theorem xs_laws_toCell_ok : XSigOK xs_laws_toCell := ⟨xsigL_nil, ysigL_nil⟩
theorem V_laws_toCell (p1 : Int) (p2 : Int) : ((true = true) ∧ ((True) ∧ (True) ∧ True) ∧ (true = true) ∧ ((True) ∧ True) ∧ (true = true) ∧ ((True) ∧ (True) ∧ (True) ∧ True) ∧ (True) ∧ (true = true) ∧ ((True) ∧ (True) ∧ (True) ∧ True) ∧ (True) ∧ (true = true) ∧ ((True) ∧ True) ∧ (True) ∧ (((p1 : Int) = (p1)) ∧ ((p2 : Int) = (p2)) ∧ True) ∧ True) = ev sig_laws_toCell xs_laws_toCell Try.f38.ntmps (fun b => []) (codeOf Try.f38) 0 (initS [.agg [.int p1, .int p2]]) (retK Try.f38.results.toList [.agg [.int (p1), .int (p2)]]) := by kernel_rfl
set_option maxHeartbeats 400000 in
theorem F_laws_toCell : FunOK 38 g_laws_toCell := by
  refine fun_F (by kernel_rfl) Try.func38 rfl (by kernel_rfl) sig_laws_toCell_ok xs_laws_toCell_ok ?_
  intro avs sg h hn hl
  unfold g_laws_toCell at h
  split at h
  · rename_i p1 p2
    injection h with h; subst h
    refine ⟨by kernel_rfl, fun b => [], Eq.mp (V_laws_toCell p1 p2) ?_⟩
    simp only [true_and, and_true, implies_true, and_self, forall_const, true_implies, lenA, lenL, SV.lenOK, Cont.lenOK] at hn hl ⊢
  · cases h
def g_laws_toCellS : List AV → Option Sg
  | [.s (.view (.pts l))] => some ⟨ilen l ≤ 100000000, [.nrow 47 (.pts (l))]⟩
  | _ => none
def sig_laws_toCellS : FuncId → List AV → Option Sg := sigL [(38, g_laws_toCell)]
def xs_laws_toCellS : XS := ⟨xsigL [], ysigL []⟩
theorem sig_laws_toCellS_ok : SigOK sig_laws_toCellS := sigL_cons F_laws_toCell sigL_nil
theorem xs_laws_toCellS_ok : XSigOK xs_laws_toCellS := ⟨xsigL_nil, ysigL_nil⟩
theorem V_laws_toCellS (l : List Pt) : ((true = true) ∧ ((True) ∧ True) ∧ (true = true) ∧ ((True) ∧ (True) ∧ (NLe 0 (ilen l) ∧ NLe (ilen l) 100000000 ∧ NIs (ieq (ilen l) (ilen l)) true) ∧ (True) ∧ True) ∧ (true = true) ∧ ((True) ∧ True) ∧ ∃ (I1 : List GV → Prop) (μ1 : List GV → Nat), (((true = true) ∧ ((((0 : Int) : Int) = (0 : Int)) ∧ ((Cont.pts l) = (Cont.pts l)) ∧ (((ilen l) : Int) = (ilen l)) ∧ (true = true) ∧ (true = true) ∧ ((Cont.pts l) = (Cont.pts l)) ∧ True) ∧ (((true = true) ∧ ((Cont.pts (irep (ilen l) (0, 0))) = (Cont.pts (irep (ilen l) (0, 0))))) ∧ ((true = true) ∧ ((Cont.pts []) = (Cont.pts []))) ∧ True)) ∧ (([GK.int, GK.pts] : List GK) = ([GK.int, GK.pts] : List GK)) ∧ I1 [GV.int (0 : Int), GV.pts (irep (ilen l) (0, 0))]) ∧ (∀ i1_0 : Int, ∀ l1_1 : List Pt, I1 [GV.int i1_0, GV.pts l1_1] → ((true = true) ∧ ((True) ∧ (True) ∧ (True) ∧ (True) ∧ True) ∧ ((ilt i1_0 (ilen l)) = true → ((true = true) ∧ ((True) ∧ (True) ∧ (True) ∧ (True) ∧ (NLe 0 i1_0 ∧ NLt i1_0 (ilen l)) ∧ (True) ∧ ((True)) ∧ (NLe 0 i1_0 ∧ NLt i1_0 (ilen l1_1)) ∧ True) ∧ (NLt i1_0 (ilen l1_1)) ∧ (true = true) ∧ ((True) ∧ (True) ∧ (True) ∧ True) ∧ ((true = true) ∧ ((((iadd i1_0 (1 : Int)) : Int) = (iadd i1_0 (1 : Int))) ∧ ((Cont.pts l) = (Cont.pts l)) ∧ (((ilen l) : Int) = (ilen l)) ∧ (true = true) ∧ (true = true) ∧ ((Cont.pts l) = (Cont.pts l)) ∧ True) ∧ (((true = true) ∧ ((Cont.pts (setp l1_1 i1_0 ((getx l i1_0)) ((gety l i1_0)))) = (Cont.pts (setp l1_1 i1_0 ((getx l i1_0)) ((gety l i1_0)))))) ∧ ((true = true) ∧ ((Cont.pts []) = (Cont.pts []))) ∧ True)) ∧ ((([GK.int, GK.pts] : List GK) = ([GK.int, GK.pts] : List GK)) ∧ I1 [GV.int (iadd i1_0 (1 : Int)), GV.pts (setp l1_1 i1_0 ((getx l i1_0)) ((gety l i1_0)))] ∧ μ1 [GV.int (iadd i1_0 (1 : Int)), GV.pts (setp l1_1 i1_0 ((getx l i1_0)) ((gety l i1_0)))] < μ1 [GV.int i1_0, GV.pts l1_1]))) ∧ ((ilt i1_0 (ilen l)) = false → ((true = true) ∧ ((True) ∧ (True) ∧ True) ∧ ((true = true) ∧ ((Cont.pts l1_1) = (Cont.pts (l)))) ∧ True))))) = ev sig_laws_toCellS xs_laws_toCellS Try.f16.ntmps (fun b => if b == 0 then [.v 4, .b 3] else []) (codeOf Try.f16) 0 (initS [.s (.view (.pts l))]) (retK Try.f16.results.toList [.nrow 47 (.pts (l))]) := by kernel_rfl
set_option maxHeartbeats 400000 in
theorem F_laws_toCellS : FunOK 16 g_laws_toCellS := by
  refine fun_F (by kernel_rfl) Try.func16 rfl (by kernel_rfl) sig_laws_toCellS_ok xs_laws_toCellS_ok ?_
  intro avs sg h hn hl
  unfold g_laws_toCellS at h
  split at h
  · rename_i l
    injection h with h; subst h
    refine ⟨by kernel_rfl, fun b => if b == 0 then [.v 4, .b 3] else [], Eq.mp (V_laws_toCellS l) ?_⟩
    simp only [true_and, and_true, implies_true, and_self, forall_const, true_implies, lenA, lenL, SV.lenOK, Cont.lenOK] at hn hl ⊢
    simp only [ilt_t, ilt_f, ile_t, ile_f, ieq_t, ieq_f, bnot_e, band_e, bite_and, bite_or, NLt_e, NLe_e, NNe_e, NIs_e, imax_e, imin_e, irem_e, Bool.not_eq_true', Bool.not_eq_false', Bool.and_eq_true, Bool.or_eq_true, Bool.or_eq_false_iff, Bool.and_eq_false_iff, Cont.pts.injEq, Cont.ints.injEq, Cont.bools.injEq, Cont.ptss.injEq, Cont.intss.injEq, Cont.boolss.injEq, true_and, and_true, implies_true]
    have h0 := ilen_0 l
    refine ⟨⟨h0, hn⟩, ?_⟩
    refine ⟨fun | [.int k, .pts m] => 0 ≤ k ∧ k ≤ ilen l ∧ ilen m = ilen l ∧ ∀ j, 0 ≤ j → j < k → getx m j = getx l j ∧ gety m j = gety l j | _ => False, fun | [.int k, .pts m] => (ilen l - k).toNat | _ => 0, ?_, ?_⟩
    · exact ⟨Int.le_refl 0, h0, ilen_rep _ h0, fun j h0 h1 => absurd h1 (by omega)⟩
    · rintro k m ⟨hk0, hk1, hm, hk⟩
      refine ⟨fun hc => ?_, fun hc => ?_⟩
      · rw [iadd_e (by omega) (by omega)]
        refine ⟨⟨⟨hk0, hc⟩, hk0, by omega⟩, by omega, ⟨by omega, by omega, by rw [ilen_setp]; exact hm, fun j j0 j1 => ?_⟩, by dsimp only; omega⟩
        rw [getx_setp hk0 (by omega) j0, gety_setp hk0 (by omega) j0]
        by_cases hj : j = k
        · simp only [hj, if_pos, and_self]
        · simp only [if_neg hj]; exact hk j j0 (by omega)
      · rw [pts_ext (l := m) (m := l) hm fun j j0 j1 => hk j j0 (by omega)]
  · cases h
def pcE (l : List Pt) (i : Int) : Bool := decide (i = 0 ∨ i = ilen l - 1 ∨ isub (getx l i) (getx l (i - 1)) ≠ isub (getx l (i + 1)) (getx l i) ∨ isub (gety l i) (gety l (i - 1)) ≠ isub (gety l (i + 1)) (gety l i))
def pcL (l : List Pt) (k : Int) : List Pt := foldN k (fun o i => if pcE l i then iapp o [(getx l i, gety l i)] else o) []
def pcF (l : List Pt) : List Pt := if ilen l ≤ 400 then pcL l (ilen l) else []
theorem pcL_1 {l : List Pt} {k : Int} (h : 0 ≤ k) : pcL l (k + 1) = if pcE l k then iapp (pcL l k) [(getx l k, gety l k)] else pcL l k := by unfold pcL; rw [foldN_1 h]
theorem pcL_len {l : List Pt} (k : Nat) : ilen (pcL l k) ≤ k := by
  induction k with
  | zero => show ilen ([] : List Pt) ≤ 0; rw [ilen_nil]; omega
  | succ k ih =>
    rw [show ((k + 1 : Nat) : Int) = (k : Int) + 1 by omega, pcL_1 (by omega)]
    split
    · rw [ilen_app, ilen_one]; omega
    · omega
def crW (a1 a2 b1 b2 c1 c2 : Int) : Int := isub (imul (isub b1 a1) (isub c2 a2)) (imul (isub b2 a2) (isub c1 a1))
def cr (l : List Pt) (i j k : Int) : Int := crW (getx l i) (gety l i) (getx l j) (gety l j) (getx l k) (gety l k)
def nx (l : List Pt) (i : Int) : Int := (i + 1).tmod (ilen l)
def convE (l : List Pt) (i j : Int) : Bool := decide (j = i ∨ j = nx l i ∨ 0 < cr l i (nx l i) j)
def convB (l : List Pt) : Bool := inB (ilen l) 3 8 && allB l && allN (ilen l) fun i => allN (ilen l) fun j => convE l i j
theorem nx_in {l : List Pt} {i : Int} (h0 : 0 ≤ i) (h1 : i < ilen l) : 0 ≤ nx l i ∧ nx l i < ilen l ∧ ((i + 1 < ilen l ∧ nx l i = i + 1) ∨ (i + 1 = ilen l ∧ nx l i = 0)) := by
  have e : nx l i = (i + 1) % ilen l := Int.tmod_eq_emod_of_nonneg (by omega)
  rcases Int.lt_or_le (i + 1) (ilen l) with h | h
  · rw [e, Int.emod_eq_of_lt (by omega) h]; omega
  · have h2 : i + 1 = ilen l := by omega
    rw [e, h2, Int.emod_self]; omega
theorem allN_up {f : Int → Bool} {k : Int} (h : ∀ j, 0 ≤ j → j < k → f j = true) (hk : f k = true) : ∀ j, 0 ≤ j → j < k + 1 → f j = true := by
  intro j h0 h1
  rcases Int.lt_or_le j k with h2 | h2
  · exact h j h0 h2
  · rw [show j = k by omega]; exact hk
theorem upTo {P : Int → Prop} {k : Int} (h : ∀ j, 0 ≤ j → j < k → P j) (hk : P k) : ∀ j, 0 ≤ j → j < k + 1 → P j := by
  intro j h0 h1
  rcases Int.lt_or_le j k with h2 | h2
  · exact h j h0 h2
  · rw [show j = k by omega]; exact hk
theorem iadd_1 {k n : Int} (h0 : 0 ≤ k) (h1 : k < n) (h2 : n ≤ 9223372036854775807) : iadd k 1 = k + 1 := iadd_e (by omega) (by omega)
def g_spec_PathCorners : List AV → Option Sg
  | [.s (.view (.pts l))] => some ⟨True, [.nrow 47 (.pts (pcF l))]⟩
  | _ => none
def sig_spec_PathCorners : FuncId → List AV → Option Sg := sigL []
def xs_spec_PathCorners : XS := ⟨xsigL [], ysigL []⟩
theorem sig_spec_PathCorners_ok : SigOK sig_spec_PathCorners := sigL_nil
theorem xs_spec_PathCorners_ok : XSigOK xs_spec_PathCorners := ⟨xsigL_nil, ysigL_nil⟩
theorem V_spec_PathCorners (l : List Pt) : ((true = true) ∧ ((True) ∧ True) ∧ (true = true) ∧ ((True) ∧ (True) ∧ True) ∧ (true = true) ∧ ((True) ∧ (True) ∧ (True) ∧ True) ∧ ((ilt (400 : Int) (ilen l)) = true → ((true = true) ∧ ((True) ∧ (True) ∧ True) ∧ ((true = true) ∧ ((Cont.pts []) = (Cont.pts (pcF l)))) ∧ True)) ∧ ((ilt (400 : Int) (ilen l)) = false → ((true = true) ∧ ((True) ∧ True) ∧ ∃ (I1 : List GV → Prop) (μ1 : List GV → Nat), (((true = true) ∧ ((((0 : Int) : Int) = (0 : Int)) ∧ ((Cont.pts l) = (Cont.pts l)) ∧ (((ilen l) : Int) = (ilen l)) ∧ (((ilt (400 : Int) (ilen l)) : Bool) = (ilt (400 : Int) (ilen l))) ∧ (true = true) ∧ (true = true) ∧ ((Cont.pts l) = (Cont.pts l)) ∧ True) ∧ (((true = true) ∧ ((Cont.pts []) = (Cont.pts []))) ∧ ((true = true) ∧ ((Cont.pts []) = (Cont.pts []))) ∧ True)) ∧ (([GK.int, GK.pts] : List GK) = ([GK.int, GK.pts] : List GK)) ∧ I1 [GV.int (0 : Int), GV.pts []]) ∧ (∀ i1_0 : Int, ∀ l1_1 : List Pt, I1 [GV.int i1_0, GV.pts l1_1] → ((true = true) ∧ ((True) ∧ (True) ∧ (True) ∧ (True) ∧ True) ∧ ((ilt i1_0 (ilen l)) = true → ((true = true) ∧ ((True) ∧ (True) ∧ (True) ∧ (NIs (ieq i1_0 (0 : Int)) false → True) ∧ (NIs (ieq i1_0 (0 : Int)) false → True) ∧ (NIs (ieq i1_0 (0 : Int)) false → True) ∧ (NIs (ieq i1_0 (0 : Int)) false → True) ∧ (NIs (ieq i1_0 (0 : Int)) false → True) ∧ (True) ∧ (True) ∧ (NIs (bite (ieq i1_0 (0 : Int)) true (ieq i1_0 (isub (ilen l) (1 : Int)))) false → True) ∧ (NIs (bite (ieq i1_0 (0 : Int)) true (ieq i1_0 (isub (ilen l) (1 : Int)))) false → True) ∧ (NIs (bite (ieq i1_0 (0 : Int)) true (ieq i1_0 (isub (ilen l) (1 : Int)))) false → (NLe 0 i1_0 ∧ NLt i1_0 (ilen l))) ∧ (NIs (bite (ieq i1_0 (0 : Int)) true (ieq i1_0 (isub (ilen l) (1 : Int)))) false → True) ∧ (NIs (bite (ieq i1_0 (0 : Int)) true (ieq i1_0 (isub (ilen l) (1 : Int)))) false → True) ∧ (NIs (bite (ieq i1_0 (0 : Int)) true (ieq i1_0 (isub (ilen l) (1 : Int)))) false → True) ∧ (NIs (bite (ieq i1_0 (0 : Int)) true (ieq i1_0 (isub (ilen l) (1 : Int)))) false → True) ∧ (NIs (bite (ieq i1_0 (0 : Int)) true (ieq i1_0 (isub (ilen l) (1 : Int)))) false → True) ∧ (NIs (bite (ieq i1_0 (0 : Int)) true (ieq i1_0 (isub (ilen l) (1 : Int)))) false → (NLe 0 (isub i1_0 (1 : Int)) ∧ NLt (isub i1_0 (1 : Int)) (ilen l))) ∧ (NIs (bite (ieq i1_0 (0 : Int)) true (ieq i1_0 (isub (ilen l) (1 : Int)))) false → True) ∧ (NIs (bite (ieq i1_0 (0 : Int)) true (ieq i1_0 (isub (ilen l) (1 : Int)))) false → True) ∧ (NIs (bite (ieq i1_0 (0 : Int)) true (ieq i1_0 (isub (ilen l) (1 : Int)))) false → True) ∧ (NIs (bite (ieq i1_0 (0 : Int)) true (ieq i1_0 (isub (ilen l) (1 : Int)))) false → True) ∧ (NIs (bite (ieq i1_0 (0 : Int)) true (ieq i1_0 (isub (ilen l) (1 : Int)))) false → True) ∧ (NIs (bite (ieq i1_0 (0 : Int)) true (ieq i1_0 (isub (ilen l) (1 : Int)))) false → True) ∧ (NIs (bite (ieq i1_0 (0 : Int)) true (ieq i1_0 (isub (ilen l) (1 : Int)))) false → (NLe 0 (iadd i1_0 (1 : Int)) ∧ NLt (iadd i1_0 (1 : Int)) (ilen l))) ∧ (NIs (bite (ieq i1_0 (0 : Int)) true (ieq i1_0 (isub (ilen l) (1 : Int)))) false → True) ∧ (NIs (bite (ieq i1_0 (0 : Int)) true (ieq i1_0 (isub (ilen l) (1 : Int)))) false → True) ∧ (NIs (bite (ieq i1_0 (0 : Int)) true (ieq i1_0 (isub (ilen l) (1 : Int)))) false → True) ∧ (NIs (bite (ieq i1_0 (0 : Int)) true (ieq i1_0 (isub (ilen l) (1 : Int)))) false → True) ∧ (NIs (bite (ieq i1_0 (0 : Int)) true (ieq i1_0 (isub (ilen l) (1 : Int)))) false → (NLe 0 i1_0 ∧ NLt i1_0 (ilen l))) ∧ (NIs (bite (ieq i1_0 (0 : Int)) true (ieq i1_0 (isub (ilen l) (1 : Int)))) false → True) ∧ (NIs (bite (ieq i1_0 (0 : Int)) true (ieq i1_0 (isub (ilen l) (1 : Int)))) false → True) ∧ (NIs (bite (ieq i1_0 (0 : Int)) true (ieq i1_0 (isub (ilen l) (1 : Int)))) false → True) ∧ (NIs (bite (ieq i1_0 (0 : Int)) true (ieq i1_0 (isub (ilen l) (1 : Int)))) false → True) ∧ (True) ∧ (True) ∧ (NIs (bite (bite (ieq i1_0 (0 : Int)) true (ieq i1_0 (isub (ilen l) (1 : Int)))) true (bnot (ieq (isub (getx l i1_0) (getx l (isub i1_0 (1 : Int)))) (isub (getx l (iadd i1_0 (1 : Int))) (getx l i1_0))))) false → True) ∧ (NIs (bite (bite (ieq i1_0 (0 : Int)) true (ieq i1_0 (isub (ilen l) (1 : Int)))) true (bnot (ieq (isub (getx l i1_0) (getx l (isub i1_0 (1 : Int)))) (isub (getx l (iadd i1_0 (1 : Int))) (getx l i1_0))))) false → True) ∧ (NIs (bite (bite (ieq i1_0 (0 : Int)) true (ieq i1_0 (isub (ilen l) (1 : Int)))) true (bnot (ieq (isub (getx l i1_0) (getx l (isub i1_0 (1 : Int)))) (isub (getx l (iadd i1_0 (1 : Int))) (getx l i1_0))))) false → (NLe 0 i1_0 ∧ NLt i1_0 (ilen l))) ∧ (NIs (bite (bite (ieq i1_0 (0 : Int)) true (ieq i1_0 (isub (ilen l) (1 : Int)))) true (bnot (ieq (isub (getx l i1_0) (getx l (isub i1_0 (1 : Int)))) (isub (getx l (iadd i1_0 (1 : Int))) (getx l i1_0))))) false → True) ∧ (NIs (bite (bite (ieq i1_0 (0 : Int)) true (ieq i1_0 (isub (ilen l) (1 : Int)))) true (bnot (ieq (isub (getx l i1_0) (getx l (isub i1_0 (1 : Int)))) (isub (getx l (iadd i1_0 (1 : Int))) (getx l i1_0))))) false → True) ∧ (NIs (bite (bite (ieq i1_0 (0 : Int)) true (ieq i1_0 (isub (ilen l) (1 : Int)))) true (bnot (ieq (isub (getx l i1_0) (getx l (isub i1_0 (1 : Int)))) (isub (getx l (iadd i1_0 (1 : Int))) (getx l i1_0))))) false → True) ∧ (NIs (bite (bite (ieq i1_0 (0 : Int)) true (ieq i1_0 (isub (ilen l) (1 : Int)))) true (bnot (ieq (isub (getx l i1_0) (getx l (isub i1_0 (1 : Int)))) (isub (getx l (iadd i1_0 (1 : Int))) (getx l i1_0))))) false → True) ∧ (NIs (bite (bite (ieq i1_0 (0 : Int)) true (ieq i1_0 (isub (ilen l) (1 : Int)))) true (bnot (ieq (isub (getx l i1_0) (getx l (isub i1_0 (1 : Int)))) (isub (getx l (iadd i1_0 (1 : Int))) (getx l i1_0))))) false → True) ∧ (NIs (bite (bite (ieq i1_0 (0 : Int)) true (ieq i1_0 (isub (ilen l) (1 : Int)))) true (bnot (ieq (isub (getx l i1_0) (getx l (isub i1_0 (1 : Int)))) (isub (getx l (iadd i1_0 (1 : Int))) (getx l i1_0))))) false → (NLe 0 (isub i1_0 (1 : Int)) ∧ NLt (isub i1_0 (1 : Int)) (ilen l))) ∧ (NIs (bite (bite (ieq i1_0 (0 : Int)) true (ieq i1_0 (isub (ilen l) (1 : Int)))) true (bnot (ieq (isub (getx l i1_0) (getx l (isub i1_0 (1 : Int)))) (isub (getx l (iadd i1_0 (1 : Int))) (getx l i1_0))))) false → True) ∧ (NIs (bite (bite (ieq i1_0 (0 : Int)) true (ieq i1_0 (isub (ilen l) (1 : Int)))) true (bnot (ieq (isub (getx l i1_0) (getx l (isub i1_0 (1 : Int)))) (isub (getx l (iadd i1_0 (1 : Int))) (getx l i1_0))))) false → True) ∧ (NIs (bite (bite (ieq i1_0 (0 : Int)) true (ieq i1_0 (isub (ilen l) (1 : Int)))) true (bnot (ieq (isub (getx l i1_0) (getx l (isub i1_0 (1 : Int)))) (isub (getx l (iadd i1_0 (1 : Int))) (getx l i1_0))))) false → True) ∧ (NIs (bite (bite (ieq i1_0 (0 : Int)) true (ieq i1_0 (isub (ilen l) (1 : Int)))) true (bnot (ieq (isub (getx l i1_0) (getx l (isub i1_0 (1 : Int)))) (isub (getx l (iadd i1_0 (1 : Int))) (getx l i1_0))))) false → True) ∧ (NIs (bite (bite (ieq i1_0 (0 : Int)) true (ieq i1_0 (isub (ilen l) (1 : Int)))) true (bnot (ieq (isub (getx l i1_0) (getx l (isub i1_0 (1 : Int)))) (isub (getx l (iadd i1_0 (1 : Int))) (getx l i1_0))))) false → True) ∧ (NIs (bite (bite (ieq i1_0 (0 : Int)) true (ieq i1_0 (isub (ilen l) (1 : Int)))) true (bnot (ieq (isub (getx l i1_0) (getx l (isub i1_0 (1 : Int)))) (isub (getx l (iadd i1_0 (1 : Int))) (getx l i1_0))))) false → True) ∧ (NIs (bite (bite (ieq i1_0 (0 : Int)) true (ieq i1_0 (isub (ilen l) (1 : Int)))) true (bnot (ieq (isub (getx l i1_0) (getx l (isub i1_0 (1 : Int)))) (isub (getx l (iadd i1_0 (1 : Int))) (getx l i1_0))))) false → (NLe 0 (iadd i1_0 (1 : Int)) ∧ NLt (iadd i1_0 (1 : Int)) (ilen l))) ∧ (NIs (bite (bite (ieq i1_0 (0 : Int)) true (ieq i1_0 (isub (ilen l) (1 : Int)))) true (bnot (ieq (isub (getx l i1_0) (getx l (isub i1_0 (1 : Int)))) (isub (getx l (iadd i1_0 (1 : Int))) (getx l i1_0))))) false → True) ∧ (NIs (bite (bite (ieq i1_0 (0 : Int)) true (ieq i1_0 (isub (ilen l) (1 : Int)))) true (bnot (ieq (isub (getx l i1_0) (getx l (isub i1_0 (1 : Int)))) (isub (getx l (iadd i1_0 (1 : Int))) (getx l i1_0))))) false → True) ∧ (NIs (bite (bite (ieq i1_0 (0 : Int)) true (ieq i1_0 (isub (ilen l) (1 : Int)))) true (bnot (ieq (isub (getx l i1_0) (getx l (isub i1_0 (1 : Int)))) (isub (getx l (iadd i1_0 (1 : Int))) (getx l i1_0))))) false → True) ∧ (NIs (bite (bite (ieq i1_0 (0 : Int)) true (ieq i1_0 (isub (ilen l) (1 : Int)))) true (bnot (ieq (isub (getx l i1_0) (getx l (isub i1_0 (1 : Int)))) (isub (getx l (iadd i1_0 (1 : Int))) (getx l i1_0))))) false → True) ∧ (NIs (bite (bite (ieq i1_0 (0 : Int)) true (ieq i1_0 (isub (ilen l) (1 : Int)))) true (bnot (ieq (isub (getx l i1_0) (getx l (isub i1_0 (1 : Int)))) (isub (getx l (iadd i1_0 (1 : Int))) (getx l i1_0))))) false → (NLe 0 i1_0 ∧ NLt i1_0 (ilen l))) ∧ (NIs (bite (bite (ieq i1_0 (0 : Int)) true (ieq i1_0 (isub (ilen l) (1 : Int)))) true (bnot (ieq (isub (getx l i1_0) (getx l (isub i1_0 (1 : Int)))) (isub (getx l (iadd i1_0 (1 : Int))) (getx l i1_0))))) false → True) ∧ (NIs (bite (bite (ieq i1_0 (0 : Int)) true (ieq i1_0 (isub (ilen l) (1 : Int)))) true (bnot (ieq (isub (getx l i1_0) (getx l (isub i1_0 (1 : Int)))) (isub (getx l (iadd i1_0 (1 : Int))) (getx l i1_0))))) false → True) ∧ (NIs (bite (bite (ieq i1_0 (0 : Int)) true (ieq i1_0 (isub (ilen l) (1 : Int)))) true (bnot (ieq (isub (getx l i1_0) (getx l (isub i1_0 (1 : Int)))) (isub (getx l (iadd i1_0 (1 : Int))) (getx l i1_0))))) false → True) ∧ (NIs (bite (bite (ieq i1_0 (0 : Int)) true (ieq i1_0 (isub (ilen l) (1 : Int)))) true (bnot (ieq (isub (getx l i1_0) (getx l (isub i1_0 (1 : Int)))) (isub (getx l (iadd i1_0 (1 : Int))) (getx l i1_0))))) false → True) ∧ (True) ∧ True) ∧ ((bite (bite (bite (ieq i1_0 (0 : Int)) true (ieq i1_0 (isub (ilen l) (1 : Int)))) true (bnot (ieq (isub (getx l i1_0) (getx l (isub i1_0 (1 : Int)))) (isub (getx l (iadd i1_0 (1 : Int))) (getx l i1_0))))) true (bnot (ieq (isub (gety l i1_0) (gety l (isub i1_0 (1 : Int)))) (isub (gety l (iadd i1_0 (1 : Int))) (gety l i1_0))))) = true → ((true = true) ∧ ((True) ∧ (True) ∧ (True) ∧ (NLe 0 i1_0 ∧ NLt i1_0 (ilen l)) ∧ (True) ∧ (True) ∧ True) ∧ (NLe (ilen l1_1) 1000000000 ∧ NLe (ilen [((getx l i1_0), (gety l i1_0))]) 1000000000) ∧ (True) ∧ (true = true) ∧ ((True) ∧ (True) ∧ (True) ∧ True) ∧ ((true = true) ∧ ((((iadd i1_0 (1 : Int)) : Int) = (iadd i1_0 (1 : Int))) ∧ ((Cont.pts l) = (Cont.pts l)) ∧ (((ilen l) : Int) = (ilen l)) ∧ (((ilt (400 : Int) (ilen l)) : Bool) = (ilt (400 : Int) (ilen l))) ∧ (true = true) ∧ (true = true) ∧ ((Cont.pts l) = (Cont.pts l)) ∧ True) ∧ (((true = true) ∧ ((Cont.pts (iapp l1_1 [((getx l i1_0), (gety l i1_0))])) = (Cont.pts (iapp l1_1 [((getx l i1_0), (gety l i1_0))])))) ∧ ((true = true) ∧ ((Cont.pts []) = (Cont.pts []))) ∧ True)) ∧ ((([GK.int, GK.pts] : List GK) = ([GK.int, GK.pts] : List GK)) ∧ I1 [GV.int (iadd i1_0 (1 : Int)), GV.pts (iapp l1_1 [((getx l i1_0), (gety l i1_0))])] ∧ μ1 [GV.int (iadd i1_0 (1 : Int)), GV.pts (iapp l1_1 [((getx l i1_0), (gety l i1_0))])] < μ1 [GV.int i1_0, GV.pts l1_1]))) ∧ ((bite (bite (bite (ieq i1_0 (0 : Int)) true (ieq i1_0 (isub (ilen l) (1 : Int)))) true (bnot (ieq (isub (getx l i1_0) (getx l (isub i1_0 (1 : Int)))) (isub (getx l (iadd i1_0 (1 : Int))) (getx l i1_0))))) true (bnot (ieq (isub (gety l i1_0) (gety l (isub i1_0 (1 : Int)))) (isub (gety l (iadd i1_0 (1 : Int))) (gety l i1_0))))) = false → ((true = true) ∧ ((True) ∧ (True) ∧ (True) ∧ True) ∧ ((true = true) ∧ ((((iadd i1_0 (1 : Int)) : Int) = (iadd i1_0 (1 : Int))) ∧ ((Cont.pts l) = (Cont.pts l)) ∧ (((ilen l) : Int) = (ilen l)) ∧ (((ilt (400 : Int) (ilen l)) : Bool) = (ilt (400 : Int) (ilen l))) ∧ (true = true) ∧ (true = true) ∧ ((Cont.pts l) = (Cont.pts l)) ∧ True) ∧ (((true = true) ∧ ((Cont.pts l1_1) = (Cont.pts l1_1))) ∧ ((true = true) ∧ ((Cont.pts []) = (Cont.pts []))) ∧ True)) ∧ ((([GK.int, GK.pts] : List GK) = ([GK.int, GK.pts] : List GK)) ∧ I1 [GV.int (iadd i1_0 (1 : Int)), GV.pts l1_1] ∧ μ1 [GV.int (iadd i1_0 (1 : Int)), GV.pts l1_1] < μ1 [GV.int i1_0, GV.pts l1_1]))))) ∧ ((ilt i1_0 (ilen l)) = false → ((true = true) ∧ ((True) ∧ (True) ∧ True) ∧ ((true = true) ∧ ((Cont.pts l1_1) = (Cont.pts (pcF l)))) ∧ True))))))) = ev sig_spec_PathCorners xs_spec_PathCorners Try.f15.ntmps (fun b => if b == 0 then [.v 4, .b 3] else []) (codeOf Try.f15) 0 (initS [.s (.view (.pts l))]) (retK Try.f15.results.toList [.nrow 47 (.pts (pcF l))]) := by kernel_rfl
set_option maxHeartbeats 400000 in
theorem F_spec_PathCorners : FunOK 15 g_spec_PathCorners := by
  refine fun_F (by kernel_rfl) Try.func15 rfl (by kernel_rfl) sig_spec_PathCorners_ok xs_spec_PathCorners_ok ?_
  intro avs sg h hn hl
  unfold g_spec_PathCorners at h
  split at h
  · rename_i l
    injection h with h; subst h
    refine ⟨by kernel_rfl, fun b => if b == 0 then [.v 4, .b 3] else [], Eq.mp (V_spec_PathCorners l) ?_⟩
    simp only [true_and, and_true, implies_true, and_self, forall_const, true_implies, lenA, lenL, SV.lenOK, Cont.lenOK] at hn hl ⊢
    have h0 := ilen_0 l
    simp only [ilt_t, ilt_f, ile_t, ile_f, ieq_t, ieq_f, bnot_e, band_e, bite_and, bite_or, NLt_e, NLe_e, NNe_e, NIs_e, imax_e, imin_e, irem_e, Bool.not_eq_true', Bool.not_eq_false', Bool.and_eq_true, Bool.or_eq_true, Bool.or_eq_false_iff, Bool.and_eq_false_iff, Cont.pts.injEq, Cont.ints.injEq, Cont.bools.injEq, Cont.ptss.injEq, Cont.intss.injEq, Cont.boolss.injEq, true_and, and_true, implies_true]
    refine ⟨fun h => by unfold pcF; rw [if_neg (by omega)], fun h => ?_⟩
    refine ⟨fun | [.int k, .pts o] => 0 ≤ k ∧ k ≤ ilen l ∧ o = pcL l k | _ => False, fun | .int k :: _ => (ilen l - k).toNat | _ => 0, ?_, ?_⟩
    · exact ⟨Int.le_refl 0, h0, rfl⟩
    · rintro k o ⟨hk0, hk1, ho⟩
      simp only [ilt_t, ilt_f, ile_t, ile_f, ieq_t, ieq_f, bnot_e, band_e, bite_and, bite_or, NLt_e, NLe_e, NNe_e, NIs_e, imax_e, imin_e, irem_e, Bool.not_eq_true', Bool.not_eq_false', Bool.and_eq_true, Bool.or_eq_true, Bool.or_eq_false_iff, Bool.and_eq_false_iff, Cont.pts.injEq, Cont.ints.injEq, Cont.bools.injEq, Cont.ptss.injEq, Cont.intss.injEq, Cont.boolss.injEq, true_and, and_true, implies_true]
      refine ⟨fun hkn => ?_, fun hkn => ?_⟩
      · have e1 := iadd_1 hk0 hkn hl
        have e2 : isub (ilen l) 1 = ilen l - 1 := isub_e (by omega) (by omega)
        have e3 : k + 1 - 1 = k := by omega
        have e4 : isub k 1 = k - 1 := isub_e (by omega) (by omega)
        simp only [e1, e2, e3, e4]
        have hs := pcL_1 (l := l) hk0
        have hb := pcL_len (l := l) k.toNat
        rw [Int.toNat_of_nonneg hk0, ← ho] at hb
        refine ⟨?_, fun hx => ?_, fun hx => ?_⟩
        · exact ⟨fun h => ⟨by omega, hkn⟩, fun h => ⟨by omega, by omega⟩, fun h => ⟨by omega, by omega⟩, fun h => ⟨by omega, hkn⟩, fun h => ⟨by omega, hkn⟩, fun h => ⟨by omega, by omega⟩, fun h => ⟨by omega, by omega⟩, fun h => ⟨by omega, hkn⟩⟩
        · have hE : pcE l k = true := by unfold pcE; simp only [decide_eq_true_eq]; omega
          rw [hE, if_pos rfl, ← ho] at hs
          exact ⟨⟨hk0, hkn⟩, ⟨⟨by omega, by rw [ilen_one]; omega⟩, ⟨by omega, by omega, hs.symm⟩, by omega⟩⟩
        · have hE : pcE l k = false := by unfold pcE; simp only [decide_eq_false_iff_not]; omega
          rw [hE, if_neg (by simp), ← ho] at hs
          exact ⟨⟨by omega, by omega, hs.symm⟩, by omega⟩
      · have e : k = ilen l := by omega
        subst e
        unfold pcF
        rw [if_pos h, ho]
  · cases h
def g_impl_stepTo : List AV → Option Sg
  | [.s (.view (.pts l)), .s (.int i)] => some ⟨1 ≤ i ∧ i < ilen l, [.agg [.int (isub (getx l i) (getx l (i - 1))), .int (isub (gety l i) (gety l (i - 1)))]]⟩
  | _ => none
def sig_impl_stepTo : FuncId → List AV → Option Sg := sigL []
def xs_impl_stepTo : XS := ⟨xsigL [], ysigL []⟩
theorem sig_impl_stepTo_ok : SigOK sig_impl_stepTo := sigL_nil
theorem xs_impl_stepTo_ok : XSigOK xs_impl_stepTo := ⟨xsigL_nil, ysigL_nil⟩
theorem V_impl_stepTo (l : List Pt) (i : Int) : ((true = true) ∧ ((True) ∧ True) ∧ (true = true) ∧ ((True) ∧ (True) ∧ (NLe 0 i ∧ NLt i (ilen l)) ∧ (True) ∧ (True) ∧ (True) ∧ (True) ∧ (True) ∧ (NLe 0 (isub i (1 : Int)) ∧ NLt (isub i (1 : Int)) (ilen l)) ∧ (True) ∧ (True) ∧ (True) ∧ (True) ∧ (True) ∧ (NLe 0 i ∧ NLt i (ilen l)) ∧ (True) ∧ (True) ∧ (True) ∧ (True) ∧ (True) ∧ (NLe 0 (isub i (1 : Int)) ∧ NLt (isub i (1 : Int)) (ilen l)) ∧ (True) ∧ (True) ∧ (True) ∧ (True) ∧ True) ∧ (True) ∧ ((((isub (getx l i) (getx l (isub i (1 : Int)))) : Int) = (isub (getx l i) (getx l (i - 1)))) ∧ (((isub (gety l i) (gety l (isub i (1 : Int)))) : Int) = (isub (gety l i) (gety l (i - 1)))) ∧ True) ∧ True) = ev sig_impl_stepTo xs_impl_stepTo Try.f50.ntmps (fun b => []) (codeOf Try.f50) 0 (initS [.s (.view (.pts l)), .s (.int i)]) (retK Try.f50.results.toList [.agg [.int (isub (getx l i) (getx l (i - 1))), .int (isub (gety l i) (gety l (i - 1)))]]) := by kernel_rfl
set_option maxHeartbeats 400000 in
theorem F_impl_stepTo : FunOK 50 g_impl_stepTo := by
  refine fun_F (by kernel_rfl) Try.func50 rfl (by kernel_rfl) sig_impl_stepTo_ok xs_impl_stepTo_ok ?_
  intro avs sg h hn hl
  unfold g_impl_stepTo at h
  split at h
  · rename_i l i
    injection h with h; subst h
    refine ⟨by kernel_rfl, fun b => [], Eq.mp (V_impl_stepTo l i) ?_⟩
    simp only [true_and, and_true, implies_true, and_self, forall_const, true_implies, lenA, lenL, SV.lenOK, Cont.lenOK] at hn hl ⊢
    simp only [ilt_t, ilt_f, ile_t, ile_f, ieq_t, ieq_f, bnot_e, band_e, bite_and, bite_or, NLt_e, NLe_e, NNe_e, NIs_e, imax_e, imin_e, irem_e, Bool.not_eq_true', Bool.not_eq_false', Bool.and_eq_true, Bool.or_eq_true, Bool.or_eq_false_iff, Bool.and_eq_false_iff, Cont.pts.injEq, Cont.ints.injEq, Cont.bools.injEq, Cont.ptss.injEq, Cont.intss.injEq, Cont.boolss.injEq, true_and, and_true, implies_true]
    rw [isub_e (a := i) (by omega) (by omega)]
    refine ⟨⟨⟨by omega, by omega⟩, ⟨by omega, by omega⟩, ⟨by omega, by omega⟩, ⟨by omega, by omega⟩⟩, rfl, rfl⟩
  · cases h
def g_impl_PathCorners : List AV → Option Sg
  | [.s (.view (.pts l))] => some ⟨True, [.nrow 47 (.pts (pcF l))]⟩
  | _ => none
def sig_impl_PathCorners : FuncId → List AV → Option Sg := sigL [(50, g_impl_stepTo)]
def xs_impl_PathCorners : XS := ⟨xsigL [], ysigL []⟩
theorem sig_impl_PathCorners_ok : SigOK sig_impl_PathCorners := sigL_cons F_impl_stepTo sigL_nil
theorem xs_impl_PathCorners_ok : XSigOK xs_impl_PathCorners := ⟨xsigL_nil, ysigL_nil⟩
theorem V_impl_PathCorners (l : List Pt) : ((true = true) ∧ ((True) ∧ True) ∧ (true = true) ∧ ((True) ∧ (True) ∧ (True) ∧ True) ∧ ((ilt (400 : Int) (ilen l)) = true → ((true = true) ∧ ((True) ∧ True) ∧ ((true = true) ∧ ((Cont.pts []) = (Cont.pts (pcF l)))) ∧ True)) ∧ ((ilt (400 : Int) (ilen l)) = false → ((true = true) ∧ ((True) ∧ True) ∧ (true = true) ∧ ((True) ∧ (True) ∧ (True) ∧ True) ∧ ∃ (I1 : List GV → Prop) (μ1 : List GV → Nat), (((true = true) ∧ ((((0 : Int) : Int) = (0 : Int)) ∧ ((Cont.pts l) = (Cont.pts l)) ∧ (((ilen l) : Int) = (ilen l)) ∧ (true = true) ∧ ((Cont.pts l) = (Cont.pts l)) ∧ (((ilen l) : Int) = (ilen l)) ∧ (((ilt (400 : Int) (ilen l)) : Bool) = (ilt (400 : Int) (ilen l))) ∧ (true = true) ∧ ((Cont.pts l) = (Cont.pts l)) ∧ True) ∧ (((true = true) ∧ ((Cont.pts []) = (Cont.pts []))) ∧ ((true = true) ∧ ((Cont.pts []) = (Cont.pts []))) ∧ True)) ∧ (([GK.int, GK.pts] : List GK) = ([GK.int, GK.pts] : List GK)) ∧ I1 [GV.int (0 : Int), GV.pts []]) ∧ (∀ i1_0 : Int, ∀ l1_1 : List Pt, I1 [GV.int i1_0, GV.pts l1_1] → ((true = true) ∧ ((True) ∧ True) ∧ ((ilt i1_0 (ilen l)) = true → ((true = true) ∧ ((True) ∧ (NLe 0 i1_0 ∧ NLt i1_0 (ilen l)) ∧ (True) ∧ (True) ∧ (True) ∧ True) ∧ (True) ∧ (true = true) ∧ ((True) ∧ (True) ∧ (True) ∧ (NIs (ieq i1_0 (0 : Int)) false → True) ∧ (NIs (ieq i1_0 (0 : Int)) false → True) ∧ (NIs (ieq i1_0 (0 : Int)) false → True) ∧ (NIs (ieq i1_0 (0 : Int)) false → True) ∧ (NIs (ieq i1_0 (0 : Int)) false → True) ∧ (True) ∧ (True) ∧ (NIs (bite (ieq i1_0 (0 : Int)) true (ieq i1_0 (isub (ilen l) (1 : Int)))) false → True) ∧ (NIs (bite (ieq i1_0 (0 : Int)) true (ieq i1_0 (isub (ilen l) (1 : Int)))) false → True) ∧ (NIs (bite (ieq i1_0 (0 : Int)) true (ieq i1_0 (isub (ilen l) (1 : Int)))) false → ((1 ≤ i1_0 ∧ i1_0 < ilen l))) ∧ (NIs (bite (ieq i1_0 (0 : Int)) true (ieq i1_0 (isub (ilen l) (1 : Int)))) false → True) ∧ (NIs (bite (ieq i1_0 (0 : Int)) true (ieq i1_0 (isub (ilen l) (1 : Int)))) false → True) ∧ (NIs (bite (ieq i1_0 (0 : Int)) true (ieq i1_0 (isub (ilen l) (1 : Int)))) false → True) ∧ (NIs (bite (ieq i1_0 (0 : Int)) true (ieq i1_0 (isub (ilen l) (1 : Int)))) false → ((1 ≤ (iadd i1_0 (1 : Int)) ∧ (iadd i1_0 (1 : Int)) < ilen l))) ∧ (NIs (bite (ieq i1_0 (0 : Int)) true (ieq i1_0 (isub (ilen l) (1 : Int)))) false → True) ∧ (True) ∧ True) ∧ ((bite (bite (ieq i1_0 (0 : Int)) true (ieq i1_0 (isub (ilen l) (1 : Int)))) true (bnot (band (ieq (isub (getx l i1_0) (getx l (i1_0 - 1))) (isub (getx l (iadd i1_0 (1 : Int))) (getx l ((iadd i1_0 (1 : Int)) - 1)))) (ieq (isub (gety l i1_0) (gety l (i1_0 - 1))) (isub (gety l (iadd i1_0 (1 : Int))) (gety l ((iadd i1_0 (1 : Int)) - 1))))))) = true → ((true = true) ∧ ((True) ∧ (True) ∧ (True) ∧ True) ∧ (NLe (ilen l1_1) 1000000000 ∧ NLe (ilen [((getx l i1_0), (gety l i1_0))]) 1000000000) ∧ (True) ∧ (true = true) ∧ ((True) ∧ (True) ∧ True) ∧ ((true = true) ∧ ((((iadd i1_0 (1 : Int)) : Int) = (iadd i1_0 (1 : Int))) ∧ ((Cont.pts l) = (Cont.pts l)) ∧ (((ilen l) : Int) = (ilen l)) ∧ (true = true) ∧ ((Cont.pts l) = (Cont.pts l)) ∧ (((ilen l) : Int) = (ilen l)) ∧ (((ilt (400 : Int) (ilen l)) : Bool) = (ilt (400 : Int) (ilen l))) ∧ (true = true) ∧ ((Cont.pts l) = (Cont.pts l)) ∧ True) ∧ (((true = true) ∧ ((Cont.pts (iapp l1_1 [((getx l i1_0), (gety l i1_0))])) = (Cont.pts (iapp l1_1 [((getx l i1_0), (gety l i1_0))])))) ∧ ((true = true) ∧ ((Cont.pts []) = (Cont.pts []))) ∧ True)) ∧ ((([GK.int, GK.pts] : List GK) = ([GK.int, GK.pts] : List GK)) ∧ I1 [GV.int (iadd i1_0 (1 : Int)), GV.pts (iapp l1_1 [((getx l i1_0), (gety l i1_0))])] ∧ μ1 [GV.int (iadd i1_0 (1 : Int)), GV.pts (iapp l1_1 [((getx l i1_0), (gety l i1_0))])] < μ1 [GV.int i1_0, GV.pts l1_1]))) ∧ ((bite (bite (ieq i1_0 (0 : Int)) true (ieq i1_0 (isub (ilen l) (1 : Int)))) true (bnot (band (ieq (isub (getx l i1_0) (getx l (i1_0 - 1))) (isub (getx l (iadd i1_0 (1 : Int))) (getx l ((iadd i1_0 (1 : Int)) - 1)))) (ieq (isub (gety l i1_0) (gety l (i1_0 - 1))) (isub (gety l (iadd i1_0 (1 : Int))) (gety l ((iadd i1_0 (1 : Int)) - 1))))))) = false → ((true = true) ∧ ((True) ∧ (True) ∧ True) ∧ ((true = true) ∧ ((((iadd i1_0 (1 : Int)) : Int) = (iadd i1_0 (1 : Int))) ∧ ((Cont.pts l) = (Cont.pts l)) ∧ (((ilen l) : Int) = (ilen l)) ∧ (true = true) ∧ ((Cont.pts l) = (Cont.pts l)) ∧ (((ilen l) : Int) = (ilen l)) ∧ (((ilt (400 : Int) (ilen l)) : Bool) = (ilt (400 : Int) (ilen l))) ∧ (true = true) ∧ ((Cont.pts l) = (Cont.pts l)) ∧ True) ∧ (((true = true) ∧ ((Cont.pts l1_1) = (Cont.pts l1_1))) ∧ ((true = true) ∧ ((Cont.pts []) = (Cont.pts []))) ∧ True)) ∧ ((([GK.int, GK.pts] : List GK) = ([GK.int, GK.pts] : List GK)) ∧ I1 [GV.int (iadd i1_0 (1 : Int)), GV.pts l1_1] ∧ μ1 [GV.int (iadd i1_0 (1 : Int)), GV.pts l1_1] < μ1 [GV.int i1_0, GV.pts l1_1]))))) ∧ ((ilt i1_0 (ilen l)) = false → ((true = true) ∧ ((True) ∧ (True) ∧ True) ∧ ((true = true) ∧ ((Cont.pts l1_1) = (Cont.pts (pcF l)))) ∧ True))))))) = ev sig_impl_PathCorners xs_impl_PathCorners Try.f17.ntmps (fun b => if b == 0 then [.v 11, .b 3] else []) (codeOf Try.f17) 0 (initS [.s (.view (.pts l))]) (retK Try.f17.results.toList [.nrow 47 (.pts (pcF l))]) := by kernel_rfl
set_option maxHeartbeats 400000 in
theorem F_impl_PathCorners : FunOK 17 g_impl_PathCorners := by
  refine fun_F (by kernel_rfl) Try.func17 rfl (by kernel_rfl) sig_impl_PathCorners_ok xs_impl_PathCorners_ok ?_
  intro avs sg h hn hl
  unfold g_impl_PathCorners at h
  split at h
  · rename_i l
    injection h with h; subst h
    refine ⟨by kernel_rfl, fun b => if b == 0 then [.v 11, .b 3] else [], Eq.mp (V_impl_PathCorners l) ?_⟩
    simp only [true_and, and_true, implies_true, and_self, forall_const, true_implies, lenA, lenL, SV.lenOK, Cont.lenOK] at hn hl ⊢
    have h0 := ilen_0 l
    simp only [ilt_t, ilt_f, ile_t, ile_f, ieq_t, ieq_f, bnot_e, band_e, bite_and, bite_or, NLt_e, NLe_e, NNe_e, NIs_e, imax_e, imin_e, irem_e, Bool.not_eq_true', Bool.not_eq_false', Bool.and_eq_true, Bool.or_eq_true, Bool.or_eq_false_iff, Bool.and_eq_false_iff, Cont.pts.injEq, Cont.ints.injEq, Cont.bools.injEq, Cont.ptss.injEq, Cont.intss.injEq, Cont.boolss.injEq, true_and, and_true, implies_true]
    refine ⟨fun h => by unfold pcF; rw [if_neg (by omega)], fun h => ?_⟩
    refine ⟨fun | [.int k, .pts o] => 0 ≤ k ∧ k ≤ ilen l ∧ o = pcL l k | _ => False, fun | .int k :: _ => (ilen l - k).toNat | _ => 0, ?_, ?_⟩
    · exact ⟨Int.le_refl 0, h0, rfl⟩
    · rintro k o ⟨hk0, hk1, ho⟩
      simp only [ilt_t, ilt_f, ile_t, ile_f, ieq_t, ieq_f, bnot_e, band_e, bite_and, bite_or, NLt_e, NLe_e, NNe_e, NIs_e, imax_e, imin_e, irem_e, Bool.not_eq_true', Bool.not_eq_false', Bool.and_eq_true, Bool.or_eq_true, Bool.or_eq_false_iff, Bool.and_eq_false_iff, Cont.pts.injEq, Cont.ints.injEq, Cont.bools.injEq, Cont.ptss.injEq, Cont.intss.injEq, Cont.boolss.injEq, true_and, and_true, implies_true]
      refine ⟨fun hkn => ?_, fun hkn => ?_⟩
      · have e1 := iadd_1 hk0 hkn hl
        have e2 : isub (ilen l) 1 = ilen l - 1 := isub_e (by omega) (by omega)
        have e3 : k + 1 - 1 = k := by omega
        have e4 : isub k 1 = k - 1 := isub_e (by omega) (by omega)
        simp only [e1, e2, e3, e4]
        have hs := pcL_1 (l := l) hk0
        have hb := pcL_len (l := l) k.toNat
        rw [Int.toNat_of_nonneg hk0, ← ho] at hb
        refine ⟨⟨hk0, hkn⟩, ⟨fun h => ⟨by omega, hkn⟩, fun h => ⟨by omega, by omega⟩⟩, fun hx => ?_, fun hx => ?_⟩
        · have hE : pcE l k = true := by unfold pcE; simp only [decide_eq_true_eq]; omega
          rw [hE, if_pos rfl, ← ho] at hs
          exact ⟨⟨by omega, by rw [ilen_one]; omega⟩, ⟨by omega, by omega, hs.symm⟩, by omega⟩
        · have hE : pcE l k = false := by unfold pcE; simp only [decide_eq_false_iff_not]; omega
          rw [hE, if_neg (by simp), ← ho] at hs
          exact ⟨⟨by omega, by omega, hs.symm⟩, by omega⟩
      · have e : k = ilen l := by omega
        subst e
        unfold pcF
        rw [if_pos h, ho]
  · cases h
def eqPt (p1 p2 q1 q2 : Int) : Bool := decide (p1 = q1) && decide (p2 = q2)
theorem eqPt_same (p q : Int) : eqPt p q p q = true := by simp [eqPt]
def g_laws_eqCell : List AV → Option Sg
  | [.agg [.int p1, .int p2], .agg [.int q1, .int q2]] => some ⟨True, [.s (.bool (eqPt p1 p2 q1 q2))]⟩
  | _ => none
def sig_laws_eqCell : FuncId → List AV → Option Sg := sigL []
def xs_laws_eqCell : XS := ⟨xsigL [], ysigL []⟩
theorem sig_laws_eqCell_ok : SigOK sig_laws_eqCell := sigL_nil
theorem xs_laws_eqCell_ok : XSigOK xs_laws_eqCell := ⟨xsigL_nil, ysigL_nil⟩
theorem V_laws_eqCell (p1 : Int) (p2 : Int) (q1 : Int) (q2 : Int) : ((true = true) ∧ ((True) ∧ (True) ∧ (True) ∧ True) ∧ (true = true) ∧ ((True) ∧ (True) ∧ (True) ∧ (True) ∧ (True) ∧ True) ∧ ((bnot (ieq p1 q1)) = true → ((true = true) ∧ ((True) ∧ True) ∧ ((false : Bool) = (eqPt p1 p2 q1 q2)) ∧ True)) ∧ ((bnot (ieq p1 q1)) = false → ((true = true) ∧ ((True) ∧ (True) ∧ (True) ∧ (True) ∧ (True) ∧ True) ∧ ((bnot (ieq p2 q2)) = true → ((true = true) ∧ ((True) ∧ True) ∧ ((false : Bool) = (eqPt p1 p2 q1 q2)) ∧ True)) ∧ ((bnot (ieq p2 q2)) = false → ((true = true) ∧ ((True) ∧ True) ∧ ((true : Bool) = (eqPt p1 p2 q1 q2)) ∧ True))))) = ev sig_laws_eqCell xs_laws_eqCell Try.f51.ntmps (fun b => []) (codeOf Try.f51) 0 (initS [.agg [.int p1, .int p2], .agg [.int q1, .int q2]]) (retK Try.f51.results.toList [.s (.bool (eqPt p1 p2 q1 q2))]) := by kernel_rfl
set_option maxHeartbeats 400000 in
theorem F_laws_eqCell : FunOK 51 g_laws_eqCell := by
  refine fun_F (by kernel_rfl) Try.func51 rfl (by kernel_rfl) sig_laws_eqCell_ok xs_laws_eqCell_ok ?_
  intro avs sg h hn hl
  unfold g_laws_eqCell at h
  split at h
  · rename_i p1 p2 q1 q2
    injection h with h; subst h
    refine ⟨by kernel_rfl, fun b => [], Eq.mp (V_laws_eqCell p1 p2 q1 q2) ?_⟩
    simp only [true_and, and_true, implies_true, and_self, forall_const, true_implies, lenA, lenL, SV.lenOK, Cont.lenOK] at hn hl ⊢
    simp only [ilt_t, ilt_f, ile_t, ile_f, ieq_t, ieq_f, bnot_e, band_e, bite_and, bite_or, NLt_e, NLe_e, NNe_e, NIs_e, imax_e, imin_e, irem_e, Bool.not_eq_true', Bool.not_eq_false', Bool.and_eq_true, Bool.or_eq_true, Bool.or_eq_false_iff, Bool.and_eq_false_iff, Cont.pts.injEq, Cont.ints.injEq, Cont.bools.injEq, Cont.ptss.injEq, Cont.intss.injEq, Cont.boolss.injEq, true_and, and_true, implies_true]
    unfold eqPt
    refine ⟨fun h => by simp [h], fun h => ⟨fun h2 => by simp [h2], fun h2 => by simp [h, h2]⟩⟩
  · cases h
def eqL (l m : List Pt) : Bool := decide (ilen l = ilen m) && allN (ilen l) fun j => eqPt (getx l j) (gety l j) (getx m j) (gety m j)
theorem eqL_same (l : List Pt) : eqL l l = true := by
  unfold eqL
  rw [allN_mk fun j _ _ => eqPt_same _ _]
  simp
def g_laws_eqCellS : List AV → Option Sg
  | [.s (.view (.pts l)), .s (.view (.pts m))] => some ⟨True, [.s (.bool (eqL l m))]⟩
  | _ => none
def sig_laws_eqCellS : FuncId → List AV → Option Sg := sigL [(51, g_laws_eqCell)]
def xs_laws_eqCellS : XS := ⟨xsigL [], ysigL []⟩
theorem sig_laws_eqCellS_ok : SigOK sig_laws_eqCellS := sigL_cons F_laws_eqCell sigL_nil
theorem xs_laws_eqCellS_ok : XSigOK xs_laws_eqCellS := ⟨xsigL_nil, ysigL_nil⟩
theorem V_laws_eqCellS (l : List Pt) (m : List Pt) : ((true = true) ∧ ((True) ∧ True) ∧ (true = true) ∧ ((True) ∧ (True) ∧ (True) ∧ (True) ∧ (True) ∧ True) ∧ ((bnot (ieq (ilen l) (ilen m))) = true → ((true = true) ∧ ((True) ∧ True) ∧ ((false : Bool) = (eqL l m)) ∧ True)) ∧ ((bnot (ieq (ilen l) (ilen m))) = false → ((true = true) ∧ ((True) ∧ True) ∧ ∃ (I1 : List GV → Prop) (μ1 : List GV → Nat), (((true = true) ∧ (((false : Bool) = false) ∧ (((0 : Int) : Int) = (0 : Int)) ∧ ((Cont.pts l) = (Cont.pts l)) ∧ (((ilen l) : Int) = (ilen l)) ∧ ((Cont.pts m) = (Cont.pts m)) ∧ (((ilen m) : Int) = (ilen m)) ∧ (((bnot (ieq (ilen l) (ilen m))) : Bool) = (bnot (ieq (ilen l) (ilen m)))) ∧ ((Cont.pts l) = (Cont.pts l)) ∧ ((Cont.pts m) = (Cont.pts m)) ∧ True) ∧ (True)) ∧ (([GK.int, GK.bool] : List GK) = ([GK.int, GK.bool] : List GK)) ∧ I1 [GV.int (0 : Int), GV.bool false]) ∧ (∀ i1_0 : Int, ∀ b1_1 : Bool, I1 [GV.int i1_0, GV.bool b1_1] → ((true = true) ∧ ((True) ∧ (True) ∧ (True) ∧ (True) ∧ True) ∧ ((ilt i1_0 (ilen l)) = true → ((true = true) ∧ ((True) ∧ (True) ∧ (NLe 0 i1_0 ∧ NLt i1_0 (ilen l)) ∧ (True) ∧ (True) ∧ (True) ∧ (NLe 0 i1_0 ∧ NLt i1_0 (ilen m)) ∧ (True) ∧ ((True)) ∧ (True) ∧ True) ∧ ((bnot (eqPt (getx l i1_0) (gety l i1_0) (getx m i1_0) (gety m i1_0))) = true → ((true = true) ∧ ((True) ∧ True) ∧ ((false : Bool) = (eqL l m)) ∧ True)) ∧ ((bnot (eqPt (getx l i1_0) (gety l i1_0) (getx m i1_0) (gety m i1_0))) = false → ((true = true) ∧ ((True) ∧ (True) ∧ (True) ∧ True) ∧ ((true = true) ∧ (((b1_1 : Bool) = b1_1) ∧ (((iadd i1_0 (1 : Int)) : Int) = (iadd i1_0 (1 : Int))) ∧ ((Cont.pts l) = (Cont.pts l)) ∧ (((ilen l) : Int) = (ilen l)) ∧ ((Cont.pts m) = (Cont.pts m)) ∧ (((ilen m) : Int) = (ilen m)) ∧ (((bnot (ieq (ilen l) (ilen m))) : Bool) = (bnot (ieq (ilen l) (ilen m)))) ∧ ((Cont.pts l) = (Cont.pts l)) ∧ ((Cont.pts m) = (Cont.pts m)) ∧ True) ∧ (True)) ∧ ((([GK.int, GK.bool] : List GK) = ([GK.int, GK.bool] : List GK)) ∧ I1 [GV.int (iadd i1_0 (1 : Int)), GV.bool b1_1] ∧ μ1 [GV.int (iadd i1_0 (1 : Int)), GV.bool b1_1] < μ1 [GV.int i1_0, GV.bool b1_1]))))) ∧ ((ilt i1_0 (ilen l)) = false → ((true = true) ∧ ((True) ∧ True) ∧ ((true : Bool) = (eqL l m)) ∧ True))))))) = ev sig_laws_eqCellS xs_laws_eqCellS Try.f18.ntmps (fun b => if b == 0 then [.v 5, .v 4] else []) (codeOf Try.f18) 0 (initS [.s (.view (.pts l)), .s (.view (.pts m))]) (retK Try.f18.results.toList [.s (.bool (eqL l m))]) := by kernel_rfl
set_option maxHeartbeats 400000 in
theorem F_laws_eqCellS : FunOK 18 g_laws_eqCellS := by
  refine fun_F (by kernel_rfl) Try.func18 rfl (by kernel_rfl) sig_laws_eqCellS_ok xs_laws_eqCellS_ok ?_
  intro avs sg h hn hl
  unfold g_laws_eqCellS at h
  split at h
  · rename_i l m
    injection h with h; subst h
    refine ⟨by kernel_rfl, fun b => if b == 0 then [.v 5, .v 4] else [], Eq.mp (V_laws_eqCellS l m) ?_⟩
    simp only [true_and, and_true, implies_true, and_self, forall_const, true_implies, lenA, lenL, SV.lenOK, Cont.lenOK] at hn hl ⊢
    have h0 := ilen_0 l
    simp only [ilt_t, ilt_f, ile_t, ile_f, ieq_t, ieq_f, bnot_e, band_e, bite_and, bite_or, NLt_e, NLe_e, NNe_e, NIs_e, imax_e, imin_e, irem_e, Bool.not_eq_true', Bool.not_eq_false', Bool.and_eq_true, Bool.or_eq_true, Bool.or_eq_false_iff, Bool.and_eq_false_iff, Cont.pts.injEq, Cont.ints.injEq, Cont.bools.injEq, Cont.ptss.injEq, Cont.intss.injEq, Cont.boolss.injEq, true_and, and_true, implies_true]
    unfold eqL
    refine ⟨fun h => by simp [h], fun h => ?_⟩
    refine ⟨fun | .int k :: _ => 0 ≤ k ∧ k ≤ ilen l ∧ ∀ j, 0 ≤ j → j < k → eqPt (getx l j) (gety l j) (getx m j) (gety m j) = true | _ => False, fun | .int k :: _ => (ilen l - k).toNat | _ => 0, ?_, ?_⟩
    · exact ⟨Int.le_refl 0, h0, fun j h0 h1 => absurd h1 (by omega)⟩
    · rintro k _ ⟨hk0, hk1, hk⟩
      simp only [ilt_t, ilt_f, ile_t, ile_f, ieq_t, ieq_f, bnot_e, band_e, bite_and, bite_or, NLt_e, NLe_e, NNe_e, NIs_e, imax_e, imin_e, irem_e, Bool.not_eq_true', Bool.not_eq_false', Bool.and_eq_true, Bool.or_eq_true, Bool.or_eq_false_iff, Bool.and_eq_false_iff, Cont.pts.injEq, Cont.ints.injEq, Cont.bools.injEq, Cont.ptss.injEq, Cont.intss.injEq, Cont.boolss.injEq, true_and, and_true, implies_true]
      refine ⟨fun hc => ⟨⟨⟨hk0, hc⟩, hk0, by omega⟩, fun hv => ?_, fun hv => ?_⟩, fun hc => ?_⟩
      · rw [allN_no k hk0 hc hv]; simp
      · rw [iadd_1 hk0 hc hl.1]
        exact ⟨⟨by omega, by omega, allN_up hk hv⟩, by omega⟩
      · rw [allN_mk fun j h0 h1 => hk j h0 (by omega)]; simp [h]
  · cases h
def mkd (m : List Pt) (k n : Int) : Prop := ∀ j, 0 ≤ j → j < n → getx m j = k + 2 * j ∧ gety m j = k + 2 * j + 1
theorem ilen_setx (l : List Pt) (i x : Int) : ilen (setx l i x) = ilen l := by unfold ilen setx; simp
theorem ilen_sety (l : List Pt) (i x : Int) : ilen (sety l i x) = ilen l := by unfold ilen sety; simp
theorem get_set2 {l : List Pt} {i j x y : Int} (h0 : 0 ≤ i) (h1 : i < ilen l) (h2 : 0 ≤ j) : getx (sety (setx l i x) i y) j = (if j = i then x else getx l j) ∧ gety (sety (setx l i x) i y) j = (if j = i then y else gety l j) := by
  unfold ilen at h1
  unfold getx gety sety setx
  by_cases h : j = i
  · subst h; simp [List.getD_eq_getElem?_getD, List.getElem?_set, show j.toNat < l.length by omega]
  · rw [if_neg h, if_neg h]; simp [List.getD_eq_getElem?_getD, List.getElem?_set, show ¬ i.toNat = j.toNat by omega]
def heldE (l : List Pt) (k j : Int) : Bool := decide (getx l j = k + 2 * j) && decide (gety l j = k + 2 * j + 1)
def heldF (l : List Pt) (k : Int) : Int := if allN (ilen l) (heldE l k) then k + 2 * ilen l else -1
theorem heldF_e {l : List Pt} {k : Int} (h : mkd l k (ilen l)) : heldF l k = k + 2 * ilen l := by
  unfold heldF
  rw [if_pos (allN_mk fun j j0 j1 => by unfold heldE; simp [h j j0 j1])]
def s_laws_markCellS (l : List Pt) (k : Int) : SgX := ⟨0 ≤ k ∧ k ≤ 1000000000 ∧ ilen l ≤ 1000000000, [.pts, .int], (fun | [.pts m, .int q] => ilen m = ilen l ∧ mkd m k (ilen l) ∧ q = k + 2 * ilen l | _ => False), (fun | [.pts m, .int q] => [.s (.int (q))] | _ => []), (fun | [.pts m, .int q] => .row 47 (.pts (m)) | _ => .box [])⟩
def g_laws_markCellS : Bx → List AV → Option SgX
  | .row 47 (.pts l), [.s (.int k)] => some (s_laws_markCellS l k)
  | _, _ => none
def sig_laws_markCellS : FuncId → List AV → Option Sg := sigL []
def xs_laws_markCellS : XS := ⟨xsigL [], ysigL []⟩
theorem sig_laws_markCellS_ok : SigOK sig_laws_markCellS := sigL_nil
theorem xs_laws_markCellS_ok : XSigOK xs_laws_markCellS := ⟨xsigL_nil, ysigL_nil⟩
def L_laws_markCellS_0 (l : List Pt) (k : Int) (i1_1 : Int) (l1_2 : List Pt) : Prop := ∃ m : List Pt, ∃ q : Int, ((ilen m = ilen l ∧ mkd m k (ilen l) ∧ q = k + 2 * ilen l) ∧ (((i1_1 : Int) = (q)) ∧ True) ∧ ((true = true) ∧ ((Cont.pts l1_2) = (Cont.pts (m)))))
theorem V_laws_markCellS (l : List Pt) (k : Int) : ((true = true) ∧ ((True) ∧ True) ∧ (true = true) ∧ ((True) ∧ True) ∧ ∃ (I1 : List GV → Prop) (μ1 : List GV → Nat), (((true = true) ∧ (((k : Int) = k) ∧ (((0 : Int) : Int) = (0 : Int)) ∧ (((0 : Int) : Int) = (0 : Int)) ∧ (true = true) ∧ True) ∧ (((true = true) ∧ ((Cont.pts l) = (Cont.pts l))) ∧ True)) ∧ (([GK.int, GK.int, GK.pts] : List GK) = ([GK.int, GK.int, GK.pts] : List GK)) ∧ I1 [GV.int (0 : Int), GV.int k, GV.pts l]) ∧ (∀ i1_0 : Int, ∀ i1_1 : Int, ∀ l1_2 : List Pt, I1 [GV.int i1_0, GV.int i1_1, GV.pts l1_2] → ((true = true) ∧ ((True) ∧ (True) ∧ (True) ∧ (True) ∧ True) ∧ ((ilt i1_0 (ilen l1_2)) = true → ((true = true) ∧ ((True) ∧ (True) ∧ (True) ∧ (NLe 0 i1_0 ∧ NLt i1_0 (ilen l1_2)) ∧ (NLt i1_0 (ilen l1_2)) ∧ True) ∧ (NLt i1_0 (ilen l1_2)) ∧ (true = true) ∧ ((True) ∧ (True) ∧ (True) ∧ True) ∧ (true = true) ∧ ((True) ∧ (True) ∧ (True) ∧ (NLe 0 i1_0 ∧ NLt i1_0 (ilen (setx l1_2 i1_0 i1_1))) ∧ (NLt i1_0 (ilen (setx l1_2 i1_0 i1_1))) ∧ True) ∧ (NLt i1_0 (ilen (setx l1_2 i1_0 i1_1))) ∧ (true = true) ∧ ((True) ∧ (True) ∧ (True) ∧ True) ∧ (true = true) ∧ ((True) ∧ (True) ∧ (True) ∧ True) ∧ ((true = true) ∧ ((((iadd (iadd i1_1 (1 : Int)) (1 : Int)) : Int) = (iadd (iadd i1_1 (1 : Int)) (1 : Int))) ∧ (((iadd i1_0 (1 : Int)) : Int) = (iadd i1_0 (1 : Int))) ∧ (((0 : Int) : Int) = (0 : Int)) ∧ (true = true) ∧ True) ∧ (((true = true) ∧ ((Cont.pts (sety (setx l1_2 i1_0 i1_1) i1_0 (iadd i1_1 (1 : Int)))) = (Cont.pts (sety (setx l1_2 i1_0 i1_1) i1_0 (iadd i1_1 (1 : Int)))))) ∧ True)) ∧ ((([GK.int, GK.int, GK.pts] : List GK) = ([GK.int, GK.int, GK.pts] : List GK)) ∧ I1 [GV.int (iadd i1_0 (1 : Int)), GV.int (iadd (iadd i1_1 (1 : Int)) (1 : Int)), GV.pts (sety (setx l1_2 i1_0 i1_1) i1_0 (iadd i1_1 (1 : Int)))] ∧ μ1 [GV.int (iadd i1_0 (1 : Int)), GV.int (iadd (iadd i1_1 (1 : Int)) (1 : Int)), GV.pts (sety (setx l1_2 i1_0 i1_1) i1_0 (iadd i1_1 (1 : Int)))] < μ1 [GV.int i1_0, GV.int i1_1, GV.pts l1_2]))) ∧ ((ilt i1_0 (ilen l1_2)) = false → ((true = true) ∧ ((True) ∧ (True) ∧ True) ∧ L_laws_markCellS_0 l k i1_1 l1_2))))) = (fun sg => ev sig_laws_markCellS xs_laws_markCellS Try.f19.ntmps (fun b => if b == 0 then [.v 5, .v 1, .b 0] else []) (codeOf Try.f19) 0 (initX (.row 47 (.pts l)) [.s (.int k)]) (retX Try.f19.results.toList sg.kinds sg.post sg.ret sg.out)) (s_laws_markCellS l k) := by kernel_rfl
set_option maxHeartbeats 400000 in
theorem F_laws_markCellS : FunX 19 g_laws_markCellS := by
  refine fun_X (by kernel_rfl) Try.func19 rfl (by kernel_rfl) sig_laws_markCellS_ok xs_laws_markCellS_ok ?_
  intro bx avs sg h hn hl hlb
  unfold g_laws_markCellS at h
  split at h
  · rename_i l k
    injection h with h; subst h
    refine ⟨by kernel_rfl, fun b => if b == 0 then [.v 5, .v 1, .b 0] else [], Eq.mp (V_laws_markCellS l k) ?_⟩
    simp only [true_and, and_true, implies_true, and_self, forall_const, true_implies, lenA, lenL, SV.lenOK, Cont.lenOK, lenB, s_laws_markCellS, L_laws_markCellS_0] at hn hl hlb ⊢
    have h0 := ilen_0 l
    obtain ⟨n1, n2, n3⟩ := hn
    simp only [ilt_t, ilt_f, ile_t, ile_f, ieq_t, ieq_f, bnot_e, band_e, bite_and, bite_or, NLt_e, NLe_e, NNe_e, NIs_e, imax_e, imin_e, irem_e, Bool.not_eq_true', Bool.not_eq_false', Bool.and_eq_true, Bool.or_eq_true, Bool.or_eq_false_iff, Bool.and_eq_false_iff, Cont.pts.injEq, Cont.ints.injEq, Cont.bools.injEq, Cont.ptss.injEq, Cont.intss.injEq, Cont.boolss.injEq, true_and, and_true, implies_true]
    refine ⟨fun | [.int i, .int k', .pts m] => 0 ≤ i ∧ i ≤ ilen l ∧ k' = k + 2 * i ∧ ilen m = ilen l ∧ mkd m k i | _ => False, fun | .int i :: _ => (ilen l - i).toNat | _ => 0, ?_, ?_⟩
    · exact ⟨Int.le_refl 0, h0, by omega, rfl, fun j h0 h1 => absurd h1 (by omega)⟩
    · rintro i k' m ⟨hi0, hi1, hk, hm, hmk⟩
      simp only [ilt_t, ilt_f, ile_t, ile_f, ieq_t, ieq_f, bnot_e, band_e, bite_and, bite_or, NLt_e, NLe_e, NNe_e, NIs_e, imax_e, imin_e, irem_e, Bool.not_eq_true', Bool.not_eq_false', Bool.and_eq_true, Bool.or_eq_true, Bool.or_eq_false_iff, Bool.and_eq_false_iff, Cont.pts.injEq, Cont.ints.injEq, Cont.bools.injEq, Cont.ptss.injEq, Cont.intss.injEq, Cont.boolss.injEq, true_and, and_true, implies_true, ilen_setx, ilen_sety]
      refine ⟨fun hc => ?_, fun hc => ⟨m, k', ⟨hm, fun j j0 j1 => hmk j j0 (by omega), by omega⟩, rfl, rfl⟩⟩
      have hi : i < ilen l := by omega
      rw [iadd_1 hi0 hi (by omega), iadd_e (a := k') (by omega) (by omega), iadd_e (by omega) (by omega)]
      refine ⟨⟨⟨hi0, hc⟩, hc⟩, hc, ⟨⟨hi0, hc⟩, hc⟩, hc, ⟨by omega, by omega, by omega, hm, ?_⟩, by omega⟩
      intro j j0 j1
      obtain ⟨g1, g2⟩ := get_set2 (x := k') (y := k' + 1) hi0 hc j0
      rw [g1, g2]
      by_cases hj : j = i
      · rw [if_pos hj, if_pos hj]; omega
      · rw [if_neg hj, if_neg hj]; exact hmk j j0 (by omega)
  · cases h
def g_laws_heldCellS : List AV → Option Sg
  | [.s (.view (.pts l)), .s (.int k)] => some ⟨0 ≤ k ∧ k ≤ 1000000000 ∧ ilen l ≤ 1000000000, [.s (.int (heldF l k))]⟩
  | _ => none
def sig_laws_heldCellS : FuncId → List AV → Option Sg := sigL []
def xs_laws_heldCellS : XS := ⟨xsigL [], ysigL []⟩
theorem sig_laws_heldCellS_ok : SigOK sig_laws_heldCellS := sigL_nil
theorem xs_laws_heldCellS_ok : XSigOK xs_laws_heldCellS := ⟨xsigL_nil, ysigL_nil⟩
theorem V_laws_heldCellS (l : List Pt) (k : Int) : ((true = true) ∧ ((True) ∧ True) ∧ (true = true) ∧ ((True) ∧ True) ∧ ∃ (I1 : List GV → Prop) (μ1 : List GV → Nat), (((true = true) ∧ (((k : Int) = k) ∧ (((0 : Int) : Int) = (0 : Int)) ∧ (((0 : Int) : Int) = (0 : Int)) ∧ ((Cont.pts l) = (Cont.pts l)) ∧ True) ∧ (True)) ∧ (([GK.int, GK.int, GK.int] : List GK) = ([GK.int, GK.int, GK.int] : List GK)) ∧ I1 [GV.int (0 : Int), GV.int (0 : Int), GV.int k]) ∧ (∀ i1_0 : Int, ∀ i1_1 : Int, ∀ i1_2 : Int, I1 [GV.int i1_0, GV.int i1_1, GV.int i1_2] → ((true = true) ∧ ((True) ∧ (True) ∧ (True) ∧ (True) ∧ True) ∧ ((ilt i1_0 (ilen l)) = true → ((true = true) ∧ ((True) ∧ (True) ∧ (NLe 0 i1_0 ∧ NLt i1_0 (ilen l)) ∧ (True) ∧ (True) ∧ (True) ∧ (True) ∧ True) ∧ ((bnot (ieq (getx l i1_0) i1_2)) = true → ((true = true) ∧ ((True) ∧ True) ∧ (((-1 : Int) : Int) = (heldF l k)) ∧ True)) ∧ ((bnot (ieq (getx l i1_0) i1_2)) = false → ((true = true) ∧ ((True) ∧ (True) ∧ (True) ∧ True) ∧ (true = true) ∧ ((True) ∧ (True) ∧ (NLe 0 i1_0 ∧ NLt i1_0 (ilen l)) ∧ (True) ∧ (True) ∧ (True) ∧ (True) ∧ True) ∧ ((bnot (ieq (gety l i1_0) (iadd i1_2 (1 : Int)))) = true → ((true = true) ∧ ((True) ∧ True) ∧ (((-1 : Int) : Int) = (heldF l k)) ∧ True)) ∧ ((bnot (ieq (gety l i1_0) (iadd i1_2 (1 : Int)))) = false → ((true = true) ∧ ((True) ∧ (True) ∧ (True) ∧ True) ∧ (true = true) ∧ ((True) ∧ (True) ∧ (True) ∧ True) ∧ ((true = true) ∧ ((((iadd (iadd i1_2 (1 : Int)) (1 : Int)) : Int) = (iadd (iadd i1_2 (1 : Int)) (1 : Int))) ∧ ((i1_1 : Int) = i1_1) ∧ (((iadd i1_0 (1 : Int)) : Int) = (iadd i1_0 (1 : Int))) ∧ ((Cont.pts l) = (Cont.pts l)) ∧ True) ∧ (True)) ∧ ((([GK.int, GK.int, GK.int] : List GK) = ([GK.int, GK.int, GK.int] : List GK)) ∧ I1 [GV.int (iadd i1_0 (1 : Int)), GV.int i1_1, GV.int (iadd (iadd i1_2 (1 : Int)) (1 : Int))] ∧ μ1 [GV.int (iadd i1_0 (1 : Int)), GV.int i1_1, GV.int (iadd (iadd i1_2 (1 : Int)) (1 : Int))] < μ1 [GV.int i1_0, GV.int i1_1, GV.int i1_2]))))))) ∧ ((ilt i1_0 (ilen l)) = false → ((true = true) ∧ ((True) ∧ (True) ∧ True) ∧ ((i1_2 : Int) = (heldF l k)) ∧ True))))) = ev sig_laws_heldCellS xs_laws_heldCellS Try.f20.ntmps (fun b => if b == 0 then [.v 5, .v 4, .v 1] else []) (codeOf Try.f20) 0 (initS [.s (.view (.pts l)), .s (.int k)]) (retK Try.f20.results.toList [.s (.int (heldF l k))]) := by kernel_rfl
set_option maxHeartbeats 400000 in
theorem F_laws_heldCellS : FunOK 20 g_laws_heldCellS := by
  refine fun_F (by kernel_rfl) Try.func20 rfl (by kernel_rfl) sig_laws_heldCellS_ok xs_laws_heldCellS_ok ?_
  intro avs sg h hn hl
  unfold g_laws_heldCellS at h
  split at h
  · rename_i l k
    injection h with h; subst h
    refine ⟨by kernel_rfl, fun b => if b == 0 then [.v 5, .v 4, .v 1] else [], Eq.mp (V_laws_heldCellS l k) ?_⟩
    simp only [true_and, and_true, implies_true, and_self, forall_const, true_implies, lenA, lenL, SV.lenOK, Cont.lenOK] at hn hl ⊢
    have h0 := ilen_0 l
    obtain ⟨n1, n2, n3⟩ := hn
    simp only [ilt_t, ilt_f, ile_t, ile_f, ieq_t, ieq_f, bnot_e, band_e, bite_and, bite_or, NLt_e, NLe_e, NNe_e, NIs_e, imax_e, imin_e, irem_e, Bool.not_eq_true', Bool.not_eq_false', Bool.and_eq_true, Bool.or_eq_true, Bool.or_eq_false_iff, Bool.and_eq_false_iff, Cont.pts.injEq, Cont.ints.injEq, Cont.bools.injEq, Cont.ptss.injEq, Cont.intss.injEq, Cont.boolss.injEq, true_and, and_true, implies_true]
    refine ⟨fun | [.int i, .int _, .int k'] => 0 ≤ i ∧ i ≤ ilen l ∧ k' = k + 2 * i ∧ (∀ j, 0 ≤ j → j < i → heldE l k j = true) | _ => False, fun | .int i :: _ => (ilen l - i).toNat | _ => 0, ?_, ?_⟩
    · exact ⟨Int.le_refl 0, h0, by omega, fun j h0 h1 => absurd h1 (by omega)⟩
    · rintro i _ k' ⟨hi0, hi1, hk, hmk⟩
      simp only [ilt_t, ilt_f, ile_t, ile_f, ieq_t, ieq_f, bnot_e, band_e, bite_and, bite_or, NLt_e, NLe_e, NNe_e, NIs_e, imax_e, imin_e, irem_e, Bool.not_eq_true', Bool.not_eq_false', Bool.and_eq_true, Bool.or_eq_true, Bool.or_eq_false_iff, Bool.and_eq_false_iff, Cont.pts.injEq, Cont.ints.injEq, Cont.bools.injEq, Cont.ptss.injEq, Cont.intss.injEq, Cont.boolss.injEq, true_and, and_true, implies_true]
      have e2 : iadd k' 1 = k' + 1 := iadd_e (by omega) (by omega)
      have e3 : iadd (k' + 1) 1 = k' + 1 + 1 := iadd_e (by omega) (by omega)
      simp only [e2, e3]
      refine ⟨fun hc => ⟨⟨hi0, hc⟩, fun hx => ?_, fun hx => ⟨⟨hi0, hc⟩, fun hy => ?_, fun hy => ?_⟩⟩, fun hc => ?_⟩
      · have hE : heldE l k i = false := by unfold heldE; simp; omega
        unfold heldF; rw [allN_no i hi0 hc hE]; rfl
      · have hE : heldE l k i = false := by unfold heldE; simp; omega
        unfold heldF; rw [allN_no i hi0 hc hE]; rfl
      · have hE : heldE l k i = true := by unfold heldE; simp; omega
        rw [iadd_1 hi0 hc hl]
        exact ⟨⟨by omega, by omega, by omega, upTo hmk hE⟩, by omega⟩
      · unfold heldF; rw [allN_mk fun j j0 j1 => hmk j j0 (by omega)]
        rw [if_pos rfl]; omega
  · cases h
theorem bxor_self (a : Bool) : bxor a a = false := by cases a <;> simp [bxor]
theorem pcF_len (l : List Pt) : ilen (pcF l) ≤ 400 := by
  unfold pcF
  split
  · rename_i h
    have h0 := ilen_0 l
    obtain ⟨a, ha⟩ := Int.eq_ofNat_of_zero_le h0
    have := pcL_len (l := l) a
    rw [ha] at h ⊢
    omega
  · rw [ilen_nil]; omega
def g_laws_FnExactPathCorners : List AV → Option Sg
  | [.s (.view (.pts l))] => some ⟨True, [.s (.bool (true))]⟩
  | _ => none
def sig_laws_FnExactPathCorners : FuncId → List AV → Option Sg := sigL [(14, g_laws_szCellS), (16, g_laws_toCellS), (15, g_spec_PathCorners), (17, g_impl_PathCorners), (18, g_laws_eqCellS), (20, g_laws_heldCellS)]
def xs_laws_FnExactPathCorners : XS := ⟨xsigL [(19, g_laws_markCellS)], ysigL []⟩
theorem sig_laws_FnExactPathCorners_ok : SigOK sig_laws_FnExactPathCorners := sigL_cons F_laws_szCellS (sigL_cons F_laws_toCellS (sigL_cons F_spec_PathCorners (sigL_cons F_impl_PathCorners (sigL_cons F_laws_eqCellS (sigL_cons F_laws_heldCellS sigL_nil)))))
theorem xs_laws_FnExactPathCorners_ok : XSigOK xs_laws_FnExactPathCorners := ⟨xsigL_cons F_laws_markCellS xsigL_nil, ysigL_nil⟩
theorem V_laws_FnExactPathCorners (l : List Pt) : ((true = true) ∧ ((True) ∧ True) ∧ (true = true) ∧ ((True) ∧ True) ∧ (true = true) ∧ ((True) ∧ (True) ∧ ((0 ≤ (1048576 : Int) ∧ (1048576 : Int) ≤ 1048576)) ∧ (True) ∧ True) ∧ (true = true) ∧ ((True) ∧ (True) ∧ True) ∧ ((ilt (szI (ilen l) (1048576 : Int)) (0 : Int)) = true → ((true = true) ∧ ((True) ∧ True) ∧ ((true : Bool) = (true)) ∧ True)) ∧ ((ilt (szI (ilen l) (1048576 : Int)) (0 : Int)) = false → ((true = true) ∧ ((True) ∧ ((ilen l ≤ 100000000)) ∧ ((True)) ∧ (True) ∧ True) ∧ (true = true) ∧ ((True) ∧ ((ilen l ≤ 100000000)) ∧ (True) ∧ True) ∧ (true = true) ∧ ((True) ∧ ((True)) ∧ (True) ∧ True) ∧ (true = true) ∧ ((True) ∧ (True) ∧ ((True)) ∧ (True) ∧ True) ∧ ((bnot (eqL (pcF (l)) (pcF (l)))) = true → ((true = true) ∧ ((True) ∧ True) ∧ ((false : Bool) = (true)) ∧ True)) ∧ ((bnot (eqL (pcF (l)) (pcF (l)))) = false → ((true = true) ∧ ((True) ∧ (True) ∧ ((ilen l ≤ 100000000)) ∧ ((True)) ∧ (True) ∧ True) ∧ ((bnot (eqL (l) (l))) = true → ((true = true) ∧ ((True) ∧ True) ∧ ((false : Bool) = (true)) ∧ True)) ∧ ((bnot (eqL (l) (l))) = false → ((true = true) ∧ ((True) ∧ True) ∧ (true = true) ∧ ((True) ∧ (True) ∧ True) ∧ (true = true) ∧ ((0 ≤ (1 : Int) ∧ (1 : Int) ≤ 1000000000 ∧ ilen (l) ≤ 1000000000)) ∧ (∀ m_1 : List Pt, ∀ q_2 : Int, ((ilen m_1 = ilen (l) ∧ mkd m_1 (1 : Int) (ilen (l)) ∧ q_2 = (1 : Int) + 2 * ilen (l)) → ((True) ∧ (true = true) ∧ ((True) ∧ (True) ∧ (True) ∧ (NIs (ilt (q_2) (0 : Int)) false → True) ∧ (NIs (ilt (q_2) (0 : Int)) false → True) ∧ (NIs (ilt (q_2) (0 : Int)) false → (True)) ∧ (NIs (ilt (q_2) (0 : Int)) false → True) ∧ (True) ∧ True) ∧ ((bite (ilt (q_2) (0 : Int)) true (bnot (eqL (pcF (l)) (pcF (l))))) = true → ((true = true) ∧ ((True) ∧ True) ∧ ((false : Bool) = (true)) ∧ True)) ∧ ((bite (ilt (q_2) (0 : Int)) true (bnot (eqL (pcF (l)) (pcF (l))))) = false → ((true = true) ∧ ((True) ∧ True) ∧ (true = true) ∧ ((True) ∧ (True) ∧ True) ∧ (true = true) ∧ ((0 ≤ (1 : Int) ∧ (1 : Int) ≤ 1000000000 ∧ ilen (pcF (l)) ≤ 1000000000)) ∧ (∀ m_3 : List Pt, ∀ q_4 : Int, ((ilen m_3 = ilen (pcF (l)) ∧ mkd m_3 (1 : Int) (ilen (pcF (l))) ∧ q_4 = (1 : Int) + 2 * ilen (pcF (l))) → ((True) ∧ (true = true) ∧ ((True) ∧ True) ∧ (true = true) ∧ ((True) ∧ (True) ∧ ((0 ≤ (1 : Int) ∧ (1 : Int) ≤ 1000000000 ∧ ilen (m_3) ≤ 1000000000)) ∧ (True) ∧ True) ∧ (true = true) ∧ ((True) ∧ (True) ∧ True) ∧ ((ilt (heldF (m_3) (1 : Int)) (0 : Int)) = true → ((true = true) ∧ ((True) ∧ True) ∧ ((false : Bool) = (true)) ∧ True)) ∧ ((ilt (heldF (m_3) (1 : Int)) (0 : Int)) = false → ((true = true) ∧ ((True) ∧ (True) ∧ (True) ∧ True) ∧ ((bnot (ieq (heldF (m_3) (1 : Int)) (q_4))) = true → ((true = true) ∧ ((True) ∧ True) ∧ ((false : Bool) = (true)) ∧ True)) ∧ ((bnot (ieq (heldF (m_3) (1 : Int)) (q_4))) = false → ((true = true) ∧ ((True) ∧ ((ilen l ≤ 100000000)) ∧ ((True)) ∧ (True) ∧ True) ∧ (true = true) ∧ ((True) ∧ (True) ∧ ((True)) ∧ (True) ∧ True) ∧ ((bnot (eqL (pcF (l)) (pcF (l)))) = true → ((true = true) ∧ ((True) ∧ True) ∧ ((false : Bool) = (true)) ∧ True)) ∧ ((bnot (eqL (pcF (l)) (pcF (l)))) = false → ((true = true) ∧ ((True) ∧ True) ∧ (true = true) ∧ ((True) ∧ (True) ∧ ((0 ≤ (1 : Int) ∧ (1 : Int) ≤ 1000000000 ∧ ilen (m_3) ≤ 1000000000)) ∧ (True) ∧ True) ∧ (true = true) ∧ ((True) ∧ (True) ∧ True) ∧ ((ilt (heldF (m_3) (1 : Int)) (0 : Int)) = true → ((true = true) ∧ ((True) ∧ True) ∧ ((false : Bool) = (true)) ∧ True)) ∧ ((ilt (heldF (m_3) (1 : Int)) (0 : Int)) = false → ((true = true) ∧ ((True) ∧ (True) ∧ (True) ∧ True) ∧ ((bnot (ieq (heldF (m_3) (1 : Int)) (q_4))) = true → ((true = true) ∧ ((True) ∧ True) ∧ ((false : Bool) = (true)) ∧ True)) ∧ ((bnot (ieq (heldF (m_3) (1 : Int)) (q_4))) = false → ((true = true) ∧ ((True) ∧ True) ∧ ((true : Bool) = (true)) ∧ True))))))))))))))))))))))))) = ev sig_laws_FnExactPathCorners xs_laws_FnExactPathCorners Try.f3.ntmps (fun b => []) (codeOf Try.f3) 0 (initS [.s (.view (.pts l))]) (retK Try.f3.results.toList [.s (.bool (true))]) := by kernel_rfl
set_option maxHeartbeats 400000 in
theorem F_laws_FnExactPathCorners : FunOK 3 g_laws_FnExactPathCorners := by
  refine fun_F (by kernel_rfl) Try.func3 rfl (by kernel_rfl) sig_laws_FnExactPathCorners_ok xs_laws_FnExactPathCorners_ok ?_
  intro avs sg h hn hl
  unfold g_laws_FnExactPathCorners at h
  split at h
  · rename_i l
    injection h with h; subst h
    refine ⟨by kernel_rfl, fun b => [], Eq.mp (V_laws_FnExactPathCorners l) ?_⟩
    simp only [true_and, and_true, implies_true, and_self, forall_const, true_implies, lenA, lenL, SV.lenOK, Cont.lenOK] at hn hl ⊢
    have h0 := ilen_0 l
    simp only [ilt_t, ilt_f, ile_t, ile_f, ieq_t, ieq_f, bnot_e, band_e, bite_and, bite_or, NLt_e, NLe_e, NNe_e, NIs_e, imax_e, imin_e, irem_e, Bool.not_eq_true', Bool.not_eq_false', Bool.and_eq_true, Bool.or_eq_true, Bool.or_eq_false_iff, Bool.and_eq_false_iff, Cont.pts.injEq, Cont.ints.injEq, Cont.bools.injEq, Cont.ptss.injEq, Cont.intss.injEq, Cont.boolss.injEq, true_and, and_true, implies_true, eqPt_same, eqL_same, bxor_self]
    refine ⟨by omega, fun hz => ?_⟩
    have hb : ilen l ≤ 100000000 := by unfold szI at hz; split at hz <;> omega
    have hp := pcF_len l
    have hp0 := ilen_0 (pcF l)
    refine ⟨hb, hb, by simp, fun _ => ⟨hb, by simp, fun _ => ⟨by omega, fun m1 q2 hm => ⟨(by intro h; rcases h with h | h; exact absurd h (by omega); cases h), fun _ => ⟨by omega, fun m3 q4 hm3 => ?_⟩⟩⟩⟩⟩
    have hh : heldF m3 1 = 1 + 2 * ilen m3 := heldF_e (by rw [hm3.1]; exact hm3.2.1)
    rw [hh]
    refine ⟨by omega, fun h => by omega, fun _ => ⟨fun h => by omega, fun _ => ⟨hb, by simp, fun _ => ⟨by omega, fun h => by omega, fun _ h => by omega⟩⟩⟩⟩
  · cases h
theorem fnExactPathCorners_walk (w : World) (v0 : Value) (x0 : List Pt) (w0 : CellsArg w v0 x0) : Calls Try.prog 3 #[v0] w fun e w' => e = .returned (.bool true) ∧ Bel w w' :=
  walk_of F_laws_FnExactPathCorners (avs := [.s (.view (.pts x0))]) rfl trivial ⟨pts_reads w0.1, trivial⟩
set_option maxRecDepth 100000 in
theorem fnExactPathCorners_lifted (os : Os) (started : os.Started) (H : Type) (enc : TypeId × Value → H) :
    ReturnsInHanded {} Try.checked os 3 .any (Rows.fnExactPathCornersSpec.pre6 enc Try.prog Try.f3 Rows.fnExactPathCornersRow.domain false) (Rows.fnExactPathCornersSpec.post enc Try.prog Try.f3 false true false false) := by
  have own : ownKnob Try.prog.godebug = none := by kernel_rfl
  have laidOut : laidOutB Try.prog = true := by kernel_rfl
  refine returnsInHanded_of_change (C := Try.checked) own started (by kernel_rfl) Try.func3
    (ChangeSpec.witness6 (enc := enc) (C := Try.checked) false ⟨#[], #[.slice none 0 0], []⟩ 8 (by kernel_rfl) (by kernel_rfl) (by kernel_rfl) (by kernel_rfl)) ?_
  intro W base args ds gs before hval0 hW hcnd _
  have hval : ∀ (j : Nat) t v, Try.f3.params[j]? = some t → args[j]? = some v → Value.okWide Try.prog W .any base t v := hval0
  have hW' := hW
  obtain ⟨p, q, hA0, hV, rfl, hfz, hnd⟩ := hW
  have hA : DataW.TrodAll enc Try.prog W 0 (fun _ => true) true Try.f3.params.toList args.toList ds p := hA0
  rw [Try.params3] at hA hval
  obtain ⟨v0, vs0, d0, ds0, p0, q0, hargs, rfl, rfl, h0, r0⟩ := trodAll_cons hA
  obtain ⟨rfl, rfl, rfl⟩ := trodAll_nil r0
  obtain rfl : args = #[v0] := by cases args; simp_all
  obtain ⟨rfl, rfl⟩ := trodVars_none hV
  have k0 := h0
  have lt0 : ∀ x ∈ p0, x.block < W.heap.size := by obtain ⟨m, hm⟩ := k0; exact DataW.trod_lt m _ _ _ hm
  obtain ⟨x0, w0⟩ := opn_Cells (hval 0 22 v0 rfl rfl) h0
  clear hA0 hval0
  refine (fnExactPathCorners_walk W v0 x0 w0).mono fun e W' ⟨he, bel⟩ => ?_
  subst he
  exact ⟨_, rfl, _, _, _, [], _, [], hW', trodAll_mk1 (shut_bool Try.underlying4 _), (trodAll_cons_mk (Below.trod laidOut (by kernel_rfl) (of_decide_eq_true (by kernel_rfl)) k0 bel lt0) trodAll_mk0), rfl, Below.frame bel _, fun h => by cases h⟩
theorem fnExactPathCorners_over : Rows.fnExactPathCornersRow.holds Try.pinned (OpenSpec.ofChange Rows.fnExactPathCornersSpec) :=
  OpenClaim.holds_of_wide 3 Try.f3 rfl rfl rfl rfl rfl rfl rfl ⟨rfl, rfl, rfl, rfl, rfl⟩ rfl rfl rfl rfl rfl (by kernel_rfl) Try.func3 (by kernel_rfl)
    (of_decide_eq_true (by kernel_rfl)) (by unfold Func.isWrapper; first | (rw [if_pos (by decide +kernel)]; kernel_rfl) | (rw [if_neg (by decide +kernel)]; exact ⟨rfl, rfl⟩))
    (fun os started H enc _ => fnExactPathCorners_lifted os started H enc)
theorem fnExactPathCorners_proved : Rows.FnExactPathCornersSaid := fnExactPathCorners_over
#print axioms fnExactPathCorners_proved
end Go.Proofs.Ytnhgojcleepdiaa

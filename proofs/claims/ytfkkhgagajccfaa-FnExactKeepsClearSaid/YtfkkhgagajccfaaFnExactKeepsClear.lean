/- 'FnExactKeepsClear': for all arguments the program's KeepsClear returns what the reference's returns and leaves its arguments alone. Conditions: none. -/
import Derived.Test.YtfkkhgagajccfaaAxO
namespace Go.Proofs.Ytfkkhgagajccfaa
open Go.ChangeShapes Go.WideShapes Go.ChangeAt Go.RowKit
set_option maxRecDepth 100000
set_option linter.unusedSimpArgs false
set_option linter.unusedVariables false
def szI (k n : Int) : Int := if k ≤ n then n - k else -1
def g_laws_szPointS : List AV → Option Sg
  | [.s (.view (.pts l)), .s (.int n)] => some ⟨0 ≤ n ∧ n ≤ 1048576, [.s (.int (szI (ilen l) n))]⟩
  | _ => none
def sig_laws_szPointS : FuncId → List AV → Option Sg := sigL []
def xs_laws_szPointS : XS := ⟨xsigL [], ysigL []⟩
theorem sig_laws_szPointS_ok : SigOK sig_laws_szPointS := sigL_nil
theorem xs_laws_szPointS_ok : XSigOK xs_laws_szPointS := ⟨xsigL_nil, ysigL_nil⟩
theorem V_laws_szPointS (l : List Pt) (n : Int) : ((true = true) ∧ ((True) ∧ True) ∧ (true = true) ∧ ((True) ∧ (True) ∧ (True) ∧ (True) ∧ (True) ∧ True) ∧ (true = true) ∧ ((True) ∧ (True) ∧ True) ∧ ((ilt (isub n (ilen l)) (0 : Int)) = true → ((true = true) ∧ ((True) ∧ True) ∧ (((-1 : Int) : Int) = (szI (ilen l) n)) ∧ True)) ∧ ((ilt (isub n (ilen l)) (0 : Int)) = false → ((true = true) ∧ ((True) ∧ (True) ∧ True) ∧ (((isub n (ilen l)) : Int) = (szI (ilen l) n)) ∧ True))) = ev sig_laws_szPointS xs_laws_szPointS Try.f13.ntmps (fun b => []) (codeOf Try.f13) 0 (initS [.s (.view (.pts l)), .s (.int n)]) (retK Try.f13.results.toList [.s (.int (szI (ilen l) n))]) := by kernel_rfl
set_option maxHeartbeats 400000 in
theorem F_laws_szPointS : FunOK 13 g_laws_szPointS := by
  refine fun_F (by kernel_rfl) Try.func13 rfl (by kernel_rfl) sig_laws_szPointS_ok xs_laws_szPointS_ok ?_
  intro avs sg h hn hl
  unfold g_laws_szPointS at h
  split at h
  · rename_i l n
    injection h with h; subst h
    refine ⟨by kernel_rfl, fun b => [], Eq.mp (V_laws_szPointS l n) ?_⟩
    simp only [true_and, and_true, implies_true, and_self, forall_const, true_implies, lenA, lenL, SV.lenOK, Cont.lenOK] at hn hl ⊢
    simp only [ilt_t, ilt_f, ile_t, ile_f, ieq_t, ieq_f, bnot_e, band_e, bite_and, bite_or, NLt_e, NLe_e, NNe_e, NIs_e, imax_e, imin_e, irem_e, Bool.not_eq_true', Bool.not_eq_false', Bool.and_eq_true, Bool.or_eq_true, Bool.or_eq_false_iff, Bool.and_eq_false_iff, Cont.pts.injEq, Cont.ints.injEq, Cont.bools.injEq, Cont.ptss.injEq, Cont.intss.injEq, Cont.boolss.injEq, true_and, and_true, implies_true]
    have := ilen_0 l
    rw [isub_e (by omega) (by omega)]
    unfold szI
    refine ⟨fun h => ?_, fun h => ?_⟩
    · rw [if_neg (by omega)]
    · rw [if_pos (by omega)]
  · cases h
def eqPt (p1 p2 q1 q2 : Int) : Bool := decide (p1 = q1) && decide (p2 = q2)
theorem eqPt_same (p q : Int) : eqPt p q p q = true := by simp [eqPt]
def eqL (l m : List Pt) : Bool := decide (ilen l = ilen m) && allN (ilen l) fun j => eqPt (getx l j) (gety l j) (getx m j) (gety m j)
theorem eqL_same (l : List Pt) : eqL l l = true := by
  unfold eqL
  rw [allN_mk fun j _ _ => eqPt_same _ _]
  simp
theorem getl_setl {α : Type} {l : List (List α)} {i j : Int} {x : List α} (h0 : 0 ≤ i) (h1 : i < ilen l) (h2 : 0 ≤ j) : getl (setl l i x) j = if j = i then x else getl l j := by
  unfold ilen at h1
  unfold getl setl
  by_cases h : j = i
  · subst h; simp [List.getD_eq_getElem?_getD, List.getElem?_set, show j.toNat < l.length by omega]
  · rw [if_neg h]; simp [List.getD_eq_getElem?_getD, List.getElem?_set, show ¬ i.toNat = j.toNat by omega]
theorem lists_ext {α : Type} {l m : List (List α)} (h : ilen l = ilen m) (hx : ∀ j, 0 ≤ j → j < ilen l → getl l j = getl m j) : l = m := by
  unfold ilen at h hx
  refine List.ext_getElem (by omega) fun i h1 h2 => ?_
  have e1 := hx i (by omega) (by omega)
  simpa [getl, List.getD_eq_getElem?_getD, h1, h2] using e1
theorem getl_len {α : Type} {l : List (List α)} (h : ∀ m ∈ l, ilen m ≤ 9223372036854775807) {j : Int} (h0 : 0 ≤ j) (h1 : j < ilen l) : ilen (getl l j) ≤ 9223372036854775807 := by
  unfold ilen at h1
  unfold getl
  rw [List.getD_eq_getElem?_getD, List.getElem?_eq_getElem (by omega)]
  exact h _ (List.getElem_mem _)
def eqLL (l m : List (List Pt)) : Bool := decide (ilen l = ilen m) && allN (ilen l) fun j => eqL (getl l j) (getl m j)
theorem eqLL_same (l : List (List Pt)) : eqLL l l = true := by
  unfold eqLL
  rw [allN_mk fun j _ _ => eqL_same _]
  simp
theorem szI_e {k n : Int} (h : 0 ≤ szI k n) : k ≤ n ∧ szI k n = n - k := by
  unfold szI at h ⊢
  split at h
  · rename_i h1; rw [if_pos h1]; exact ⟨h1, rfl⟩
  · omega
def crW (a1 a2 b1 b2 c1 c2 : Int) : Int := isub (imul (isub b1 a1) (isub c2 a2)) (imul (isub b2 a2) (isub c1 a1))
def cr (l : List Pt) (i j k : Int) : Int := crW (getx l i) (gety l i) (getx l j) (gety l j) (getx l k) (gety l k)
def nx (l : List Pt) (i : Int) : Int := (i + 1).tmod (ilen l)
def convE (l : List Pt) (i j : Int) : Bool := decide (j = i ∨ j = nx l i ∨ 0 < cr l i (nx l i) j)
def convB (l : List Pt) : Bool := inB (ilen l) 3 8 && allB l && allN (ilen l) fun i => allN (ilen l) fun j => convE l i j
theorem nx_in {l : List Pt} {i : Int} (h0 : 0 ≤ i) (h1 : i < ilen l) : 0 ≤ nx l i ∧ nx l i < ilen l ∧ ((i + 1 < ilen l ∧ nx l i = i + 1) ∨ (i + 1 = ilen l ∧ nx l i = 0)) := by
  have e : nx l i = (i + 1) % ilen l := Int.tmod_eq_emod_of_nonneg (by omega)
  rcases Int.lt_or_le (i + 1) (ilen l) with h | h
  · rw [e, Int.emod_eq_of_lt (by omega) h]; omega
  · have h2 : i + 1 = ilen l := by omega
    rw [e, h2, Int.emod_self]; omega
theorem allN_up {f : Int → Bool} {k : Int} (h : ∀ j, 0 ≤ j → j < k → f j = true) (hk : f k = true) : ∀ j, 0 ≤ j → j < k + 1 → f j = true := by
  intro j h0 h1
  rcases Int.lt_or_le j k with h2 | h2
  · exact h j h0 h2
  · rw [show j = k by omega]; exact hk
theorem upTo {P : Int → Prop} {k : Int} (h : ∀ j, 0 ≤ j → j < k → P j) (hk : P k) : ∀ j, 0 ≤ j → j < k + 1 → P j := by
  intro j h0 h1
  rcases Int.lt_or_le j k with h2 | h2
  · exact h j h0 h2
  · rw [show j = k by omega]; exact hk
theorem iadd_1 {k n : Int} (h0 : 0 ≤ k) (h1 : k < n) (h2 : n ≤ 9223372036854775807) : iadd k 1 = k + 1 := iadd_e (by omega) (by omega)
def s_laws_szPointSS (l : List (List Pt)) (n : Int) : SgY := ⟨0 ≤ n ∧ n ≤ 1048576, [.int], (fun | [.int k] => k < 0 ∨ (0 ≤ k ∧ k ≤ n ∧ ilen l ≤ n ∧ ∀ i, 0 ≤ i → i < ilen l → ilen (getl l i) ≤ n) | _ => False), (fun | [.int k] => [.s (.int (k))] | _ => [])⟩
def g_laws_szPointSS : List AV → Option SgY
  | [.s (.view (.ptss l)), .s (.int n)] => some (s_laws_szPointSS l n)
  | _ => none
def sig_laws_szPointSS : FuncId → List AV → Option Sg := sigL [(13, g_laws_szPointS)]
def xs_laws_szPointSS : XS := ⟨xsigL [], ysigL []⟩
theorem sig_laws_szPointSS_ok : SigOK sig_laws_szPointSS := sigL_cons F_laws_szPointS sigL_nil
theorem xs_laws_szPointSS_ok : XSigOK xs_laws_szPointSS := ⟨xsigL_nil, ysigL_nil⟩
theorem V_laws_szPointSS (l : List (List Pt)) (n : Int) : ((true = true) ∧ ((True) ∧ True) ∧ (true = true) ∧ ((True) ∧ (True) ∧ (True) ∧ (True) ∧ (True) ∧ True) ∧ (true = true) ∧ ((True) ∧ (True) ∧ True) ∧ ((ilt (isub n (ilen l)) (0 : Int)) = true → ((true = true) ∧ ((True) ∧ True) ∧ ∃ k : Int, ((k < 0 ∨ (0 ≤ k ∧ k ≤ n ∧ ilen l ≤ n ∧ ∀ i, 0 ≤ i → i < ilen l → ilen (getl l i) ≤ n)) ∧ ((((-1 : Int) : Int) = (k)) ∧ True)))) ∧ ((ilt (isub n (ilen l)) (0 : Int)) = false → ((true = true) ∧ ((True) ∧ True) ∧ ∃ (I1 : List GV → Prop) (μ1 : List GV → Nat), (((true = true) ∧ ((((0 : Int) : Int) = (0 : Int)) ∧ (((isub n (ilen l)) : Int) = (isub n (ilen l))) ∧ (((0 : Int) : Int) = (0 : Int)) ∧ (((isub n (ilen l)) : Int) = (isub n (ilen l))) ∧ (((ilt (isub n (ilen l)) (0 : Int)) : Bool) = (ilt (isub n (ilen l)) (0 : Int))) ∧ ((n : Int) = n) ∧ ((Cont.ptss l) = (Cont.ptss l)) ∧ (((ilen l) : Int) = (ilen l)) ∧ (((isub n (ilen l)) : Int) = (isub n (ilen l))) ∧ ((Cont.ptss l) = (Cont.ptss l)) ∧ True) ∧ (True)) ∧ (([GK.int, GK.int, GK.int] : List GK) = ([GK.int, GK.int, GK.int] : List GK)) ∧ I1 [GV.int (0 : Int), GV.int (isub n (ilen l)), GV.int (0 : Int)]) ∧ (∀ i1_0 : Int, ∀ i1_1 : Int, ∀ i1_2 : Int, I1 [GV.int i1_0, GV.int i1_1, GV.int i1_2] → ((true = true) ∧ ((True) ∧ (True) ∧ (True) ∧ (True) ∧ True) ∧ ((ilt i1_0 (ilen l)) = true → ((true = true) ∧ ((True) ∧ (True) ∧ (NLe 0 i1_0 ∧ NLt i1_0 (ilen l)) ∧ (True) ∧ (True) ∧ ((0 ≤ i1_1 ∧ i1_1 ≤ 1048576)) ∧ (True) ∧ True) ∧ (true = true) ∧ ((True) ∧ (True) ∧ True) ∧ ((ilt (szI (ilen (getl l i1_0)) i1_1) (0 : Int)) = true → ((true = true) ∧ ((True) ∧ True) ∧ ∃ k : Int, ((k < 0 ∨ (0 ≤ k ∧ k ≤ n ∧ ilen l ≤ n ∧ ∀ i, 0 ≤ i → i < ilen l → ilen (getl l i) ≤ n)) ∧ ((((-1 : Int) : Int) = (k)) ∧ True)))) ∧ ((ilt (szI (ilen (getl l i1_0)) i1_1) (0 : Int)) = false → ((true = true) ∧ ((True) ∧ (True) ∧ (True) ∧ True) ∧ ((true = true) ∧ (((i1_2 : Int) = i1_2) ∧ (((szI (ilen (getl l i1_0)) i1_1) : Int) = (szI (ilen (getl l i1_0)) i1_1)) ∧ (((iadd i1_0 (1 : Int)) : Int) = (iadd i1_0 (1 : Int))) ∧ (((isub n (ilen l)) : Int) = (isub n (ilen l))) ∧ (((ilt (isub n (ilen l)) (0 : Int)) : Bool) = (ilt (isub n (ilen l)) (0 : Int))) ∧ ((n : Int) = n) ∧ ((Cont.ptss l) = (Cont.ptss l)) ∧ (((ilen l) : Int) = (ilen l)) ∧ (((isub n (ilen l)) : Int) = (isub n (ilen l))) ∧ ((Cont.ptss l) = (Cont.ptss l)) ∧ True) ∧ (True)) ∧ ((([GK.int, GK.int, GK.int] : List GK) = ([GK.int, GK.int, GK.int] : List GK)) ∧ I1 [GV.int (iadd i1_0 (1 : Int)), GV.int (szI (ilen (getl l i1_0)) i1_1), GV.int i1_2] ∧ μ1 [GV.int (iadd i1_0 (1 : Int)), GV.int (szI (ilen (getl l i1_0)) i1_1), GV.int i1_2] < μ1 [GV.int i1_0, GV.int i1_1, GV.int i1_2]))))) ∧ ((ilt i1_0 (ilen l)) = false → ((true = true) ∧ ((True) ∧ (True) ∧ True) ∧ ∃ k : Int, ((k < 0 ∨ (0 ≤ k ∧ k ≤ n ∧ ilen l ≤ n ∧ ∀ i, 0 ≤ i → i < ilen l → ilen (getl l i) ≤ n)) ∧ (((i1_1 : Int) = (k)) ∧ True))))))))) = (fun sg => ev sig_laws_szPointSS xs_laws_szPointSS Try.f23.ntmps (fun b => if b == 0 then [.v 5, .v 1, .v 4] else []) (codeOf Try.f23) 0 (initS [.s (.view (.ptss l)), .s (.int n)]) (retY Try.f23.results.toList sg.kinds sg.post sg.ret)) (s_laws_szPointSS l n) := by kernel_rfl
set_option maxHeartbeats 400000 in
theorem F_laws_szPointSS : FunY 23 g_laws_szPointSS := by
  refine fun_Y (by kernel_rfl) Try.func23 rfl (by kernel_rfl) sig_laws_szPointSS_ok xs_laws_szPointSS_ok ?_
  intro avs sg h hn hl
  unfold g_laws_szPointSS at h
  split at h
  · rename_i l n
    injection h with h; subst h
    refine ⟨by kernel_rfl, fun b => if b == 0 then [.v 5, .v 1, .v 4] else [], Eq.mp (V_laws_szPointSS l n) ?_⟩
    simp only [true_and, and_true, implies_true, and_self, forall_const, true_implies, lenA, lenL, SV.lenOK, Cont.lenOK, s_laws_szPointSS] at hn hl ⊢
    have h0 := ilen_0 l
    simp only [ilt_t, ilt_f, ile_t, ile_f, ieq_t, ieq_f, bnot_e, band_e, bite_and, bite_or, NLt_e, NLe_e, NNe_e, NIs_e, imax_e, imin_e, irem_e, Bool.not_eq_true', Bool.not_eq_false', Bool.and_eq_true, Bool.or_eq_true, Bool.or_eq_false_iff, Bool.and_eq_false_iff, Cont.pts.injEq, Cont.ints.injEq, Cont.bools.injEq, Cont.ptss.injEq, Cont.intss.injEq, Cont.boolss.injEq, true_and, and_true, implies_true]
    rw [isub_e (by omega) (by omega)]
    refine ⟨fun h => ⟨-1, .inl (by omega), rfl⟩, fun h => ?_⟩
    refine ⟨fun | .int k :: .int s :: _ => 0 ≤ k ∧ k ≤ ilen l ∧ 0 ≤ s ∧ s ≤ n ∧ (∀ i, 0 ≤ i → i < k → ilen (getl l i) ≤ n) | _ => False, fun | .int k :: _ => (ilen l - k).toNat | _ => 0, ?_, ?_⟩
    · exact ⟨Int.le_refl 0, h0, by omega, by omega, fun j h0 h1 => absurd h1 (by omega)⟩
    · rintro k s _ ⟨hk0, hk1, hs0, hs1, hk⟩
      simp only [ilt_t, ilt_f, ile_t, ile_f, ieq_t, ieq_f, bnot_e, band_e, bite_and, bite_or, NLt_e, NLe_e, NNe_e, NIs_e, imax_e, imin_e, irem_e, Bool.not_eq_true', Bool.not_eq_false', Bool.and_eq_true, Bool.or_eq_true, Bool.or_eq_false_iff, Bool.and_eq_false_iff, Cont.pts.injEq, Cont.ints.injEq, Cont.bools.injEq, Cont.ptss.injEq, Cont.intss.injEq, Cont.boolss.injEq, true_and, and_true, implies_true]
      refine ⟨fun hkn => ⟨⟨⟨hk0, hkn⟩, by omega, by omega⟩, fun hx => ⟨-1, .inl (by omega), rfl⟩, fun hx => ?_⟩, fun hkn => ?_⟩
      · obtain ⟨q1, q2⟩ := szI_e hx
        have q3 := ilen_0 (getl l k)
        rw [iadd_1 hk0 hkn hl.1, q2]
        exact ⟨⟨by omega, by omega, by omega, by omega, upTo hk (by omega)⟩, by omega⟩
      · exact ⟨s, .inr ⟨hs0, hs1, by omega, fun i i0 i1 => hk i i0 (by omega)⟩, rfl⟩
  · cases h
def g_laws_toPoint : List AV → Option Sg
  | [.agg [.int p1, .int p2]] => some ⟨True, [.agg [.int (p1), .int (p2)]]⟩
  | _ => none
def sig_laws_toPoint : FuncId → List AV → Option Sg := sigL []
def xs_laws_toPoint : XS := ⟨xsigL [], ysigL []⟩
theorem sig_laws_toPoint_ok : SigOK sig_laws_toPoint := sigL_nil
theorem xs_laws_toPoint_ok : XSigOK xs_laws_toPoint := ⟨xsigL_nil, ysigL_nil⟩
theorem V_laws_toPoint (p1 : Int) (p2 : Int) : ((true = true) ∧ ((True) ∧ (True) ∧ True) ∧ (true = true) ∧ ((True) ∧ True) ∧ (true = true) ∧ ((True) ∧ (True) ∧ (True) ∧ True) ∧ (True) ∧ (true = true) ∧ ((True) ∧ (True) ∧ (True) ∧ True) ∧ (True) ∧ (true = true) ∧ ((True) ∧ True) ∧ (True) ∧ (((p1 : Int) = (p1)) ∧ ((p2 : Int) = (p2)) ∧ True) ∧ True) = ev sig_laws_toPoint xs_laws_toPoint Try.f21.ntmps (fun b => []) (codeOf Try.f21) 0 (initS [.agg [.int p1, .int p2]]) (retK Try.f21.results.toList [.agg [.int (p1), .int (p2)]]) := by kernel_rfl
set_option maxHeartbeats 400000 in
theorem F_laws_toPoint : FunOK 21 g_laws_toPoint := by
  refine fun_F (by kernel_rfl) Try.func21 rfl (by kernel_rfl) sig_laws_toPoint_ok xs_laws_toPoint_ok ?_
  intro avs sg h hn hl
  unfold g_laws_toPoint at h
  split at h
  · rename_i p1 p2
    injection h with h; subst h
    refine ⟨by kernel_rfl, fun b => [], Eq.mp (V_laws_toPoint p1 p2) ?_⟩
    simp only [true_and, and_true, implies_true, and_self, forall_const, true_implies, lenA, lenL, SV.lenOK, Cont.lenOK] at hn hl ⊢
  · cases h
def g_laws_toPointS : List AV → Option Sg
  | [.s (.view (.pts l))] => some ⟨ilen l ≤ 100000000, [.nrow 33 (.pts (l))]⟩
  | _ => none
def sig_laws_toPointS : FuncId → List AV → Option Sg := sigL [(21, g_laws_toPoint)]
def xs_laws_toPointS : XS := ⟨xsigL [], ysigL []⟩
theorem sig_laws_toPointS_ok : SigOK sig_laws_toPointS := sigL_cons F_laws_toPoint sigL_nil
theorem xs_laws_toPointS_ok : XSigOK xs_laws_toPointS := ⟨xsigL_nil, ysigL_nil⟩
theorem V_laws_toPointS (l : List Pt) : ((true = true) ∧ ((True) ∧ True) ∧ (true = true) ∧ ((True) ∧ (True) ∧ (NLe 0 (ilen l) ∧ NLe (ilen l) 100000000 ∧ NIs (ieq (ilen l) (ilen l)) true) ∧ (True) ∧ True) ∧ (true = true) ∧ ((True) ∧ True) ∧ ∃ (I1 : List GV → Prop) (μ1 : List GV → Nat), (((true = true) ∧ ((((0 : Int) : Int) = (0 : Int)) ∧ ((Cont.pts l) = (Cont.pts l)) ∧ (((ilen l) : Int) = (ilen l)) ∧ (true = true) ∧ (true = true) ∧ (true = true) ∧ ((Cont.pts l) = (Cont.pts l)) ∧ True) ∧ (((true = true) ∧ ((Cont.pts (irep (ilen l) (0, 0))) = (Cont.pts (irep (ilen l) (0, 0))))) ∧ ((true = true) ∧ ((Cont.pts []) = (Cont.pts []))) ∧ True)) ∧ (([GK.int, GK.pts] : List GK) = ([GK.int, GK.pts] : List GK)) ∧ I1 [GV.int (0 : Int), GV.pts (irep (ilen l) (0, 0))]) ∧ (∀ i1_0 : Int, ∀ l1_1 : List Pt, I1 [GV.int i1_0, GV.pts l1_1] → ((true = true) ∧ ((True) ∧ (True) ∧ (True) ∧ (True) ∧ True) ∧ ((ilt i1_0 (ilen l)) = true → ((true = true) ∧ ((True) ∧ (True) ∧ (True) ∧ (True) ∧ (NLe 0 i1_0 ∧ NLt i1_0 (ilen l)) ∧ (True) ∧ ((True)) ∧ (NLe 0 i1_0 ∧ NLt i1_0 (ilen l1_1)) ∧ True) ∧ (NLt i1_0 (ilen l1_1)) ∧ (true = true) ∧ ((True) ∧ (True) ∧ (True) ∧ True) ∧ ((true = true) ∧ ((((iadd i1_0 (1 : Int)) : Int) = (iadd i1_0 (1 : Int))) ∧ ((Cont.pts l) = (Cont.pts l)) ∧ (((ilen l) : Int) = (ilen l)) ∧ (true = true) ∧ (true = true) ∧ (true = true) ∧ ((Cont.pts l) = (Cont.pts l)) ∧ True) ∧ (((true = true) ∧ ((Cont.pts (setp l1_1 i1_0 ((getx l i1_0)) ((gety l i1_0)))) = (Cont.pts (setp l1_1 i1_0 ((getx l i1_0)) ((gety l i1_0)))))) ∧ ((true = true) ∧ ((Cont.pts []) = (Cont.pts []))) ∧ True)) ∧ ((([GK.int, GK.pts] : List GK) = ([GK.int, GK.pts] : List GK)) ∧ I1 [GV.int (iadd i1_0 (1 : Int)), GV.pts (setp l1_1 i1_0 ((getx l i1_0)) ((gety l i1_0)))] ∧ μ1 [GV.int (iadd i1_0 (1 : Int)), GV.pts (setp l1_1 i1_0 ((getx l i1_0)) ((gety l i1_0)))] < μ1 [GV.int i1_0, GV.pts l1_1]))) ∧ ((ilt i1_0 (ilen l)) = false → ((true = true) ∧ ((True) ∧ (True) ∧ True) ∧ ((true = true) ∧ ((Cont.pts l1_1) = (Cont.pts (l)))) ∧ True))))) = ev sig_laws_toPointS xs_laws_toPointS Try.f15.ntmps (fun b => if b == 0 then [.v 4, .b 3] else []) (codeOf Try.f15) 0 (initS [.s (.view (.pts l))]) (retK Try.f15.results.toList [.nrow 33 (.pts (l))]) := by kernel_rfl
set_option maxHeartbeats 400000 in
theorem F_laws_toPointS : FunOK 15 g_laws_toPointS := by
  refine fun_F (by kernel_rfl) Try.func15 rfl (by kernel_rfl) sig_laws_toPointS_ok xs_laws_toPointS_ok ?_
  intro avs sg h hn hl
  unfold g_laws_toPointS at h
  split at h
  · rename_i l
    injection h with h; subst h
    refine ⟨by kernel_rfl, fun b => if b == 0 then [.v 4, .b 3] else [], Eq.mp (V_laws_toPointS l) ?_⟩
    simp only [true_and, and_true, implies_true, and_self, forall_const, true_implies, lenA, lenL, SV.lenOK, Cont.lenOK] at hn hl ⊢
    simp only [ilt_t, ilt_f, ile_t, ile_f, ieq_t, ieq_f, bnot_e, band_e, bite_and, bite_or, NLt_e, NLe_e, NNe_e, NIs_e, imax_e, imin_e, irem_e, Bool.not_eq_true', Bool.not_eq_false', Bool.and_eq_true, Bool.or_eq_true, Bool.or_eq_false_iff, Bool.and_eq_false_iff, Cont.pts.injEq, Cont.ints.injEq, Cont.bools.injEq, Cont.ptss.injEq, Cont.intss.injEq, Cont.boolss.injEq, true_and, and_true, implies_true]
    have h0 := ilen_0 l
    refine ⟨⟨h0, hn⟩, ?_⟩
    refine ⟨fun | [.int k, .pts m] => 0 ≤ k ∧ k ≤ ilen l ∧ ilen m = ilen l ∧ ∀ j, 0 ≤ j → j < k → getx m j = getx l j ∧ gety m j = gety l j | _ => False, fun | [.int k, .pts m] => (ilen l - k).toNat | _ => 0, ?_, ?_⟩
    · exact ⟨Int.le_refl 0, h0, ilen_rep _ h0, fun j h0 h1 => absurd h1 (by omega)⟩
    · rintro k m ⟨hk0, hk1, hm, hk⟩
      refine ⟨fun hc => ?_, fun hc => ?_⟩
      · rw [iadd_e (by omega) (by omega)]
        refine ⟨⟨⟨hk0, hc⟩, hk0, by omega⟩, by omega, ⟨by omega, by omega, by rw [ilen_setp]; exact hm, fun j j0 j1 => ?_⟩, by dsimp only; omega⟩
        rw [getx_setp hk0 (by omega) j0, gety_setp hk0 (by omega) j0]
        by_cases hj : j = k
        · simp only [hj, if_pos, and_self]
        · simp only [if_neg hj]; exact hk j j0 (by omega)
      · rw [pts_ext (l := m) (m := l) hm fun j j0 j1 => hk j j0 (by omega)]
  · cases h
def g_laws_toPointSS : List AV → Option Sg
  | [.s (.view (.ptss l))] => some ⟨ilen l ≤ 100000000 ∧ ∀ i, 0 ≤ i → i < ilen l → ilen (getl l i) ≤ 100000000, [.nrow 25 (.ptss (l))]⟩
  | _ => none
def sig_laws_toPointSS : FuncId → List AV → Option Sg := sigL [(15, g_laws_toPointS)]
def xs_laws_toPointSS : XS := ⟨xsigL [], ysigL []⟩
theorem sig_laws_toPointSS_ok : SigOK sig_laws_toPointSS := sigL_cons F_laws_toPointS sigL_nil
theorem xs_laws_toPointSS_ok : XSigOK xs_laws_toPointSS := ⟨xsigL_nil, ysigL_nil⟩
theorem V_laws_toPointSS (l : List (List Pt)) : ((true = true) ∧ ((True) ∧ True) ∧ (true = true) ∧ ((True) ∧ (True) ∧ (NLe 0 (ilen l) ∧ NLe (ilen l) 100000000 ∧ NIs (ieq (ilen l) (ilen l)) true) ∧ (True) ∧ True) ∧ (true = true) ∧ ((True) ∧ True) ∧ ∃ (I1 : List GV → Prop) (μ1 : List GV → Nat), (((true = true) ∧ ((((0 : Int) : Int) = (0 : Int)) ∧ ((Cont.ptss l) = (Cont.ptss l)) ∧ (((ilen l) : Int) = (ilen l)) ∧ (true = true) ∧ (true = true) ∧ (true = true) ∧ ((Cont.ptss l) = (Cont.ptss l)) ∧ True) ∧ (((true = true) ∧ ((Cont.ptss (irep (ilen l) [])) = (Cont.ptss (irep (ilen l) [])))) ∧ ((true = true) ∧ ((Cont.ptss []) = (Cont.ptss []))) ∧ True)) ∧ (([GK.int, GK.ptss] : List GK) = ([GK.int, GK.ptss] : List GK)) ∧ I1 [GV.int (0 : Int), GV.ptss (irep (ilen l) [])]) ∧ (∀ i1_0 : Int, ∀ l1_1 : List (List Pt), I1 [GV.int i1_0, GV.ptss l1_1] → ((true = true) ∧ ((True) ∧ (True) ∧ (True) ∧ (True) ∧ True) ∧ ((ilt i1_0 (ilen l)) = true → ((true = true) ∧ ((True) ∧ (True) ∧ (True) ∧ (True) ∧ (NLe 0 i1_0 ∧ NLt i1_0 (ilen l)) ∧ (True) ∧ ((ilen (getl l i1_0) ≤ 100000000)) ∧ (NLe 0 i1_0 ∧ NLt i1_0 (ilen l1_1)) ∧ True) ∧ (NLt i1_0 (ilen l1_1)) ∧ (true = true) ∧ ((True) ∧ (True) ∧ (True) ∧ True) ∧ ((true = true) ∧ ((((iadd i1_0 (1 : Int)) : Int) = (iadd i1_0 (1 : Int))) ∧ ((Cont.ptss l) = (Cont.ptss l)) ∧ (((ilen l) : Int) = (ilen l)) ∧ (true = true) ∧ (true = true) ∧ (true = true) ∧ ((Cont.ptss l) = (Cont.ptss l)) ∧ True) ∧ (((true = true) ∧ ((Cont.ptss (setl l1_1 i1_0 ((getl l i1_0)))) = (Cont.ptss (setl l1_1 i1_0 ((getl l i1_0)))))) ∧ ((true = true) ∧ ((Cont.ptss []) = (Cont.ptss []))) ∧ True)) ∧ ((([GK.int, GK.ptss] : List GK) = ([GK.int, GK.ptss] : List GK)) ∧ I1 [GV.int (iadd i1_0 (1 : Int)), GV.ptss (setl l1_1 i1_0 ((getl l i1_0)))] ∧ μ1 [GV.int (iadd i1_0 (1 : Int)), GV.ptss (setl l1_1 i1_0 ((getl l i1_0)))] < μ1 [GV.int i1_0, GV.ptss l1_1]))) ∧ ((ilt i1_0 (ilen l)) = false → ((true = true) ∧ ((True) ∧ (True) ∧ True) ∧ ((true = true) ∧ ((Cont.ptss l1_1) = (Cont.ptss (l)))) ∧ True))))) = ev sig_laws_toPointSS xs_laws_toPointSS Try.f25.ntmps (fun b => if b == 0 then [.v 4, .b 3] else []) (codeOf Try.f25) 0 (initS [.s (.view (.ptss l))]) (retK Try.f25.results.toList [.nrow 25 (.ptss (l))]) := by kernel_rfl
set_option maxHeartbeats 400000 in
theorem F_laws_toPointSS : FunOK 25 g_laws_toPointSS := by
  refine fun_F (by kernel_rfl) Try.func25 rfl (by kernel_rfl) sig_laws_toPointSS_ok xs_laws_toPointSS_ok ?_
  intro avs sg h hn hl
  unfold g_laws_toPointSS at h
  split at h
  · rename_i l
    injection h with h; subst h
    refine ⟨by kernel_rfl, fun b => if b == 0 then [.v 4, .b 3] else [], Eq.mp (V_laws_toPointSS l) ?_⟩
    simp only [true_and, and_true, implies_true, and_self, forall_const, true_implies, lenA, lenL, SV.lenOK, Cont.lenOK] at hn hl ⊢
    have h0 := ilen_0 l
    simp only [ilt_t, ilt_f, ile_t, ile_f, ieq_t, ieq_f, bnot_e, band_e, bite_and, bite_or, NLt_e, NLe_e, NNe_e, NIs_e, imax_e, imin_e, irem_e, Bool.not_eq_true', Bool.not_eq_false', Bool.and_eq_true, Bool.or_eq_true, Bool.or_eq_false_iff, Bool.and_eq_false_iff, Cont.pts.injEq, Cont.ints.injEq, Cont.bools.injEq, Cont.ptss.injEq, Cont.intss.injEq, Cont.boolss.injEq, true_and, and_true, implies_true]
    refine ⟨⟨h0, hn.1⟩, ?_⟩
    refine ⟨fun | [.int k, .ptss m] => 0 ≤ k ∧ k ≤ ilen l ∧ ilen m = ilen l ∧ (∀ i, 0 ≤ i → i < k → getl m i = getl l i) | _ => False, fun | .int k :: _ => (ilen l - k).toNat | _ => 0, ?_, ?_⟩
    · exact ⟨Int.le_refl 0, h0, ilen_rep _ h0, fun j h0 h1 => absurd h1 (by omega)⟩
    · rintro k m ⟨hk0, hk1, hm, hk⟩
      simp only [ilt_t, ilt_f, ile_t, ile_f, ieq_t, ieq_f, bnot_e, band_e, bite_and, bite_or, NLt_e, NLe_e, NNe_e, NIs_e, imax_e, imin_e, irem_e, Bool.not_eq_true', Bool.not_eq_false', Bool.and_eq_true, Bool.or_eq_true, Bool.or_eq_false_iff, Bool.and_eq_false_iff, Cont.pts.injEq, Cont.ints.injEq, Cont.bools.injEq, Cont.ptss.injEq, Cont.intss.injEq, Cont.boolss.injEq, true_and, and_true, implies_true]
      refine ⟨fun hkn => ?_, fun hkn => ?_⟩
      · rw [iadd_1 hk0 hkn hl.1]
        refine ⟨⟨⟨hk0, hkn⟩, hn.2 k hk0 hkn, hk0, by omega⟩, by omega, ⟨by omega, by omega, by rw [ilen_setl]; exact hm, fun j j0 j1 => ?_⟩, by omega⟩
        rw [getl_setl hk0 (by omega) j0]
        by_cases hj : j = k
        · simp [hj]
        · rw [if_neg hj]; exact hk j j0 (by omega)
      · exact lists_ext hm fun j j0 j1 => hk j j0 (by omega)
  · cases h
theorem inB_eq (n lo hi : Int) : inB n lo hi = (ile lo n && ile n hi) := by
  unfold inB ile
  by_cases h1 : lo ≤ n <;> by_cases h2 : n ≤ hi <;> simp [h1, h2]
def g_spec_l1In : List AV → Option Sg
  | [.s (.int n), .s (.int lo), .s (.int hi)] => some ⟨True, [.s (.bool (inB n lo hi))]⟩
  | _ => none
def sig_spec_l1In : FuncId → List AV → Option Sg := sigL []
def xs_spec_l1In : XS := ⟨xsigL [], ysigL []⟩
theorem sig_spec_l1In_ok : SigOK sig_spec_l1In := sigL_nil
theorem xs_spec_l1In_ok : XSigOK xs_spec_l1In := ⟨xsigL_nil, ysigL_nil⟩
theorem V_spec_l1In (n : Int) (lo : Int) (hi : Int) : ((true = true) ∧ ((True) ∧ True) ∧ (true = true) ∧ ((True) ∧ (True) ∧ (True) ∧ (True) ∧ (NIs (ile lo n) true → True) ∧ (NIs (ile lo n) true → True) ∧ (NIs (ile lo n) true → True) ∧ (True) ∧ (True) ∧ True) ∧ (((bite (ile lo n) (ile n hi) false) : Bool) = (inB n lo hi)) ∧ True) = ev sig_spec_l1In xs_spec_l1In Try.f44.ntmps (fun b => []) (codeOf Try.f44) 0 (initS [.s (.int n), .s (.int lo), .s (.int hi)]) (retK Try.f44.results.toList [.s (.bool (inB n lo hi))]) := by kernel_rfl
set_option maxHeartbeats 400000 in
theorem F_spec_l1In : FunOK 44 g_spec_l1In := by
  refine fun_F (by kernel_rfl) Try.func44 rfl (by kernel_rfl) sig_spec_l1In_ok xs_spec_l1In_ok ?_
  intro avs sg h hn hl
  unfold g_spec_l1In at h
  split at h
  · rename_i n lo hi
    injection h with h; subst h
    refine ⟨by kernel_rfl, fun b => [], Eq.mp (V_spec_l1In n lo hi) ?_⟩
    simp only [true_and, and_true, implies_true, and_self, forall_const, true_implies, lenA, lenL, SV.lenOK, Cont.lenOK] at hn hl ⊢
    simp only [bite_and, inB_eq]
  · cases h
def g_spec_PointValid : List AV → Option Sg
  | [.agg [.int p1, .int p2]] => some ⟨True, [.s (.bool (vB p1 p2))]⟩
  | _ => none
def sig_spec_PointValid : FuncId → List AV → Option Sg := sigL [(44, g_spec_l1In)]
def xs_spec_PointValid : XS := ⟨xsigL [], ysigL []⟩
theorem sig_spec_PointValid_ok : SigOK sig_spec_PointValid := sigL_cons F_spec_l1In sigL_nil
theorem xs_spec_PointValid_ok : XSigOK xs_spec_PointValid := ⟨xsigL_nil, ysigL_nil⟩
theorem V_spec_PointValid (p1 : Int) (p2 : Int) : ((true = true) ∧ ((True) ∧ (True) ∧ True) ∧ (true = true) ∧ ((True) ∧ (True) ∧ ((True)) ∧ (True) ∧ (NIs (inB p1 (-10000 : Int) (10000 : Int)) true → True) ∧ (NIs (inB p1 (-10000 : Int) (10000 : Int)) true → True) ∧ (NIs (inB p1 (-10000 : Int) (10000 : Int)) true → (True)) ∧ (True) ∧ (True) ∧ True) ∧ (((bite (inB p1 (-10000 : Int) (10000 : Int)) (inB p2 (-10000 : Int) (10000 : Int)) false) : Bool) = (vB p1 p2)) ∧ True) = ev sig_spec_PointValid xs_spec_PointValid Try.f50.ntmps (fun b => []) (codeOf Try.f50) 0 (initS [.agg [.int p1, .int p2]]) (retK Try.f50.results.toList [.s (.bool (vB p1 p2))]) := by kernel_rfl
set_option maxHeartbeats 400000 in
theorem F_spec_PointValid : FunOK 50 g_spec_PointValid := by
  refine fun_F (by kernel_rfl) Try.func50 rfl (by kernel_rfl) sig_spec_PointValid_ok xs_spec_PointValid_ok ?_
  intro avs sg h hn hl
  unfold g_spec_PointValid at h
  split at h
  · rename_i p1 p2
    injection h with h; subst h
    refine ⟨by kernel_rfl, fun b => [], Eq.mp (V_spec_PointValid p1 p2) ?_⟩
    simp only [true_and, and_true, implies_true, and_self, forall_const, true_implies, lenA, lenL, SV.lenOK, Cont.lenOK] at hn hl ⊢
    simp only [bite_and, vB]
  · cases h
def g_spec_l2Cross : List AV → Option Sg
  | [.agg [.int a1, .int a2], .agg [.int b1, .int b2], .agg [.int c1, .int c2]] => some ⟨True, [.s (.int (crW a1 a2 b1 b2 c1 c2))]⟩
  | _ => none
def sig_spec_l2Cross : FuncId → List AV → Option Sg := sigL []
def xs_spec_l2Cross : XS := ⟨xsigL [], ysigL []⟩
theorem sig_spec_l2Cross_ok : SigOK sig_spec_l2Cross := sigL_nil
theorem xs_spec_l2Cross_ok : XSigOK xs_spec_l2Cross := ⟨xsigL_nil, ysigL_nil⟩
theorem V_spec_l2Cross (a1 : Int) (a2 : Int) (b1 : Int) (b2 : Int) (c1 : Int) (c2 : Int) : ((true = true) ∧ ((True) ∧ (True) ∧ (True) ∧ (True) ∧ True) ∧ (true = true) ∧ ((True) ∧ (True) ∧ (True) ∧ (True) ∧ (True) ∧ (True) ∧ (True) ∧ (True) ∧ (True) ∧ (True) ∧ (True) ∧ (True) ∧ (True) ∧ (True) ∧ (True) ∧ (True) ∧ (True) ∧ (True) ∧ (True) ∧ (True) ∧ (True) ∧ (True) ∧ (True) ∧ (True) ∧ True) ∧ (((isub (imul (isub b1 a1) (isub c2 a2)) (imul (isub b2 a2) (isub c1 a1))) : Int) = (crW a1 a2 b1 b2 c1 c2)) ∧ True) = ev sig_spec_l2Cross xs_spec_l2Cross Try.f49.ntmps (fun b => []) (codeOf Try.f49) 0 (initS [.agg [.int a1, .int a2], .agg [.int b1, .int b2], .agg [.int c1, .int c2]]) (retK Try.f49.results.toList [.s (.int (crW a1 a2 b1 b2 c1 c2))]) := by kernel_rfl
set_option maxHeartbeats 400000 in
theorem F_spec_l2Cross : FunOK 49 g_spec_l2Cross := by
  refine fun_F (by kernel_rfl) Try.func49 rfl (by kernel_rfl) sig_spec_l2Cross_ok xs_spec_l2Cross_ok ?_
  intro avs sg h hn hl
  unfold g_spec_l2Cross at h
  split at h
  · rename_i a1 a2 b1 b2 c1 c2
    injection h with h; subst h
    refine ⟨by kernel_rfl, fun b => [], Eq.mp (V_spec_l2Cross a1 a2 b1 b2 c1 c2) ?_⟩
    simp only [true_and, and_true, implies_true, and_self, forall_const, true_implies, lenA, lenL, SV.lenOK, Cont.lenOK] at hn hl ⊢
    simp only [crW]
  · cases h
def g_spec_l2Sign : List AV → Option Sg
  | [.s (.int n)] => some ⟨True, [.s (.int (sgn n))]⟩
  | _ => none
def sig_spec_l2Sign : FuncId → List AV → Option Sg := sigL []
def xs_spec_l2Sign : XS := ⟨xsigL [], ysigL []⟩
theorem sig_spec_l2Sign_ok : SigOK sig_spec_l2Sign := sigL_nil
theorem xs_spec_l2Sign_ok : XSigOK xs_spec_l2Sign := ⟨xsigL_nil, ysigL_nil⟩
theorem V_spec_l2Sign (n : Int) : ((true = true) ∧ ((True) ∧ True) ∧ (true = true) ∧ ((True) ∧ (True) ∧ (True) ∧ True) ∧ ((ilt (0 : Int) n) = true → ((true = true) ∧ ((True) ∧ True) ∧ (((1 : Int) : Int) = (sgn n)) ∧ True)) ∧ ((ilt (0 : Int) n) = false → ((true = true) ∧ ((True) ∧ (True) ∧ (True) ∧ True) ∧ ((ilt n (0 : Int)) = true → ((true = true) ∧ ((True) ∧ True) ∧ (((-1 : Int) : Int) = (sgn n)) ∧ True)) ∧ ((ilt n (0 : Int)) = false → ((true = true) ∧ ((True) ∧ True) ∧ (((0 : Int) : Int) = (sgn n)) ∧ True))))) = ev sig_spec_l2Sign xs_spec_l2Sign Try.f77.ntmps (fun b => []) (codeOf Try.f77) 0 (initS [.s (.int n)]) (retK Try.f77.results.toList [.s (.int (sgn n))]) := by kernel_rfl
set_option maxHeartbeats 400000 in
theorem F_spec_l2Sign : FunOK 77 g_spec_l2Sign := by
  refine fun_F (by kernel_rfl) Try.func77 rfl (by kernel_rfl) sig_spec_l2Sign_ok xs_spec_l2Sign_ok ?_
  intro avs sg h hn hl
  unfold g_spec_l2Sign at h
  split at h
  · rename_i n
    injection h with h; subst h
    refine ⟨by kernel_rfl, fun b => [], Eq.mp (V_spec_l2Sign n) ?_⟩
    simp only [true_and, and_true, implies_true, and_self, forall_const, true_implies, lenA, lenL, SV.lenOK, Cont.lenOK] at hn hl ⊢
    simp only [ilt_t, ilt_f, ile_t, ile_f, ieq_t, ieq_f, bnot_e, band_e, bite_and, bite_or, NLt_e, NLe_e, NNe_e, NIs_e, imax_e, imin_e, irem_e, Bool.not_eq_true', Bool.not_eq_false', Bool.and_eq_true, Bool.or_eq_true, Bool.or_eq_false_iff, Bool.and_eq_false_iff, Cont.pts.injEq, Cont.ints.injEq, Cont.bools.injEq, Cont.ptss.injEq, Cont.intss.injEq, Cont.boolss.injEq, true_and, and_true, implies_true]
    unfold sgn
    refine ⟨fun h => by rw [if_pos h], fun h => ⟨fun h2 => by rw [if_neg (by omega), if_pos h2], fun h2 => by rw [if_neg (by omega), if_neg (by omega)]⟩⟩
  · cases h
def orB (a1 a2 b1 b2 c1 c2 : Int) : Int := if vB a1 a2 && vB b1 b2 && vB c1 c2 then sgn (crW a1 a2 b1 b2 c1 c2) else 0
def orI (l : List Pt) (i j : Int) : Int := orB (getx l i) (gety l i) (getx l (nx l i)) (gety l (nx l i)) (getx l j) (gety l j)
def convF (l : List Pt) (i j : Int) : Bool := decide (j = i ∨ j = nx l i ∨ orI l i j = 1)
def convS (l : List Pt) : Bool := inB (ilen l) 3 8 && allN (ilen l) fun i => allN (ilen l) fun j => convF l i j
theorem convS_eq (l : List Pt) : convS l = convB l := by
  unfold convS convB
  cases h1 : inB (ilen l) 3 8 with
  | false => rfl
  | true =>
    have hl := inB_true h1
    simp only [Bool.true_and]
    cases h2 : allB l with
    | true =>
      simp only [Bool.true_and]
      refine allN_congr fun i i0 i1 => allN_congr fun j j0 j1 => ?_
      rw [allB_N] at h2
      have hv := allN_iff.1 h2
      obtain ⟨n0, n1, _⟩ := nx_in i0 i1
      have e : orI l i j = sgn (cr l i (nx l i) j) := by unfold orI orB cr; rw [hv i i0 i1, hv _ n0 n1, hv j j0 j1]; rfl
      unfold convF convE
      rw [e]
      have : (sgn (cr l i (nx l i) j) = 1) ↔ 0 < cr l i (nx l i) j := by unfold sgn; split <;> (try split) <;> omega
      simp only [this]
    | false =>
      simp only [Bool.false_and]
      rw [allB_N] at h2
      obtain ⟨j, j0, j1, hj⟩ : ∃ j, 0 ≤ j ∧ j < ilen l ∧ vB (getx l j) (gety l j) = false := by
        apply Classical.byContradiction
        intro hn
        rw [allN_mk fun j j0 j1 => by cases e : vB (getx l j) (gety l j) with | true => rfl | false => exact absurd ⟨j, j0, j1, e⟩ hn] at h2
        cases h2
      obtain ⟨n0, n1, n2⟩ := nx_in j0 j1
      obtain ⟨m0, m1, m2⟩ := nx_in n0 n1
      refine allN_no (nx l j) n0 n1 (allN_no j j0 j1 ?_)
      have e : orI l (nx l j) j = 0 := by unfold orI orB; rw [hj]; simp
      unfold convF
      rw [e]
      simp only [decide_eq_false_iff_not]
      omega
def g_spec_Orientation : List AV → Option Sg
  | [.agg [.int a1, .int a2], .agg [.int b1, .int b2], .agg [.int c1, .int c2]] => some ⟨True, [.s (.int (orB a1 a2 b1 b2 c1 c2))]⟩
  | _ => none
def sig_spec_Orientation : FuncId → List AV → Option Sg := sigL [(50, g_spec_PointValid), (49, g_spec_l2Cross), (77, g_spec_l2Sign)]
def xs_spec_Orientation : XS := ⟨xsigL [], ysigL []⟩
theorem sig_spec_Orientation_ok : SigOK sig_spec_Orientation := sigL_cons F_spec_PointValid (sigL_cons F_spec_l2Cross (sigL_cons F_spec_l2Sign sigL_nil))
theorem xs_spec_Orientation_ok : XSigOK xs_spec_Orientation := ⟨xsigL_nil, ysigL_nil⟩
theorem V_spec_Orientation (a1 : Int) (a2 : Int) (b1 : Int) (b2 : Int) (c1 : Int) (c2 : Int) : ((true = true) ∧ ((True) ∧ (True) ∧ (True) ∧ (True) ∧ True) ∧ (true = true) ∧ ((True) ∧ ((True)) ∧ (True) ∧ (True) ∧ (NIs (bnot (vB a1 a2)) false → True) ∧ (NIs (bnot (vB a1 a2)) false → (True)) ∧ (NIs (bnot (vB a1 a2)) false → True) ∧ (True) ∧ (True) ∧ (NIs (bite (bnot (vB a1 a2)) true (bnot (vB b1 b2))) false → True) ∧ (NIs (bite (bnot (vB a1 a2)) true (bnot (vB b1 b2))) false → (True)) ∧ (NIs (bite (bnot (vB a1 a2)) true (bnot (vB b1 b2))) false → True) ∧ (True) ∧ True) ∧ ((bite (bite (bnot (vB a1 a2)) true (bnot (vB b1 b2))) true (bnot (vB c1 c2))) = true → ((true = true) ∧ ((True) ∧ True) ∧ (((0 : Int) : Int) = (orB a1 a2 b1 b2 c1 c2)) ∧ True)) ∧ ((bite (bite (bnot (vB a1 a2)) true (bnot (vB b1 b2))) true (bnot (vB c1 c2))) = false → ((true = true) ∧ ((True) ∧ (True) ∧ (True) ∧ ((True)) ∧ ((True)) ∧ (True) ∧ True) ∧ (((sgn (crW a1 a2 b1 b2 c1 c2)) : Int) = (orB a1 a2 b1 b2 c1 c2)) ∧ True))) = ev sig_spec_Orientation xs_spec_Orientation Try.f42.ntmps (fun b => []) (codeOf Try.f42) 0 (initS [.agg [.int a1, .int a2], .agg [.int b1, .int b2], .agg [.int c1, .int c2]]) (retK Try.f42.results.toList [.s (.int (orB a1 a2 b1 b2 c1 c2))]) := by kernel_rfl
set_option maxHeartbeats 400000 in
theorem F_spec_Orientation : FunOK 42 g_spec_Orientation := by
  refine fun_F (by kernel_rfl) Try.func42 rfl (by kernel_rfl) sig_spec_Orientation_ok xs_spec_Orientation_ok ?_
  intro avs sg h hn hl
  unfold g_spec_Orientation at h
  split at h
  · rename_i a1 a2 b1 b2 c1 c2
    injection h with h; subst h
    refine ⟨by kernel_rfl, fun b => [], Eq.mp (V_spec_Orientation a1 a2 b1 b2 c1 c2) ?_⟩
    simp only [true_and, and_true, implies_true, and_self, forall_const, true_implies, lenA, lenL, SV.lenOK, Cont.lenOK] at hn hl ⊢
    simp only [ilt_t, ilt_f, ile_t, ile_f, ieq_t, ieq_f, bnot_e, band_e, bite_and, bite_or, NLt_e, NLe_e, NNe_e, NIs_e, imax_e, imin_e, irem_e, Bool.not_eq_true', Bool.not_eq_false', Bool.and_eq_true, Bool.or_eq_true, Bool.or_eq_false_iff, Bool.and_eq_false_iff, Cont.pts.injEq, Cont.ints.injEq, Cont.bools.injEq, Cont.ptss.injEq, Cont.intss.injEq, Cont.boolss.injEq, true_and, and_true, implies_true]
    unfold orB
    cases vB a1 a2 <;> cases vB b1 b2 <;> cases vB c1 c2 <;> simp
  · cases h
def g_spec_ConvexValid : List AV → Option Sg
  | [.s (.view (.pts l))] => some ⟨True, [.s (.bool (convB l))]⟩
  | _ => none
def sig_spec_ConvexValid : FuncId → List AV → Option Sg := sigL [(44, g_spec_l1In), (42, g_spec_Orientation)]
def xs_spec_ConvexValid : XS := ⟨xsigL [], ysigL []⟩
theorem sig_spec_ConvexValid_ok : SigOK sig_spec_ConvexValid := sigL_cons F_spec_l1In (sigL_cons F_spec_Orientation sigL_nil)
theorem xs_spec_ConvexValid_ok : XSigOK xs_spec_ConvexValid := ⟨xsigL_nil, ysigL_nil⟩
theorem V_spec_ConvexValid (l : List Pt) : ((true = true) ∧ ((True) ∧ True) ∧ (true = true) ∧ ((True) ∧ (True) ∧ (True) ∧ True) ∧ (true = true) ∧ ((True) ∧ ((True)) ∧ (True) ∧ True) ∧ ((bnot (inB (ilen l) (3 : Int) (8 : Int))) = true → ((true = true) ∧ ((True) ∧ True) ∧ ((false : Bool) = (convB l)) ∧ True)) ∧ ((bnot (inB (ilen l) (3 : Int) (8 : Int))) = false → ((true = true) ∧ ((True) ∧ True) ∧ ∃ (I1 : List GV → Prop) (μ1 : List GV → Nat), (((true = true) ∧ (((false : Bool) = false) ∧ (((0 : Int) : Int) = (0 : Int)) ∧ (((ilen l) : Int) = (ilen l)) ∧ (((inB (ilen l) (3 : Int) (8 : Int)) : Bool) = (inB (ilen l) (3 : Int) (8 : Int))) ∧ (((bnot (inB (ilen l) (3 : Int) (8 : Int))) : Bool) = (bnot (inB (ilen l) (3 : Int) (8 : Int)))) ∧ ((Cont.pts l) = (Cont.pts l)) ∧ (((ilen l) : Int) = (ilen l)) ∧ (((ilen l) : Int) = (ilen l)) ∧ ((Cont.pts l) = (Cont.pts l)) ∧ True) ∧ (True)) ∧ (([GK.int, GK.bool] : List GK) = ([GK.int, GK.bool] : List GK)) ∧ I1 [GV.int (0 : Int), GV.bool false]) ∧ (∀ i1_0 : Int, ∀ b1_1 : Bool, I1 [GV.int i1_0, GV.bool b1_1] → ((true = true) ∧ ((True) ∧ (True) ∧ (True) ∧ True) ∧ ((ilt i1_0 (ilen l)) = true → ((true = true) ∧ ((True) ∧ True) ∧ ∃ (I2 : List GV → Prop) (μ2 : List GV → Nat), (((true = true) ∧ (((b1_1 : Bool) = b1_1) ∧ (((0 : Int) : Int) = (0 : Int)) ∧ ((i1_0 : Int) = i1_0) ∧ (((ilen l) : Int) = (ilen l)) ∧ (((ilt i1_0 (ilen l)) : Bool) = (ilt i1_0 (ilen l))) ∧ ((i1_0 : Int) = i1_0) ∧ (((ilen l) : Int) = (ilen l)) ∧ (((inB (ilen l) (3 : Int) (8 : Int)) : Bool) = (inB (ilen l) (3 : Int) (8 : Int))) ∧ (((bnot (inB (ilen l) (3 : Int) (8 : Int))) : Bool) = (bnot (inB (ilen l) (3 : Int) (8 : Int)))) ∧ ((Cont.pts l) = (Cont.pts l)) ∧ (((ilen l) : Int) = (ilen l)) ∧ (((ilen l) : Int) = (ilen l)) ∧ ((Cont.pts l) = (Cont.pts l)) ∧ True) ∧ (True)) ∧ (([GK.int, GK.bool] : List GK) = ([GK.int, GK.bool] : List GK)) ∧ I2 [GV.int (0 : Int), GV.bool b1_1]) ∧ (∀ i2_0 : Int, ∀ b2_1 : Bool, I2 [GV.int i2_0, GV.bool b2_1] → ((true = true) ∧ ((True) ∧ (True) ∧ (True) ∧ True) ∧ ((ilt i2_0 (ilen l)) = true → ((true = true) ∧ ((True) ∧ (True) ∧ (True) ∧ (True) ∧ (NIs (bnot (ieq i2_0 i1_0)) true → True) ∧ (NIs (bnot (ieq i2_0 i1_0)) true → True) ∧ (NIs (bnot (ieq i2_0 i1_0)) true → True) ∧ (NIs (bnot (ieq i2_0 i1_0)) true → True) ∧ (NIs (bnot (ieq i2_0 i1_0)) true → NNe (ilen l) 0) ∧ (NIs (bnot (ieq i2_0 i1_0)) true → True) ∧ (True) ∧ (True) ∧ (NIs (bite (bnot (ieq i2_0 i1_0)) (bnot (ieq i2_0 (irem (iadd i1_0 (1 : Int)) (ilen l)))) false) true → True) ∧ (NIs (bite (bnot (ieq i2_0 i1_0)) (bnot (ieq i2_0 (irem (iadd i1_0 (1 : Int)) (ilen l)))) false) true → True) ∧ (NIs (bite (bnot (ieq i2_0 i1_0)) (bnot (ieq i2_0 (irem (iadd i1_0 (1 : Int)) (ilen l)))) false) true → (NLe 0 i1_0 ∧ NLt i1_0 (ilen l))) ∧ (NIs (bite (bnot (ieq i2_0 i1_0)) (bnot (ieq i2_0 (irem (iadd i1_0 (1 : Int)) (ilen l)))) false) true → True) ∧ (NIs (bite (bnot (ieq i2_0 i1_0)) (bnot (ieq i2_0 (irem (iadd i1_0 (1 : Int)) (ilen l)))) false) true → True) ∧ (NIs (bite (bnot (ieq i2_0 i1_0)) (bnot (ieq i2_0 (irem (iadd i1_0 (1 : Int)) (ilen l)))) false) true → True) ∧ (NIs (bite (bnot (ieq i2_0 i1_0)) (bnot (ieq i2_0 (irem (iadd i1_0 (1 : Int)) (ilen l)))) false) true → True) ∧ (NIs (bite (bnot (ieq i2_0 i1_0)) (bnot (ieq i2_0 (irem (iadd i1_0 (1 : Int)) (ilen l)))) false) true → True) ∧ (NIs (bite (bnot (ieq i2_0 i1_0)) (bnot (ieq i2_0 (irem (iadd i1_0 (1 : Int)) (ilen l)))) false) true → NNe (ilen l) 0) ∧ (NIs (bite (bnot (ieq i2_0 i1_0)) (bnot (ieq i2_0 (irem (iadd i1_0 (1 : Int)) (ilen l)))) false) true → (NLe 0 (irem (iadd i1_0 (1 : Int)) (ilen l)) ∧ NLt (irem (iadd i1_0 (1 : Int)) (ilen l)) (ilen l))) ∧ (NIs (bite (bnot (ieq i2_0 i1_0)) (bnot (ieq i2_0 (irem (iadd i1_0 (1 : Int)) (ilen l)))) false) true → True) ∧ (NIs (bite (bnot (ieq i2_0 i1_0)) (bnot (ieq i2_0 (irem (iadd i1_0 (1 : Int)) (ilen l)))) false) true → True) ∧ (NIs (bite (bnot (ieq i2_0 i1_0)) (bnot (ieq i2_0 (irem (iadd i1_0 (1 : Int)) (ilen l)))) false) true → True) ∧ (NIs (bite (bnot (ieq i2_0 i1_0)) (bnot (ieq i2_0 (irem (iadd i1_0 (1 : Int)) (ilen l)))) false) true → (NLe 0 i2_0 ∧ NLt i2_0 (ilen l))) ∧ (NIs (bite (bnot (ieq i2_0 i1_0)) (bnot (ieq i2_0 (irem (iadd i1_0 (1 : Int)) (ilen l)))) false) true → True) ∧ (NIs (bite (bnot (ieq i2_0 i1_0)) (bnot (ieq i2_0 (irem (iadd i1_0 (1 : Int)) (ilen l)))) false) true → (True)) ∧ (NIs (bite (bnot (ieq i2_0 i1_0)) (bnot (ieq i2_0 (irem (iadd i1_0 (1 : Int)) (ilen l)))) false) true → True) ∧ (True) ∧ True) ∧ ((bite (bite (bnot (ieq i2_0 i1_0)) (bnot (ieq i2_0 (irem (iadd i1_0 (1 : Int)) (ilen l)))) false) (bnot (ieq (orB (getx l i1_0) (gety l i1_0) (getx l (irem (iadd i1_0 (1 : Int)) (ilen l))) (gety l (irem (iadd i1_0 (1 : Int)) (ilen l))) (getx l i2_0) (gety l i2_0)) (1 : Int))) false) = true → ((true = true) ∧ ((True) ∧ True) ∧ ((false : Bool) = (convB l)) ∧ True)) ∧ ((bite (bite (bnot (ieq i2_0 i1_0)) (bnot (ieq i2_0 (irem (iadd i1_0 (1 : Int)) (ilen l)))) false) (bnot (ieq (orB (getx l i1_0) (gety l i1_0) (getx l (irem (iadd i1_0 (1 : Int)) (ilen l))) (gety l (irem (iadd i1_0 (1 : Int)) (ilen l))) (getx l i2_0) (gety l i2_0)) (1 : Int))) false) = false → ((true = true) ∧ ((True) ∧ (True) ∧ (True) ∧ True) ∧ ((true = true) ∧ (((b2_1 : Bool) = b2_1) ∧ (((iadd i2_0 (1 : Int)) : Int) = (iadd i2_0 (1 : Int))) ∧ ((i1_0 : Int) = i1_0) ∧ (((ilen l) : Int) = (ilen l)) ∧ (((ilt i1_0 (ilen l)) : Bool) = (ilt i1_0 (ilen l))) ∧ ((i1_0 : Int) = i1_0) ∧ (((ilen l) : Int) = (ilen l)) ∧ (((inB (ilen l) (3 : Int) (8 : Int)) : Bool) = (inB (ilen l) (3 : Int) (8 : Int))) ∧ (((bnot (inB (ilen l) (3 : Int) (8 : Int))) : Bool) = (bnot (inB (ilen l) (3 : Int) (8 : Int)))) ∧ ((Cont.pts l) = (Cont.pts l)) ∧ (((ilen l) : Int) = (ilen l)) ∧ (((ilen l) : Int) = (ilen l)) ∧ ((Cont.pts l) = (Cont.pts l)) ∧ True) ∧ (True)) ∧ ((([GK.int, GK.bool] : List GK) = ([GK.int, GK.bool] : List GK)) ∧ I2 [GV.int (iadd i2_0 (1 : Int)), GV.bool b2_1] ∧ μ2 [GV.int (iadd i2_0 (1 : Int)), GV.bool b2_1] < μ2 [GV.int i2_0, GV.bool b2_1]))))) ∧ ((ilt i2_0 (ilen l)) = false → ((true = true) ∧ ((True) ∧ (True) ∧ (True) ∧ True) ∧ ((true = true) ∧ (((b2_1 : Bool) = b2_1) ∧ (((iadd i1_0 (1 : Int)) : Int) = (iadd i1_0 (1 : Int))) ∧ (((ilen l) : Int) = (ilen l)) ∧ (((inB (ilen l) (3 : Int) (8 : Int)) : Bool) = (inB (ilen l) (3 : Int) (8 : Int))) ∧ (((bnot (inB (ilen l) (3 : Int) (8 : Int))) : Bool) = (bnot (inB (ilen l) (3 : Int) (8 : Int)))) ∧ ((Cont.pts l) = (Cont.pts l)) ∧ (((ilen l) : Int) = (ilen l)) ∧ (((ilen l) : Int) = (ilen l)) ∧ ((Cont.pts l) = (Cont.pts l)) ∧ True) ∧ (True)) ∧ ((([GK.int, GK.bool] : List GK) = ([GK.int, GK.bool] : List GK)) ∧ I1 [GV.int (iadd i1_0 (1 : Int)), GV.bool b2_1] ∧ μ1 [GV.int (iadd i1_0 (1 : Int)), GV.bool b2_1] < μ1 [GV.int i1_0, GV.bool b1_1]))))))) ∧ ((ilt i1_0 (ilen l)) = false → ((true = true) ∧ ((True) ∧ True) ∧ ((true : Bool) = (convB l)) ∧ True))))))) = ev sig_spec_ConvexValid xs_spec_ConvexValid Try.f14.ntmps (fun b => if b == 0 then [.v 4, .v 2] else if b == 2 then [.v 5, .v 2] else []) (codeOf Try.f14) 0 (initS [.s (.view (.pts l))]) (retK Try.f14.results.toList [.s (.bool (convB l))]) := by kernel_rfl
set_option maxHeartbeats 400000 in
theorem F_spec_ConvexValid : FunOK 14 g_spec_ConvexValid := by
  refine fun_F (by kernel_rfl) Try.func14 rfl (by kernel_rfl) sig_spec_ConvexValid_ok xs_spec_ConvexValid_ok ?_
  intro avs sg h hn hl
  unfold g_spec_ConvexValid at h
  split at h
  · rename_i l
    injection h with h; subst h
    refine ⟨by kernel_rfl, fun b => if b == 0 then [.v 4, .v 2] else if b == 2 then [.v 5, .v 2] else [], Eq.mp (V_spec_ConvexValid l) ?_⟩
    simp only [true_and, and_true, implies_true, and_self, forall_const, true_implies, lenA, lenL, SV.lenOK, Cont.lenOK] at hn hl ⊢
    simp only [← convS_eq]
    have h0 := ilen_0 l
    simp only [ilt_t, ilt_f, ile_t, ile_f, ieq_t, ieq_f, bnot_e, band_e, bite_and, bite_or, NLt_e, NLe_e, NNe_e, NIs_e, imax_e, imin_e, irem_e, Bool.not_eq_true', Bool.not_eq_false', Bool.and_eq_true, Bool.or_eq_true, Bool.or_eq_false_iff, Bool.and_eq_false_iff, Cont.pts.injEq, Cont.ints.injEq, Cont.bools.injEq, Cont.ptss.injEq, Cont.intss.injEq, Cont.boolss.injEq, true_and, and_true, implies_true]
    refine ⟨?_, fun hv1 => ?_⟩
    · intro h; simp [convS, h]
    · have hlen := inB_true hv1
      refine ⟨fun | [.int k, .bool _] => 0 ≤ k ∧ k ≤ ilen l ∧ (∀ i, 0 ≤ i → i < k → allN (ilen l) (convF l i) = true) | _ => False, fun | [.int k, .bool _] => (ilen l - k).toNat | _ => 0, ?_, ?_⟩
      · exact ⟨Int.le_refl 0, h0, fun j h0 h1 => absurd h1 (by omega)⟩
      · rintro k b ⟨hk0, hk1, hk⟩
        simp only [ilt_t, ilt_f, ile_t, ile_f, ieq_t, ieq_f, bnot_e, band_e, bite_and, bite_or, NLt_e, NLe_e, NNe_e, NIs_e, imax_e, imin_e, irem_e, Bool.not_eq_true', Bool.not_eq_false', Bool.and_eq_true, Bool.or_eq_true, Bool.or_eq_false_iff, Bool.and_eq_false_iff, Cont.pts.injEq, Cont.ints.injEq, Cont.bools.injEq, Cont.ptss.injEq, Cont.intss.injEq, Cont.boolss.injEq, true_and, and_true, implies_true]
        refine ⟨fun hkn => ?_, fun hkn => ?_⟩
        · have e1 := iadd_1 hk0 hkn hl
          obtain ⟨n0, n1, _⟩ := nx_in hk0 hkn
          have e2 : (k + 1).tmod (ilen l) = nx l k := rfl
          simp only [e1, e2]
          refine ⟨fun | [.int j, .bool _] => 0 ≤ j ∧ j ≤ ilen l ∧ (∀ i, 0 ≤ i → i < j → convF l k i = true) | _ => False, fun | [.int j, .bool _] => (ilen l - j).toNat | _ => 0, ?_, ?_⟩
          · exact ⟨Int.le_refl 0, h0, fun j h0 h1 => absurd h1 (by omega)⟩
          · rintro j b ⟨hj0, hj1, hj⟩
            simp only [ilt_t, ilt_f, ile_t, ile_f, ieq_t, ieq_f, bnot_e, band_e, bite_and, bite_or, NLt_e, NLe_e, NNe_e, NIs_e, imax_e, imin_e, irem_e, Bool.not_eq_true', Bool.not_eq_false', Bool.and_eq_true, Bool.or_eq_true, Bool.or_eq_false_iff, Bool.and_eq_false_iff, Cont.pts.injEq, Cont.ints.injEq, Cont.bools.injEq, Cont.ptss.injEq, Cont.intss.injEq, Cont.boolss.injEq, true_and, and_true, implies_true]
            refine ⟨fun hjn => ⟨?_, fun hx => ?_, fun hx => ?_⟩, fun hjn => ?_⟩
            · exact ⟨fun _ => by omega, fun _ => ⟨hk0, hkn⟩, fun _ => by omega, fun _ => ⟨n0, n1⟩, fun _ => ⟨hj0, hjn⟩⟩
            · have hE : convF l k j = false := by
                unfold convF orI
                simp only [decide_eq_false_iff_not]
                omega
              unfold convS
              rw [allN_no k hk0 hkn (allN_no j hj0 hjn hE)]
              simp
            · have hE : convF l k j = true := by
                unfold convF orI
                simp only [decide_eq_true_eq]
                omega
              rw [iadd_1 hj0 hjn hl]
              exact ⟨⟨by omega, by omega, allN_up hj hE⟩, by omega⟩
            · exact ⟨⟨by omega, by omega, allN_up hk (allN_mk fun i h0 h1 => hj i h0 (by omega))⟩, by omega⟩
        · unfold convS
          rw [hv1, allN_mk fun i h0 h1 => hk i h0 (by omega)]
          rfl
  · cases h
def nearB (x y : Int) : Bool := inB x (-1000) 1000 && inB y (-1000) 1000
def idxN (n : Int) (f : Int → Bool) : Int := foldN n (fun s i => if s < 0 ∧ f i = true then i else s) (-1)
theorem idxN_no {f : Int → Bool} {k : Nat} (h : ∀ j, 0 ≤ j → j < (k : Int) → f j = false) : idxN k f = -1 := by
  induction k with
  | zero => rfl
  | succ k ih =>
    have e : ((k + 1 : Nat) : Int) = (k : Int) + 1 := by omega
    have := ih (fun j h0 h1 => h j h0 (by omega))
    unfold idxN at this ⊢
    rw [e, foldN_1 (by omega), this, h k (by omega) (by omega)]
    simp
theorem idxN_keep {f : Int → Bool} {i : Int} (hi : 0 ≤ i) {n : Nat} (h : idxN n f = i) (m : Nat) : idxN ((n + m : Nat) : Int) f = i := by
  induction m with
  | zero => exact h
  | succ m ih =>
    have e : ((n + (m + 1) : Nat) : Int) = ((n + m : Nat) : Int) + 1 := by omega
    unfold idxN at ih ⊢
    rw [e, foldN_1 (by omega), ih, if_neg (by omega)]
theorem idxN_at {f : Int → Bool} {k n : Int} (h0 : 0 ≤ k) (h1 : k < n) (h : ∀ j, 0 ≤ j → j < k → f j = false) (hk : f k = true) : idxN n f = k := by
  obtain ⟨a, rfl⟩ := Int.eq_ofNat_of_zero_le h0
  obtain ⟨b, hb⟩ := Int.eq_ofNat_of_zero_le (show 0 ≤ n - (a + 1) by omega)
  have e : n = ((a + 1 + b : Nat) : Int) := by omega
  rw [e]
  refine idxN_keep h0 ?_ b
  have := idxN_no h
  have e2 : ((a + 1 : Nat) : Int) = (a : Int) + 1 := by omega
  unfold idxN at this ⊢
  rw [e2, foldN_1 (by omega), this, if_pos ⟨by omega, hk⟩]
theorem idxN_any {f : Int → Bool} {n : Int} (h0 : 0 ≤ n) : ile 0 (idxN n f) = anyN n f := by
  obtain ⟨a, rfl⟩ := Int.eq_ofNat_of_zero_le h0
  clear h0
  induction a with
  | zero => simp [idxN, foldN, anyN, ile]
  | succ a ih =>
    have e : ((a + 1 : Nat) : Int) = (a : Int) + 1 := by omega
    have hs : anyN ((a + 1 : Nat) : Int) f = (anyN a f || f a) := by
      unfold anyN
      rw [show ((a + 1 : Nat) : Int).toNat = a + 1 by omega, show ((a : Nat) : Int).toNat = a by omega, List.range_succ, List.any_append]
      simp
    rw [hs, ← ih]
    unfold idxN
    rw [e, foldN_1 (by omega)]
    generalize foldN (a : Int) (fun s i => if s < 0 ∧ f i = true then i else s) (-1) = s
    unfold ile
    by_cases hs0 : s < 0
    · cases hf : f a with
      | true => simp [hs0, hf]
      | false => simp [hs0, hf]
    · simp [hs0]; omega
def g_spec_l9Near : List AV → Option Sg
  | [.agg [.int p1, .int p2]] => some ⟨True, [.s (.bool (nearB p1 p2))]⟩
  | _ => none
def sig_spec_l9Near : FuncId → List AV → Option Sg := sigL [(44, g_spec_l1In)]
def xs_spec_l9Near : XS := ⟨xsigL [], ysigL []⟩
theorem sig_spec_l9Near_ok : SigOK sig_spec_l9Near := sigL_cons F_spec_l1In sigL_nil
theorem xs_spec_l9Near_ok : XSigOK xs_spec_l9Near := ⟨xsigL_nil, ysigL_nil⟩
theorem V_spec_l9Near (p1 : Int) (p2 : Int) : ((true = true) ∧ ((True) ∧ (True) ∧ True) ∧ (true = true) ∧ ((True) ∧ (True) ∧ ((True)) ∧ (True) ∧ (NIs (inB p1 (-1000 : Int) (1000 : Int)) true → True) ∧ (NIs (inB p1 (-1000 : Int) (1000 : Int)) true → True) ∧ (NIs (inB p1 (-1000 : Int) (1000 : Int)) true → (True)) ∧ (True) ∧ (True) ∧ True) ∧ (((bite (inB p1 (-1000 : Int) (1000 : Int)) (inB p2 (-1000 : Int) (1000 : Int)) false) : Bool) = (nearB p1 p2)) ∧ True) = ev sig_spec_l9Near xs_spec_l9Near Try.f58.ntmps (fun b => []) (codeOf Try.f58) 0 (initS [.agg [.int p1, .int p2]]) (retK Try.f58.results.toList [.s (.bool (nearB p1 p2))]) := by kernel_rfl
set_option maxHeartbeats 400000 in
theorem F_spec_l9Near : FunOK 58 g_spec_l9Near := by
  refine fun_F (by kernel_rfl) Try.func58 rfl (by kernel_rfl) sig_spec_l9Near_ok xs_spec_l9Near_ok ?_
  intro avs sg h hn hl
  unfold g_spec_l9Near at h
  split at h
  · rename_i p1 p2
    injection h with h; subst h
    refine ⟨by kernel_rfl, fun b => [], Eq.mp (V_spec_l9Near p1 p2) ?_⟩
    simp only [true_and, and_true, implies_true, and_self, forall_const, true_implies, lenA, lenL, SV.lenOK, Cont.lenOK] at hn hl ⊢
    simp only [ilt_t, ilt_f, ile_t, ile_f, ieq_t, ieq_f, bnot_e, band_e, bite_and, bite_or, NLt_e, NLe_e, NNe_e, NIs_e, imax_e, imin_e, irem_e, Bool.not_eq_true', Bool.not_eq_false', Bool.and_eq_true, Bool.or_eq_true, Bool.or_eq_false_iff, Bool.and_eq_false_iff, Cont.pts.injEq, Cont.ints.injEq, Cont.bools.injEq, Cont.ptss.injEq, Cont.intss.injEq, Cont.boolss.injEq, true_and, and_true, implies_true, nearB]
  · cases h
theorem mul20 {x y : Int} (hx : -20000 ≤ x ∧ x ≤ 20000) (hy : -20000 ≤ y ∧ y ≤ 20000) : -400000000 ≤ x * y ∧ x * y ≤ 400000000 := by
  have h := mul_box hx.1 hx.2 hy.1 hy.2
  generalize x * y = z at *
  have e1 : min (min ((-20000 : Int) * -20000) (-20000 * 20000)) (min (20000 * -20000) (20000 * 20000)) = -400000000 := by decide
  have e2 : max (max ((-20000 : Int) * -20000) (-20000 * 20000)) (max (20000 * -20000) (20000 * 20000)) = 400000000 := by decide
  rw [e1, e2] at h
  exact h
theorem crW_e {a1 a2 b1 b2 c1 c2 : Int} (ha : vB a1 a2 = true) (hb : vB b1 b2 = true) (hc : vB c1 c2 = true) : crW a1 a2 b1 b2 c1 c2 = crs (a1, a2) (b1, b2) (c1, c2) := by
  unfold vB at ha hb hc
  simp only [Bool.and_eq_true] at ha hb hc
  have a1' := inB_true ha.1; have a2' := inB_true ha.2; have b1' := inB_true hb.1; have b2' := inB_true hb.2; have c1' := inB_true hc.1; have c2' := inB_true hc.2
  unfold crW crs
  rw [isub_e (a := b1) (by omega) (by omega), isub_e (a := c2) (by omega) (by omega), isub_e (a := b2) (by omega) (by omega), isub_e (a := c1) (by omega) (by omega)]
  have m1 := mul20 (x := b1 - a1) (y := c2 - a2) (by omega) (by omega)
  have m2 := mul20 (x := b2 - a2) (y := c1 - a1) (by omega) (by omega)
  rw [imul_e (a := b1 - a1) (by omega) (by omega), imul_e (a := b2 - a2) (by omega) (by omega), isub_e (by omega) (by omega)]
def P (l : List Pt) (i : Int) : Pt := (getx l i, gety l i)
theorem sgn_01 (z : Int) : -1 ≤ sgn z ∧ sgn z ≤ 1 := by unfold sgn; split <;> (try split) <;> omega
theorem ieq_sgn (z : Int) : ieq (sgn z) 0 = decide (z = 0) := by
  unfold ieq
  congr 1
  simp only [eq_iff_iff]
  unfold sgn; split <;> (try split) <;> omega
theorem imul_sgn (x y : Int) : imul (sgn x) (sgn y) = sgn x * sgn y := by
  have s1 := sgn_01 x; have s2 := sgn_01 y
  have := mul20 (x := sgn x) (y := sgn y) (by omega) (by omega)
  exact imul_e (by omega) (by omega)
theorem sgn_0 (z : Int) : sgn z = 0 ↔ z = 0 := by unfold sgn; split <;> (try split) <;> omega
def btW (a1 a2 b1 b2 p1 p2 : Int) : Bool := inB p1 (min a1 b1) (max a1 b1) && inB p2 (min a2 b2) (max a2 b2)
theorem btW_e (a1 a2 b1 b2 p1 p2 : Int) : btW a1 a2 b1 b2 p1 p2 = btw (a1, a2) (b1, b2) (p1, p2) := by
  unfold btW btw inB
  simp only [← Bool.decide_and]
  congr 1
  simp only [eq_iff_iff]
  constructor
  · rintro ⟨⟨h1, h2⟩, h3, h4⟩; exact ⟨h1, h2, h3, h4⟩
  · rintro ⟨h1, h2, h3, h4⟩; exact ⟨⟨h1, h2⟩, h3, h4⟩
def sqE (a1 a2 b1 b2 : Int) : Int := (a1 - b1) * (a1 - b1) + (a2 - b2) * (a2 - b2)
def alE (p1 p2 a1 a2 b1 b2 : Int) : Int := (p1 - a1) * (b1 - a1) + (p2 - a2) * (b2 - a2)
def ssqE (p1 p2 a1 a2 b1 b2 : Int) : Int := if alE p1 p2 a1 a2 b1 b2 ≤ 0 then sqE p1 p2 a1 a2 else if sqE a1 a2 b1 b2 ≤ alE p1 p2 a1 a2 b1 b2 then sqE p1 p2 b1 b2 else (crs (a1, a2) (b1, b2) (p1, p2) * crs (a1, a2) (b1, b2) (p1, p2)).tdiv (sqE a1 a2 b1 b2)
theorem near_bd {x y : Int} (h : nearB x y = true) : -1000 ≤ x ∧ x ≤ 1000 ∧ -1000 ≤ y ∧ y ≤ 1000 := by
  unfold nearB at h
  simp only [Bool.and_eq_true] at h
  have a1 := inB_true h.1; have a2 := inB_true h.2
  omega
theorem mul4 {x y : Int} (hx : -8000000 ≤ x ∧ x ≤ 8000000) (hy : -8000000 ≤ y ∧ y ≤ 8000000) : imul x y = x * y := by
  have h := mul_box hx.1 hx.2 hy.1 hy.2
  have e1 : min (min ((-8000000 : Int) * -8000000) (-8000000 * 8000000)) (min (8000000 * -8000000) (8000000 * 8000000)) = -64000000000000 := by decide
  have e2 : max (max ((-8000000 : Int) * -8000000) (-8000000 * 8000000)) (max (8000000 * -8000000) (8000000 * 8000000)) = 64000000000000 := by decide
  rw [e1, e2] at h
  exact imul_e (by omega) (by omega)
theorem mul2 {x y : Int} (hx : -2000 ≤ x ∧ x ≤ 2000) (hy : -2000 ≤ y ∧ y ≤ 2000) : imul x y = x * y ∧ -4000000 ≤ x * y ∧ x * y ≤ 4000000 := by
  refine ⟨mul4 (by omega) (by omega), ?_⟩
  have h := mul_box hx.1 hx.2 hy.1 hy.2
  generalize x * y = z at *
  have e1 : min (min ((-2000 : Int) * -2000) (-2000 * 2000)) (min (2000 * -2000) (2000 * 2000)) = -4000000 := by decide
  have e2 : max (max ((-2000 : Int) * -2000) (-2000 * 2000)) (max (2000 * -2000) (2000 * 2000)) = 4000000 := by decide
  rw [e1, e2] at h
  exact h
theorem sub_n {x y : Int} (hx : -1000 ≤ x ∧ x ≤ 1000) (hy : -1000 ≤ y ∧ y ≤ 1000) : isub x y = x - y := isub_e (by omega) (by omega)
theorem near_v {x y : Int} (h : nearB x y = true) : vB x y = true := by
  have := near_bd h
  exact vB_mk (by omega)
theorem crs_bd {a1 a2 b1 b2 c1 c2 : Int} (ha : nearB a1 a2 = true) (hb : nearB b1 b2 = true) (hc : nearB c1 c2 = true) : -8000000 ≤ crs (a1, a2) (b1, b2) (c1, c2) ∧ crs (a1, a2) (b1, b2) (c1, c2) ≤ 8000000 := by
  have := near_bd ha; have := near_bd hb; have := near_bd hc
  have m1 := mul2 (x := b1 - a1) (y := c2 - a2) (by omega) (by omega)
  have m2 := mul2 (x := b2 - a2) (y := c1 - a1) (by omega) (by omega)
  unfold crs
  dsimp only
  omega
theorem sq_w {a1 a2 b1 b2 : Int} (ha : nearB a1 a2 = true) (hb : nearB b1 b2 = true) : iadd (imul (isub a1 b1) (isub a1 b1)) (imul (isub a2 b2) (isub a2 b2)) = sqE a1 a2 b1 b2 ∧ 0 ≤ sqE a1 a2 b1 b2 ∧ sqE a1 a2 b1 b2 ≤ 8000000 := by
  have := near_bd ha; have := near_bd hb
  have m1 := mul2 (x := a1 - b1) (y := a1 - b1) (by omega) (by omega)
  have m2 := mul2 (x := a2 - b2) (y := a2 - b2) (by omega) (by omega)
  have q1 : 0 ≤ (a1 - b1) * (a1 - b1) := by rcases Int.le_total 0 (a1 - b1) with h | h; exact Int.mul_nonneg h h; exact Int.mul_nonneg_of_nonpos_of_nonpos h h
  have q2 : 0 ≤ (a2 - b2) * (a2 - b2) := by rcases Int.le_total 0 (a2 - b2) with h | h; exact Int.mul_nonneg h h; exact Int.mul_nonneg_of_nonpos_of_nonpos h h
  rw [sub_n (by omega) (by omega), sub_n (by omega) (by omega), m1.1, m2.1]
  unfold sqE
  exact ⟨iadd_e (by omega) (by omega), by omega, by omega⟩
theorem al_w {p1 p2 a1 a2 b1 b2 : Int} (hp : nearB p1 p2 = true) (ha : nearB a1 a2 = true) (hb : nearB b1 b2 = true) : iadd (imul (isub p1 a1) (isub b1 a1)) (imul (isub p2 a2) (isub b2 a2)) = alE p1 p2 a1 a2 b1 b2 := by
  have := near_bd ha; have := near_bd hb; have := near_bd hp
  have m1 := mul2 (x := p1 - a1) (y := b1 - a1) (by omega) (by omega)
  have m2 := mul2 (x := p2 - a2) (y := b2 - a2) (by omega) (by omega)
  rw [sub_n (by omega) (by omega), sub_n (x := b1) (by omega) (by omega), sub_n (x := p2) (by omega) (by omega), sub_n (x := b2) (by omega) (by omega), m1.1, m2.1]
  unfold alE
  exact iadd_e (by omega) (by omega)
theorem sqE_comm (a1 a2 b1 b2 : Int) : sqE a1 a2 b1 b2 = sqE b1 b2 a1 a2 := by unfold sqE; grind
theorem mul4b {x y : Int} (hx : -8000000 ≤ x ∧ x ≤ 8000000) (hy : -8000000 ≤ y ∧ y ≤ 8000000) : -64000000000000 ≤ x * y ∧ x * y ≤ 64000000000000 := by
  have h := mul_box hx.1 hx.2 hy.1 hy.2
  have e1 : min (min ((-8000000 : Int) * -8000000) (-8000000 * 8000000)) (min (8000000 * -8000000) (8000000 * 8000000)) = -64000000000000 := by decide
  have e2 : max (max ((-8000000 : Int) * -8000000) (-8000000 * 8000000)) (max (8000000 * -8000000) (8000000 * 8000000)) = 64000000000000 := by decide
  rw [e1, e2] at h
  exact h
theorem sqE_0 (a1 a2 b1 b2 : Int) : 0 ≤ sqE a1 a2 b1 b2 := by
  have q : ∀ x : Int, 0 ≤ x * x := fun x => by rcases Int.le_total 0 x with h | h; exact Int.mul_nonneg h h; exact Int.mul_nonneg_of_nonpos_of_nonpos h h
  have := q (a1 - b1); have := q (a2 - b2)
  unfold sqE; omega
theorem ssqE_0 (p1 p2 a1 a2 b1 b2 : Int) : 0 ≤ ssqE p1 p2 a1 a2 b1 b2 := by
  have q : ∀ x : Int, 0 ≤ x * x := fun x => by rcases Int.le_total 0 x with h | h; exact Int.mul_nonneg h h; exact Int.mul_nonneg_of_nonpos_of_nonpos h h
  unfold ssqE
  split
  · exact sqE_0 ..
  · split
    · exact sqE_0 ..
    · exact Int.tdiv_nonneg (q _) (sqE_0 ..)
def ssQ (p1 p2 a1 a2 b1 b2 : Int) : Int := if nearB p1 p2 && nearB a1 a2 && nearB b1 b2 then ssqE p1 p2 a1 a2 b1 b2 else -1
theorem ssQ_e {p1 p2 a1 a2 b1 b2 : Int} (hp : nearB p1 p2 = true) (ha : nearB a1 a2 = true) (hb : nearB b1 b2 = true) : ssQ p1 p2 a1 a2 b1 b2 = ssqE p1 p2 a1 a2 b1 b2 := by unfold ssQ; rw [hp, ha, hb]; rfl
theorem ssQ_0 {p1 p2 a1 a2 b1 b2 : Int} (h : 0 ≤ ssQ p1 p2 a1 a2 b1 b2) : nearB p1 p2 = true ∧ nearB a1 a2 = true ∧ nearB b1 b2 = true := by
  unfold ssQ at h
  cases h1 : nearB p1 p2 <;> cases h2 : nearB a1 a2 <;> cases h3 : nearB b1 b2 <;> simp [h1, h2, h3] at h ⊢
def g_spec_l2Square : List AV → Option Sg
  | [.agg [.int a1, .int a2], .agg [.int b1, .int b2]] => some ⟨nearB a1 a2 = true ∧ nearB b1 b2 = true, [.s (.int (sqE a1 a2 b1 b2))]⟩
  | _ => none
def sig_spec_l2Square : FuncId → List AV → Option Sg := sigL []
def xs_spec_l2Square : XS := ⟨xsigL [], ysigL []⟩
theorem sig_spec_l2Square_ok : SigOK sig_spec_l2Square := sigL_nil
theorem xs_spec_l2Square_ok : XSigOK xs_spec_l2Square := ⟨xsigL_nil, ysigL_nil⟩
theorem V_spec_l2Square (a1 : Int) (a2 : Int) (b1 : Int) (b2 : Int) : ((true = true) ∧ ((True) ∧ (True) ∧ (True) ∧ True) ∧ (true = true) ∧ ((True) ∧ (True) ∧ (True) ∧ (True) ∧ (True) ∧ (True) ∧ (True) ∧ (True) ∧ (True) ∧ (True) ∧ (True) ∧ (True) ∧ (True) ∧ (True) ∧ (True) ∧ (True) ∧ (True) ∧ (True) ∧ (True) ∧ (True) ∧ (True) ∧ (True) ∧ (True) ∧ (True) ∧ True) ∧ (((iadd (imul (isub a1 b1) (isub a1 b1)) (imul (isub a2 b2) (isub a2 b2))) : Int) = (sqE a1 a2 b1 b2)) ∧ True) = ev sig_spec_l2Square xs_spec_l2Square Try.f64.ntmps (fun b => []) (codeOf Try.f64) 0 (initS [.agg [.int a1, .int a2], .agg [.int b1, .int b2]]) (retK Try.f64.results.toList [.s (.int (sqE a1 a2 b1 b2))]) := by kernel_rfl
set_option maxHeartbeats 400000 in
theorem F_spec_l2Square : FunOK 64 g_spec_l2Square := by
  refine fun_F (by kernel_rfl) Try.func64 rfl (by kernel_rfl) sig_spec_l2Square_ok xs_spec_l2Square_ok ?_
  intro avs sg h hn hl
  unfold g_spec_l2Square at h
  split at h
  · rename_i a1 a2 b1 b2
    injection h with h; subst h
    refine ⟨by kernel_rfl, fun b => [], Eq.mp (V_spec_l2Square a1 a2 b1 b2) ?_⟩
    simp only [true_and, and_true, implies_true, and_self, forall_const, true_implies, lenA, lenL, SV.lenOK, Cont.lenOK] at hn hl ⊢
    exact (sq_w hn.1 hn.2).1
  · cases h
def g_spec_l9Square : List AV → Option Sg
  | [.agg [.int p1, .int p2], .agg [.int a1, .int a2], .agg [.int b1, .int b2]] => some ⟨nearB p1 p2 = true ∧ nearB a1 a2 = true ∧ nearB b1 b2 = true, [.s (.int (ssqE p1 p2 a1 a2 b1 b2))]⟩
  | _ => none
def sig_spec_l9Square : FuncId → List AV → Option Sg := sigL [(64, g_spec_l2Square), (49, g_spec_l2Cross)]
def xs_spec_l9Square : XS := ⟨xsigL [], ysigL []⟩
theorem sig_spec_l9Square_ok : SigOK sig_spec_l9Square := sigL_cons F_spec_l2Square (sigL_cons F_spec_l2Cross sigL_nil)
theorem xs_spec_l9Square_ok : XSigOK xs_spec_l9Square := ⟨xsigL_nil, ysigL_nil⟩
theorem V_spec_l9Square (p1 : Int) (p2 : Int) (a1 : Int) (a2 : Int) (b1 : Int) (b2 : Int) : ((true = true) ∧ ((True) ∧ (True) ∧ (True) ∧ (True) ∧ True) ∧ (true = true) ∧ ((True) ∧ (True) ∧ (True) ∧ (True) ∧ (True) ∧ (True) ∧ True) ∧ (true = true) ∧ ((True) ∧ (True) ∧ (True) ∧ (True) ∧ (True) ∧ (True) ∧ True) ∧ (true = true) ∧ ((True) ∧ (True) ∧ (True) ∧ (True) ∧ (True) ∧ (True) ∧ (True) ∧ (True) ∧ True) ∧ (true = true) ∧ ((True) ∧ (True) ∧ (True) ∧ (True) ∧ (True) ∧ (True) ∧ (True) ∧ (True) ∧ (True) ∧ (True) ∧ (True) ∧ (True) ∧ (True) ∧ (True) ∧ (True) ∧ (True) ∧ True) ∧ (true = true) ∧ ((True) ∧ (True) ∧ True) ∧ ((ile (iadd (imul (isub p1 a1) (isub b1 a1)) (imul (isub p2 a2) (isub b2 a2))) (0 : Int)) = true → ((true = true) ∧ ((True) ∧ (True) ∧ ((nearB p1 p2 = true ∧ nearB a1 a2 = true)) ∧ (True) ∧ True) ∧ (((sqE p1 p2 a1 a2) : Int) = (ssqE p1 p2 a1 a2 b1 b2)) ∧ True)) ∧ ((ile (iadd (imul (isub p1 a1) (isub b1 a1)) (imul (isub p2 a2) (isub b2 a2))) (0 : Int)) = false → ((true = true) ∧ ((True) ∧ (True) ∧ (True) ∧ True) ∧ ((ile (iadd (imul (isub b1 a1) (isub b1 a1)) (imul (isub b2 a2) (isub b2 a2))) (iadd (imul (isub p1 a1) (isub b1 a1)) (imul (isub p2 a2) (isub b2 a2)))) = true → ((true = true) ∧ ((True) ∧ (True) ∧ ((nearB p1 p2 = true ∧ nearB b1 b2 = true)) ∧ (True) ∧ True) ∧ (((sqE p1 p2 b1 b2) : Int) = (ssqE p1 p2 a1 a2 b1 b2)) ∧ True)) ∧ ((ile (iadd (imul (isub b1 a1) (isub b1 a1)) (imul (isub b2 a2) (isub b2 a2))) (iadd (imul (isub p1 a1) (isub b1 a1)) (imul (isub p2 a2) (isub b2 a2)))) = false → ((true = true) ∧ ((True) ∧ (True) ∧ (True) ∧ ((True)) ∧ (True) ∧ True) ∧ (true = true) ∧ ((True) ∧ (True) ∧ (True) ∧ (True) ∧ (NNe (iadd (imul (isub b1 a1) (isub b1 a1)) (imul (isub b2 a2) (isub b2 a2))) 0) ∧ (True) ∧ True) ∧ (((iquo (imul (crW a1 a2 b1 b2 p1 p2) (crW a1 a2 b1 b2 p1 p2)) (iadd (imul (isub b1 a1) (isub b1 a1)) (imul (isub b2 a2) (isub b2 a2)))) : Int) = (ssqE p1 p2 a1 a2 b1 b2)) ∧ True))))) = ev sig_spec_l9Square xs_spec_l9Square Try.f82.ntmps (fun b => []) (codeOf Try.f82) 0 (initS [.agg [.int p1, .int p2], .agg [.int a1, .int a2], .agg [.int b1, .int b2]]) (retK Try.f82.results.toList [.s (.int (ssqE p1 p2 a1 a2 b1 b2))]) := by kernel_rfl
set_option maxHeartbeats 400000 in
theorem F_spec_l9Square : FunOK 82 g_spec_l9Square := by
  refine fun_F (by kernel_rfl) Try.func82 rfl (by kernel_rfl) sig_spec_l9Square_ok xs_spec_l9Square_ok ?_
  intro avs sg h hn hl
  unfold g_spec_l9Square at h
  split at h
  · rename_i p1 p2 a1 a2 b1 b2
    injection h with h; subst h
    refine ⟨by kernel_rfl, fun b => [], Eq.mp (V_spec_l9Square p1 p2 a1 a2 b1 b2) ?_⟩
    simp only [true_and, and_true, implies_true, and_self, forall_const, true_implies, lenA, lenL, SV.lenOK, Cont.lenOK] at hn hl ⊢
    obtain ⟨np, na, nb⟩ := hn
    have hc := crs_bd na nb np
    have hsq := sq_w na nb
    have sq := sq_w nb na
    have hcm := sqE_comm b1 b2 a1 a2
    rw [hcm] at sq
    simp only [ilt_t, ilt_f, ile_t, ile_f, ieq_t, ieq_f, bnot_e, band_e, bite_and, bite_or, NLt_e, NLe_e, NNe_e, NIs_e, imax_e, imin_e, irem_e, Bool.not_eq_true', Bool.not_eq_false', Bool.and_eq_true, Bool.or_eq_true, Bool.or_eq_false_iff, Bool.and_eq_false_iff, Cont.pts.injEq, Cont.ints.injEq, Cont.bools.injEq, Cont.ptss.injEq, Cont.intss.injEq, Cont.boolss.injEq, true_and, and_true, implies_true, np, na, nb, crW_e (near_v na) (near_v nb) (near_v np), al_w np na nb, sq.1, mul4 hc hc, true_implies, forall_const]
    refine ⟨fun h => by unfold ssqE; rw [if_pos h], fun h => ⟨fun h2 => by unfold ssqE; rw [if_neg (by omega), if_pos h2], fun h2 => ⟨by omega, ?_⟩⟩⟩
    unfold ssqE
    rw [if_neg (by omega), if_neg (by omega)]
    have := mul4b hc hc
    exact iquo_e (by omega) (by omega) (by omega)
  · cases h
def g_spec_SegmentSquare : List AV → Option Sg
  | [.agg [.int p1, .int p2], .agg [.int a1, .int a2], .agg [.int b1, .int b2]] => some ⟨True, [.s (.int (ssQ p1 p2 a1 a2 b1 b2))]⟩
  | _ => none
def sig_spec_SegmentSquare : FuncId → List AV → Option Sg := sigL [(58, g_spec_l9Near), (82, g_spec_l9Square)]
def xs_spec_SegmentSquare : XS := ⟨xsigL [], ysigL []⟩
theorem sig_spec_SegmentSquare_ok : SigOK sig_spec_SegmentSquare := sigL_cons F_spec_l9Near (sigL_cons F_spec_l9Square sigL_nil)
theorem xs_spec_SegmentSquare_ok : XSigOK xs_spec_SegmentSquare := ⟨xsigL_nil, ysigL_nil⟩
theorem V_spec_SegmentSquare (p1 : Int) (p2 : Int) (a1 : Int) (a2 : Int) (b1 : Int) (b2 : Int) : ((true = true) ∧ ((True) ∧ (True) ∧ (True) ∧ (True) ∧ True) ∧ (true = true) ∧ ((True) ∧ ((True)) ∧ (True) ∧ (True) ∧ (NIs (bnot (nearB p1 p2)) false → True) ∧ (NIs (bnot (nearB p1 p2)) false → (True)) ∧ (NIs (bnot (nearB p1 p2)) false → True) ∧ (True) ∧ (True) ∧ (NIs (bite (bnot (nearB p1 p2)) true (bnot (nearB a1 a2))) false → True) ∧ (NIs (bite (bnot (nearB p1 p2)) true (bnot (nearB a1 a2))) false → (True)) ∧ (NIs (bite (bnot (nearB p1 p2)) true (bnot (nearB a1 a2))) false → True) ∧ (True) ∧ True) ∧ ((bite (bite (bnot (nearB p1 p2)) true (bnot (nearB a1 a2))) true (bnot (nearB b1 b2))) = true → ((true = true) ∧ ((True) ∧ True) ∧ (((-1 : Int) : Int) = (ssQ p1 p2 a1 a2 b1 b2)) ∧ True)) ∧ ((bite (bite (bnot (nearB p1 p2)) true (bnot (nearB a1 a2))) true (bnot (nearB b1 b2))) = false → ((true = true) ∧ ((True) ∧ (True) ∧ (True) ∧ ((nearB p1 p2 = true ∧ nearB a1 a2 = true ∧ nearB b1 b2 = true)) ∧ (True) ∧ True) ∧ (((ssqE p1 p2 a1 a2 b1 b2) : Int) = (ssQ p1 p2 a1 a2 b1 b2)) ∧ True))) = ev sig_spec_SegmentSquare xs_spec_SegmentSquare Try.f59.ntmps (fun b => []) (codeOf Try.f59) 0 (initS [.agg [.int p1, .int p2], .agg [.int a1, .int a2], .agg [.int b1, .int b2]]) (retK Try.f59.results.toList [.s (.int (ssQ p1 p2 a1 a2 b1 b2))]) := by kernel_rfl
set_option maxHeartbeats 400000 in
theorem F_spec_SegmentSquare : FunOK 59 g_spec_SegmentSquare := by
  refine fun_F (by kernel_rfl) Try.func59 rfl (by kernel_rfl) sig_spec_SegmentSquare_ok xs_spec_SegmentSquare_ok ?_
  intro avs sg h hn hl
  unfold g_spec_SegmentSquare at h
  split at h
  · rename_i p1 p2 a1 a2 b1 b2
    injection h with h; subst h
    refine ⟨by kernel_rfl, fun b => [], Eq.mp (V_spec_SegmentSquare p1 p2 a1 a2 b1 b2) ?_⟩
    simp only [true_and, and_true, implies_true, and_self, forall_const, true_implies, lenA, lenL, SV.lenOK, Cont.lenOK] at hn hl ⊢
    simp only [ilt_t, ilt_f, ile_t, ile_f, ieq_t, ieq_f, bnot_e, band_e, bite_and, bite_or, NLt_e, NLe_e, NNe_e, NIs_e, imax_e, imin_e, irem_e, Bool.not_eq_true', Bool.not_eq_false', Bool.and_eq_true, Bool.or_eq_true, Bool.or_eq_false_iff, Bool.and_eq_false_iff, Cont.pts.injEq, Cont.ints.injEq, Cont.bools.injEq, Cont.ptss.injEq, Cont.intss.injEq, Cont.boolss.injEq, true_and, and_true, implies_true]
    unfold ssQ
    cases h1 : nearB p1 p2 <;> cases h2 : nearB a1 a2 <;> cases h3 : nearB b1 b2 <;> simp
  · cases h
def insE (l : List Pt) (p1 p2 i : Int) : Bool := decide (0 ≤ crW (getx l i) (gety l i) (getx l (nx l i)) (gety l (nx l i)) p1 p2)
def insB (l : List Pt) (p1 p2 : Int) : Bool := allN (ilen l) (insE l p1 p2)
def g_spec_l8Inside : List AV → Option Sg
  | [.s (.view (.pts l)), .agg [.int p1, .int p2]] => some ⟨True, [.s (.bool (insB l p1 p2))]⟩
  | _ => none
def sig_spec_l8Inside : FuncId → List AV → Option Sg := sigL [(49, g_spec_l2Cross)]
def xs_spec_l8Inside : XS := ⟨xsigL [], ysigL []⟩
theorem sig_spec_l8Inside_ok : SigOK sig_spec_l8Inside := sigL_cons F_spec_l2Cross sigL_nil
theorem xs_spec_l8Inside_ok : XSigOK xs_spec_l8Inside := ⟨xsigL_nil, ysigL_nil⟩
theorem V_spec_l8Inside (l : List Pt) (p1 : Int) (p2 : Int) : ((true = true) ∧ ((True) ∧ (True) ∧ True) ∧ (true = true) ∧ ((True) ∧ True) ∧ ∃ (I1 : List GV → Prop) (μ1 : List GV → Nat), (((true = true) ∧ (((false : Bool) = false) ∧ (((0 : Int) : Int) = (0 : Int)) ∧ (true = true) ∧ ((Cont.pts l) = (Cont.pts l)) ∧ (((p1 : Int) = p1) ∧ ((p2 : Int) = p2) ∧ True) ∧ True) ∧ ((((p1 : Int) = p1) ∧ ((p2 : Int) = p2) ∧ True) ∧ True)) ∧ (([GK.int, GK.bool] : List GK) = ([GK.int, GK.bool] : List GK)) ∧ I1 [GV.int (0 : Int), GV.bool false]) ∧ (∀ i1_0 : Int, ∀ b1_1 : Bool, I1 [GV.int i1_0, GV.bool b1_1] → ((true = true) ∧ ((True) ∧ (True) ∧ (True) ∧ (True) ∧ True) ∧ ((ilt i1_0 (ilen l)) = true → ((true = true) ∧ ((True) ∧ (True) ∧ (NLe 0 i1_0 ∧ NLt i1_0 (ilen l)) ∧ (True) ∧ (True) ∧ (True) ∧ (True) ∧ (True) ∧ (True) ∧ (NNe (ilen l) 0) ∧ (NLe 0 (irem (iadd i1_0 (1 : Int)) (ilen l)) ∧ NLt (irem (iadd i1_0 (1 : Int)) (ilen l)) (ilen l)) ∧ (True) ∧ (True) ∧ ((True)) ∧ (True) ∧ True) ∧ ((ilt (crW (getx l i1_0) (gety l i1_0) (getx l (irem (iadd i1_0 (1 : Int)) (ilen l))) (gety l (irem (iadd i1_0 (1 : Int)) (ilen l))) p1 p2) (0 : Int)) = true → ((true = true) ∧ ((True) ∧ True) ∧ ((false : Bool) = (insB l p1 p2)) ∧ True)) ∧ ((ilt (crW (getx l i1_0) (gety l i1_0) (getx l (irem (iadd i1_0 (1 : Int)) (ilen l))) (gety l (irem (iadd i1_0 (1 : Int)) (ilen l))) p1 p2) (0 : Int)) = false → ((true = true) ∧ ((True) ∧ (True) ∧ (True) ∧ True) ∧ ((true = true) ∧ (((b1_1 : Bool) = b1_1) ∧ (((iadd i1_0 (1 : Int)) : Int) = (iadd i1_0 (1 : Int))) ∧ (true = true) ∧ ((Cont.pts l) = (Cont.pts l)) ∧ (((p1 : Int) = p1) ∧ ((p2 : Int) = p2) ∧ True) ∧ True) ∧ ((((p1 : Int) = p1) ∧ ((p2 : Int) = p2) ∧ True) ∧ True)) ∧ ((([GK.int, GK.bool] : List GK) = ([GK.int, GK.bool] : List GK)) ∧ I1 [GV.int (iadd i1_0 (1 : Int)), GV.bool b1_1] ∧ μ1 [GV.int (iadd i1_0 (1 : Int)), GV.bool b1_1] < μ1 [GV.int i1_0, GV.bool b1_1]))))) ∧ ((ilt i1_0 (ilen l)) = false → ((true = true) ∧ ((True) ∧ True) ∧ ((true : Bool) = (insB l p1 p2)) ∧ True))))) = ev sig_spec_l8Inside xs_spec_l8Inside Try.f51.ntmps (fun b => if b == 0 then [.v 5, .v 4] else []) (codeOf Try.f51) 0 (initS [.s (.view (.pts l)), .agg [.int p1, .int p2]]) (retK Try.f51.results.toList [.s (.bool (insB l p1 p2))]) := by kernel_rfl
set_option maxHeartbeats 400000 in
theorem F_spec_l8Inside : FunOK 51 g_spec_l8Inside := by
  refine fun_F (by kernel_rfl) Try.func51 rfl (by kernel_rfl) sig_spec_l8Inside_ok xs_spec_l8Inside_ok ?_
  intro avs sg h hn hl
  unfold g_spec_l8Inside at h
  split at h
  · rename_i l p1 p2
    injection h with h; subst h
    refine ⟨by kernel_rfl, fun b => if b == 0 then [.v 5, .v 4] else [], Eq.mp (V_spec_l8Inside l p1 p2) ?_⟩
    simp only [true_and, and_true, implies_true, and_self, forall_const, true_implies, lenA, lenL, SV.lenOK, Cont.lenOK] at hn hl ⊢
    have h0 := ilen_0 l
    simp only [ilt_t, ilt_f, ile_t, ile_f, ieq_t, ieq_f, bnot_e, band_e, bite_and, bite_or, NLt_e, NLe_e, NNe_e, NIs_e, imax_e, imin_e, irem_e, Bool.not_eq_true', Bool.not_eq_false', Bool.and_eq_true, Bool.or_eq_true, Bool.or_eq_false_iff, Bool.and_eq_false_iff, Cont.pts.injEq, Cont.ints.injEq, Cont.bools.injEq, Cont.ptss.injEq, Cont.intss.injEq, Cont.boolss.injEq, true_and, and_true, implies_true]
    refine ⟨fun | .int k :: _ => 0 ≤ k ∧ k ≤ ilen l ∧ (∀ i, 0 ≤ i → i < k → insE l p1 p2 i = true) | _ => False, fun | .int k :: _ => (ilen l - k).toNat | _ => 0, ?_, ?_⟩
    · exact ⟨Int.le_refl 0, h0, fun j h0 h1 => absurd h1 (by omega)⟩
    · rintro k _ ⟨hk0, hk1, hk⟩
      simp only [ilt_t, ilt_f, ile_t, ile_f, ieq_t, ieq_f, bnot_e, band_e, bite_and, bite_or, NLt_e, NLe_e, NNe_e, NIs_e, imax_e, imin_e, irem_e, Bool.not_eq_true', Bool.not_eq_false', Bool.and_eq_true, Bool.or_eq_true, Bool.or_eq_false_iff, Bool.and_eq_false_iff, Cont.pts.injEq, Cont.ints.injEq, Cont.bools.injEq, Cont.ptss.injEq, Cont.intss.injEq, Cont.boolss.injEq, true_and, and_true, implies_true]
      refine ⟨fun hkn => ?_, fun hkn => ?_⟩
      · have e1 := iadd_1 hk0 hkn hl
        obtain ⟨n0, n1, _⟩ := nx_in hk0 hkn
        have e2 : (k + 1).tmod (ilen l) = nx l k := rfl
        simp only [e1, e2]
        have hne : ilen l ≠ 0 := by omega
        refine ⟨⟨⟨hk0, hkn⟩, hne, ⟨n0, n1⟩⟩, fun hx => ?_, fun hx => ?_⟩
        · have hE : insE l p1 p2 k = false := by
            unfold insE
            simp only [decide_eq_false_iff_not]
            omega
          unfold insB
          rw [allN_no k hk0 hkn hE]
        · have hE : insE l p1 p2 k = true := by
            unfold insE
            simp only [decide_eq_true_eq]
            omega
          exact ⟨⟨by omega, by omega, allN_up hk hE⟩, by omega⟩
      · unfold insB
        rw [allN_mk fun i h0 h1 => hk i h0 (by omega)]
  · cases h
def hitE (l : List Pt) (a1 a2 b1 b2 i : Int) : Bool := meetB (a1, a2) (b1, b2) (getx l i, gety l i) (getx l (nx l i), gety l (nx l i))
def hitB (l : List Pt) (a1 a2 b1 b2 : Int) : Bool := insB l a1 a2 || insB l b1 b2 || anyN (ilen l) (hitE l a1 a2 b1 b2)
theorem allB_at {l : List Pt} (h : allB l = true) {i : Int} (h0 : 0 ≤ i) (h1 : i < ilen l) : vB (getx l i) (gety l i) = true := by
  rw [allB_N] at h; exact allN_iff.1 h i h0 h1
theorem convB_all {l : List Pt} (h : convB l = true) : 3 ≤ ilen l ∧ ilen l ≤ 8 ∧ allB l = true := by
  unfold convB at h
  simp only [Bool.and_eq_true] at h
  exact ⟨(inB_true h.1.1).1, (inB_true h.1.1).2, h.1.2⟩
theorem allB_2 (a1 a2 b1 b2 : Int) : allB [(a1, a2), (b1, b2)] = (vB a1 a2 && vB b1 b2) := by simp [allB]
def psqE (l : List Pt) (p1 p2 i : Int) : Int := ssqE p1 p2 (getx l i) (gety l i) (getx l (nx l i)) (gety l (nx l i))
def minF (l : List Pt) (p1 p2 k : Int) : Int := foldN k (fun s i => if s < 0 ∨ psqE l p1 p2 i < s then psqE l p1 p2 i else s) (-1)
def psqB (l : List Pt) (p1 p2 : Int) : Bool := convB l && nearB p1 p2 && allN (ilen l) fun i => nearB (getx l i) (gety l i)
def psq (l : List Pt) (p1 p2 : Int) : Int := if psqB l p1 p2 then (if insB l p1 p2 then 0 else minF l p1 p2 (ilen l)) else -1
theorem minF_1 {l : List Pt} {p1 p2 k : Int} (h : 0 ≤ k) : minF l p1 p2 (k + 1) = if minF l p1 p2 k < 0 ∨ psqE l p1 p2 k < minF l p1 p2 k then psqE l p1 p2 k else minF l p1 p2 k := by unfold minF; rw [foldN_1 h]
def g_spec_PolygonSquare : List AV → Option Sg
  | [.s (.view (.pts l)), .agg [.int p1, .int p2]] => some ⟨True, [.s (.int (psq l p1 p2))]⟩
  | _ => none
def sig_spec_PolygonSquare : FuncId → List AV → Option Sg := sigL [(14, g_spec_ConvexValid), (58, g_spec_l9Near), (59, g_spec_SegmentSquare), (51, g_spec_l8Inside)]
def xs_spec_PolygonSquare : XS := ⟨xsigL [], ysigL []⟩
theorem sig_spec_PolygonSquare_ok : SigOK sig_spec_PolygonSquare := sigL_cons F_spec_ConvexValid (sigL_cons F_spec_l9Near (sigL_cons F_spec_SegmentSquare (sigL_cons F_spec_l8Inside sigL_nil)))
theorem xs_spec_PolygonSquare_ok : XSigOK xs_spec_PolygonSquare := ⟨xsigL_nil, ysigL_nil⟩
theorem V_spec_PolygonSquare (l : List Pt) (p1 : Int) (p2 : Int) : ((true = true) ∧ ((True) ∧ (True) ∧ True) ∧ (true = true) ∧ ((True) ∧ ((True)) ∧ (True) ∧ (True) ∧ (NIs (bnot (convB l)) false → True) ∧ (NIs (bnot (convB l)) false → (True)) ∧ (NIs (bnot (convB l)) false → True) ∧ (True) ∧ True) ∧ ((bite (bnot (convB l)) true (bnot (nearB p1 p2))) = true → ((true = true) ∧ ((True) ∧ True) ∧ (((-1 : Int) : Int) = (psq l p1 p2)) ∧ True)) ∧ ((bite (bnot (convB l)) true (bnot (nearB p1 p2))) = false → ((true = true) ∧ ((True) ∧ True) ∧ (true = true) ∧ ((True) ∧ True) ∧ ∃ (I1 : List GV → Prop) (μ1 : List GV → Nat), (((true = true) ∧ ((((0 : Int) : Int) = (0 : Int)) ∧ (((-1 : Int) : Int) = (-1 : Int)) ∧ (((0 : Int) : Int) = (0 : Int)) ∧ ((Cont.pts l) = (Cont.pts l)) ∧ (((convB l) : Bool) = (convB l)) ∧ (((bnot (convB l)) : Bool) = (bnot (convB l))) ∧ (((bnot (convB l)) : Bool) = (bnot (convB l))) ∧ (((bite (bnot (convB l)) true (bnot (nearB p1 p2))) : Bool) = (bite (bnot (convB l)) true (bnot (nearB p1 p2)))) ∧ (true = true) ∧ ((Cont.pts l) = (Cont.pts l)) ∧ (((p1 : Int) = p1) ∧ ((p2 : Int) = p2) ∧ True) ∧ True) ∧ ((((p1 : Int) = p1) ∧ ((p2 : Int) = p2) ∧ True) ∧ True)) ∧ (([GK.int, GK.int, GK.int] : List GK) = ([GK.int, GK.int, GK.int] : List GK)) ∧ I1 [GV.int (0 : Int), GV.int (-1 : Int), GV.int (0 : Int)]) ∧ (∀ i1_0 : Int, ∀ i1_1 : Int, ∀ i1_2 : Int, I1 [GV.int i1_0, GV.int i1_1, GV.int i1_2] → ((true = true) ∧ ((True) ∧ (True) ∧ (True) ∧ (True) ∧ True) ∧ ((ilt i1_0 (ilen l)) = true → ((true = true) ∧ ((True) ∧ (True) ∧ (True) ∧ (NLe 0 i1_0 ∧ NLt i1_0 (ilen l)) ∧ (True) ∧ (True) ∧ (True) ∧ (True) ∧ (True) ∧ (True) ∧ (NNe (ilen l) 0) ∧ (NLe 0 (irem (iadd i1_0 (1 : Int)) (ilen l)) ∧ NLt (irem (iadd i1_0 (1 : Int)) (ilen l)) (ilen l)) ∧ (True) ∧ ((True)) ∧ (True) ∧ True) ∧ (true = true) ∧ ((True) ∧ (True) ∧ True) ∧ ((ilt (ssQ p1 p2 (getx l i1_0) (gety l i1_0) (getx l (irem (iadd i1_0 (1 : Int)) (ilen l))) (gety l (irem (iadd i1_0 (1 : Int)) (ilen l)))) (0 : Int)) = true → ((true = true) ∧ ((True) ∧ True) ∧ (((-1 : Int) : Int) = (psq l p1 p2)) ∧ True)) ∧ ((ilt (ssQ p1 p2 (getx l i1_0) (gety l i1_0) (getx l (irem (iadd i1_0 (1 : Int)) (ilen l))) (gety l (irem (iadd i1_0 (1 : Int)) (ilen l)))) (0 : Int)) = false → ((true = true) ∧ ((True) ∧ (True) ∧ (True) ∧ (NIs (ilt i1_1 (0 : Int)) false → True) ∧ (NIs (ilt i1_1 (0 : Int)) false → True) ∧ (NIs (ilt i1_1 (0 : Int)) false → True) ∧ (True) ∧ True) ∧ ((bite (ilt i1_1 (0 : Int)) true (ilt (ssQ p1 p2 (getx l i1_0) (gety l i1_0) (getx l (irem (iadd i1_0 (1 : Int)) (ilen l))) (gety l (irem (iadd i1_0 (1 : Int)) (ilen l)))) i1_1)) = true → ((true = true) ∧ ((True) ∧ (True) ∧ True) ∧ (true = true) ∧ ((True) ∧ (True) ∧ (True) ∧ True) ∧ ((true = true) ∧ (((i1_2 : Int) = i1_2) ∧ (((ssQ p1 p2 (getx l i1_0) (gety l i1_0) (getx l (irem (iadd i1_0 (1 : Int)) (ilen l))) (gety l (irem (iadd i1_0 (1 : Int)) (ilen l)))) : Int) = (ssQ p1 p2 (getx l i1_0) (gety l i1_0) (getx l (irem (iadd i1_0 (1 : Int)) (ilen l))) (gety l (irem (iadd i1_0 (1 : Int)) (ilen l))))) ∧ (((iadd i1_0 (1 : Int)) : Int) = (iadd i1_0 (1 : Int))) ∧ ((Cont.pts l) = (Cont.pts l)) ∧ (((convB l) : Bool) = (convB l)) ∧ (((bnot (convB l)) : Bool) = (bnot (convB l))) ∧ (((bnot (convB l)) : Bool) = (bnot (convB l))) ∧ (((bite (bnot (convB l)) true (bnot (nearB p1 p2))) : Bool) = (bite (bnot (convB l)) true (bnot (nearB p1 p2)))) ∧ (true = true) ∧ ((Cont.pts l) = (Cont.pts l)) ∧ (((p1 : Int) = p1) ∧ ((p2 : Int) = p2) ∧ True) ∧ True) ∧ ((((p1 : Int) = p1) ∧ ((p2 : Int) = p2) ∧ True) ∧ True)) ∧ ((([GK.int, GK.int, GK.int] : List GK) = ([GK.int, GK.int, GK.int] : List GK)) ∧ I1 [GV.int (iadd i1_0 (1 : Int)), GV.int (ssQ p1 p2 (getx l i1_0) (gety l i1_0) (getx l (irem (iadd i1_0 (1 : Int)) (ilen l))) (gety l (irem (iadd i1_0 (1 : Int)) (ilen l)))), GV.int i1_2] ∧ μ1 [GV.int (iadd i1_0 (1 : Int)), GV.int (ssQ p1 p2 (getx l i1_0) (gety l i1_0) (getx l (irem (iadd i1_0 (1 : Int)) (ilen l))) (gety l (irem (iadd i1_0 (1 : Int)) (ilen l)))), GV.int i1_2] < μ1 [GV.int i1_0, GV.int i1_1, GV.int i1_2]))) ∧ ((bite (ilt i1_1 (0 : Int)) true (ilt (ssQ p1 p2 (getx l i1_0) (gety l i1_0) (getx l (irem (iadd i1_0 (1 : Int)) (ilen l))) (gety l (irem (iadd i1_0 (1 : Int)) (ilen l)))) i1_1)) = false → ((true = true) ∧ ((True) ∧ (True) ∧ (True) ∧ True) ∧ ((true = true) ∧ (((i1_2 : Int) = i1_2) ∧ ((i1_1 : Int) = i1_1) ∧ (((iadd i1_0 (1 : Int)) : Int) = (iadd i1_0 (1 : Int))) ∧ ((Cont.pts l) = (Cont.pts l)) ∧ (((convB l) : Bool) = (convB l)) ∧ (((bnot (convB l)) : Bool) = (bnot (convB l))) ∧ (((bnot (convB l)) : Bool) = (bnot (convB l))) ∧ (((bite (bnot (convB l)) true (bnot (nearB p1 p2))) : Bool) = (bite (bnot (convB l)) true (bnot (nearB p1 p2)))) ∧ (true = true) ∧ ((Cont.pts l) = (Cont.pts l)) ∧ (((p1 : Int) = p1) ∧ ((p2 : Int) = p2) ∧ True) ∧ True) ∧ ((((p1 : Int) = p1) ∧ ((p2 : Int) = p2) ∧ True) ∧ True)) ∧ ((([GK.int, GK.int, GK.int] : List GK) = ([GK.int, GK.int, GK.int] : List GK)) ∧ I1 [GV.int (iadd i1_0 (1 : Int)), GV.int i1_1, GV.int i1_2] ∧ μ1 [GV.int (iadd i1_0 (1 : Int)), GV.int i1_1, GV.int i1_2] < μ1 [GV.int i1_0, GV.int i1_1, GV.int i1_2]))))))) ∧ ((ilt i1_0 (ilen l)) = false → ((true = true) ∧ ((True) ∧ (True) ∧ ((True)) ∧ True) ∧ ((insB l p1 p2) = true → ((true = true) ∧ ((True) ∧ True) ∧ (((0 : Int) : Int) = (psq l p1 p2)) ∧ True)) ∧ ((insB l p1 p2) = false → ((true = true) ∧ ((True) ∧ (True) ∧ True) ∧ ((i1_1 : Int) = (psq l p1 p2)) ∧ True))))))))) = ev sig_spec_PolygonSquare xs_spec_PolygonSquare Try.f30.ntmps (fun b => if b == 0 then [.v 6, .v 5, .v 4] else []) (codeOf Try.f30) 0 (initS [.s (.view (.pts l)), .agg [.int p1, .int p2]]) (retK Try.f30.results.toList [.s (.int (psq l p1 p2))]) := by kernel_rfl
set_option maxHeartbeats 400000 in
theorem F_spec_PolygonSquare : FunOK 30 g_spec_PolygonSquare := by
  refine fun_F (by kernel_rfl) Try.func30 rfl (by kernel_rfl) sig_spec_PolygonSquare_ok xs_spec_PolygonSquare_ok ?_
  intro avs sg h hn hl
  unfold g_spec_PolygonSquare at h
  split at h
  · rename_i l p1 p2
    injection h with h; subst h
    refine ⟨by kernel_rfl, fun b => if b == 0 then [.v 6, .v 5, .v 4] else [], Eq.mp (V_spec_PolygonSquare l p1 p2) ?_⟩
    simp only [true_and, and_true, implies_true, and_self, forall_const, true_implies, lenA, lenL, SV.lenOK, Cont.lenOK] at hn hl ⊢
    have h0 := ilen_0 l
    simp only [ilt_t, ilt_f, ile_t, ile_f, ieq_t, ieq_f, bnot_e, band_e, bite_and, bite_or, NLt_e, NLe_e, NNe_e, NIs_e, imax_e, imin_e, irem_e, Bool.not_eq_true', Bool.not_eq_false', Bool.and_eq_true, Bool.or_eq_true, Bool.or_eq_false_iff, Bool.and_eq_false_iff, Cont.pts.injEq, Cont.ints.injEq, Cont.bools.injEq, Cont.ptss.injEq, Cont.intss.injEq, Cont.boolss.injEq, true_and, and_true, implies_true]
    refine ⟨fun h => ?_, fun h => ?_⟩
    · have : psqB l p1 p2 = false := by unfold psqB; rcases h with h | h <;> simp [h]
      unfold psq; rw [this]; rfl
    · obtain ⟨hc, hp⟩ := h
      obtain ⟨c1, c2, c3⟩ := convB_all hc
      refine ⟨fun | .int k :: .int s :: _ => 0 ≤ k ∧ k ≤ ilen l ∧ s = minF l p1 p2 k ∧ (∀ i, 0 ≤ i → i < k → nearB (getx l i) (gety l i) = true) | _ => False, fun | .int k :: _ => (ilen l - k).toNat | _ => 0, ?_, ?_⟩
      · exact ⟨Int.le_refl 0, h0, rfl, fun j h0 h1 => absurd h1 (by omega)⟩
      · rintro k s _ ⟨hk0, hk1, hs, hk⟩
        refine ⟨fun hkn => ?_, fun hkn => ?_⟩
        · have e1 := iadd_1 hk0 hkn hl
          obtain ⟨n0, n1, _⟩ := nx_in hk0 hkn
          have e2 : (k + 1).tmod (ilen l) = nx l k := rfl
          simp only [e1, e2]
          have hstep := minF_1 (l := l) (p1 := p1) (p2 := p2) hk0
          refine ⟨⟨⟨hk0, hkn⟩, by omega, ⟨n0, n1⟩⟩, fun hx => ?_, fun hx => ?_⟩
          · have hN : allN (ilen l) (fun i => nearB (getx l i) (gety l i)) = false := by
              cases a1 : nearB (getx l k) (gety l k) with
              | false => exact allN_no k hk0 hkn a1
              | true =>
                cases a2 : nearB (getx l (nx l k)) (gety l (nx l k)) with
                | false => exact allN_no _ n0 n1 a2
                | true =>
                  rw [ssQ_e hp a1 a2] at hx
                  have := ssqE_0 p1 p2 (getx l k) (gety l k) (getx l (nx l k)) (gety l (nx l k))
                  omega
            have : psqB l p1 p2 = false := by unfold psqB; rw [hN]; simp
            unfold psq; rw [this]; rfl
          · obtain ⟨_, a1, a2⟩ := ssQ_0 hx
            have hq : ssQ p1 p2 (getx l k) (gety l k) (getx l (nx l k)) (gety l (nx l k)) = psqE l p1 p2 k := ssQ_e hp a1 a2
            simp only [hq]
            refine ⟨fun hx => ?_, fun hx => ?_⟩
            · rw [← hs, if_pos hx] at hstep
              exact ⟨⟨by omega, by omega, hstep.symm, upTo hk a1⟩, by omega⟩
            · rw [← hs, if_neg (by omega)] at hstep
              exact ⟨⟨by omega, by omega, hstep.symm, upTo hk a1⟩, by omega⟩
        · have e : k = ilen l := by omega
          subst e
          have hB : psqB l p1 p2 = true := by unfold psqB; rw [hc, hp, allN_mk fun i i0 i1 => hk i i0 i1]; rfl
          refine ⟨fun hi => by unfold psq; rw [hB, hi]; rfl, fun hi => ?_⟩
          unfold psq
          rw [hB, hi, hs]; rfl
  · cases h
def kcE (l : List (List Pt)) (p1 p2 d i : Int) : Bool := decide (0 ≤ psq (getl l i) p1 p2 ∧ d * d ≤ psq (getl l i) p1 p2)
def kcB (l : List (List Pt)) (p1 p2 d : Int) : Bool := inB d 0 1000 && ile (ilen l) 8 && allN (ilen l) (kcE l p1 p2 d)
theorem dd_w {d : Int} (h : 0 ≤ d ∧ d ≤ 1000) : imul d d = d * d := mul4 (by omega) (by omega)
def g_spec_KeepsClear : List AV → Option Sg
  | [.s (.view (.ptss l)), .agg [.int p1, .int p2], .s (.int d)] => some ⟨True, [.s (.bool (kcB l p1 p2 d))]⟩
  | _ => none
def sig_spec_KeepsClear : FuncId → List AV → Option Sg := sigL [(44, g_spec_l1In), (30, g_spec_PolygonSquare)]
def xs_spec_KeepsClear : XS := ⟨xsigL [], ysigL []⟩
theorem sig_spec_KeepsClear_ok : SigOK sig_spec_KeepsClear := sigL_cons F_spec_l1In (sigL_cons F_spec_PolygonSquare sigL_nil)
theorem xs_spec_KeepsClear_ok : XSigOK xs_spec_KeepsClear := ⟨xsigL_nil, ysigL_nil⟩
theorem V_spec_KeepsClear (l : List (List Pt)) (p1 : Int) (p2 : Int) (d : Int) : ((true = true) ∧ ((True) ∧ (True) ∧ True) ∧ (true = true) ∧ ((True) ∧ (True) ∧ (True) ∧ (True) ∧ (NIs (ilt (8 : Int) (ilen l)) false → True) ∧ (NIs (ilt (8 : Int) (ilen l)) false → (True)) ∧ (NIs (ilt (8 : Int) (ilen l)) false → True) ∧ (True) ∧ True) ∧ ((bite (ilt (8 : Int) (ilen l)) true (bnot (inB d (0 : Int) (1000 : Int)))) = true → ((true = true) ∧ ((True) ∧ True) ∧ ((false : Bool) = (kcB l p1 p2 d)) ∧ True)) ∧ ((bite (ilt (8 : Int) (ilen l)) true (bnot (inB d (0 : Int) (1000 : Int)))) = false → ((true = true) ∧ ((True) ∧ True) ∧ ∃ (I1 : List GV → Prop) (μ1 : List GV → Nat), (((true = true) ∧ (((false : Bool) = false) ∧ (((0 : Int) : Int) = (0 : Int)) ∧ ((Cont.ptss l) = (Cont.ptss l)) ∧ (((ilen l) : Int) = (ilen l)) ∧ (((ilt (8 : Int) (ilen l)) : Bool) = (ilt (8 : Int) (ilen l))) ∧ (((ilt (8 : Int) (ilen l)) : Bool) = (ilt (8 : Int) (ilen l))) ∧ (((bite (ilt (8 : Int) (ilen l)) true (bnot (inB d (0 : Int) (1000 : Int)))) : Bool) = (bite (ilt (8 : Int) (ilen l)) true (bnot (inB d (0 : Int) (1000 : Int))))) ∧ (true = true) ∧ ((Cont.ptss l) = (Cont.ptss l)) ∧ (((p1 : Int) = p1) ∧ ((p2 : Int) = p2) ∧ True) ∧ ((d : Int) = d) ∧ True) ∧ ((((p1 : Int) = p1) ∧ ((p2 : Int) = p2) ∧ True) ∧ True)) ∧ (([GK.int, GK.bool] : List GK) = ([GK.int, GK.bool] : List GK)) ∧ I1 [GV.int (0 : Int), GV.bool false]) ∧ (∀ i1_0 : Int, ∀ b1_1 : Bool, I1 [GV.int i1_0, GV.bool b1_1] → ((true = true) ∧ ((True) ∧ (True) ∧ (True) ∧ (True) ∧ True) ∧ ((ilt i1_0 (ilen l)) = true → ((true = true) ∧ ((True) ∧ (True) ∧ (NLe 0 i1_0 ∧ NLt i1_0 (ilen l)) ∧ (True) ∧ (True) ∧ ((True)) ∧ (True) ∧ True) ∧ (true = true) ∧ ((True) ∧ (True) ∧ (True) ∧ (NIs (ilt (psq (getl l i1_0) p1 p2) (0 : Int)) false → True) ∧ (NIs (ilt (psq (getl l i1_0) p1 p2) (0 : Int)) false → True) ∧ (NIs (ilt (psq (getl l i1_0) p1 p2) (0 : Int)) false → True) ∧ (NIs (ilt (psq (getl l i1_0) p1 p2) (0 : Int)) false → True) ∧ (NIs (ilt (psq (getl l i1_0) p1 p2) (0 : Int)) false → True) ∧ (True) ∧ True) ∧ ((bite (ilt (psq (getl l i1_0) p1 p2) (0 : Int)) true (ilt (psq (getl l i1_0) p1 p2) (imul d d))) = true → ((true = true) ∧ ((True) ∧ True) ∧ ((false : Bool) = (kcB l p1 p2 d)) ∧ True)) ∧ ((bite (ilt (psq (getl l i1_0) p1 p2) (0 : Int)) true (ilt (psq (getl l i1_0) p1 p2) (imul d d))) = false → ((true = true) ∧ ((True) ∧ (True) ∧ (True) ∧ True) ∧ ((true = true) ∧ (((b1_1 : Bool) = b1_1) ∧ (((iadd i1_0 (1 : Int)) : Int) = (iadd i1_0 (1 : Int))) ∧ ((Cont.ptss l) = (Cont.ptss l)) ∧ (((ilen l) : Int) = (ilen l)) ∧ (((ilt (8 : Int) (ilen l)) : Bool) = (ilt (8 : Int) (ilen l))) ∧ (((ilt (8 : Int) (ilen l)) : Bool) = (ilt (8 : Int) (ilen l))) ∧ (((bite (ilt (8 : Int) (ilen l)) true (bnot (inB d (0 : Int) (1000 : Int)))) : Bool) = (bite (ilt (8 : Int) (ilen l)) true (bnot (inB d (0 : Int) (1000 : Int))))) ∧ (true = true) ∧ ((Cont.ptss l) = (Cont.ptss l)) ∧ (((p1 : Int) = p1) ∧ ((p2 : Int) = p2) ∧ True) ∧ ((d : Int) = d) ∧ True) ∧ ((((p1 : Int) = p1) ∧ ((p2 : Int) = p2) ∧ True) ∧ True)) ∧ ((([GK.int, GK.bool] : List GK) = ([GK.int, GK.bool] : List GK)) ∧ I1 [GV.int (iadd i1_0 (1 : Int)), GV.bool b1_1] ∧ μ1 [GV.int (iadd i1_0 (1 : Int)), GV.bool b1_1] < μ1 [GV.int i1_0, GV.bool b1_1]))))) ∧ ((ilt i1_0 (ilen l)) = false → ((true = true) ∧ ((True) ∧ True) ∧ ((true : Bool) = (kcB l p1 p2 d)) ∧ True))))))) = ev sig_spec_KeepsClear xs_spec_KeepsClear Try.f34.ntmps (fun b => if b == 0 then [.v 7, .v 6] else []) (codeOf Try.f34) 0 (initS [.s (.view (.ptss l)), .agg [.int p1, .int p2], .s (.int d)]) (retK Try.f34.results.toList [.s (.bool (kcB l p1 p2 d))]) := by kernel_rfl
set_option maxHeartbeats 400000 in
theorem F_spec_KeepsClear : FunOK 34 g_spec_KeepsClear := by
  refine fun_F (by kernel_rfl) Try.func34 rfl (by kernel_rfl) sig_spec_KeepsClear_ok xs_spec_KeepsClear_ok ?_
  intro avs sg h hn hl
  unfold g_spec_KeepsClear at h
  split at h
  · rename_i l p1 p2 d
    injection h with h; subst h
    refine ⟨by kernel_rfl, fun b => if b == 0 then [.v 7, .v 6] else [], Eq.mp (V_spec_KeepsClear l p1 p2 d) ?_⟩
    simp only [true_and, and_true, implies_true, and_self, forall_const, true_implies, lenA, lenL, SV.lenOK, Cont.lenOK] at hn hl ⊢
    have h0 := ilen_0 l
    simp only [ilt_t, ilt_f, ile_t, ile_f, ieq_t, ieq_f, bnot_e, band_e, bite_and, bite_or, NLt_e, NLe_e, NNe_e, NIs_e, imax_e, imin_e, irem_e, Bool.not_eq_true', Bool.not_eq_false', Bool.and_eq_true, Bool.or_eq_true, Bool.or_eq_false_iff, Bool.and_eq_false_iff, Cont.pts.injEq, Cont.ints.injEq, Cont.bools.injEq, Cont.ptss.injEq, Cont.intss.injEq, Cont.boolss.injEq, true_and, and_true, implies_true]
    refine ⟨fun h => ?_, fun h => ?_⟩
    · unfold kcB ile
      rcases h with h | h <;> simp [h] <;> omega
    · obtain ⟨hc, hp⟩ := h
      have hd := inB_true hp
      simp only [dd_w hd]
      refine ⟨fun | .int k :: _ => 0 ≤ k ∧ k ≤ ilen l ∧ (∀ i, 0 ≤ i → i < k → kcE l p1 p2 d i = true) | _ => False, fun | .int k :: _ => (ilen l - k).toNat | _ => 0, ?_, ?_⟩
      · exact ⟨Int.le_refl 0, h0, fun j h0 h1 => absurd h1 (by omega)⟩
      · rintro k _ ⟨hk0, hk1, hk⟩
        simp only [ilt_t, ilt_f, ile_t, ile_f, ieq_t, ieq_f, bnot_e, band_e, bite_and, bite_or, NLt_e, NLe_e, NNe_e, NIs_e, imax_e, imin_e, irem_e, Bool.not_eq_true', Bool.not_eq_false', Bool.and_eq_true, Bool.or_eq_true, Bool.or_eq_false_iff, Bool.and_eq_false_iff, Cont.pts.injEq, Cont.ints.injEq, Cont.bools.injEq, Cont.ptss.injEq, Cont.intss.injEq, Cont.boolss.injEq, true_and, and_true, implies_true]
        refine ⟨fun hkn => ?_, fun hkn => ?_⟩
        · refine ⟨⟨hk0, hkn⟩, fun hx => ?_, fun hx => ?_⟩
          · have hE : kcE l p1 p2 d k = false := by unfold kcE; simp only [decide_eq_false_iff_not]; omega
            unfold kcB
            rw [allN_no k hk0 hkn hE]; simp
          · have hE : kcE l p1 p2 d k = true := by unfold kcE; simp only [decide_eq_true_eq]; omega
            rw [iadd_1 hk0 hkn hl.1]
            exact ⟨⟨by omega, by omega, upTo hk hE⟩, by omega⟩
        · unfold kcB
          rw [hp, allN_mk fun i i0 i1 => hk i i0 (by omega)]
          simp [ile]; omega
  · cases h
def g_impl_within : List AV → Option Sg
  | [.s (.int n), .s (.int lo), .s (.int hi)] => some ⟨True, [.s (.bool (inB n lo hi))]⟩
  | _ => none
def sig_impl_within : FuncId → List AV → Option Sg := sigL []
def xs_impl_within : XS := ⟨xsigL [], ysigL []⟩
theorem sig_impl_within_ok : SigOK sig_impl_within := sigL_nil
theorem xs_impl_within_ok : XSigOK xs_impl_within := ⟨xsigL_nil, ysigL_nil⟩
theorem V_impl_within (n : Int) (lo : Int) (hi : Int) : ((true = true) ∧ ((True) ∧ True) ∧ (true = true) ∧ ((True) ∧ (True) ∧ (True) ∧ (True) ∧ (NIs (ile lo n) true → True) ∧ (NIs (ile lo n) true → True) ∧ (NIs (ile lo n) true → True) ∧ (True) ∧ (True) ∧ True) ∧ (((bite (ile lo n) (ile n hi) false) : Bool) = (inB n lo hi)) ∧ True) = ev sig_impl_within xs_impl_within Try.f45.ntmps (fun b => []) (codeOf Try.f45) 0 (initS [.s (.int n), .s (.int lo), .s (.int hi)]) (retK Try.f45.results.toList [.s (.bool (inB n lo hi))]) := by kernel_rfl
set_option maxHeartbeats 400000 in
theorem F_impl_within : FunOK 45 g_impl_within := by
  refine fun_F (by kernel_rfl) Try.func45 rfl (by kernel_rfl) sig_impl_within_ok xs_impl_within_ok ?_
  intro avs sg h hn hl
  unfold g_impl_within at h
  split at h
  · rename_i n lo hi
    injection h with h; subst h
    refine ⟨by kernel_rfl, fun b => [], Eq.mp (V_impl_within n lo hi) ?_⟩
    simp only [true_and, and_true, implies_true, and_self, forall_const, true_implies, lenA, lenL, SV.lenOK, Cont.lenOK] at hn hl ⊢
    simp only [bite_and, inB_eq]
  · cases h
def g_impl_PointValid : List AV → Option Sg
  | [.agg [.int p1, .int p2]] => some ⟨True, [.s (.bool (vB p1 p2))]⟩
  | _ => none
def sig_impl_PointValid : FuncId → List AV → Option Sg := sigL [(45, g_impl_within)]
def xs_impl_PointValid : XS := ⟨xsigL [], ysigL []⟩
theorem sig_impl_PointValid_ok : SigOK sig_impl_PointValid := sigL_cons F_impl_within sigL_nil
theorem xs_impl_PointValid_ok : XSigOK xs_impl_PointValid := ⟨xsigL_nil, ysigL_nil⟩
theorem V_impl_PointValid (p1 : Int) (p2 : Int) : ((true = true) ∧ ((True) ∧ (True) ∧ True) ∧ (true = true) ∧ ((True) ∧ (True) ∧ ((True)) ∧ (True) ∧ (NIs (inB p1 (-10000 : Int) (10000 : Int)) true → True) ∧ (NIs (inB p1 (-10000 : Int) (10000 : Int)) true → True) ∧ (NIs (inB p1 (-10000 : Int) (10000 : Int)) true → (True)) ∧ (True) ∧ (True) ∧ True) ∧ (((bite (inB p1 (-10000 : Int) (10000 : Int)) (inB p2 (-10000 : Int) (10000 : Int)) false) : Bool) = (vB p1 p2)) ∧ True) = ev sig_impl_PointValid xs_impl_PointValid Try.f52.ntmps (fun b => []) (codeOf Try.f52) 0 (initS [.agg [.int p1, .int p2]]) (retK Try.f52.results.toList [.s (.bool (vB p1 p2))]) := by kernel_rfl
set_option maxHeartbeats 400000 in
theorem F_impl_PointValid : FunOK 52 g_impl_PointValid := by
  refine fun_F (by kernel_rfl) Try.func52 rfl (by kernel_rfl) sig_impl_PointValid_ok xs_impl_PointValid_ok ?_
  intro avs sg h hn hl
  unfold g_impl_PointValid at h
  split at h
  · rename_i p1 p2
    injection h with h; subst h
    refine ⟨by kernel_rfl, fun b => [], Eq.mp (V_impl_PointValid p1 p2) ?_⟩
    simp only [true_and, and_true, implies_true, and_self, forall_const, true_implies, lenA, lenL, SV.lenOK, Cont.lenOK] at hn hl ⊢
    simp only [bite_and, vB]
  · cases h
def g_impl_allPoints : List AV → Option Sg
  | [.s (.view (.pts l))] => some ⟨True, [.s (.bool (allB l))]⟩
  | _ => none
def sig_impl_allPoints : FuncId → List AV → Option Sg := sigL [(52, g_impl_PointValid)]
def xs_impl_allPoints : XS := ⟨xsigL [], ysigL []⟩
theorem sig_impl_allPoints_ok : SigOK sig_impl_allPoints := sigL_cons F_impl_PointValid sigL_nil
theorem xs_impl_allPoints_ok : XSigOK xs_impl_allPoints := ⟨xsigL_nil, ysigL_nil⟩
theorem V_impl_allPoints (l : List Pt) : ((true = true) ∧ ((True) ∧ True) ∧ (true = true) ∧ ((True) ∧ (True) ∧ (True) ∧ True) ∧ ∃ (I1 : List GV → Prop) (μ1 : List GV → Nat), (((true = true) ∧ (((false : Bool) = false) ∧ (((0 : Int) : Int) = (0 : Int)) ∧ ((Cont.pts l) = (Cont.pts l)) ∧ (((ilen l) : Int) = (ilen l)) ∧ ((Cont.pts l) = (Cont.pts l)) ∧ True) ∧ (True)) ∧ (([GK.int, GK.bool] : List GK) = ([GK.int, GK.bool] : List GK)) ∧ I1 [GV.int (0 : Int), GV.bool false]) ∧ (∀ i1_0 : Int, ∀ b1_1 : Bool, I1 [GV.int i1_0, GV.bool b1_1] → ((true = true) ∧ ((True) ∧ True) ∧ ((ilt i1_0 (ilen l)) = true → ((true = true) ∧ ((NLe 0 i1_0 ∧ NLt i1_0 (ilen l)) ∧ (True) ∧ (True) ∧ True) ∧ (True) ∧ (true = true) ∧ ((True) ∧ ((True)) ∧ (True) ∧ True) ∧ ((bnot (vB (getx l i1_0) (gety l i1_0))) = true → ((true = true) ∧ ((True) ∧ True) ∧ ((false : Bool) = (allB l)) ∧ True)) ∧ ((bnot (vB (getx l i1_0) (gety l i1_0))) = false → ((true = true) ∧ ((True) ∧ (True) ∧ True) ∧ ((true = true) ∧ (((b1_1 : Bool) = b1_1) ∧ (((iadd i1_0 (1 : Int)) : Int) = (iadd i1_0 (1 : Int))) ∧ ((Cont.pts l) = (Cont.pts l)) ∧ (((ilen l) : Int) = (ilen l)) ∧ ((Cont.pts l) = (Cont.pts l)) ∧ True) ∧ (True)) ∧ ((([GK.int, GK.bool] : List GK) = ([GK.int, GK.bool] : List GK)) ∧ I1 [GV.int (iadd i1_0 (1 : Int)), GV.bool b1_1] ∧ μ1 [GV.int (iadd i1_0 (1 : Int)), GV.bool b1_1] < μ1 [GV.int i1_0, GV.bool b1_1]))))) ∧ ((ilt i1_0 (ilen l)) = false → ((true = true) ∧ ((True) ∧ True) ∧ ((true : Bool) = (allB l)) ∧ True))))) = ev sig_impl_allPoints xs_impl_allPoints Try.f46.ntmps (fun b => if b == 0 then [.v 7, .v 2] else []) (codeOf Try.f46) 0 (initS [.s (.view (.pts l))]) (retK Try.f46.results.toList [.s (.bool (allB l))]) := by kernel_rfl
set_option maxHeartbeats 400000 in
theorem F_impl_allPoints : FunOK 46 g_impl_allPoints := by
  refine fun_F (by kernel_rfl) Try.func46 rfl (by kernel_rfl) sig_impl_allPoints_ok xs_impl_allPoints_ok ?_
  intro avs sg h hn hl
  unfold g_impl_allPoints at h
  split at h
  · rename_i l
    injection h with h; subst h
    refine ⟨by kernel_rfl, fun b => if b == 0 then [.v 7, .v 2] else [], Eq.mp (V_impl_allPoints l) ?_⟩
    simp only [true_and, and_true, implies_true, and_self, forall_const, true_implies, lenA, lenL, SV.lenOK, Cont.lenOK] at hn hl ⊢
    have h0 := ilen_0 l
    simp only [ilt_t, ilt_f, ile_t, ile_f, ieq_t, ieq_f, bnot_e, band_e, bite_and, bite_or, NLt_e, NLe_e, NNe_e, NIs_e, imax_e, imin_e, irem_e, Bool.not_eq_true', Bool.not_eq_false', Bool.and_eq_true, Bool.or_eq_true, Bool.or_eq_false_iff, Bool.and_eq_false_iff, Cont.pts.injEq, Cont.ints.injEq, Cont.bools.injEq, Cont.ptss.injEq, Cont.intss.injEq, Cont.boolss.injEq, true_and, and_true, implies_true]
    refine ⟨fun | .int k :: _ => 0 ≤ k ∧ k ≤ ilen l ∧ (∀ j, 0 ≤ j → j < k → vB (getx l j) (gety l j) = true) | _ => False, fun | .int k :: _ => (ilen l - k).toNat | _ => 0, ?_, ?_⟩
    · exact ⟨Int.le_refl 0, h0, fun j h0 h1 => absurd h1 (by omega)⟩
    · rintro k _ ⟨hk0, hk1, hk⟩
      simp only [ilt_t, ilt_f, ile_t, ile_f, ieq_t, ieq_f, bnot_e, band_e, bite_and, bite_or, NLt_e, NLe_e, NNe_e, NIs_e, imax_e, imin_e, irem_e, Bool.not_eq_true', Bool.not_eq_false', Bool.and_eq_true, Bool.or_eq_true, Bool.or_eq_false_iff, Bool.and_eq_false_iff, Cont.pts.injEq, Cont.ints.injEq, Cont.bools.injEq, Cont.ptss.injEq, Cont.intss.injEq, Cont.boolss.injEq, true_and, and_true, implies_true]
      refine ⟨fun hc => ⟨⟨hk0, hc⟩, fun hv => ?_, fun hv => ?_⟩, fun hc => ?_⟩
      · rw [allB_N, allN_no k hk0 hc hv]
      · rw [iadd_1 hk0 hc hl]
        exact ⟨⟨by omega, by omega, allN_up hk hv⟩, by omega⟩
      · rw [allB_N, allN_mk fun j h0 h1 => hk j h0 (by omega)]
  · cases h
def g_impl_cross : List AV → Option Sg
  | [.agg [.int a1, .int a2], .agg [.int b1, .int b2], .agg [.int c1, .int c2]] => some ⟨True, [.s (.int (crW a1 a2 b1 b2 c1 c2))]⟩
  | _ => none
def sig_impl_cross : FuncId → List AV → Option Sg := sigL []
def xs_impl_cross : XS := ⟨xsigL [], ysigL []⟩
theorem sig_impl_cross_ok : SigOK sig_impl_cross := sigL_nil
theorem xs_impl_cross_ok : XSigOK xs_impl_cross := ⟨xsigL_nil, ysigL_nil⟩
theorem V_impl_cross (a1 : Int) (a2 : Int) (b1 : Int) (b2 : Int) (c1 : Int) (c2 : Int) : ((true = true) ∧ ((True) ∧ (True) ∧ (True) ∧ (True) ∧ True) ∧ (true = true) ∧ ((True) ∧ (True) ∧ (True) ∧ (True) ∧ (True) ∧ (True) ∧ (True) ∧ (True) ∧ (True) ∧ (True) ∧ (True) ∧ (True) ∧ (True) ∧ (True) ∧ (True) ∧ (True) ∧ (True) ∧ (True) ∧ (True) ∧ (True) ∧ (True) ∧ (True) ∧ (True) ∧ (True) ∧ True) ∧ (((isub (imul (isub b1 a1) (isub c2 a2)) (imul (isub b2 a2) (isub c1 a1))) : Int) = (crW a1 a2 b1 b2 c1 c2)) ∧ True) = ev sig_impl_cross xs_impl_cross Try.f47.ntmps (fun b => []) (codeOf Try.f47) 0 (initS [.agg [.int a1, .int a2], .agg [.int b1, .int b2], .agg [.int c1, .int c2]]) (retK Try.f47.results.toList [.s (.int (crW a1 a2 b1 b2 c1 c2))]) := by kernel_rfl
set_option maxHeartbeats 400000 in
theorem F_impl_cross : FunOK 47 g_impl_cross := by
  refine fun_F (by kernel_rfl) Try.func47 rfl (by kernel_rfl) sig_impl_cross_ok xs_impl_cross_ok ?_
  intro avs sg h hn hl
  unfold g_impl_cross at h
  split at h
  · rename_i a1 a2 b1 b2 c1 c2
    injection h with h; subst h
    refine ⟨by kernel_rfl, fun b => [], Eq.mp (V_impl_cross a1 a2 b1 b2 c1 c2) ?_⟩
    simp only [true_and, and_true, implies_true, and_self, forall_const, true_implies, lenA, lenL, SV.lenOK, Cont.lenOK] at hn hl ⊢
    simp only [crW]
  · cases h
def g_impl_ConvexValid : List AV → Option Sg
  | [.s (.view (.pts l))] => some ⟨True, [.s (.bool (convB l))]⟩
  | _ => none
def sig_impl_ConvexValid : FuncId → List AV → Option Sg := sigL [(45, g_impl_within), (46, g_impl_allPoints), (47, g_impl_cross)]
def xs_impl_ConvexValid : XS := ⟨xsigL [], ysigL []⟩
theorem sig_impl_ConvexValid_ok : SigOK sig_impl_ConvexValid := sigL_cons F_impl_within (sigL_cons F_impl_allPoints (sigL_cons F_impl_cross sigL_nil))
theorem xs_impl_ConvexValid_ok : XSigOK xs_impl_ConvexValid := ⟨xsigL_nil, ysigL_nil⟩
theorem V_impl_ConvexValid (l : List Pt) : ((true = true) ∧ ((True) ∧ True) ∧ (true = true) ∧ ((True) ∧ (True) ∧ ((True)) ∧ (True) ∧ (True) ∧ (NIs (bnot (inB (ilen l) (3 : Int) (8 : Int))) false → True) ∧ (NIs (bnot (inB (ilen l) (3 : Int) (8 : Int))) false → (True)) ∧ (NIs (bnot (inB (ilen l) (3 : Int) (8 : Int))) false → True) ∧ (True) ∧ True) ∧ ((bite (bnot (inB (ilen l) (3 : Int) (8 : Int))) true (bnot (allB l))) = true → ((true = true) ∧ ((True) ∧ True) ∧ ((false : Bool) = (convB l)) ∧ True)) ∧ ((bite (bnot (inB (ilen l) (3 : Int) (8 : Int))) true (bnot (allB l))) = false → ((true = true) ∧ ((True) ∧ (True) ∧ (True) ∧ True) ∧ ∃ (I1 : List GV → Prop) (μ1 : List GV → Nat), (((true = true) ∧ (((false : Bool) = false) ∧ (((0 : Int) : Int) = (0 : Int)) ∧ ((Cont.pts l) = (Cont.pts l)) ∧ (((ilen l) : Int) = (ilen l)) ∧ ((Cont.pts l) = (Cont.pts l)) ∧ (((ilen l) : Int) = (ilen l)) ∧ (((inB (ilen l) (3 : Int) (8 : Int)) : Bool) = (inB (ilen l) (3 : Int) (8 : Int))) ∧ (((bnot (inB (ilen l) (3 : Int) (8 : Int))) : Bool) = (bnot (inB (ilen l) (3 : Int) (8 : Int)))) ∧ (((bnot (inB (ilen l) (3 : Int) (8 : Int))) : Bool) = (bnot (inB (ilen l) (3 : Int) (8 : Int)))) ∧ (((bite (bnot (inB (ilen l) (3 : Int) (8 : Int))) true (bnot (allB l))) : Bool) = (bite (bnot (inB (ilen l) (3 : Int) (8 : Int))) true (bnot (allB l)))) ∧ ((Cont.pts l) = (Cont.pts l)) ∧ True) ∧ (True)) ∧ (([GK.int, GK.bool] : List GK) = ([GK.int, GK.bool] : List GK)) ∧ I1 [GV.int (0 : Int), GV.bool false]) ∧ (∀ i1_0 : Int, ∀ b1_1 : Bool, I1 [GV.int i1_0, GV.bool b1_1] → ((true = true) ∧ ((True) ∧ True) ∧ ((ilt i1_0 (ilen l)) = true → ((true = true) ∧ ((True) ∧ (NLe 0 i1_0 ∧ NLt i1_0 (ilen l)) ∧ (True) ∧ (True) ∧ (True) ∧ True) ∧ (True) ∧ (true = true) ∧ ((True) ∧ (True) ∧ (True) ∧ (True) ∧ (NNe (ilen l) 0) ∧ (True) ∧ True) ∧ (true = true) ∧ ((True) ∧ (True) ∧ (True) ∧ True) ∧ ∃ (I2 : List GV → Prop) (μ2 : List GV → Nat), (((true = true) ∧ (((b1_1 : Bool) = b1_1) ∧ (((0 : Int) : Int) = (0 : Int)) ∧ ((Cont.pts l) = (Cont.pts l)) ∧ (((ilen l) : Int) = (ilen l)) ∧ ((i1_0 : Int) = i1_0) ∧ (((iadd i1_0 (1 : Int)) : Int) = (iadd i1_0 (1 : Int))) ∧ ((Cont.pts l) = (Cont.pts l)) ∧ (((ilen l) : Int) = (ilen l)) ∧ (((irem (iadd i1_0 (1 : Int)) (ilen l)) : Int) = (irem (iadd i1_0 (1 : Int)) (ilen l))) ∧ (((irem (iadd i1_0 (1 : Int)) (ilen l)) : Int) = (irem (iadd i1_0 (1 : Int)) (ilen l))) ∧ ((i1_0 : Int) = i1_0) ∧ ((((getx l i1_0) : Int) = (getx l i1_0)) ∧ (((gety l i1_0) : Int) = (gety l i1_0)) ∧ True) ∧ (true = true) ∧ ((i1_0 : Int) = i1_0) ∧ (((ilt i1_0 (ilen l)) : Bool) = (ilt i1_0 (ilen l))) ∧ ((i1_0 : Int) = i1_0) ∧ ((Cont.pts l) = (Cont.pts l)) ∧ (((ilen l) : Int) = (ilen l)) ∧ ((Cont.pts l) = (Cont.pts l)) ∧ (((ilen l) : Int) = (ilen l)) ∧ (((inB (ilen l) (3 : Int) (8 : Int)) : Bool) = (inB (ilen l) (3 : Int) (8 : Int))) ∧ (((bnot (inB (ilen l) (3 : Int) (8 : Int))) : Bool) = (bnot (inB (ilen l) (3 : Int) (8 : Int)))) ∧ (((bnot (inB (ilen l) (3 : Int) (8 : Int))) : Bool) = (bnot (inB (ilen l) (3 : Int) (8 : Int)))) ∧ (((bite (bnot (inB (ilen l) (3 : Int) (8 : Int))) true (bnot (allB l))) : Bool) = (bite (bnot (inB (ilen l) (3 : Int) (8 : Int))) true (bnot (allB l)))) ∧ ((Cont.pts l) = (Cont.pts l)) ∧ True) ∧ (((((getx l i1_0) : Int) = (getx l i1_0)) ∧ (((gety l i1_0) : Int) = (gety l i1_0)) ∧ True) ∧ True)) ∧ (([GK.int, GK.bool] : List GK) = ([GK.int, GK.bool] : List GK)) ∧ I2 [GV.int (0 : Int), GV.bool b1_1]) ∧ (∀ i2_0 : Int, ∀ b2_1 : Bool, I2 [GV.int i2_0, GV.bool b2_1] → ((true = true) ∧ ((True) ∧ True) ∧ ((ilt i2_0 (ilen l)) = true → ((true = true) ∧ ((True) ∧ (NLe 0 i2_0 ∧ NLt i2_0 (ilen l)) ∧ (True) ∧ (True) ∧ (True) ∧ True) ∧ (True) ∧ (true = true) ∧ ((True) ∧ (True) ∧ (True) ∧ (True) ∧ (NIs (bnot (ieq i2_0 i1_0)) true → True) ∧ (NIs (bnot (ieq i2_0 i1_0)) true → True) ∧ (NIs (bnot (ieq i2_0 i1_0)) true → True) ∧ (True) ∧ (True) ∧ (NIs (bite (bnot (ieq i2_0 i1_0)) (bnot (ieq i2_0 (irem (iadd i1_0 (1 : Int)) (ilen l)))) false) true → True) ∧ (NIs (bite (bnot (ieq i2_0 i1_0)) (bnot (ieq i2_0 (irem (iadd i1_0 (1 : Int)) (ilen l)))) false) true → True) ∧ (NIs (bite (bnot (ieq i2_0 i1_0)) (bnot (ieq i2_0 (irem (iadd i1_0 (1 : Int)) (ilen l)))) false) true → True) ∧ (NIs (bite (bnot (ieq i2_0 i1_0)) (bnot (ieq i2_0 (irem (iadd i1_0 (1 : Int)) (ilen l)))) false) true → (NLe 0 (irem (iadd i1_0 (1 : Int)) (ilen l)) ∧ NLt (irem (iadd i1_0 (1 : Int)) (ilen l)) (ilen l))) ∧ (NIs (bite (bnot (ieq i2_0 i1_0)) (bnot (ieq i2_0 (irem (iadd i1_0 (1 : Int)) (ilen l)))) false) true → True) ∧ (NIs (bite (bnot (ieq i2_0 i1_0)) (bnot (ieq i2_0 (irem (iadd i1_0 (1 : Int)) (ilen l)))) false) true → True) ∧ (NIs (bite (bnot (ieq i2_0 i1_0)) (bnot (ieq i2_0 (irem (iadd i1_0 (1 : Int)) (ilen l)))) false) true → (True)) ∧ (NIs (bite (bnot (ieq i2_0 i1_0)) (bnot (ieq i2_0 (irem (iadd i1_0 (1 : Int)) (ilen l)))) false) true → True) ∧ (True) ∧ True) ∧ ((bite (bite (bnot (ieq i2_0 i1_0)) (bnot (ieq i2_0 (irem (iadd i1_0 (1 : Int)) (ilen l)))) false) (ile (crW (getx l i1_0) (gety l i1_0) (getx l (irem (iadd i1_0 (1 : Int)) (ilen l))) (gety l (irem (iadd i1_0 (1 : Int)) (ilen l))) (getx l i2_0) (gety l i2_0)) (0 : Int)) false) = true → ((true = true) ∧ ((True) ∧ True) ∧ ((false : Bool) = (convB l)) ∧ True)) ∧ ((bite (bite (bnot (ieq i2_0 i1_0)) (bnot (ieq i2_0 (irem (iadd i1_0 (1 : Int)) (ilen l)))) false) (ile (crW (getx l i1_0) (gety l i1_0) (getx l (irem (iadd i1_0 (1 : Int)) (ilen l))) (gety l (irem (iadd i1_0 (1 : Int)) (ilen l))) (getx l i2_0) (gety l i2_0)) (0 : Int)) false) = false → ((true = true) ∧ ((True) ∧ (True) ∧ True) ∧ ((true = true) ∧ (((b2_1 : Bool) = b2_1) ∧ (((iadd i2_0 (1 : Int)) : Int) = (iadd i2_0 (1 : Int))) ∧ ((Cont.pts l) = (Cont.pts l)) ∧ (((ilen l) : Int) = (ilen l)) ∧ ((i1_0 : Int) = i1_0) ∧ (((iadd i1_0 (1 : Int)) : Int) = (iadd i1_0 (1 : Int))) ∧ ((Cont.pts l) = (Cont.pts l)) ∧ (((ilen l) : Int) = (ilen l)) ∧ (((irem (iadd i1_0 (1 : Int)) (ilen l)) : Int) = (irem (iadd i1_0 (1 : Int)) (ilen l))) ∧ (((irem (iadd i1_0 (1 : Int)) (ilen l)) : Int) = (irem (iadd i1_0 (1 : Int)) (ilen l))) ∧ ((i1_0 : Int) = i1_0) ∧ ((((getx l i1_0) : Int) = (getx l i1_0)) ∧ (((gety l i1_0) : Int) = (gety l i1_0)) ∧ True) ∧ (true = true) ∧ ((i1_0 : Int) = i1_0) ∧ (((ilt i1_0 (ilen l)) : Bool) = (ilt i1_0 (ilen l))) ∧ ((i1_0 : Int) = i1_0) ∧ ((Cont.pts l) = (Cont.pts l)) ∧ (((ilen l) : Int) = (ilen l)) ∧ ((Cont.pts l) = (Cont.pts l)) ∧ (((ilen l) : Int) = (ilen l)) ∧ (((inB (ilen l) (3 : Int) (8 : Int)) : Bool) = (inB (ilen l) (3 : Int) (8 : Int))) ∧ (((bnot (inB (ilen l) (3 : Int) (8 : Int))) : Bool) = (bnot (inB (ilen l) (3 : Int) (8 : Int)))) ∧ (((bnot (inB (ilen l) (3 : Int) (8 : Int))) : Bool) = (bnot (inB (ilen l) (3 : Int) (8 : Int)))) ∧ (((bite (bnot (inB (ilen l) (3 : Int) (8 : Int))) true (bnot (allB l))) : Bool) = (bite (bnot (inB (ilen l) (3 : Int) (8 : Int))) true (bnot (allB l)))) ∧ ((Cont.pts l) = (Cont.pts l)) ∧ True) ∧ (((((getx l i1_0) : Int) = (getx l i1_0)) ∧ (((gety l i1_0) : Int) = (gety l i1_0)) ∧ True) ∧ True)) ∧ ((([GK.int, GK.bool] : List GK) = ([GK.int, GK.bool] : List GK)) ∧ I2 [GV.int (iadd i2_0 (1 : Int)), GV.bool b2_1] ∧ μ2 [GV.int (iadd i2_0 (1 : Int)), GV.bool b2_1] < μ2 [GV.int i2_0, GV.bool b2_1]))))) ∧ ((ilt i2_0 (ilen l)) = false → ((true = true) ∧ ((True) ∧ (True) ∧ True) ∧ ((true = true) ∧ (((b2_1 : Bool) = b2_1) ∧ (((iadd i1_0 (1 : Int)) : Int) = (iadd i1_0 (1 : Int))) ∧ ((Cont.pts l) = (Cont.pts l)) ∧ (((ilen l) : Int) = (ilen l)) ∧ ((Cont.pts l) = (Cont.pts l)) ∧ (((ilen l) : Int) = (ilen l)) ∧ (((inB (ilen l) (3 : Int) (8 : Int)) : Bool) = (inB (ilen l) (3 : Int) (8 : Int))) ∧ (((bnot (inB (ilen l) (3 : Int) (8 : Int))) : Bool) = (bnot (inB (ilen l) (3 : Int) (8 : Int)))) ∧ (((bnot (inB (ilen l) (3 : Int) (8 : Int))) : Bool) = (bnot (inB (ilen l) (3 : Int) (8 : Int)))) ∧ (((bite (bnot (inB (ilen l) (3 : Int) (8 : Int))) true (bnot (allB l))) : Bool) = (bite (bnot (inB (ilen l) (3 : Int) (8 : Int))) true (bnot (allB l)))) ∧ ((Cont.pts l) = (Cont.pts l)) ∧ True) ∧ (True)) ∧ ((([GK.int, GK.bool] : List GK) = ([GK.int, GK.bool] : List GK)) ∧ I1 [GV.int (iadd i1_0 (1 : Int)), GV.bool b2_1] ∧ μ1 [GV.int (iadd i1_0 (1 : Int)), GV.bool b2_1] < μ1 [GV.int i1_0, GV.bool b1_1]))))))) ∧ ((ilt i1_0 (ilen l)) = false → ((true = true) ∧ ((True) ∧ True) ∧ ((true : Bool) = (convB l)) ∧ True))))))) = ev sig_impl_ConvexValid xs_impl_ConvexValid Try.f16.ntmps (fun b => if b == 0 then [.v 19, .v 2] else if b == 2 then [.v 31, .v 2] else []) (codeOf Try.f16) 0 (initS [.s (.view (.pts l))]) (retK Try.f16.results.toList [.s (.bool (convB l))]) := by kernel_rfl
set_option maxHeartbeats 400000 in
theorem F_impl_ConvexValid : FunOK 16 g_impl_ConvexValid := by
  refine fun_F (by kernel_rfl) Try.func16 rfl (by kernel_rfl) sig_impl_ConvexValid_ok xs_impl_ConvexValid_ok ?_
  intro avs sg h hn hl
  unfold g_impl_ConvexValid at h
  split at h
  · rename_i l
    injection h with h; subst h
    refine ⟨by kernel_rfl, fun b => if b == 0 then [.v 19, .v 2] else if b == 2 then [.v 31, .v 2] else [], Eq.mp (V_impl_ConvexValid l) ?_⟩
    simp only [true_and, and_true, implies_true, and_self, forall_const, true_implies, lenA, lenL, SV.lenOK, Cont.lenOK] at hn hl ⊢
    have h0 := ilen_0 l
    simp only [ilt_t, ilt_f, ile_t, ile_f, ieq_t, ieq_f, bnot_e, band_e, bite_and, bite_or, NLt_e, NLe_e, NNe_e, NIs_e, imax_e, imin_e, irem_e, Bool.not_eq_true', Bool.not_eq_false', Bool.and_eq_true, Bool.or_eq_true, Bool.or_eq_false_iff, Bool.and_eq_false_iff, Cont.pts.injEq, Cont.ints.injEq, Cont.bools.injEq, Cont.ptss.injEq, Cont.intss.injEq, Cont.boolss.injEq, true_and, and_true, implies_true]
    refine ⟨?_, fun hc => ?_⟩
    · rintro (h | h) <;> simp [convB, h]
    · obtain ⟨hv1, hv2⟩ : inB (ilen l) 3 8 = true ∧ allB l = true := by simpa using hc
      have hlen := inB_true hv1
      refine ⟨fun | [.int k, .bool _] => 0 ≤ k ∧ k ≤ ilen l ∧ (∀ i, 0 ≤ i → i < k → allN (ilen l) (convE l i) = true) | _ => False, fun | [.int k, .bool _] => (ilen l - k).toNat | _ => 0, ?_, ?_⟩
      · exact ⟨Int.le_refl 0, h0, fun j h0 h1 => absurd h1 (by omega)⟩
      · rintro k b ⟨hk0, hk1, hk⟩
        simp only [ilt_t, ilt_f, ile_t, ile_f, ieq_t, ieq_f, bnot_e, band_e, bite_and, bite_or, NLt_e, NLe_e, NNe_e, NIs_e, imax_e, imin_e, irem_e, Bool.not_eq_true', Bool.not_eq_false', Bool.and_eq_true, Bool.or_eq_true, Bool.or_eq_false_iff, Bool.and_eq_false_iff, Cont.pts.injEq, Cont.ints.injEq, Cont.bools.injEq, Cont.ptss.injEq, Cont.intss.injEq, Cont.boolss.injEq, true_and, and_true, implies_true]
        refine ⟨fun hkn => ⟨⟨hk0, hkn⟩, by omega, ?_⟩, fun hkn => ?_⟩
        · have e1 := iadd_1 hk0 hkn hl
          obtain ⟨n0, n1, _⟩ := nx_in hk0 hkn
          have e2 : (k + 1).tmod (ilen l) = nx l k := rfl
          simp only [e1, e2]
          refine ⟨fun | [.int j, .bool _] => 0 ≤ j ∧ j ≤ ilen l ∧ (∀ i, 0 ≤ i → i < j → convE l k i = true) | _ => False, fun | [.int j, .bool _] => (ilen l - j).toNat | _ => 0, ?_, ?_⟩
          · exact ⟨Int.le_refl 0, h0, fun j h0 h1 => absurd h1 (by omega)⟩
          · rintro j b ⟨hj0, hj1, hj⟩
            simp only [ilt_t, ilt_f, ile_t, ile_f, ieq_t, ieq_f, bnot_e, band_e, bite_and, bite_or, NLt_e, NLe_e, NNe_e, NIs_e, imax_e, imin_e, irem_e, Bool.not_eq_true', Bool.not_eq_false', Bool.and_eq_true, Bool.or_eq_true, Bool.or_eq_false_iff, Bool.and_eq_false_iff, Cont.pts.injEq, Cont.ints.injEq, Cont.bools.injEq, Cont.ptss.injEq, Cont.intss.injEq, Cont.boolss.injEq, true_and, and_true, implies_true]
            refine ⟨fun hjn => ⟨⟨hj0, hjn⟩, fun _ => ⟨n0, n1⟩, fun hx => ?_, fun hx => ?_⟩, fun hjn => ?_⟩
            · have hE : convE l k j = false := by
                unfold convE cr
                simp only [decide_eq_false_iff_not]
                omega
              unfold convB
              rw [allN_no k hk0 hkn (allN_no j hj0 hjn hE)]
              simp
            · have hE : convE l k j = true := by
                unfold convE cr
                simp only [decide_eq_true_eq]
                omega
              rw [iadd_1 hj0 hjn hl]
              exact ⟨⟨by omega, by omega, allN_up hj hE⟩, by omega⟩
            · exact ⟨⟨by omega, by omega, allN_up hk (allN_mk fun i h0 h1 => hj i h0 (by omega))⟩, by omega⟩
        · unfold convB
          rw [hv1, hv2, allN_mk fun i h0 h1 => hk i h0 (by omega)]
          rfl
  · cases h
def g_impl_near : List AV → Option Sg
  | [.agg [.int p1, .int p2]] => some ⟨True, [.s (.bool (nearB p1 p2))]⟩
  | _ => none
def sig_impl_near : FuncId → List AV → Option Sg := sigL [(45, g_impl_within)]
def xs_impl_near : XS := ⟨xsigL [], ysigL []⟩
theorem sig_impl_near_ok : SigOK sig_impl_near := sigL_cons F_impl_within sigL_nil
theorem xs_impl_near_ok : XSigOK xs_impl_near := ⟨xsigL_nil, ysigL_nil⟩
theorem V_impl_near (p1 : Int) (p2 : Int) : ((true = true) ∧ ((True) ∧ (True) ∧ True) ∧ (true = true) ∧ ((True) ∧ (True) ∧ ((True)) ∧ (True) ∧ (NIs (inB p1 (-1000 : Int) (1000 : Int)) true → True) ∧ (NIs (inB p1 (-1000 : Int) (1000 : Int)) true → True) ∧ (NIs (inB p1 (-1000 : Int) (1000 : Int)) true → (True)) ∧ (True) ∧ (True) ∧ True) ∧ (((bite (inB p1 (-1000 : Int) (1000 : Int)) (inB p2 (-1000 : Int) (1000 : Int)) false) : Bool) = (nearB p1 p2)) ∧ True) = ev sig_impl_near xs_impl_near Try.f60.ntmps (fun b => []) (codeOf Try.f60) 0 (initS [.agg [.int p1, .int p2]]) (retK Try.f60.results.toList [.s (.bool (nearB p1 p2))]) := by kernel_rfl
set_option maxHeartbeats 400000 in
theorem F_impl_near : FunOK 60 g_impl_near := by
  refine fun_F (by kernel_rfl) Try.func60 rfl (by kernel_rfl) sig_impl_near_ok xs_impl_near_ok ?_
  intro avs sg h hn hl
  unfold g_impl_near at h
  split at h
  · rename_i p1 p2
    injection h with h; subst h
    refine ⟨by kernel_rfl, fun b => [], Eq.mp (V_impl_near p1 p2) ?_⟩
    simp only [true_and, and_true, implies_true, and_self, forall_const, true_implies, lenA, lenL, SV.lenOK, Cont.lenOK] at hn hl ⊢
    simp only [ilt_t, ilt_f, ile_t, ile_f, ieq_t, ieq_f, bnot_e, band_e, bite_and, bite_or, NLt_e, NLe_e, NNe_e, NIs_e, imax_e, imin_e, irem_e, Bool.not_eq_true', Bool.not_eq_false', Bool.and_eq_true, Bool.or_eq_true, Bool.or_eq_false_iff, Bool.and_eq_false_iff, Cont.pts.injEq, Cont.ints.injEq, Cont.bools.injEq, Cont.ptss.injEq, Cont.intss.injEq, Cont.boolss.injEq, true_and, and_true, implies_true, nearB]
  · cases h
def g_impl_PolygonSquare_1 : List AV → Option Sg
  | [.agg [.int p1, .int p2]] => some ⟨True, [.s (.bool (!nearB p1 p2))]⟩
  | _ => none
def sig_impl_PolygonSquare_1 : FuncId → List AV → Option Sg := sigL [(60, g_impl_near)]
def xs_impl_PolygonSquare_1 : XS := ⟨xsigL [], ysigL []⟩
theorem sig_impl_PolygonSquare_1_ok : SigOK sig_impl_PolygonSquare_1 := sigL_cons F_impl_near sigL_nil
theorem xs_impl_PolygonSquare_1_ok : XSigOK xs_impl_PolygonSquare_1 := ⟨xsigL_nil, ysigL_nil⟩
theorem V_impl_PolygonSquare_1 (p1 : Int) (p2 : Int) : ((true = true) ∧ ((True) ∧ (True) ∧ True) ∧ (true = true) ∧ ((True) ∧ ((True)) ∧ (True) ∧ (True) ∧ True) ∧ (((bnot (nearB p1 p2)) : Bool) = (!nearB p1 p2)) ∧ True) = ev sig_impl_PolygonSquare_1 xs_impl_PolygonSquare_1 Try.f62.ntmps (fun b => []) (codeOf Try.f62) 0 (initS [.agg [.int p1, .int p2]]) (retK Try.f62.results.toList [.s (.bool (!nearB p1 p2))]) := by kernel_rfl
set_option maxHeartbeats 400000 in
theorem F_impl_PolygonSquare_1 : FunOK 62 g_impl_PolygonSquare_1 := by
  refine fun_F (by kernel_rfl) Try.func62 rfl (by kernel_rfl) sig_impl_PolygonSquare_1_ok xs_impl_PolygonSquare_1_ok ?_
  intro avs sg h hn hl
  unfold g_impl_PolygonSquare_1 at h
  split at h
  · rename_i p1 p2
    injection h with h; subst h
    refine ⟨by kernel_rfl, fun b => [], Eq.mp (V_impl_PolygonSquare_1 p1 p2) ?_⟩
    simp only [true_and, and_true, implies_true, and_self, forall_const, true_implies, lenA, lenL, SV.lenOK, Cont.lenOK] at hn hl ⊢
    simp only [ilt_t, ilt_f, ile_t, ile_f, ieq_t, ieq_f, bnot_e, band_e, bite_and, bite_or, NLt_e, NLe_e, NNe_e, NIs_e, imax_e, imin_e, irem_e, Bool.not_eq_true', Bool.not_eq_false', Bool.and_eq_true, Bool.or_eq_true, Bool.or_eq_false_iff, Bool.and_eq_false_iff, Cont.pts.injEq, Cont.ints.injEq, Cont.bools.injEq, Cont.ptss.injEq, Cont.intss.injEq, Cont.boolss.injEq, true_and, and_true, implies_true]
  · cases h
def g_slices_IndexFunc_Simpl_Point_impl_Point : List AV → Option Sg
  | [.s (.view (.pts l)), .s (.x (.func (.func 62) ⟨[]⟩ ⟨[]⟩))] => some ⟨True, [.s (.int (idxN (ilen l) fun i => !nearB (getx l i) (gety l i)))]⟩
  | _ => none
def sig_slices_IndexFunc_Simpl_Point_impl_Point : FuncId → List AV → Option Sg := sigL [(62, g_impl_PolygonSquare_1)]
def xs_slices_IndexFunc_Simpl_Point_impl_Point : XS := ⟨xsigL [], ysigL []⟩
theorem sig_slices_IndexFunc_Simpl_Point_impl_Point_ok : SigOK sig_slices_IndexFunc_Simpl_Point_impl_Point := sigL_cons F_impl_PolygonSquare_1 sigL_nil
theorem xs_slices_IndexFunc_Simpl_Point_impl_Point_ok : XSigOK xs_slices_IndexFunc_Simpl_Point_impl_Point := ⟨xsigL_nil, ysigL_nil⟩
theorem V_slices_IndexFunc_Simpl_Point_impl_Point (l : List Pt) : ((true = true) ∧ ((True) ∧ True) ∧ (true = true) ∧ ((True) ∧ (True) ∧ (True) ∧ True) ∧ ∃ (I1 : List GV → Prop) (μ1 : List GV → Nat), (((true = true) ∧ ((((0 : Int) : Int) = (0 : Int)) ∧ (((0 : Int) : Int) = (0 : Int)) ∧ ((Cont.pts l) = (Cont.pts l)) ∧ (((ilen l) : Int) = (ilen l)) ∧ ((Cont.pts l) = (Cont.pts l)) ∧ (((.func (.func 62) #[] #[]) : Value) = (.func (.func 62) #[] #[])) ∧ True) ∧ (True)) ∧ (([GK.int, GK.int] : List GK) = ([GK.int, GK.int] : List GK)) ∧ I1 [GV.int (0 : Int), GV.int (0 : Int)]) ∧ (∀ i1_0 : Int, ∀ i1_1 : Int, I1 [GV.int i1_0, GV.int i1_1] → ((true = true) ∧ ((True) ∧ True) ∧ ((ilt i1_0 (ilen l)) = true → ((true = true) ∧ ((True) ∧ (True) ∧ True) ∧ (true = true) ∧ ((True) ∧ (True) ∧ (True) ∧ (NLe 0 i1_0 ∧ NLt i1_0 (ilen l)) ∧ (True) ∧ ((True)) ∧ True) ∧ ((!nearB (getx l i1_0) (gety l i1_0)) = true → ((true = true) ∧ ((True) ∧ (True) ∧ True) ∧ ((i1_0 : Int) = (idxN (ilen l) fun i => !nearB (getx l i) (gety l i))) ∧ True)) ∧ ((!nearB (getx l i1_0) (gety l i1_0)) = false → ((true = true) ∧ ((True) ∧ (True) ∧ True) ∧ ((true = true) ∧ (((i1_1 : Int) = i1_1) ∧ (((iadd i1_0 (1 : Int)) : Int) = (iadd i1_0 (1 : Int))) ∧ ((Cont.pts l) = (Cont.pts l)) ∧ (((ilen l) : Int) = (ilen l)) ∧ ((Cont.pts l) = (Cont.pts l)) ∧ (((.func (.func 62) #[] #[]) : Value) = (.func (.func 62) #[] #[])) ∧ True) ∧ (True)) ∧ ((([GK.int, GK.int] : List GK) = ([GK.int, GK.int] : List GK)) ∧ I1 [GV.int (iadd i1_0 (1 : Int)), GV.int i1_1] ∧ μ1 [GV.int (iadd i1_0 (1 : Int)), GV.int i1_1] < μ1 [GV.int i1_0, GV.int i1_1]))))) ∧ ((ilt i1_0 (ilen l)) = false → ((true = true) ∧ ((True) ∧ True) ∧ (((-1 : Int) : Int) = (idxN (ilen l) fun i => !nearB (getx l i) (gety l i))) ∧ True))))) = ev sig_slices_IndexFunc_Simpl_Point_impl_Point xs_slices_IndexFunc_Simpl_Point_impl_Point Try.f83.ntmps (fun b => if b == 0 then [.v 8, .v 4] else []) (codeOf Try.f83) 0 (initS [.s (.view (.pts l)), .s (.x (.func (.func 62) ⟨[]⟩ ⟨[]⟩))]) (retK Try.f83.results.toList [.s (.int (idxN (ilen l) fun i => !nearB (getx l i) (gety l i)))]) := by kernel_rfl
set_option maxHeartbeats 400000 in
theorem F_slices_IndexFunc_Simpl_Point_impl_Point : FunOK 83 g_slices_IndexFunc_Simpl_Point_impl_Point := by
  refine fun_F (by kernel_rfl) Try.func83 rfl (by kernel_rfl) sig_slices_IndexFunc_Simpl_Point_impl_Point_ok xs_slices_IndexFunc_Simpl_Point_impl_Point_ok ?_
  intro avs sg h hn hl
  unfold g_slices_IndexFunc_Simpl_Point_impl_Point at h
  split at h
  · rename_i l
    injection h with h; subst h
    refine ⟨by kernel_rfl, fun b => if b == 0 then [.v 8, .v 4] else [], Eq.mp (V_slices_IndexFunc_Simpl_Point_impl_Point l) ?_⟩
    simp only [true_and, and_true, implies_true, and_self, forall_const, true_implies, lenA, lenL, SV.lenOK, Cont.lenOK] at hn hl ⊢
    have h0 := ilen_0 l
    simp only [ilt_t, ilt_f, ile_t, ile_f, ieq_t, ieq_f, bnot_e, band_e, bite_and, bite_or, NLt_e, NLe_e, NNe_e, NIs_e, imax_e, imin_e, irem_e, Bool.not_eq_true', Bool.not_eq_false', Bool.and_eq_true, Bool.or_eq_true, Bool.or_eq_false_iff, Bool.and_eq_false_iff, Cont.pts.injEq, Cont.ints.injEq, Cont.bools.injEq, Cont.ptss.injEq, Cont.intss.injEq, Cont.boolss.injEq, true_and, and_true, implies_true]
    refine ⟨fun | .int k :: _ => 0 ≤ k ∧ k ≤ ilen l ∧ (∀ i, 0 ≤ i → i < k → nearB (getx l i) (gety l i) = true) | _ => False, fun | .int k :: _ => (ilen l - k).toNat | _ => 0, ?_, ?_⟩
    · exact ⟨Int.le_refl 0, h0, fun j h0 h1 => absurd h1 (by omega)⟩
    · rintro k _ ⟨hk0, hk1, hk⟩
      simp only [ilt_t, ilt_f, ile_t, ile_f, ieq_t, ieq_f, bnot_e, band_e, bite_and, bite_or, NLt_e, NLe_e, NNe_e, NIs_e, imax_e, imin_e, irem_e, Bool.not_eq_true', Bool.not_eq_false', Bool.and_eq_true, Bool.or_eq_true, Bool.or_eq_false_iff, Bool.and_eq_false_iff, Cont.pts.injEq, Cont.ints.injEq, Cont.bools.injEq, Cont.ptss.injEq, Cont.intss.injEq, Cont.boolss.injEq, true_and, and_true, implies_true]
      refine ⟨fun hkn => ⟨⟨hk0, hkn⟩, fun hx => ?_, fun hx => ?_⟩, fun hkn => ?_⟩
      · rw [idxN_at hk0 hkn (fun j j0 j1 => by simp [hk j j0 j1]) (by simp [hx])]
      · rw [iadd_1 hk0 hkn hl]
        exact ⟨⟨by omega, by omega, upTo hk hx⟩, by omega⟩
      · have e : k = ilen l := by omega
        subst e
        obtain ⟨a, ha⟩ := Int.eq_ofNat_of_zero_le h0
        rw [ha] at hk ⊢
        rw [idxN_no fun j j0 j1 => by simp [hk j j0 j1]]
  · cases h
def g_slices_ContainsFunc_Simpl_Point_impl_Point : List AV → Option Sg
  | [.s (.view (.pts l)), .s (.x (.func (.func 62) ⟨[]⟩ ⟨[]⟩))] => some ⟨True, [.s (.bool (anyN (ilen l) fun i => !nearB (getx l i) (gety l i)))]⟩
  | _ => none
def sig_slices_ContainsFunc_Simpl_Point_impl_Point : FuncId → List AV → Option Sg := sigL [(83, g_slices_IndexFunc_Simpl_Point_impl_Point)]
def xs_slices_ContainsFunc_Simpl_Point_impl_Point : XS := ⟨xsigL [], ysigL []⟩
theorem sig_slices_ContainsFunc_Simpl_Point_impl_Point_ok : SigOK sig_slices_ContainsFunc_Simpl_Point_impl_Point := sigL_cons F_slices_IndexFunc_Simpl_Point_impl_Point sigL_nil
theorem xs_slices_ContainsFunc_Simpl_Point_impl_Point_ok : XSigOK xs_slices_ContainsFunc_Simpl_Point_impl_Point := ⟨xsigL_nil, ysigL_nil⟩
theorem V_slices_ContainsFunc_Simpl_Point_impl_Point (l : List Pt) : ((true = true) ∧ ((True) ∧ True) ∧ (true = true) ∧ ((True) ∧ (True) ∧ ((True)) ∧ (True) ∧ (True) ∧ True) ∧ (((ile (0 : Int) (idxN (ilen l) fun i => !nearB (getx l i) (gety l i))) : Bool) = (anyN (ilen l) fun i => !nearB (getx l i) (gety l i))) ∧ True) = ev sig_slices_ContainsFunc_Simpl_Point_impl_Point xs_slices_ContainsFunc_Simpl_Point_impl_Point Try.f61.ntmps (fun b => []) (codeOf Try.f61) 0 (initS [.s (.view (.pts l)), .s (.x (.func (.func 62) ⟨[]⟩ ⟨[]⟩))]) (retK Try.f61.results.toList [.s (.bool (anyN (ilen l) fun i => !nearB (getx l i) (gety l i)))]) := by kernel_rfl
set_option maxHeartbeats 400000 in
theorem F_slices_ContainsFunc_Simpl_Point_impl_Point : FunOK 61 g_slices_ContainsFunc_Simpl_Point_impl_Point := by
  refine fun_F (by kernel_rfl) Try.func61 rfl (by kernel_rfl) sig_slices_ContainsFunc_Simpl_Point_impl_Point_ok xs_slices_ContainsFunc_Simpl_Point_impl_Point_ok ?_
  intro avs sg h hn hl
  unfold g_slices_ContainsFunc_Simpl_Point_impl_Point at h
  split at h
  · rename_i l
    injection h with h; subst h
    refine ⟨by kernel_rfl, fun b => [], Eq.mp (V_slices_ContainsFunc_Simpl_Point_impl_Point l) ?_⟩
    simp only [true_and, and_true, implies_true, and_self, forall_const, true_implies, lenA, lenL, SV.lenOK, Cont.lenOK] at hn hl ⊢
    rw [idxN_any (ilen_0 l)]
  · cases h
def g_impl_inside : List AV → Option Sg
  | [.s (.view (.pts l)), .agg [.int p1, .int p2]] => some ⟨True, [.s (.bool (insB l p1 p2))]⟩
  | _ => none
def sig_impl_inside : FuncId → List AV → Option Sg := sigL [(47, g_impl_cross)]
def xs_impl_inside : XS := ⟨xsigL [], ysigL []⟩
theorem sig_impl_inside_ok : SigOK sig_impl_inside := sigL_cons F_impl_cross sigL_nil
theorem xs_impl_inside_ok : XSigOK xs_impl_inside := ⟨xsigL_nil, ysigL_nil⟩
theorem V_impl_inside (l : List Pt) (p1 : Int) (p2 : Int) : ((true = true) ∧ ((True) ∧ (True) ∧ True) ∧ (true = true) ∧ ((True) ∧ (True) ∧ (True) ∧ True) ∧ ∃ (I1 : List GV → Prop) (μ1 : List GV → Nat), (((true = true) ∧ (((false : Bool) = false) ∧ (((0 : Int) : Int) = (0 : Int)) ∧ ((Cont.pts l) = (Cont.pts l)) ∧ (((ilen l) : Int) = (ilen l)) ∧ (true = true) ∧ ((Cont.pts l) = (Cont.pts l)) ∧ (((p1 : Int) = p1) ∧ ((p2 : Int) = p2) ∧ True) ∧ True) ∧ ((((p1 : Int) = p1) ∧ ((p2 : Int) = p2) ∧ True) ∧ True)) ∧ (([GK.int, GK.bool] : List GK) = ([GK.int, GK.bool] : List GK)) ∧ I1 [GV.int (0 : Int), GV.bool false]) ∧ (∀ i1_0 : Int, ∀ b1_1 : Bool, I1 [GV.int i1_0, GV.bool b1_1] → ((true = true) ∧ ((True) ∧ True) ∧ ((ilt i1_0 (ilen l)) = true → ((true = true) ∧ ((True) ∧ (NLe 0 i1_0 ∧ NLt i1_0 (ilen l)) ∧ (True) ∧ (True) ∧ (True) ∧ True) ∧ (True) ∧ (true = true) ∧ ((True) ∧ (True) ∧ (True) ∧ (True) ∧ (True) ∧ (True) ∧ (NNe (ilen l) 0) ∧ (NLe 0 (irem (iadd i1_0 (1 : Int)) (ilen l)) ∧ NLt (irem (iadd i1_0 (1 : Int)) (ilen l)) (ilen l)) ∧ (True) ∧ (True) ∧ ((True)) ∧ (True) ∧ True) ∧ ((ilt (crW (getx l i1_0) (gety l i1_0) (getx l (irem (iadd i1_0 (1 : Int)) (ilen l))) (gety l (irem (iadd i1_0 (1 : Int)) (ilen l))) p1 p2) (0 : Int)) = true → ((true = true) ∧ ((True) ∧ True) ∧ ((false : Bool) = (insB l p1 p2)) ∧ True)) ∧ ((ilt (crW (getx l i1_0) (gety l i1_0) (getx l (irem (iadd i1_0 (1 : Int)) (ilen l))) (gety l (irem (iadd i1_0 (1 : Int)) (ilen l))) p1 p2) (0 : Int)) = false → ((true = true) ∧ ((True) ∧ (True) ∧ True) ∧ ((true = true) ∧ (((b1_1 : Bool) = b1_1) ∧ (((iadd i1_0 (1 : Int)) : Int) = (iadd i1_0 (1 : Int))) ∧ ((Cont.pts l) = (Cont.pts l)) ∧ (((ilen l) : Int) = (ilen l)) ∧ (true = true) ∧ ((Cont.pts l) = (Cont.pts l)) ∧ (((p1 : Int) = p1) ∧ ((p2 : Int) = p2) ∧ True) ∧ True) ∧ ((((p1 : Int) = p1) ∧ ((p2 : Int) = p2) ∧ True) ∧ True)) ∧ ((([GK.int, GK.bool] : List GK) = ([GK.int, GK.bool] : List GK)) ∧ I1 [GV.int (iadd i1_0 (1 : Int)), GV.bool b1_1] ∧ μ1 [GV.int (iadd i1_0 (1 : Int)), GV.bool b1_1] < μ1 [GV.int i1_0, GV.bool b1_1]))))) ∧ ((ilt i1_0 (ilen l)) = false → ((true = true) ∧ ((True) ∧ True) ∧ ((true : Bool) = (insB l p1 p2)) ∧ True))))) = ev sig_impl_inside xs_impl_inside Try.f53.ntmps (fun b => if b == 0 then [.v 9, .v 4] else []) (codeOf Try.f53) 0 (initS [.s (.view (.pts l)), .agg [.int p1, .int p2]]) (retK Try.f53.results.toList [.s (.bool (insB l p1 p2))]) := by kernel_rfl
set_option maxHeartbeats 400000 in
theorem F_impl_inside : FunOK 53 g_impl_inside := by
  refine fun_F (by kernel_rfl) Try.func53 rfl (by kernel_rfl) sig_impl_inside_ok xs_impl_inside_ok ?_
  intro avs sg h hn hl
  unfold g_impl_inside at h
  split at h
  · rename_i l p1 p2
    injection h with h; subst h
    refine ⟨by kernel_rfl, fun b => if b == 0 then [.v 9, .v 4] else [], Eq.mp (V_impl_inside l p1 p2) ?_⟩
    simp only [true_and, and_true, implies_true, and_self, forall_const, true_implies, lenA, lenL, SV.lenOK, Cont.lenOK] at hn hl ⊢
    have h0 := ilen_0 l
    simp only [ilt_t, ilt_f, ile_t, ile_f, ieq_t, ieq_f, bnot_e, band_e, bite_and, bite_or, NLt_e, NLe_e, NNe_e, NIs_e, imax_e, imin_e, irem_e, Bool.not_eq_true', Bool.not_eq_false', Bool.and_eq_true, Bool.or_eq_true, Bool.or_eq_false_iff, Bool.and_eq_false_iff, Cont.pts.injEq, Cont.ints.injEq, Cont.bools.injEq, Cont.ptss.injEq, Cont.intss.injEq, Cont.boolss.injEq, true_and, and_true, implies_true]
    refine ⟨fun | .int k :: _ => 0 ≤ k ∧ k ≤ ilen l ∧ (∀ i, 0 ≤ i → i < k → insE l p1 p2 i = true) | _ => False, fun | .int k :: _ => (ilen l - k).toNat | _ => 0, ?_, ?_⟩
    · exact ⟨Int.le_refl 0, h0, fun j h0 h1 => absurd h1 (by omega)⟩
    · rintro k _ ⟨hk0, hk1, hk⟩
      simp only [ilt_t, ilt_f, ile_t, ile_f, ieq_t, ieq_f, bnot_e, band_e, bite_and, bite_or, NLt_e, NLe_e, NNe_e, NIs_e, imax_e, imin_e, irem_e, Bool.not_eq_true', Bool.not_eq_false', Bool.and_eq_true, Bool.or_eq_true, Bool.or_eq_false_iff, Bool.and_eq_false_iff, Cont.pts.injEq, Cont.ints.injEq, Cont.bools.injEq, Cont.ptss.injEq, Cont.intss.injEq, Cont.boolss.injEq, true_and, and_true, implies_true]
      refine ⟨fun hkn => ?_, fun hkn => ?_⟩
      · have e1 := iadd_1 hk0 hkn hl
        obtain ⟨n0, n1, _⟩ := nx_in hk0 hkn
        have e2 : (k + 1).tmod (ilen l) = nx l k := rfl
        simp only [e1, e2]
        have hne : ilen l ≠ 0 := by omega
        refine ⟨⟨hk0, hkn⟩, ⟨hne, ⟨n0, n1⟩⟩, fun hx => ?_, fun hx => ?_⟩
        · have hE : insE l p1 p2 k = false := by
            unfold insE
            simp only [decide_eq_false_iff_not]
            omega
          unfold insB
          rw [allN_no k hk0 hkn hE]
        · have hE : insE l p1 p2 k = true := by
            unfold insE
            simp only [decide_eq_true_eq]
            omega
          exact ⟨⟨by omega, by omega, allN_up hk hE⟩, by omega⟩
      · unfold insB
        rw [allN_mk fun i h0 h1 => hk i h0 (by omega)]
  · cases h
def g_impl_square : List AV → Option Sg
  | [.agg [.int a1, .int a2], .agg [.int b1, .int b2]] => some ⟨nearB a1 a2 = true ∧ nearB b1 b2 = true, [.s (.int (sqE a1 a2 b1 b2))]⟩
  | _ => none
def sig_impl_square : FuncId → List AV → Option Sg := sigL []
def xs_impl_square : XS := ⟨xsigL [], ysigL []⟩
theorem sig_impl_square_ok : SigOK sig_impl_square := sigL_nil
theorem xs_impl_square_ok : XSigOK xs_impl_square := ⟨xsigL_nil, ysigL_nil⟩
theorem V_impl_square (a1 : Int) (a2 : Int) (b1 : Int) (b2 : Int) : ((true = true) ∧ ((True) ∧ (True) ∧ (True) ∧ True) ∧ (true = true) ∧ ((True) ∧ (True) ∧ (True) ∧ (True) ∧ (True) ∧ (True) ∧ (True) ∧ (True) ∧ (True) ∧ (True) ∧ (True) ∧ (True) ∧ (True) ∧ (True) ∧ (True) ∧ (True) ∧ (True) ∧ (True) ∧ (True) ∧ (True) ∧ (True) ∧ (True) ∧ (True) ∧ (True) ∧ True) ∧ (((iadd (imul (isub a1 b1) (isub a1 b1)) (imul (isub a2 b2) (isub a2 b2))) : Int) = (sqE a1 a2 b1 b2)) ∧ True) = ev sig_impl_square xs_impl_square Try.f84.ntmps (fun b => []) (codeOf Try.f84) 0 (initS [.agg [.int a1, .int a2], .agg [.int b1, .int b2]]) (retK Try.f84.results.toList [.s (.int (sqE a1 a2 b1 b2))]) := by kernel_rfl
set_option maxHeartbeats 400000 in
theorem F_impl_square : FunOK 84 g_impl_square := by
  refine fun_F (by kernel_rfl) Try.func84 rfl (by kernel_rfl) sig_impl_square_ok xs_impl_square_ok ?_
  intro avs sg h hn hl
  unfold g_impl_square at h
  split at h
  · rename_i a1 a2 b1 b2
    injection h with h; subst h
    refine ⟨by kernel_rfl, fun b => [], Eq.mp (V_impl_square a1 a2 b1 b2) ?_⟩
    simp only [true_and, and_true, implies_true, and_self, forall_const, true_implies, lenA, lenL, SV.lenOK, Cont.lenOK] at hn hl ⊢
    exact (sq_w hn.1 hn.2).1
  · cases h
def g_impl_segmentSquare : List AV → Option Sg
  | [.agg [.int p1, .int p2], .agg [.int a1, .int a2], .agg [.int b1, .int b2]] => some ⟨nearB p1 p2 = true ∧ nearB a1 a2 = true ∧ nearB b1 b2 = true, [.s (.int (ssqE p1 p2 a1 a2 b1 b2))]⟩
  | _ => none
def sig_impl_segmentSquare : FuncId → List AV → Option Sg := sigL [(84, g_impl_square), (47, g_impl_cross)]
def xs_impl_segmentSquare : XS := ⟨xsigL [], ysigL []⟩
theorem sig_impl_segmentSquare_ok : SigOK sig_impl_segmentSquare := sigL_cons F_impl_square (sigL_cons F_impl_cross sigL_nil)
theorem xs_impl_segmentSquare_ok : XSigOK xs_impl_segmentSquare := ⟨xsigL_nil, ysigL_nil⟩
theorem V_impl_segmentSquare (p1 : Int) (p2 : Int) (a1 : Int) (a2 : Int) (b1 : Int) (b2 : Int) : ((true = true) ∧ ((True) ∧ (True) ∧ (True) ∧ (True) ∧ True) ∧ (true = true) ∧ ((True) ∧ (True) ∧ ((nearB a1 a2 = true ∧ nearB b1 b2 = true)) ∧ (True) ∧ True) ∧ (true = true) ∧ ((True) ∧ (True) ∧ (True) ∧ (True) ∧ (True) ∧ (True) ∧ (True) ∧ (True) ∧ (True) ∧ (True) ∧ (True) ∧ (True) ∧ (True) ∧ (True) ∧ (True) ∧ (True) ∧ (True) ∧ (True) ∧ (True) ∧ (True) ∧ (True) ∧ (True) ∧ (True) ∧ (True) ∧ True) ∧ (true = true) ∧ ((True) ∧ (True) ∧ (True) ∧ True) ∧ ((ile (iadd (imul (isub p1 a1) (isub b1 a1)) (imul (isub p2 a2) (isub b2 a2))) (0 : Int)) = true → ((true = true) ∧ ((True) ∧ (True) ∧ ((nearB p1 p2 = true ∧ nearB a1 a2 = true)) ∧ (True) ∧ True) ∧ (((sqE p1 p2 a1 a2) : Int) = (ssqE p1 p2 a1 a2 b1 b2)) ∧ True)) ∧ ((ile (iadd (imul (isub p1 a1) (isub b1 a1)) (imul (isub p2 a2) (isub b2 a2))) (0 : Int)) = false → ((true = true) ∧ ((True) ∧ (True) ∧ (True) ∧ (True) ∧ True) ∧ ((ile (sqE a1 a2 b1 b2) (iadd (imul (isub p1 a1) (isub b1 a1)) (imul (isub p2 a2) (isub b2 a2)))) = true → ((true = true) ∧ ((True) ∧ (True) ∧ ((nearB p1 p2 = true ∧ nearB b1 b2 = true)) ∧ (True) ∧ True) ∧ (((sqE p1 p2 b1 b2) : Int) = (ssqE p1 p2 a1 a2 b1 b2)) ∧ True)) ∧ ((ile (sqE a1 a2 b1 b2) (iadd (imul (isub p1 a1) (isub b1 a1)) (imul (isub p2 a2) (isub b2 a2)))) = false → ((true = true) ∧ ((True) ∧ (True) ∧ (True) ∧ ((True)) ∧ (True) ∧ True) ∧ (true = true) ∧ ((True) ∧ (True) ∧ (True) ∧ (True) ∧ (NNe (sqE a1 a2 b1 b2) 0) ∧ (True) ∧ True) ∧ (((iquo (imul (crW a1 a2 b1 b2 p1 p2) (crW a1 a2 b1 b2 p1 p2)) (sqE a1 a2 b1 b2)) : Int) = (ssqE p1 p2 a1 a2 b1 b2)) ∧ True))))) = ev sig_impl_segmentSquare xs_impl_segmentSquare Try.f63.ntmps (fun b => []) (codeOf Try.f63) 0 (initS [.agg [.int p1, .int p2], .agg [.int a1, .int a2], .agg [.int b1, .int b2]]) (retK Try.f63.results.toList [.s (.int (ssqE p1 p2 a1 a2 b1 b2))]) := by kernel_rfl
set_option maxHeartbeats 400000 in
theorem F_impl_segmentSquare : FunOK 63 g_impl_segmentSquare := by
  refine fun_F (by kernel_rfl) Try.func63 rfl (by kernel_rfl) sig_impl_segmentSquare_ok xs_impl_segmentSquare_ok ?_
  intro avs sg h hn hl
  unfold g_impl_segmentSquare at h
  split at h
  · rename_i p1 p2 a1 a2 b1 b2
    injection h with h; subst h
    refine ⟨by kernel_rfl, fun b => [], Eq.mp (V_impl_segmentSquare p1 p2 a1 a2 b1 b2) ?_⟩
    simp only [true_and, and_true, implies_true, and_self, forall_const, true_implies, lenA, lenL, SV.lenOK, Cont.lenOK] at hn hl ⊢
    obtain ⟨np, na, nb⟩ := hn
    have hc := crs_bd na nb np
    have hsq := sq_w na nb
    simp only [ilt_t, ilt_f, ile_t, ile_f, ieq_t, ieq_f, bnot_e, band_e, bite_and, bite_or, NLt_e, NLe_e, NNe_e, NIs_e, imax_e, imin_e, irem_e, Bool.not_eq_true', Bool.not_eq_false', Bool.and_eq_true, Bool.or_eq_true, Bool.or_eq_false_iff, Bool.and_eq_false_iff, Cont.pts.injEq, Cont.ints.injEq, Cont.bools.injEq, Cont.ptss.injEq, Cont.intss.injEq, Cont.boolss.injEq, true_and, and_true, implies_true, np, na, nb, crW_e (near_v na) (near_v nb) (near_v np), al_w np na nb, mul4 hc hc, true_implies, forall_const]
    refine ⟨fun h => by unfold ssqE; rw [if_pos h], fun h => ⟨fun h2 => by unfold ssqE; rw [if_neg (by omega), if_pos h2], fun h2 => ⟨by omega, ?_⟩⟩⟩
    unfold ssqE
    rw [if_neg (by omega), if_neg (by omega)]
    have := mul4b hc hc
    exact iquo_e (by omega) (by omega) (by omega)
  · cases h
def g_impl_PolygonSquare : List AV → Option Sg
  | [.s (.view (.pts l)), .agg [.int p1, .int p2]] => some ⟨True, [.s (.int (psq l p1 p2))]⟩
  | _ => none
def sig_impl_PolygonSquare : FuncId → List AV → Option Sg := sigL [(16, g_impl_ConvexValid), (60, g_impl_near), (61, g_slices_ContainsFunc_Simpl_Point_impl_Point), (53, g_impl_inside), (63, g_impl_segmentSquare)]
def xs_impl_PolygonSquare : XS := ⟨xsigL [], ysigL []⟩
theorem sig_impl_PolygonSquare_ok : SigOK sig_impl_PolygonSquare := sigL_cons F_impl_ConvexValid (sigL_cons F_impl_near (sigL_cons F_slices_ContainsFunc_Simpl_Point_impl_Point (sigL_cons F_impl_inside (sigL_cons F_impl_segmentSquare sigL_nil))))
theorem xs_impl_PolygonSquare_ok : XSigOK xs_impl_PolygonSquare := ⟨xsigL_nil, ysigL_nil⟩
theorem V_impl_PolygonSquare (l : List Pt) (p1 : Int) (p2 : Int) : ((true = true) ∧ ((True) ∧ (True) ∧ True) ∧ (true = true) ∧ ((True) ∧ ((True)) ∧ (True) ∧ (True) ∧ (NIs (bnot (convB l)) false → True) ∧ (NIs (bnot (convB l)) false → (True)) ∧ (NIs (bnot (convB l)) false → True) ∧ (True) ∧ (True) ∧ (NIs (bite (bnot (convB l)) true (bnot (nearB p1 p2))) false → True) ∧ (NIs (bite (bnot (convB l)) true (bnot (nearB p1 p2))) false → (True)) ∧ (True) ∧ True) ∧ ((bite (bite (bnot (convB l)) true (bnot (nearB p1 p2))) true (anyN (ilen l) fun i => !nearB (getx l i) (gety l i))) = true → ((true = true) ∧ ((True) ∧ True) ∧ (((-1 : Int) : Int) = (psq l p1 p2)) ∧ True)) ∧ ((bite (bite (bnot (convB l)) true (bnot (nearB p1 p2))) true (anyN (ilen l) fun i => !nearB (getx l i) (gety l i))) = false → ((true = true) ∧ ((True) ∧ (True) ∧ ((True)) ∧ True) ∧ ((insB l p1 p2) = true → ((true = true) ∧ ((True) ∧ True) ∧ (((0 : Int) : Int) = (psq l p1 p2)) ∧ True)) ∧ ((insB l p1 p2) = false → ((true = true) ∧ ((True) ∧ True) ∧ (true = true) ∧ ((True) ∧ (True) ∧ (True) ∧ True) ∧ ∃ (I1 : List GV → Prop) (μ1 : List GV → Nat), (((true = true) ∧ ((((-1 : Int) : Int) = (-1 : Int)) ∧ (((0 : Int) : Int) = (0 : Int)) ∧ ((Cont.pts l) = (Cont.pts l)) ∧ (((ilen l) : Int) = (ilen l)) ∧ ((Cont.pts l) = (Cont.pts l)) ∧ (((p1 : Int) = p1) ∧ ((p2 : Int) = p2) ∧ True) ∧ (((insB l p1 p2) : Bool) = (insB l p1 p2)) ∧ ((Cont.pts l) = (Cont.pts l)) ∧ (((convB l) : Bool) = (convB l)) ∧ (((bnot (convB l)) : Bool) = (bnot (convB l))) ∧ (((bnot (convB l)) : Bool) = (bnot (convB l))) ∧ (((bite (bnot (convB l)) true (bnot (nearB p1 p2))) : Bool) = (bite (bnot (convB l)) true (bnot (nearB p1 p2)))) ∧ (((bite (bnot (convB l)) true (bnot (nearB p1 p2))) : Bool) = (bite (bnot (convB l)) true (bnot (nearB p1 p2)))) ∧ (((bite (bite (bnot (convB l)) true (bnot (nearB p1 p2))) true (anyN (ilen l) fun i => !nearB (getx l i) (gety l i))) : Bool) = (bite (bite (bnot (convB l)) true (bnot (nearB p1 p2))) true (anyN (ilen l) fun i => !nearB (getx l i) (gety l i)))) ∧ (true = true) ∧ (((0 : Int) : Int) = (0 : Int)) ∧ ((Cont.pts l) = (Cont.pts l)) ∧ (((p1 : Int) = p1) ∧ ((p2 : Int) = p2) ∧ True) ∧ True) ∧ ((((p1 : Int) = p1) ∧ ((p2 : Int) = p2) ∧ True) ∧ True)) ∧ (([GK.int, GK.int] : List GK) = ([GK.int, GK.int] : List GK)) ∧ I1 [GV.int (0 : Int), GV.int (-1 : Int)]) ∧ (∀ i1_0 : Int, ∀ i1_1 : Int, I1 [GV.int i1_0, GV.int i1_1] → ((true = true) ∧ ((True) ∧ True) ∧ ((ilt i1_0 (ilen l)) = true → ((true = true) ∧ ((True) ∧ (NLe 0 i1_0 ∧ NLt i1_0 (ilen l)) ∧ (True) ∧ (True) ∧ (True) ∧ True) ∧ (True) ∧ (true = true) ∧ ((True) ∧ (True) ∧ (True) ∧ (True) ∧ (True) ∧ (True) ∧ (True) ∧ (NNe (ilen l) 0) ∧ (NLe 0 (irem (iadd i1_0 (1 : Int)) (ilen l)) ∧ NLt (irem (iadd i1_0 (1 : Int)) (ilen l)) (ilen l)) ∧ (True) ∧ ((nearB p1 p2 = true ∧ nearB (getx l i1_0) (gety l i1_0) = true ∧ nearB (getx l (irem (iadd i1_0 (1 : Int)) (ilen l))) (gety l (irem (iadd i1_0 (1 : Int)) (ilen l))) = true)) ∧ (True) ∧ True) ∧ (true = true) ∧ ((True) ∧ (True) ∧ (True) ∧ (NIs (ilt i1_1 (0 : Int)) false → True) ∧ (NIs (ilt i1_1 (0 : Int)) false → True) ∧ (NIs (ilt i1_1 (0 : Int)) false → True) ∧ (True) ∧ True) ∧ ((bite (ilt i1_1 (0 : Int)) true (ilt (ssqE p1 p2 (getx l i1_0) (gety l i1_0) (getx l (irem (iadd i1_0 (1 : Int)) (ilen l))) (gety l (irem (iadd i1_0 (1 : Int)) (ilen l)))) i1_1)) = true → ((true = true) ∧ ((True) ∧ (True) ∧ True) ∧ (true = true) ∧ ((True) ∧ (True) ∧ True) ∧ ((true = true) ∧ ((((ssqE p1 p2 (getx l i1_0) (gety l i1_0) (getx l (irem (iadd i1_0 (1 : Int)) (ilen l))) (gety l (irem (iadd i1_0 (1 : Int)) (ilen l)))) : Int) = (ssqE p1 p2 (getx l i1_0) (gety l i1_0) (getx l (irem (iadd i1_0 (1 : Int)) (ilen l))) (gety l (irem (iadd i1_0 (1 : Int)) (ilen l))))) ∧ (((iadd i1_0 (1 : Int)) : Int) = (iadd i1_0 (1 : Int))) ∧ ((Cont.pts l) = (Cont.pts l)) ∧ (((ilen l) : Int) = (ilen l)) ∧ ((Cont.pts l) = (Cont.pts l)) ∧ (((p1 : Int) = p1) ∧ ((p2 : Int) = p2) ∧ True) ∧ (((insB l p1 p2) : Bool) = (insB l p1 p2)) ∧ ((Cont.pts l) = (Cont.pts l)) ∧ (((convB l) : Bool) = (convB l)) ∧ (((bnot (convB l)) : Bool) = (bnot (convB l))) ∧ (((bnot (convB l)) : Bool) = (bnot (convB l))) ∧ (((bite (bnot (convB l)) true (bnot (nearB p1 p2))) : Bool) = (bite (bnot (convB l)) true (bnot (nearB p1 p2)))) ∧ (((bite (bnot (convB l)) true (bnot (nearB p1 p2))) : Bool) = (bite (bnot (convB l)) true (bnot (nearB p1 p2)))) ∧ (((bite (bite (bnot (convB l)) true (bnot (nearB p1 p2))) true (anyN (ilen l) fun i => !nearB (getx l i) (gety l i))) : Bool) = (bite (bite (bnot (convB l)) true (bnot (nearB p1 p2))) true (anyN (ilen l) fun i => !nearB (getx l i) (gety l i)))) ∧ (true = true) ∧ (((0 : Int) : Int) = (0 : Int)) ∧ ((Cont.pts l) = (Cont.pts l)) ∧ (((p1 : Int) = p1) ∧ ((p2 : Int) = p2) ∧ True) ∧ True) ∧ ((((p1 : Int) = p1) ∧ ((p2 : Int) = p2) ∧ True) ∧ True)) ∧ ((([GK.int, GK.int] : List GK) = ([GK.int, GK.int] : List GK)) ∧ I1 [GV.int (iadd i1_0 (1 : Int)), GV.int (ssqE p1 p2 (getx l i1_0) (gety l i1_0) (getx l (irem (iadd i1_0 (1 : Int)) (ilen l))) (gety l (irem (iadd i1_0 (1 : Int)) (ilen l))))] ∧ μ1 [GV.int (iadd i1_0 (1 : Int)), GV.int (ssqE p1 p2 (getx l i1_0) (gety l i1_0) (getx l (irem (iadd i1_0 (1 : Int)) (ilen l))) (gety l (irem (iadd i1_0 (1 : Int)) (ilen l))))] < μ1 [GV.int i1_0, GV.int i1_1]))) ∧ ((bite (ilt i1_1 (0 : Int)) true (ilt (ssqE p1 p2 (getx l i1_0) (gety l i1_0) (getx l (irem (iadd i1_0 (1 : Int)) (ilen l))) (gety l (irem (iadd i1_0 (1 : Int)) (ilen l)))) i1_1)) = false → ((true = true) ∧ ((True) ∧ (True) ∧ True) ∧ ((true = true) ∧ (((i1_1 : Int) = i1_1) ∧ (((iadd i1_0 (1 : Int)) : Int) = (iadd i1_0 (1 : Int))) ∧ ((Cont.pts l) = (Cont.pts l)) ∧ (((ilen l) : Int) = (ilen l)) ∧ ((Cont.pts l) = (Cont.pts l)) ∧ (((p1 : Int) = p1) ∧ ((p2 : Int) = p2) ∧ True) ∧ (((insB l p1 p2) : Bool) = (insB l p1 p2)) ∧ ((Cont.pts l) = (Cont.pts l)) ∧ (((convB l) : Bool) = (convB l)) ∧ (((bnot (convB l)) : Bool) = (bnot (convB l))) ∧ (((bnot (convB l)) : Bool) = (bnot (convB l))) ∧ (((bite (bnot (convB l)) true (bnot (nearB p1 p2))) : Bool) = (bite (bnot (convB l)) true (bnot (nearB p1 p2)))) ∧ (((bite (bnot (convB l)) true (bnot (nearB p1 p2))) : Bool) = (bite (bnot (convB l)) true (bnot (nearB p1 p2)))) ∧ (((bite (bite (bnot (convB l)) true (bnot (nearB p1 p2))) true (anyN (ilen l) fun i => !nearB (getx l i) (gety l i))) : Bool) = (bite (bite (bnot (convB l)) true (bnot (nearB p1 p2))) true (anyN (ilen l) fun i => !nearB (getx l i) (gety l i)))) ∧ (true = true) ∧ (((0 : Int) : Int) = (0 : Int)) ∧ ((Cont.pts l) = (Cont.pts l)) ∧ (((p1 : Int) = p1) ∧ ((p2 : Int) = p2) ∧ True) ∧ True) ∧ ((((p1 : Int) = p1) ∧ ((p2 : Int) = p2) ∧ True) ∧ True)) ∧ ((([GK.int, GK.int] : List GK) = ([GK.int, GK.int] : List GK)) ∧ I1 [GV.int (iadd i1_0 (1 : Int)), GV.int i1_1] ∧ μ1 [GV.int (iadd i1_0 (1 : Int)), GV.int i1_1] < μ1 [GV.int i1_0, GV.int i1_1]))))) ∧ ((ilt i1_0 (ilen l)) = false → ((true = true) ∧ ((True) ∧ (True) ∧ True) ∧ ((i1_1 : Int) = (psq l p1 p2)) ∧ True))))))))) = ev sig_impl_PolygonSquare xs_impl_PolygonSquare Try.f31.ntmps (fun b => if b == 0 then [.v 26, .v 5] else []) (codeOf Try.f31) 0 (initS [.s (.view (.pts l)), .agg [.int p1, .int p2]]) (retK Try.f31.results.toList [.s (.int (psq l p1 p2))]) := by kernel_rfl
set_option maxHeartbeats 400000 in
theorem F_impl_PolygonSquare : FunOK 31 g_impl_PolygonSquare := by
  refine fun_F (by kernel_rfl) Try.func31 rfl (by kernel_rfl) sig_impl_PolygonSquare_ok xs_impl_PolygonSquare_ok ?_
  intro avs sg h hn hl
  unfold g_impl_PolygonSquare at h
  split at h
  · rename_i l p1 p2
    injection h with h; subst h
    refine ⟨by kernel_rfl, fun b => if b == 0 then [.v 26, .v 5] else [], Eq.mp (V_impl_PolygonSquare l p1 p2) ?_⟩
    simp only [true_and, and_true, implies_true, and_self, forall_const, true_implies, lenA, lenL, SV.lenOK, Cont.lenOK] at hn hl ⊢
    have h0 := ilen_0 l
    simp only [ilt_t, ilt_f, ile_t, ile_f, ieq_t, ieq_f, bnot_e, band_e, bite_and, bite_or, NLt_e, NLe_e, NNe_e, NIs_e, imax_e, imin_e, irem_e, Bool.not_eq_true', Bool.not_eq_false', Bool.and_eq_true, Bool.or_eq_true, Bool.or_eq_false_iff, Bool.and_eq_false_iff, Cont.pts.injEq, Cont.ints.injEq, Cont.bools.injEq, Cont.ptss.injEq, Cont.intss.injEq, Cont.boolss.injEq, true_and, and_true, implies_true, anyN_not, Bool.not_not]
    refine ⟨fun h => ?_, fun h => ?_⟩
    · have : psqB l p1 p2 = false := by unfold psqB; rcases h with (h | h) | h <;> simp [h]
      unfold psq; rw [this]; rfl
    · obtain ⟨⟨hc, hp⟩, hN⟩ := h
      have hB : psqB l p1 p2 = true := by unfold psqB; rw [hc, hp, hN]; rfl
      have hNi := allN_iff.1 hN
      obtain ⟨c1, c2, c3⟩ := convB_all hc
      refine ⟨fun hi => by unfold psq; rw [hB, hi]; rfl, fun hi => ?_⟩
      refine ⟨fun | .int k :: .int s :: _ => 0 ≤ k ∧ k ≤ ilen l ∧ s = minF l p1 p2 k | _ => False, fun | .int k :: _ => (ilen l - k).toNat | _ => 0, ?_, ?_⟩
      · exact ⟨Int.le_refl 0, h0, rfl⟩
      · rintro k s ⟨hk0, hk1, hs⟩
        refine ⟨fun hkn => ?_, fun hkn => ?_⟩
        · have e1 := iadd_1 hk0 hkn hl
          obtain ⟨n0, n1, _⟩ := nx_in hk0 hkn
          have e2 : (k + 1).tmod (ilen l) = nx l k := rfl
          simp only [e1, e2]
          have hstep := minF_1 (l := l) (p1 := p1) (p2 := p2) hk0
          have hq : ssqE p1 p2 (getx l k) (gety l k) (getx l (nx l k)) (gety l (nx l k)) = psqE l p1 p2 k := rfl
          simp only [hq]
          refine ⟨⟨hk0, hkn⟩, ⟨by omega, ⟨n0, n1⟩, hp, hNi k hk0 hkn, hNi _ n0 n1⟩, fun hx => ?_, fun hx => ?_⟩
          · rw [← hs, if_pos hx] at hstep
            exact ⟨⟨by omega, by omega, hstep.symm⟩, by omega⟩
          · rw [← hs, if_neg (by omega)] at hstep
            exact ⟨⟨by omega, by omega, hstep.symm⟩, by omega⟩
        · have e : k = ilen l := by omega
          subst e
          unfold psq
          rw [hB, hi, hs]; rfl
  · cases h
def g_impl_KeepsClear : List AV → Option Sg
  | [.s (.view (.ptss l)), .agg [.int p1, .int p2], .s (.int d)] => some ⟨True, [.s (.bool (kcB l p1 p2 d))]⟩
  | _ => none
def sig_impl_KeepsClear : FuncId → List AV → Option Sg := sigL [(45, g_impl_within), (31, g_impl_PolygonSquare)]
def xs_impl_KeepsClear : XS := ⟨xsigL [], ysigL []⟩
theorem sig_impl_KeepsClear_ok : SigOK sig_impl_KeepsClear := sigL_cons F_impl_within (sigL_cons F_impl_PolygonSquare sigL_nil)
theorem xs_impl_KeepsClear_ok : XSigOK xs_impl_KeepsClear := ⟨xsigL_nil, ysigL_nil⟩
theorem V_impl_KeepsClear (l : List (List Pt)) (p1 : Int) (p2 : Int) (d : Int) : ((true = true) ∧ ((True) ∧ (True) ∧ True) ∧ (true = true) ∧ ((True) ∧ ((True)) ∧ (True) ∧ (True) ∧ (NIs (bnot (inB d (0 : Int) (1000 : Int))) false → True) ∧ (NIs (bnot (inB d (0 : Int) (1000 : Int))) false → True) ∧ (NIs (bnot (inB d (0 : Int) (1000 : Int))) false → True) ∧ (True) ∧ True) ∧ ((bite (bnot (inB d (0 : Int) (1000 : Int))) true (ilt (8 : Int) (ilen l))) = true → ((true = true) ∧ ((True) ∧ True) ∧ ((false : Bool) = (kcB l p1 p2 d)) ∧ True)) ∧ ((bite (bnot (inB d (0 : Int) (1000 : Int))) true (ilt (8 : Int) (ilen l))) = false → ((true = true) ∧ ((True) ∧ (True) ∧ (True) ∧ True) ∧ ∃ (I1 : List GV → Prop) (μ1 : List GV → Nat), (((true = true) ∧ (((false : Bool) = false) ∧ (((0 : Int) : Int) = (0 : Int)) ∧ ((Cont.ptss l) = (Cont.ptss l)) ∧ (((ilen l) : Int) = (ilen l)) ∧ ((d : Int) = d) ∧ (((inB d (0 : Int) (1000 : Int)) : Bool) = (inB d (0 : Int) (1000 : Int))) ∧ (((bnot (inB d (0 : Int) (1000 : Int))) : Bool) = (bnot (inB d (0 : Int) (1000 : Int)))) ∧ (((bnot (inB d (0 : Int) (1000 : Int))) : Bool) = (bnot (inB d (0 : Int) (1000 : Int)))) ∧ (((bite (bnot (inB d (0 : Int) (1000 : Int))) true (ilt (8 : Int) (ilen l))) : Bool) = (bite (bnot (inB d (0 : Int) (1000 : Int))) true (ilt (8 : Int) (ilen l)))) ∧ (true = true) ∧ ((Cont.ptss l) = (Cont.ptss l)) ∧ (((p1 : Int) = p1) ∧ ((p2 : Int) = p2) ∧ True) ∧ ((d : Int) = d) ∧ True) ∧ ((((p1 : Int) = p1) ∧ ((p2 : Int) = p2) ∧ True) ∧ True)) ∧ (([GK.int, GK.bool] : List GK) = ([GK.int, GK.bool] : List GK)) ∧ I1 [GV.int (0 : Int), GV.bool false]) ∧ (∀ i1_0 : Int, ∀ b1_1 : Bool, I1 [GV.int i1_0, GV.bool b1_1] → ((true = true) ∧ ((True) ∧ True) ∧ ((ilt i1_0 (ilen l)) = true → ((true = true) ∧ ((NLe 0 i1_0 ∧ NLt i1_0 (ilen l)) ∧ (True) ∧ (True) ∧ True) ∧ (true = true) ∧ ((True) ∧ (True) ∧ ((True)) ∧ (True) ∧ True) ∧ (true = true) ∧ ((True) ∧ (True) ∧ (True) ∧ (NIs (ilt (psq (getl l i1_0) p1 p2) (0 : Int)) false → True) ∧ (NIs (ilt (psq (getl l i1_0) p1 p2) (0 : Int)) false → True) ∧ (NIs (ilt (psq (getl l i1_0) p1 p2) (0 : Int)) false → True) ∧ (NIs (ilt (psq (getl l i1_0) p1 p2) (0 : Int)) false → True) ∧ (NIs (ilt (psq (getl l i1_0) p1 p2) (0 : Int)) false → True) ∧ (True) ∧ True) ∧ ((bite (ilt (psq (getl l i1_0) p1 p2) (0 : Int)) true (ilt (psq (getl l i1_0) p1 p2) (imul d d))) = true → ((true = true) ∧ ((True) ∧ True) ∧ ((false : Bool) = (kcB l p1 p2 d)) ∧ True)) ∧ ((bite (ilt (psq (getl l i1_0) p1 p2) (0 : Int)) true (ilt (psq (getl l i1_0) p1 p2) (imul d d))) = false → ((true = true) ∧ ((True) ∧ (True) ∧ True) ∧ ((true = true) ∧ (((b1_1 : Bool) = b1_1) ∧ (((iadd i1_0 (1 : Int)) : Int) = (iadd i1_0 (1 : Int))) ∧ ((Cont.ptss l) = (Cont.ptss l)) ∧ (((ilen l) : Int) = (ilen l)) ∧ ((d : Int) = d) ∧ (((inB d (0 : Int) (1000 : Int)) : Bool) = (inB d (0 : Int) (1000 : Int))) ∧ (((bnot (inB d (0 : Int) (1000 : Int))) : Bool) = (bnot (inB d (0 : Int) (1000 : Int)))) ∧ (((bnot (inB d (0 : Int) (1000 : Int))) : Bool) = (bnot (inB d (0 : Int) (1000 : Int)))) ∧ (((bite (bnot (inB d (0 : Int) (1000 : Int))) true (ilt (8 : Int) (ilen l))) : Bool) = (bite (bnot (inB d (0 : Int) (1000 : Int))) true (ilt (8 : Int) (ilen l)))) ∧ (true = true) ∧ ((Cont.ptss l) = (Cont.ptss l)) ∧ (((p1 : Int) = p1) ∧ ((p2 : Int) = p2) ∧ True) ∧ ((d : Int) = d) ∧ True) ∧ ((((p1 : Int) = p1) ∧ ((p2 : Int) = p2) ∧ True) ∧ True)) ∧ ((([GK.int, GK.bool] : List GK) = ([GK.int, GK.bool] : List GK)) ∧ I1 [GV.int (iadd i1_0 (1 : Int)), GV.bool b1_1] ∧ μ1 [GV.int (iadd i1_0 (1 : Int)), GV.bool b1_1] < μ1 [GV.int i1_0, GV.bool b1_1]))))) ∧ ((ilt i1_0 (ilen l)) = false → ((true = true) ∧ ((True) ∧ True) ∧ ((true : Bool) = (kcB l p1 p2 d)) ∧ True))))))) = ev sig_impl_KeepsClear xs_impl_KeepsClear Try.f35.ntmps (fun b => if b == 0 then [.v 20, .v 6] else []) (codeOf Try.f35) 0 (initS [.s (.view (.ptss l)), .agg [.int p1, .int p2], .s (.int d)]) (retK Try.f35.results.toList [.s (.bool (kcB l p1 p2 d))]) := by kernel_rfl
set_option maxHeartbeats 400000 in
theorem F_impl_KeepsClear : FunOK 35 g_impl_KeepsClear := by
  refine fun_F (by kernel_rfl) Try.func35 rfl (by kernel_rfl) sig_impl_KeepsClear_ok xs_impl_KeepsClear_ok ?_
  intro avs sg h hn hl
  unfold g_impl_KeepsClear at h
  split at h
  · rename_i l p1 p2 d
    injection h with h; subst h
    refine ⟨by kernel_rfl, fun b => if b == 0 then [.v 20, .v 6] else [], Eq.mp (V_impl_KeepsClear l p1 p2 d) ?_⟩
    simp only [true_and, and_true, implies_true, and_self, forall_const, true_implies, lenA, lenL, SV.lenOK, Cont.lenOK] at hn hl ⊢
    have h0 := ilen_0 l
    simp only [ilt_t, ilt_f, ile_t, ile_f, ieq_t, ieq_f, bnot_e, band_e, bite_and, bite_or, NLt_e, NLe_e, NNe_e, NIs_e, imax_e, imin_e, irem_e, Bool.not_eq_true', Bool.not_eq_false', Bool.and_eq_true, Bool.or_eq_true, Bool.or_eq_false_iff, Bool.and_eq_false_iff, Cont.pts.injEq, Cont.ints.injEq, Cont.bools.injEq, Cont.ptss.injEq, Cont.intss.injEq, Cont.boolss.injEq, true_and, and_true, implies_true]
    refine ⟨fun h => ?_, fun h => ?_⟩
    · unfold kcB ile
      rcases h with h | h <;> simp [h] <;> omega
    · obtain ⟨hc, hp⟩ := h
      have hd := inB_true hc
      simp only [dd_w hd]
      refine ⟨fun | .int k :: _ => 0 ≤ k ∧ k ≤ ilen l ∧ (∀ i, 0 ≤ i → i < k → kcE l p1 p2 d i = true) | _ => False, fun | .int k :: _ => (ilen l - k).toNat | _ => 0, ?_, ?_⟩
      · exact ⟨Int.le_refl 0, h0, fun j h0 h1 => absurd h1 (by omega)⟩
      · rintro k _ ⟨hk0, hk1, hk⟩
        simp only [ilt_t, ilt_f, ile_t, ile_f, ieq_t, ieq_f, bnot_e, band_e, bite_and, bite_or, NLt_e, NLe_e, NNe_e, NIs_e, imax_e, imin_e, irem_e, Bool.not_eq_true', Bool.not_eq_false', Bool.and_eq_true, Bool.or_eq_true, Bool.or_eq_false_iff, Bool.and_eq_false_iff, Cont.pts.injEq, Cont.ints.injEq, Cont.bools.injEq, Cont.ptss.injEq, Cont.intss.injEq, Cont.boolss.injEq, true_and, and_true, implies_true]
        refine ⟨fun hkn => ?_, fun hkn => ?_⟩
        · refine ⟨⟨hk0, hkn⟩, fun hx => ?_, fun hx => ?_⟩
          · have hE : kcE l p1 p2 d k = false := by unfold kcE; simp only [decide_eq_false_iff_not]; omega
            unfold kcB
            rw [allN_no k hk0 hkn hE]; simp
          · have hE : kcE l p1 p2 d k = true := by unfold kcE; simp only [decide_eq_true_eq]; omega
            rw [iadd_1 hk0 hkn hl.1]
            exact ⟨⟨by omega, by omega, upTo hk hE⟩, by omega⟩
        · unfold kcB
          rw [hc, allN_mk fun i i0 i1 => hk i i0 (by omega)]
          simp [ile]; omega
  · cases h
def g_laws_eqPoint : List AV → Option Sg
  | [.agg [.int p1, .int p2], .agg [.int q1, .int q2]] => some ⟨True, [.s (.bool (eqPt p1 p2 q1 q2))]⟩
  | _ => none
def sig_laws_eqPoint : FuncId → List AV → Option Sg := sigL []
def xs_laws_eqPoint : XS := ⟨xsigL [], ysigL []⟩
theorem sig_laws_eqPoint_ok : SigOK sig_laws_eqPoint := sigL_nil
theorem xs_laws_eqPoint_ok : XSigOK xs_laws_eqPoint := ⟨xsigL_nil, ysigL_nil⟩
theorem V_laws_eqPoint (p1 : Int) (p2 : Int) (q1 : Int) (q2 : Int) : ((true = true) ∧ ((True) ∧ (True) ∧ (True) ∧ True) ∧ (true = true) ∧ ((True) ∧ (True) ∧ (True) ∧ (True) ∧ (True) ∧ True) ∧ ((bnot (ieq p1 q1)) = true → ((true = true) ∧ ((True) ∧ True) ∧ ((false : Bool) = (eqPt p1 p2 q1 q2)) ∧ True)) ∧ ((bnot (ieq p1 q1)) = false → ((true = true) ∧ ((True) ∧ (True) ∧ (True) ∧ (True) ∧ (True) ∧ True) ∧ ((bnot (ieq p2 q2)) = true → ((true = true) ∧ ((True) ∧ True) ∧ ((false : Bool) = (eqPt p1 p2 q1 q2)) ∧ True)) ∧ ((bnot (ieq p2 q2)) = false → ((true = true) ∧ ((True) ∧ True) ∧ ((true : Bool) = (eqPt p1 p2 q1 q2)) ∧ True))))) = ev sig_laws_eqPoint xs_laws_eqPoint Try.f48.ntmps (fun b => []) (codeOf Try.f48) 0 (initS [.agg [.int p1, .int p2], .agg [.int q1, .int q2]]) (retK Try.f48.results.toList [.s (.bool (eqPt p1 p2 q1 q2))]) := by kernel_rfl
set_option maxHeartbeats 400000 in
theorem F_laws_eqPoint : FunOK 48 g_laws_eqPoint := by
  refine fun_F (by kernel_rfl) Try.func48 rfl (by kernel_rfl) sig_laws_eqPoint_ok xs_laws_eqPoint_ok ?_
  intro avs sg h hn hl
  unfold g_laws_eqPoint at h
  split at h
  · rename_i p1 p2 q1 q2
    injection h with h; subst h
    refine ⟨by kernel_rfl, fun b => [], Eq.mp (V_laws_eqPoint p1 p2 q1 q2) ?_⟩
    simp only [true_and, and_true, implies_true, and_self, forall_const, true_implies, lenA, lenL, SV.lenOK, Cont.lenOK] at hn hl ⊢
    simp only [ilt_t, ilt_f, ile_t, ile_f, ieq_t, ieq_f, bnot_e, band_e, bite_and, bite_or, NLt_e, NLe_e, NNe_e, NIs_e, imax_e, imin_e, irem_e, Bool.not_eq_true', Bool.not_eq_false', Bool.and_eq_true, Bool.or_eq_true, Bool.or_eq_false_iff, Bool.and_eq_false_iff, Cont.pts.injEq, Cont.ints.injEq, Cont.bools.injEq, Cont.ptss.injEq, Cont.intss.injEq, Cont.boolss.injEq, true_and, and_true, implies_true]
    unfold eqPt
    refine ⟨fun h => by simp [h], fun h => ⟨fun h2 => by simp [h2], fun h2 => by simp [h, h2]⟩⟩
  · cases h
def g_laws_eqPointS : List AV → Option Sg
  | [.s (.view (.pts l)), .s (.view (.pts m))] => some ⟨True, [.s (.bool (eqL l m))]⟩
  | _ => none
def sig_laws_eqPointS : FuncId → List AV → Option Sg := sigL [(48, g_laws_eqPoint)]
def xs_laws_eqPointS : XS := ⟨xsigL [], ysigL []⟩
theorem sig_laws_eqPointS_ok : SigOK sig_laws_eqPointS := sigL_cons F_laws_eqPoint sigL_nil
theorem xs_laws_eqPointS_ok : XSigOK xs_laws_eqPointS := ⟨xsigL_nil, ysigL_nil⟩
theorem V_laws_eqPointS (l : List Pt) (m : List Pt) : ((true = true) ∧ ((True) ∧ True) ∧ (true = true) ∧ ((True) ∧ (True) ∧ (True) ∧ (True) ∧ (True) ∧ True) ∧ ((bnot (ieq (ilen l) (ilen m))) = true → ((true = true) ∧ ((True) ∧ True) ∧ ((false : Bool) = (eqL l m)) ∧ True)) ∧ ((bnot (ieq (ilen l) (ilen m))) = false → ((true = true) ∧ ((True) ∧ True) ∧ ∃ (I1 : List GV → Prop) (μ1 : List GV → Nat), (((true = true) ∧ (((false : Bool) = false) ∧ (((0 : Int) : Int) = (0 : Int)) ∧ ((Cont.pts l) = (Cont.pts l)) ∧ (((ilen l) : Int) = (ilen l)) ∧ ((Cont.pts m) = (Cont.pts m)) ∧ (((ilen m) : Int) = (ilen m)) ∧ (((bnot (ieq (ilen l) (ilen m))) : Bool) = (bnot (ieq (ilen l) (ilen m)))) ∧ ((Cont.pts l) = (Cont.pts l)) ∧ ((Cont.pts m) = (Cont.pts m)) ∧ True) ∧ (True)) ∧ (([GK.int, GK.bool] : List GK) = ([GK.int, GK.bool] : List GK)) ∧ I1 [GV.int (0 : Int), GV.bool false]) ∧ (∀ i1_0 : Int, ∀ b1_1 : Bool, I1 [GV.int i1_0, GV.bool b1_1] → ((true = true) ∧ ((True) ∧ (True) ∧ (True) ∧ (True) ∧ True) ∧ ((ilt i1_0 (ilen l)) = true → ((true = true) ∧ ((True) ∧ (True) ∧ (NLe 0 i1_0 ∧ NLt i1_0 (ilen l)) ∧ (True) ∧ (True) ∧ (True) ∧ (NLe 0 i1_0 ∧ NLt i1_0 (ilen m)) ∧ (True) ∧ ((True)) ∧ (True) ∧ True) ∧ ((bnot (eqPt (getx l i1_0) (gety l i1_0) (getx m i1_0) (gety m i1_0))) = true → ((true = true) ∧ ((True) ∧ True) ∧ ((false : Bool) = (eqL l m)) ∧ True)) ∧ ((bnot (eqPt (getx l i1_0) (gety l i1_0) (getx m i1_0) (gety m i1_0))) = false → ((true = true) ∧ ((True) ∧ (True) ∧ (True) ∧ True) ∧ ((true = true) ∧ (((b1_1 : Bool) = b1_1) ∧ (((iadd i1_0 (1 : Int)) : Int) = (iadd i1_0 (1 : Int))) ∧ ((Cont.pts l) = (Cont.pts l)) ∧ (((ilen l) : Int) = (ilen l)) ∧ ((Cont.pts m) = (Cont.pts m)) ∧ (((ilen m) : Int) = (ilen m)) ∧ (((bnot (ieq (ilen l) (ilen m))) : Bool) = (bnot (ieq (ilen l) (ilen m)))) ∧ ((Cont.pts l) = (Cont.pts l)) ∧ ((Cont.pts m) = (Cont.pts m)) ∧ True) ∧ (True)) ∧ ((([GK.int, GK.bool] : List GK) = ([GK.int, GK.bool] : List GK)) ∧ I1 [GV.int (iadd i1_0 (1 : Int)), GV.bool b1_1] ∧ μ1 [GV.int (iadd i1_0 (1 : Int)), GV.bool b1_1] < μ1 [GV.int i1_0, GV.bool b1_1]))))) ∧ ((ilt i1_0 (ilen l)) = false → ((true = true) ∧ ((True) ∧ True) ∧ ((true : Bool) = (eqL l m)) ∧ True))))))) = ev sig_laws_eqPointS xs_laws_eqPointS Try.f17.ntmps (fun b => if b == 0 then [.v 5, .v 4] else []) (codeOf Try.f17) 0 (initS [.s (.view (.pts l)), .s (.view (.pts m))]) (retK Try.f17.results.toList [.s (.bool (eqL l m))]) := by kernel_rfl
set_option maxHeartbeats 400000 in
theorem F_laws_eqPointS : FunOK 17 g_laws_eqPointS := by
  refine fun_F (by kernel_rfl) Try.func17 rfl (by kernel_rfl) sig_laws_eqPointS_ok xs_laws_eqPointS_ok ?_
  intro avs sg h hn hl
  unfold g_laws_eqPointS at h
  split at h
  · rename_i l m
    injection h with h; subst h
    refine ⟨by kernel_rfl, fun b => if b == 0 then [.v 5, .v 4] else [], Eq.mp (V_laws_eqPointS l m) ?_⟩
    simp only [true_and, and_true, implies_true, and_self, forall_const, true_implies, lenA, lenL, SV.lenOK, Cont.lenOK] at hn hl ⊢
    have h0 := ilen_0 l
    simp only [ilt_t, ilt_f, ile_t, ile_f, ieq_t, ieq_f, bnot_e, band_e, bite_and, bite_or, NLt_e, NLe_e, NNe_e, NIs_e, imax_e, imin_e, irem_e, Bool.not_eq_true', Bool.not_eq_false', Bool.and_eq_true, Bool.or_eq_true, Bool.or_eq_false_iff, Bool.and_eq_false_iff, Cont.pts.injEq, Cont.ints.injEq, Cont.bools.injEq, Cont.ptss.injEq, Cont.intss.injEq, Cont.boolss.injEq, true_and, and_true, implies_true]
    unfold eqL
    refine ⟨fun h => by simp [h], fun h => ?_⟩
    refine ⟨fun | .int k :: _ => 0 ≤ k ∧ k ≤ ilen l ∧ ∀ j, 0 ≤ j → j < k → eqPt (getx l j) (gety l j) (getx m j) (gety m j) = true | _ => False, fun | .int k :: _ => (ilen l - k).toNat | _ => 0, ?_, ?_⟩
    · exact ⟨Int.le_refl 0, h0, fun j h0 h1 => absurd h1 (by omega)⟩
    · rintro k _ ⟨hk0, hk1, hk⟩
      simp only [ilt_t, ilt_f, ile_t, ile_f, ieq_t, ieq_f, bnot_e, band_e, bite_and, bite_or, NLt_e, NLe_e, NNe_e, NIs_e, imax_e, imin_e, irem_e, Bool.not_eq_true', Bool.not_eq_false', Bool.and_eq_true, Bool.or_eq_true, Bool.or_eq_false_iff, Bool.and_eq_false_iff, Cont.pts.injEq, Cont.ints.injEq, Cont.bools.injEq, Cont.ptss.injEq, Cont.intss.injEq, Cont.boolss.injEq, true_and, and_true, implies_true]
      refine ⟨fun hc => ⟨⟨⟨hk0, hc⟩, hk0, by omega⟩, fun hv => ?_, fun hv => ?_⟩, fun hc => ?_⟩
      · rw [allN_no k hk0 hc hv]; simp
      · rw [iadd_1 hk0 hc hl.1]
        exact ⟨⟨by omega, by omega, allN_up hk hv⟩, by omega⟩
      · rw [allN_mk fun j h0 h1 => hk j h0 (by omega)]; simp [h]
  · cases h
def g_laws_eqPointSS : List AV → Option Sg
  | [.s (.view (.ptss l)), .s (.view (.ptss m))] => some ⟨True, [.s (.bool (eqLL l m))]⟩
  | _ => none
def sig_laws_eqPointSS : FuncId → List AV → Option Sg := sigL [(17, g_laws_eqPointS)]
def xs_laws_eqPointSS : XS := ⟨xsigL [], ysigL []⟩
theorem sig_laws_eqPointSS_ok : SigOK sig_laws_eqPointSS := sigL_cons F_laws_eqPointS sigL_nil
theorem xs_laws_eqPointSS_ok : XSigOK xs_laws_eqPointSS := ⟨xsigL_nil, ysigL_nil⟩
theorem V_laws_eqPointSS (l : List (List Pt)) (m : List (List Pt)) : ((true = true) ∧ ((True) ∧ True) ∧ (true = true) ∧ ((True) ∧ (True) ∧ (True) ∧ (True) ∧ (True) ∧ True) ∧ ((bnot (ieq (ilen l) (ilen m))) = true → ((true = true) ∧ ((True) ∧ True) ∧ ((false : Bool) = (eqLL l m)) ∧ True)) ∧ ((bnot (ieq (ilen l) (ilen m))) = false → ((true = true) ∧ ((True) ∧ True) ∧ ∃ (I1 : List GV → Prop) (μ1 : List GV → Nat), (((true = true) ∧ (((false : Bool) = false) ∧ (((0 : Int) : Int) = (0 : Int)) ∧ ((Cont.ptss l) = (Cont.ptss l)) ∧ (((ilen l) : Int) = (ilen l)) ∧ ((Cont.ptss m) = (Cont.ptss m)) ∧ (((ilen m) : Int) = (ilen m)) ∧ (((bnot (ieq (ilen l) (ilen m))) : Bool) = (bnot (ieq (ilen l) (ilen m)))) ∧ ((Cont.ptss l) = (Cont.ptss l)) ∧ ((Cont.ptss m) = (Cont.ptss m)) ∧ True) ∧ (True)) ∧ (([GK.int, GK.bool] : List GK) = ([GK.int, GK.bool] : List GK)) ∧ I1 [GV.int (0 : Int), GV.bool false]) ∧ (∀ i1_0 : Int, ∀ b1_1 : Bool, I1 [GV.int i1_0, GV.bool b1_1] → ((true = true) ∧ ((True) ∧ (True) ∧ (True) ∧ (True) ∧ True) ∧ ((ilt i1_0 (ilen l)) = true → ((true = true) ∧ ((True) ∧ (True) ∧ (NLe 0 i1_0 ∧ NLt i1_0 (ilen l)) ∧ (True) ∧ (True) ∧ (True) ∧ (NLe 0 i1_0 ∧ NLt i1_0 (ilen m)) ∧ (True) ∧ ((True)) ∧ (True) ∧ True) ∧ ((bnot (eqL (getl l i1_0) (getl m i1_0))) = true → ((true = true) ∧ ((True) ∧ True) ∧ ((false : Bool) = (eqLL l m)) ∧ True)) ∧ ((bnot (eqL (getl l i1_0) (getl m i1_0))) = false → ((true = true) ∧ ((True) ∧ (True) ∧ (True) ∧ True) ∧ ((true = true) ∧ (((b1_1 : Bool) = b1_1) ∧ (((iadd i1_0 (1 : Int)) : Int) = (iadd i1_0 (1 : Int))) ∧ ((Cont.ptss l) = (Cont.ptss l)) ∧ (((ilen l) : Int) = (ilen l)) ∧ ((Cont.ptss m) = (Cont.ptss m)) ∧ (((ilen m) : Int) = (ilen m)) ∧ (((bnot (ieq (ilen l) (ilen m))) : Bool) = (bnot (ieq (ilen l) (ilen m)))) ∧ ((Cont.ptss l) = (Cont.ptss l)) ∧ ((Cont.ptss m) = (Cont.ptss m)) ∧ True) ∧ (True)) ∧ ((([GK.int, GK.bool] : List GK) = ([GK.int, GK.bool] : List GK)) ∧ I1 [GV.int (iadd i1_0 (1 : Int)), GV.bool b1_1] ∧ μ1 [GV.int (iadd i1_0 (1 : Int)), GV.bool b1_1] < μ1 [GV.int i1_0, GV.bool b1_1]))))) ∧ ((ilt i1_0 (ilen l)) = false → ((true = true) ∧ ((True) ∧ True) ∧ ((true : Bool) = (eqLL l m)) ∧ True))))))) = ev sig_laws_eqPointSS xs_laws_eqPointSS Try.f27.ntmps (fun b => if b == 0 then [.v 5, .v 4] else []) (codeOf Try.f27) 0 (initS [.s (.view (.ptss l)), .s (.view (.ptss m))]) (retK Try.f27.results.toList [.s (.bool (eqLL l m))]) := by kernel_rfl
set_option maxHeartbeats 400000 in
theorem F_laws_eqPointSS : FunOK 27 g_laws_eqPointSS := by
  refine fun_F (by kernel_rfl) Try.func27 rfl (by kernel_rfl) sig_laws_eqPointSS_ok xs_laws_eqPointSS_ok ?_
  intro avs sg h hn hl
  unfold g_laws_eqPointSS at h
  split at h
  · rename_i l m
    injection h with h; subst h
    refine ⟨by kernel_rfl, fun b => if b == 0 then [.v 5, .v 4] else [], Eq.mp (V_laws_eqPointSS l m) ?_⟩
    simp only [true_and, and_true, implies_true, and_self, forall_const, true_implies, lenA, lenL, SV.lenOK, Cont.lenOK] at hn hl ⊢
    have h0 := ilen_0 l
    simp only [ilt_t, ilt_f, ile_t, ile_f, ieq_t, ieq_f, bnot_e, band_e, bite_and, bite_or, NLt_e, NLe_e, NNe_e, NIs_e, imax_e, imin_e, irem_e, Bool.not_eq_true', Bool.not_eq_false', Bool.and_eq_true, Bool.or_eq_true, Bool.or_eq_false_iff, Bool.and_eq_false_iff, Cont.pts.injEq, Cont.ints.injEq, Cont.bools.injEq, Cont.ptss.injEq, Cont.intss.injEq, Cont.boolss.injEq, true_and, and_true, implies_true]
    unfold eqLL
    refine ⟨fun h => by simp [h], fun h => ?_⟩
    refine ⟨fun | .int k :: _ => 0 ≤ k ∧ k ≤ ilen l ∧ ∀ j, 0 ≤ j → j < k → eqL (getl l j) (getl m j) = true | _ => False, fun | .int k :: _ => (ilen l - k).toNat | _ => 0, ?_, ?_⟩
    · exact ⟨Int.le_refl 0, h0, fun j h0 h1 => absurd h1 (by omega)⟩
    · rintro k _ ⟨hk0, hk1, hk⟩
      simp only [ilt_t, ilt_f, ile_t, ile_f, ieq_t, ieq_f, bnot_e, band_e, bite_and, bite_or, NLt_e, NLe_e, NNe_e, NIs_e, imax_e, imin_e, irem_e, Bool.not_eq_true', Bool.not_eq_false', Bool.and_eq_true, Bool.or_eq_true, Bool.or_eq_false_iff, Bool.and_eq_false_iff, Cont.pts.injEq, Cont.ints.injEq, Cont.bools.injEq, Cont.ptss.injEq, Cont.intss.injEq, Cont.boolss.injEq, true_and, and_true, implies_true]
      refine ⟨fun hc => ⟨⟨⟨hk0, hc⟩, hk0, by omega⟩, fun hv => ?_, fun hv => ?_⟩, fun hc => ?_⟩
      · rw [allN_no k hk0 hc hv]; simp
      · rw [iadd_1 hk0 hc hl.1.1]
        exact ⟨⟨by omega, by omega, allN_up hk hv⟩, by omega⟩
      · rw [allN_mk fun j h0 h1 => hk j h0 (by omega)]; simp [h]
  · cases h
theorem bxor_self (a : Bool) : bxor a a = false := by cases a <;> simp [bxor]
def g_laws_FnExactKeepsClear : List AV → Option Sg
  | [.s (.view (.ptss l)), .agg [.int p1, .int p2], .s (.int d)] => some ⟨True, [.s (.bool (true))]⟩
  | _ => none
def sig_laws_FnExactKeepsClear : FuncId → List AV → Option Sg := sigL [(25, g_laws_toPointSS), (21, g_laws_toPoint), (34, g_spec_KeepsClear), (35, g_impl_KeepsClear), (27, g_laws_eqPointSS)]
def xs_laws_FnExactKeepsClear : XS := ⟨xsigL [], ysigL [(23, g_laws_szPointSS)]⟩
theorem sig_laws_FnExactKeepsClear_ok : SigOK sig_laws_FnExactKeepsClear := sigL_cons F_laws_toPointSS (sigL_cons F_laws_toPoint (sigL_cons F_spec_KeepsClear (sigL_cons F_impl_KeepsClear (sigL_cons F_laws_eqPointSS sigL_nil))))
theorem xs_laws_FnExactKeepsClear_ok : XSigOK xs_laws_FnExactKeepsClear := ⟨xsigL_nil, ysigL_cons F_laws_szPointSS ysigL_nil⟩
theorem V_laws_FnExactKeepsClear (l : List (List Pt)) (p1 : Int) (p2 : Int) (d : Int) : ((true = true) ∧ ((True) ∧ (True) ∧ True) ∧ (true = true) ∧ ((True) ∧ True) ∧ (true = true) ∧ ((True) ∧ (True) ∧ True) ∧ (true = true) ∧ ((0 ≤ (1048576 : Int) ∧ (1048576 : Int) ≤ 1048576)) ∧ (∀ k_1 : Int, ((k_1 < 0 ∨ (0 ≤ k_1 ∧ k_1 ≤ (1048576 : Int) ∧ ilen l ≤ (1048576 : Int) ∧ ∀ i, 0 ≤ i → i < ilen l → ilen (getl l i) ≤ (1048576 : Int))) → ((True) ∧ (true = true) ∧ ((True) ∧ (True) ∧ True) ∧ ((ilt (k_1) (0 : Int)) = true → ((true = true) ∧ ((True) ∧ True) ∧ ((true : Bool) = (true)) ∧ True)) ∧ ((ilt (k_1) (0 : Int)) = false → ((true = true) ∧ ((True) ∧ ((ilen l ≤ 100000000 ∧ ∀ i, 0 ≤ i → i < ilen l → ilen (getl l i) ≤ 100000000)) ∧ (True) ∧ ((True)) ∧ (True) ∧ ((True)) ∧ (True) ∧ True) ∧ (true = true) ∧ ((True) ∧ ((ilen l ≤ 100000000 ∧ ∀ i, 0 ≤ i → i < ilen l → ilen (getl l i) ≤ 100000000)) ∧ (True) ∧ True) ∧ (true = true) ∧ ((True) ∧ (True) ∧ ((True)) ∧ (True) ∧ ((True)) ∧ (True) ∧ True) ∧ (true = true) ∧ ((True) ∧ (True) ∧ (True) ∧ True) ∧ ((bxor (kcB (l) (p1) (p2) d) (kcB (l) (p1) (p2) d)) = true → ((true = true) ∧ ((True) ∧ True) ∧ ((false : Bool) = (true)) ∧ True)) ∧ ((bxor (kcB (l) (p1) (p2) d) (kcB (l) (p1) (p2) d)) = false → ((true = true) ∧ ((True) ∧ (True) ∧ ((ilen l ≤ 100000000 ∧ ∀ i, 0 ≤ i → i < ilen l → ilen (getl l i) ≤ 100000000)) ∧ ((True)) ∧ (True) ∧ True) ∧ ((bnot (eqLL (l) (l))) = true → ((true = true) ∧ ((True) ∧ True) ∧ ((false : Bool) = (true)) ∧ True)) ∧ ((bnot (eqLL (l) (l))) = false → ((true = true) ∧ ((True) ∧ True) ∧ ((true : Bool) = (true)) ∧ True)))))))))) = ev sig_laws_FnExactKeepsClear xs_laws_FnExactKeepsClear Try.f10.ntmps (fun b => []) (codeOf Try.f10) 0 (initS [.s (.view (.ptss l)), .agg [.int p1, .int p2], .s (.int d)]) (retK Try.f10.results.toList [.s (.bool (true))]) := by kernel_rfl
set_option maxHeartbeats 400000 in
theorem F_laws_FnExactKeepsClear : FunOK 10 g_laws_FnExactKeepsClear := by
  refine fun_F (by kernel_rfl) Try.func10 rfl (by kernel_rfl) sig_laws_FnExactKeepsClear_ok xs_laws_FnExactKeepsClear_ok ?_
  intro avs sg h hn hl
  unfold g_laws_FnExactKeepsClear at h
  split at h
  · rename_i l p1 p2 d
    injection h with h; subst h
    refine ⟨by kernel_rfl, fun b => [], Eq.mp (V_laws_FnExactKeepsClear l p1 p2 d) ?_⟩
    simp only [true_and, and_true, implies_true, and_self, forall_const, true_implies, lenA, lenL, SV.lenOK, Cont.lenOK] at hn hl ⊢
    have h0 := ilen_0 l
    simp only [ilt_t, ilt_f, ile_t, ile_f, ieq_t, ieq_f, bnot_e, band_e, bite_and, bite_or, NLt_e, NLe_e, NNe_e, NIs_e, imax_e, imin_e, irem_e, Bool.not_eq_true', Bool.not_eq_false', Bool.and_eq_true, Bool.or_eq_true, Bool.or_eq_false_iff, Bool.and_eq_false_iff, Cont.pts.injEq, Cont.ints.injEq, Cont.bools.injEq, Cont.ptss.injEq, Cont.intss.injEq, Cont.boolss.injEq, true_and, and_true, implies_true, eqPt_same, eqL_same, eqLL_same, bxor_self]
    refine ⟨by omega, ?_⟩
    intro k hk hk0
    have hb : ilen l ≤ 100000000 ∧ ∀ i, 0 ≤ i → i < ilen l → ilen (getl l i) ≤ 100000000 := by
      rcases hk with h | ⟨_, h1, h2, h3⟩
      · omega
      · exact ⟨by omega, fun i i0 i1 => by have := h3 i i0 i1; omega⟩
    exact ⟨hb, hb, by simp, fun _ => ⟨hb, by simp⟩⟩
  · cases h
theorem fnExactKeepsClear_walk (w : World) (v0 : Value) (x0 : List (List Pt)) (w0 : PointSSArg w v0 x0) (v1 : Value) (x1 : Pt) (w1 : PointArg v1 x1) (v2 : Value) (x2 : Int) (w2 : IntArg v2 x2) : Calls Try.prog 10 #[v0, v1, v2] w fun e w' => e = .returned (.bool true) ∧ Bel w w' :=
  walk_of F_laws_FnExactKeepsClear (avs := [.s (.view (.ptss x0)), .agg [.int x1.1, .int x1.2], .s (.int x2)]) rfl trivial ⟨ptss_reads w0, ⟨_, w1.1, rfl, rfl, trivial⟩, w2.1, trivial⟩
set_option maxRecDepth 100000 in
theorem fnExactKeepsClear_lifted (os : Os) (started : os.Started) (H : Type) (enc : TypeId × Value → H) :
    ReturnsInHanded {} Try.checked os 10 .any (Rows.fnExactKeepsClearSpec.pre6 enc Try.prog Try.f10 Rows.fnExactKeepsClearRow.domain false) (Rows.fnExactKeepsClearSpec.post enc Try.prog Try.f10 false true false false) := by
  have own : ownKnob Try.prog.godebug = none := by kernel_rfl
  have laidOut : laidOutB Try.prog = true := by kernel_rfl
  refine returnsInHanded_of_change (C := Try.checked) own started (by kernel_rfl) Try.func10
    (ChangeSpec.witness6 (enc := enc) (C := Try.checked) false ⟨#[], #[.slice none 0 0, .agg #[.int .i64 0, .int .i64 0], .int .i64 0], []⟩ 8 (by kernel_rfl) (by kernel_rfl) (by kernel_rfl) (by kernel_rfl)) ?_
  intro W base args ds gs before hval0 hW hcnd _
  have hval : ∀ (j : Nat) t v, Try.f10.params[j]? = some t → args[j]? = some v → Value.okWide Try.prog W .any base t v := hval0
  have hW' := hW
  obtain ⟨p, q, hA0, hV, rfl, hfz, hnd⟩ := hW
  have hA : DataW.TrodAll enc Try.prog W 0 (fun _ => true) true Try.f10.params.toList args.toList ds p := hA0
  rw [Try.params10] at hA hval
  obtain ⟨v0, vs0, d0, ds0, p0, q0, hargs, rfl, rfl, h0, r0⟩ := trodAll_cons hA
  obtain ⟨v1, vs1, d1, ds1, p1, q1, rfl, rfl, rfl, h1, r1⟩ := trodAll_cons r0
  obtain ⟨v2, vs2, d2, ds2, p2, q2, rfl, rfl, rfl, h2, r2⟩ := trodAll_cons r1
  obtain ⟨rfl, rfl, rfl⟩ := trodAll_nil r2
  obtain rfl : args = #[v0, v1, v2] := by cases args; simp_all
  obtain ⟨rfl, rfl⟩ := trodVars_none hV
  have k0 := h0
  have lt0 : ∀ x ∈ p0, x.block < W.heap.size := by obtain ⟨m, hm⟩ := k0; exact DataW.trod_lt m _ _ _ hm
  have k1 := h1
  have lt1 : ∀ x ∈ p1, x.block < W.heap.size := by obtain ⟨m, hm⟩ := k1; exact DataW.trod_lt m _ _ _ hm
  have k2 := h2
  have lt2 : ∀ x ∈ p2, x.block < W.heap.size := by obtain ⟨m, hm⟩ := k2; exact DataW.trod_lt m _ _ _ hm
  obtain ⟨x0, w0⟩ := opn_PointSS (hval 0 36 v0 rfl rfl) h0
  obtain ⟨x1, w1⟩ := opn_Point (hval 1 31 v1 rfl rfl) h1
  obtain ⟨x2, w2⟩ := opn_int (hval 2 3 v2 rfl rfl) h2
  clear hA0 hval0
  refine (fnExactKeepsClear_walk W v0 x0 w0 v1 x1 w1 v2 x2 w2).mono fun e W' ⟨he, bel⟩ => ?_
  subst he
  exact ⟨_, rfl, _, _, _, [], _, [], hW', trodAll_mk1 (shut_bool Try.underlying4 _), (trodAll_cons_mk (Below.trod laidOut (by kernel_rfl) (of_decide_eq_true (by kernel_rfl)) k0 bel lt0) (trodAll_cons_mk (Below.trod laidOut (by kernel_rfl) (of_decide_eq_true (by kernel_rfl)) k1 bel lt1) (trodAll_cons_mk (Below.trod laidOut (by kernel_rfl) (of_decide_eq_true (by kernel_rfl)) k2 bel lt2) trodAll_mk0))), rfl, Below.frame bel _, fun h => by cases h⟩
theorem fnExactKeepsClear_over : Rows.fnExactKeepsClearRow.holds Try.pinned (OpenSpec.ofChange Rows.fnExactKeepsClearSpec) :=
  OpenClaim.holds_of_wide 10 Try.f10 rfl rfl rfl rfl rfl rfl rfl ⟨rfl, rfl, rfl, rfl, rfl⟩ rfl rfl rfl rfl rfl (by kernel_rfl) Try.func10 (by kernel_rfl)
    (of_decide_eq_true (by kernel_rfl)) (by unfold Func.isWrapper; first | (rw [if_pos (by decide +kernel)]; kernel_rfl) | (rw [if_neg (by decide +kernel)]; exact ⟨rfl, rfl⟩))
    (fun os started H enc _ => fnExactKeepsClear_lifted os started H enc)
theorem fnExactKeepsClear_proved : Rows.FnExactKeepsClearSaid := fnExactKeepsClear_over
#print axioms fnExactKeepsClear_proved
end Go.Proofs.Ytfkkhgagajccfaa

/- 'FnExactPathValid': for all arguments the program's PathValid returns what the reference's returns and leaves its arguments alone. Conditions: none. -/
import Derived.Test.YtnhgojcleepdiaaAxO
namespace Go.Proofs.Ytnhgojcleepdiaa
open Go.ChangeShapes Go.WideShapes Go.ChangeAt Go.RowKit
set_option maxRecDepth 100000
set_option linter.unusedSimpArgs false
set_option linter.unusedVariables false
def szI (k n : Int) : Int := if k ≤ n then n - k else -1
def g_laws_szBoolS : List AV → Option Sg
  | [.s (.view (.bools l)), .s (.int n)] => some ⟨0 ≤ n ∧ n ≤ 1048576, [.s (.int (szI (ilen l) n))]⟩
  | _ => none
def sig_laws_szBoolS : FuncId → List AV → Option Sg := sigL []
def xs_laws_szBoolS : XS := ⟨xsigL [], ysigL []⟩
theorem sig_laws_szBoolS_ok : SigOK sig_laws_szBoolS := sigL_nil
theorem xs_laws_szBoolS_ok : XSigOK xs_laws_szBoolS := ⟨xsigL_nil, ysigL_nil⟩
theorem V_laws_szBoolS (l : List Bool) (n : Int) : ((true = true) ∧ ((True) ∧ True) ∧ (true = true) ∧ ((True) ∧ (True) ∧ (True) ∧ (True) ∧ (True) ∧ True) ∧ (true = true) ∧ ((True) ∧ (True) ∧ True) ∧ ((ilt (isub n (ilen l)) (0 : Int)) = true → ((true = true) ∧ ((True) ∧ True) ∧ (((-1 : Int) : Int) = (szI (ilen l) n)) ∧ True)) ∧ ((ilt (isub n (ilen l)) (0 : Int)) = false → ((true = true) ∧ ((True) ∧ (True) ∧ True) ∧ (((isub n (ilen l)) : Int) = (szI (ilen l) n)) ∧ True))) = ev sig_laws_szBoolS xs_laws_szBoolS Try.f73.ntmps (fun b => []) (codeOf Try.f73) 0 (initS [.s (.view (.bools l)), .s (.int n)]) (retK Try.f73.results.toList [.s (.int (szI (ilen l) n))]) := by kernel_rfl
set_option maxHeartbeats 400000 in
theorem F_laws_szBoolS : FunOK 73 g_laws_szBoolS := by
  refine fun_F (by kernel_rfl) Try.func73 rfl (by kernel_rfl) sig_laws_szBoolS_ok xs_laws_szBoolS_ok ?_
  intro avs sg h hn hl
  unfold g_laws_szBoolS at h
  split at h
  · rename_i l n
    injection h with h; subst h
    refine ⟨by kernel_rfl, fun b => [], Eq.mp (V_laws_szBoolS l n) ?_⟩
    simp only [true_and, and_true, implies_true, and_self, forall_const, true_implies, lenA, lenL, SV.lenOK, Cont.lenOK] at hn hl ⊢
    simp only [ilt_t, ilt_f, ile_t, ile_f, ieq_t, ieq_f, bnot_e, band_e, bite_and, bite_or, NLt_e, NLe_e, NNe_e, NIs_e, imax_e, imin_e, irem_e, Bool.not_eq_true', Bool.not_eq_false', Bool.and_eq_true, Bool.or_eq_true, Bool.or_eq_false_iff, Bool.and_eq_false_iff, Cont.pts.injEq, Cont.ints.injEq, Cont.bools.injEq, Cont.ptss.injEq, Cont.intss.injEq, Cont.boolss.injEq, true_and, and_true, implies_true]
    have := ilen_0 l
    rw [isub_e (by omega) (by omega)]
    unfold szI
    refine ⟨fun h => ?_, fun h => ?_⟩
    · rw [if_neg (by omega)]
    · rw [if_pos (by omega)]
  · cases h
def eqPt (p1 p2 q1 q2 : Int) : Bool := decide (p1 = q1) && decide (p2 = q2)
theorem eqPt_same (p q : Int) : eqPt p q p q = true := by simp [eqPt]
def eqL (l m : List Pt) : Bool := decide (ilen l = ilen m) && allN (ilen l) fun j => eqPt (getx l j) (gety l j) (getx m j) (gety m j)
theorem eqL_same (l : List Pt) : eqL l l = true := by
  unfold eqL
  rw [allN_mk fun j _ _ => eqPt_same _ _]
  simp
theorem getl_setl {α : Type} {l : List (List α)} {i j : Int} {x : List α} (h0 : 0 ≤ i) (h1 : i < ilen l) (h2 : 0 ≤ j) : getl (setl l i x) j = if j = i then x else getl l j := by
  unfold ilen at h1
  unfold getl setl
  by_cases h : j = i
  · subst h; simp [List.getD_eq_getElem?_getD, List.getElem?_set, show j.toNat < l.length by omega]
  · rw [if_neg h]; simp [List.getD_eq_getElem?_getD, List.getElem?_set, show ¬ i.toNat = j.toNat by omega]
theorem lists_ext {α : Type} {l m : List (List α)} (h : ilen l = ilen m) (hx : ∀ j, 0 ≤ j → j < ilen l → getl l j = getl m j) : l = m := by
  unfold ilen at h hx
  refine List.ext_getElem (by omega) fun i h1 h2 => ?_
  have e1 := hx i (by omega) (by omega)
  simpa [getl, List.getD_eq_getElem?_getD, h1, h2] using e1
theorem getl_len {α : Type} {l : List (List α)} (h : ∀ m ∈ l, ilen m ≤ 9223372036854775807) {j : Int} (h0 : 0 ≤ j) (h1 : j < ilen l) : ilen (getl l j) ≤ 9223372036854775807 := by
  unfold ilen at h1
  unfold getl
  rw [List.getD_eq_getElem?_getD, List.getElem?_eq_getElem (by omega)]
  exact h _ (List.getElem_mem _)
def eqLL (l m : List (List Pt)) : Bool := decide (ilen l = ilen m) && allN (ilen l) fun j => eqL (getl l j) (getl m j)
theorem eqLL_same (l : List (List Pt)) : eqLL l l = true := by
  unfold eqLL
  rw [allN_mk fun j _ _ => eqL_same _]
  simp
theorem szI_e {k n : Int} (h : 0 ≤ szI k n) : k ≤ n ∧ szI k n = n - k := by
  unfold szI at h ⊢
  split at h
  · rename_i h1; rw [if_pos h1]; exact ⟨h1, rfl⟩
  · omega
def crW (a1 a2 b1 b2 c1 c2 : Int) : Int := isub (imul (isub b1 a1) (isub c2 a2)) (imul (isub b2 a2) (isub c1 a1))
def cr (l : List Pt) (i j k : Int) : Int := crW (getx l i) (gety l i) (getx l j) (gety l j) (getx l k) (gety l k)
def nx (l : List Pt) (i : Int) : Int := (i + 1).tmod (ilen l)
def convE (l : List Pt) (i j : Int) : Bool := decide (j = i ∨ j = nx l i ∨ 0 < cr l i (nx l i) j)
def convB (l : List Pt) : Bool := inB (ilen l) 3 8 && allB l && allN (ilen l) fun i => allN (ilen l) fun j => convE l i j
theorem nx_in {l : List Pt} {i : Int} (h0 : 0 ≤ i) (h1 : i < ilen l) : 0 ≤ nx l i ∧ nx l i < ilen l ∧ ((i + 1 < ilen l ∧ nx l i = i + 1) ∨ (i + 1 = ilen l ∧ nx l i = 0)) := by
  have e : nx l i = (i + 1) % ilen l := Int.tmod_eq_emod_of_nonneg (by omega)
  rcases Int.lt_or_le (i + 1) (ilen l) with h | h
  · rw [e, Int.emod_eq_of_lt (by omega) h]; omega
  · have h2 : i + 1 = ilen l := by omega
    rw [e, h2, Int.emod_self]; omega
theorem allN_up {f : Int → Bool} {k : Int} (h : ∀ j, 0 ≤ j → j < k → f j = true) (hk : f k = true) : ∀ j, 0 ≤ j → j < k + 1 → f j = true := by
  intro j h0 h1
  rcases Int.lt_or_le j k with h2 | h2
  · exact h j h0 h2
  · rw [show j = k by omega]; exact hk
theorem upTo {P : Int → Prop} {k : Int} (h : ∀ j, 0 ≤ j → j < k → P j) (hk : P k) : ∀ j, 0 ≤ j → j < k + 1 → P j := by
  intro j h0 h1
  rcases Int.lt_or_le j k with h2 | h2
  · exact h j h0 h2
  · rw [show j = k by omega]; exact hk
theorem iadd_1 {k n : Int} (h0 : 0 ≤ k) (h1 : k < n) (h2 : n ≤ 9223372036854775807) : iadd k 1 = k + 1 := iadd_e (by omega) (by omega)
def s_laws_szBoolSS (l : List (List Bool)) (n : Int) : SgY := ⟨0 ≤ n ∧ n ≤ 1048576, [.int], (fun | [.int k] => k < 0 ∨ (0 ≤ k ∧ k ≤ n ∧ ilen l ≤ n ∧ ∀ i, 0 ≤ i → i < ilen l → ilen (getl l i) ≤ n) | _ => False), (fun | [.int k] => [.s (.int (k))] | _ => [])⟩
def g_laws_szBoolSS : List AV → Option SgY
  | [.s (.view (.boolss l)), .s (.int n)] => some (s_laws_szBoolSS l n)
  | _ => none
def sig_laws_szBoolSS : FuncId → List AV → Option Sg := sigL [(73, g_laws_szBoolS)]
def xs_laws_szBoolSS : XS := ⟨xsigL [], ysigL []⟩
theorem sig_laws_szBoolSS_ok : SigOK sig_laws_szBoolSS := sigL_cons F_laws_szBoolS sigL_nil
theorem xs_laws_szBoolSS_ok : XSigOK xs_laws_szBoolSS := ⟨xsigL_nil, ysigL_nil⟩
theorem V_laws_szBoolSS (l : List (List Bool)) (n : Int) : ((true = true) ∧ ((True) ∧ True) ∧ (true = true) ∧ ((True) ∧ (True) ∧ (True) ∧ (True) ∧ (True) ∧ True) ∧ (true = true) ∧ ((True) ∧ (True) ∧ True) ∧ ((ilt (isub n (ilen l)) (0 : Int)) = true → ((true = true) ∧ ((True) ∧ True) ∧ ∃ k : Int, ((k < 0 ∨ (0 ≤ k ∧ k ≤ n ∧ ilen l ≤ n ∧ ∀ i, 0 ≤ i → i < ilen l → ilen (getl l i) ≤ n)) ∧ ((((-1 : Int) : Int) = (k)) ∧ True)))) ∧ ((ilt (isub n (ilen l)) (0 : Int)) = false → ((true = true) ∧ ((True) ∧ True) ∧ ∃ (I1 : List GV → Prop) (μ1 : List GV → Nat), (((true = true) ∧ ((((0 : Int) : Int) = (0 : Int)) ∧ (((isub n (ilen l)) : Int) = (isub n (ilen l))) ∧ (((0 : Int) : Int) = (0 : Int)) ∧ (((isub n (ilen l)) : Int) = (isub n (ilen l))) ∧ (((ilt (isub n (ilen l)) (0 : Int)) : Bool) = (ilt (isub n (ilen l)) (0 : Int))) ∧ ((n : Int) = n) ∧ ((Cont.boolss l) = (Cont.boolss l)) ∧ (((ilen l) : Int) = (ilen l)) ∧ (((isub n (ilen l)) : Int) = (isub n (ilen l))) ∧ ((Cont.boolss l) = (Cont.boolss l)) ∧ True) ∧ (True)) ∧ (([GK.int, GK.int, GK.int] : List GK) = ([GK.int, GK.int, GK.int] : List GK)) ∧ I1 [GV.int (0 : Int), GV.int (isub n (ilen l)), GV.int (0 : Int)]) ∧ (∀ i1_0 : Int, ∀ i1_1 : Int, ∀ i1_2 : Int, I1 [GV.int i1_0, GV.int i1_1, GV.int i1_2] → ((true = true) ∧ ((True) ∧ (True) ∧ (True) ∧ (True) ∧ True) ∧ ((ilt i1_0 (ilen l)) = true → ((true = true) ∧ ((True) ∧ (True) ∧ (NLe 0 i1_0 ∧ NLt i1_0 (ilen l)) ∧ (True) ∧ (True) ∧ ((0 ≤ i1_1 ∧ i1_1 ≤ 1048576)) ∧ (True) ∧ True) ∧ (true = true) ∧ ((True) ∧ (True) ∧ True) ∧ ((ilt (szI (ilen (getl l i1_0)) i1_1) (0 : Int)) = true → ((true = true) ∧ ((True) ∧ True) ∧ ∃ k : Int, ((k < 0 ∨ (0 ≤ k ∧ k ≤ n ∧ ilen l ≤ n ∧ ∀ i, 0 ≤ i → i < ilen l → ilen (getl l i) ≤ n)) ∧ ((((-1 : Int) : Int) = (k)) ∧ True)))) ∧ ((ilt (szI (ilen (getl l i1_0)) i1_1) (0 : Int)) = false → ((true = true) ∧ ((True) ∧ (True) ∧ (True) ∧ True) ∧ ((true = true) ∧ (((i1_2 : Int) = i1_2) ∧ (((szI (ilen (getl l i1_0)) i1_1) : Int) = (szI (ilen (getl l i1_0)) i1_1)) ∧ (((iadd i1_0 (1 : Int)) : Int) = (iadd i1_0 (1 : Int))) ∧ (((isub n (ilen l)) : Int) = (isub n (ilen l))) ∧ (((ilt (isub n (ilen l)) (0 : Int)) : Bool) = (ilt (isub n (ilen l)) (0 : Int))) ∧ ((n : Int) = n) ∧ ((Cont.boolss l) = (Cont.boolss l)) ∧ (((ilen l) : Int) = (ilen l)) ∧ (((isub n (ilen l)) : Int) = (isub n (ilen l))) ∧ ((Cont.boolss l) = (Cont.boolss l)) ∧ True) ∧ (True)) ∧ ((([GK.int, GK.int, GK.int] : List GK) = ([GK.int, GK.int, GK.int] : List GK)) ∧ I1 [GV.int (iadd i1_0 (1 : Int)), GV.int (szI (ilen (getl l i1_0)) i1_1), GV.int i1_2] ∧ μ1 [GV.int (iadd i1_0 (1 : Int)), GV.int (szI (ilen (getl l i1_0)) i1_1), GV.int i1_2] < μ1 [GV.int i1_0, GV.int i1_1, GV.int i1_2]))))) ∧ ((ilt i1_0 (ilen l)) = false → ((true = true) ∧ ((True) ∧ (True) ∧ True) ∧ ∃ k : Int, ((k < 0 ∨ (0 ≤ k ∧ k ≤ n ∧ ilen l ≤ n ∧ ∀ i, 0 ≤ i → i < ilen l → ilen (getl l i) ≤ n)) ∧ (((i1_1 : Int) = (k)) ∧ True))))))))) = (fun sg => ev sig_laws_szBoolSS xs_laws_szBoolSS Try.f43.ntmps (fun b => if b == 0 then [.v 5, .v 1, .v 4] else []) (codeOf Try.f43) 0 (initS [.s (.view (.boolss l)), .s (.int n)]) (retY Try.f43.results.toList sg.kinds sg.post sg.ret)) (s_laws_szBoolSS l n) := by kernel_rfl
set_option maxHeartbeats 400000 in
theorem F_laws_szBoolSS : FunY 43 g_laws_szBoolSS := by
  refine fun_Y (by kernel_rfl) Try.func43 rfl (by kernel_rfl) sig_laws_szBoolSS_ok xs_laws_szBoolSS_ok ?_
  intro avs sg h hn hl
  unfold g_laws_szBoolSS at h
  split at h
  · rename_i l n
    injection h with h; subst h
    refine ⟨by kernel_rfl, fun b => if b == 0 then [.v 5, .v 1, .v 4] else [], Eq.mp (V_laws_szBoolSS l n) ?_⟩
    simp only [true_and, and_true, implies_true, and_self, forall_const, true_implies, lenA, lenL, SV.lenOK, Cont.lenOK, s_laws_szBoolSS] at hn hl ⊢
    have h0 := ilen_0 l
    simp only [ilt_t, ilt_f, ile_t, ile_f, ieq_t, ieq_f, bnot_e, band_e, bite_and, bite_or, NLt_e, NLe_e, NNe_e, NIs_e, imax_e, imin_e, irem_e, Bool.not_eq_true', Bool.not_eq_false', Bool.and_eq_true, Bool.or_eq_true, Bool.or_eq_false_iff, Bool.and_eq_false_iff, Cont.pts.injEq, Cont.ints.injEq, Cont.bools.injEq, Cont.ptss.injEq, Cont.intss.injEq, Cont.boolss.injEq, true_and, and_true, implies_true]
    rw [isub_e (by omega) (by omega)]
    refine ⟨fun h => ⟨-1, .inl (by omega), rfl⟩, fun h => ?_⟩
    refine ⟨fun | .int k :: .int s :: _ => 0 ≤ k ∧ k ≤ ilen l ∧ 0 ≤ s ∧ s ≤ n ∧ (∀ i, 0 ≤ i → i < k → ilen (getl l i) ≤ n) | _ => False, fun | .int k :: _ => (ilen l - k).toNat | _ => 0, ?_, ?_⟩
    · exact ⟨Int.le_refl 0, h0, by omega, by omega, fun j h0 h1 => absurd h1 (by omega)⟩
    · rintro k s _ ⟨hk0, hk1, hs0, hs1, hk⟩
      simp only [ilt_t, ilt_f, ile_t, ile_f, ieq_t, ieq_f, bnot_e, band_e, bite_and, bite_or, NLt_e, NLe_e, NNe_e, NIs_e, imax_e, imin_e, irem_e, Bool.not_eq_true', Bool.not_eq_false', Bool.and_eq_true, Bool.or_eq_true, Bool.or_eq_false_iff, Bool.and_eq_false_iff, Cont.pts.injEq, Cont.ints.injEq, Cont.bools.injEq, Cont.ptss.injEq, Cont.intss.injEq, Cont.boolss.injEq, true_and, and_true, implies_true]
      refine ⟨fun hkn => ⟨⟨⟨hk0, hkn⟩, by omega, by omega⟩, fun hx => ⟨-1, .inl (by omega), rfl⟩, fun hx => ?_⟩, fun hkn => ?_⟩
      · obtain ⟨q1, q2⟩ := szI_e hx
        have q3 := ilen_0 (getl l k)
        rw [iadd_1 hk0 hkn hl.1, q2]
        exact ⟨⟨by omega, by omega, by omega, by omega, upTo hk (by omega)⟩, by omega⟩
      · exact ⟨s, .inr ⟨hs0, hs1, by omega, fun i i0 i1 => hk i i0 (by omega)⟩, rfl⟩
  · cases h
def g_laws_szCellS : List AV → Option Sg
  | [.s (.view (.pts l)), .s (.int n)] => some ⟨0 ≤ n ∧ n ≤ 1048576, [.s (.int (szI (ilen l) n))]⟩
  | _ => none
def sig_laws_szCellS : FuncId → List AV → Option Sg := sigL []
def xs_laws_szCellS : XS := ⟨xsigL [], ysigL []⟩
theorem sig_laws_szCellS_ok : SigOK sig_laws_szCellS := sigL_nil
theorem xs_laws_szCellS_ok : XSigOK xs_laws_szCellS := ⟨xsigL_nil, ysigL_nil⟩
theorem V_laws_szCellS (l : List Pt) (n : Int) : ((true = true) ∧ ((True) ∧ True) ∧ (true = true) ∧ ((True) ∧ (True) ∧ (True) ∧ (True) ∧ (True) ∧ True) ∧ (true = true) ∧ ((True) ∧ (True) ∧ True) ∧ ((ilt (isub n (ilen l)) (0 : Int)) = true → ((true = true) ∧ ((True) ∧ True) ∧ (((-1 : Int) : Int) = (szI (ilen l) n)) ∧ True)) ∧ ((ilt (isub n (ilen l)) (0 : Int)) = false → ((true = true) ∧ ((True) ∧ (True) ∧ True) ∧ (((isub n (ilen l)) : Int) = (szI (ilen l) n)) ∧ True))) = ev sig_laws_szCellS xs_laws_szCellS Try.f14.ntmps (fun b => []) (codeOf Try.f14) 0 (initS [.s (.view (.pts l)), .s (.int n)]) (retK Try.f14.results.toList [.s (.int (szI (ilen l) n))]) := by kernel_rfl
set_option maxHeartbeats 400000 in
theorem F_laws_szCellS : FunOK 14 g_laws_szCellS := by
  refine fun_F (by kernel_rfl) Try.func14 rfl (by kernel_rfl) sig_laws_szCellS_ok xs_laws_szCellS_ok ?_
  intro avs sg h hn hl
  unfold g_laws_szCellS at h
  split at h
  · rename_i l n
    injection h with h; subst h
    refine ⟨by kernel_rfl, fun b => [], Eq.mp (V_laws_szCellS l n) ?_⟩
    simp only [true_and, and_true, implies_true, and_self, forall_const, true_implies, lenA, lenL, SV.lenOK, Cont.lenOK] at hn hl ⊢
    simp only [ilt_t, ilt_f, ile_t, ile_f, ieq_t, ieq_f, bnot_e, band_e, bite_and, bite_or, NLt_e, NLe_e, NNe_e, NIs_e, imax_e, imin_e, irem_e, Bool.not_eq_true', Bool.not_eq_false', Bool.and_eq_true, Bool.or_eq_true, Bool.or_eq_false_iff, Bool.and_eq_false_iff, Cont.pts.injEq, Cont.ints.injEq, Cont.bools.injEq, Cont.ptss.injEq, Cont.intss.injEq, Cont.boolss.injEq, true_and, and_true, implies_true]
    have := ilen_0 l
    rw [isub_e (by omega) (by omega)]
    unfold szI
    refine ⟨fun h => ?_, fun h => ?_⟩
    · rw [if_neg (by omega)]
    · rw [if_pos (by omega)]
  · cases h
theorem getb_setb {l : List Bool} {i j : Int} {x : Bool} (h0 : 0 ≤ i) (h1 : i < ilen l) (h2 : 0 ≤ j) : getb (setb l i x) j = if j = i then x else getb l j := by
  unfold ilen at h1
  unfold getb setb
  by_cases h : j = i
  · subst h; simp [List.getD_eq_getElem?_getD, List.getElem?_set, show j.toNat < l.length by omega]
  · rw [if_neg h]; simp [List.getD_eq_getElem?_getD, List.getElem?_set, show ¬ i.toNat = j.toNat by omega]
theorem bools_ext {l m : List Bool} (h : ilen l = ilen m) (hx : ∀ j, 0 ≤ j → j < ilen l → getb l j = getb m j) : l = m := by
  unfold ilen at h hx
  refine List.ext_getElem (by omega) fun i h1 h2 => ?_
  have e1 := hx i (by omega) (by omega)
  simpa [getb, List.getD_eq_getElem?_getD, h1, h2] using e1
def eqBo (l m : List Bool) : Bool := decide (ilen l = ilen m) && allN (ilen l) fun j => getb l j == getb m j
theorem eqBo_same (l : List Bool) : eqBo l l = true := by
  unfold eqBo
  rw [allN_mk fun j _ _ => by simp]
  simp
def eqBB (l m : List (List Bool)) : Bool := decide (ilen l = ilen m) && allN (ilen l) fun j => eqBo (getl l j) (getl m j)
theorem eqBB_same (l : List (List Bool)) : eqBB l l = true := by
  unfold eqBB
  rw [allN_mk fun j _ _ => eqBo_same _]
  simp
theorem bxor_f {a b : Bool} : (bxor a b = false) = (a = b) := by cases a <;> cases b <;> simp [bxor]
theorem bxor_t {a b : Bool} : (bxor a b = true) = (a ≠ b) := by cases a <;> cases b <;> simp [bxor]
def g_laws_toBoolS : List AV → Option Sg
  | [.s (.view (.bools l))] => some ⟨ilen l ≤ 100000000, [.nrow 4 (.bools (l))]⟩
  | _ => none
def sig_laws_toBoolS : FuncId → List AV → Option Sg := sigL []
def xs_laws_toBoolS : XS := ⟨xsigL [], ysigL []⟩
theorem sig_laws_toBoolS_ok : SigOK sig_laws_toBoolS := sigL_nil
theorem xs_laws_toBoolS_ok : XSigOK xs_laws_toBoolS := ⟨xsigL_nil, ysigL_nil⟩
theorem V_laws_toBoolS (l : List Bool) : ((true = true) ∧ ((True) ∧ True) ∧ (true = true) ∧ ((True) ∧ (True) ∧ (NLe 0 (ilen l) ∧ NLe (ilen l) 100000000 ∧ NIs (ieq (ilen l) (ilen l)) true) ∧ (True) ∧ True) ∧ (true = true) ∧ ((True) ∧ True) ∧ ∃ (I1 : List GV → Prop) (μ1 : List GV → Nat), (((true = true) ∧ ((((0 : Int) : Int) = (0 : Int)) ∧ ((Cont.bools l) = (Cont.bools l)) ∧ (((ilen l) : Int) = (ilen l)) ∧ (true = true) ∧ (true = true) ∧ ((Cont.bools l) = (Cont.bools l)) ∧ True) ∧ (((true = true) ∧ ((Cont.bools (irep (ilen l) false)) = (Cont.bools (irep (ilen l) false)))) ∧ ((true = true) ∧ ((Cont.bools []) = (Cont.bools []))) ∧ True)) ∧ (([GK.int, GK.bools] : List GK) = ([GK.int, GK.bools] : List GK)) ∧ I1 [GV.int (0 : Int), GV.bools (irep (ilen l) false)]) ∧ (∀ i1_0 : Int, ∀ l1_1 : List Bool, I1 [GV.int i1_0, GV.bools l1_1] → ((true = true) ∧ ((True) ∧ (True) ∧ (True) ∧ (True) ∧ True) ∧ ((ilt i1_0 (ilen l)) = true → ((true = true) ∧ ((True) ∧ (True) ∧ (True) ∧ (True) ∧ (NLe 0 i1_0 ∧ NLt i1_0 (ilen l)) ∧ (True) ∧ (NLe 0 i1_0 ∧ NLt i1_0 (ilen l1_1)) ∧ True) ∧ (NLt i1_0 (ilen l1_1)) ∧ (true = true) ∧ ((True) ∧ (True) ∧ (True) ∧ True) ∧ ((true = true) ∧ ((((iadd i1_0 (1 : Int)) : Int) = (iadd i1_0 (1 : Int))) ∧ ((Cont.bools l) = (Cont.bools l)) ∧ (((ilen l) : Int) = (ilen l)) ∧ (true = true) ∧ (true = true) ∧ ((Cont.bools l) = (Cont.bools l)) ∧ True) ∧ (((true = true) ∧ ((Cont.bools (setb l1_1 i1_0 (getb l i1_0))) = (Cont.bools (setb l1_1 i1_0 (getb l i1_0))))) ∧ ((true = true) ∧ ((Cont.bools []) = (Cont.bools []))) ∧ True)) ∧ ((([GK.int, GK.bools] : List GK) = ([GK.int, GK.bools] : List GK)) ∧ I1 [GV.int (iadd i1_0 (1 : Int)), GV.bools (setb l1_1 i1_0 (getb l i1_0))] ∧ μ1 [GV.int (iadd i1_0 (1 : Int)), GV.bools (setb l1_1 i1_0 (getb l i1_0))] < μ1 [GV.int i1_0, GV.bools l1_1]))) ∧ ((ilt i1_0 (ilen l)) = false → ((true = true) ∧ ((True) ∧ (True) ∧ True) ∧ ((true = true) ∧ ((Cont.bools l1_1) = (Cont.bools (l)))) ∧ True))))) = ev sig_laws_toBoolS xs_laws_toBoolS Try.f74.ntmps (fun b => if b == 0 then [.v 4, .b 3] else []) (codeOf Try.f74) 0 (initS [.s (.view (.bools l))]) (retK Try.f74.results.toList [.nrow 4 (.bools (l))]) := by kernel_rfl
set_option maxHeartbeats 400000 in
theorem F_laws_toBoolS : FunOK 74 g_laws_toBoolS := by
  refine fun_F (by kernel_rfl) Try.func74 rfl (by kernel_rfl) sig_laws_toBoolS_ok xs_laws_toBoolS_ok ?_
  intro avs sg h hn hl
  unfold g_laws_toBoolS at h
  split at h
  · rename_i l
    injection h with h; subst h
    refine ⟨by kernel_rfl, fun b => if b == 0 then [.v 4, .b 3] else [], Eq.mp (V_laws_toBoolS l) ?_⟩
    simp only [true_and, and_true, implies_true, and_self, forall_const, true_implies, lenA, lenL, SV.lenOK, Cont.lenOK] at hn hl ⊢
    simp only [ilt_t, ilt_f, ile_t, ile_f, ieq_t, ieq_f, bnot_e, band_e, bite_and, bite_or, NLt_e, NLe_e, NNe_e, NIs_e, imax_e, imin_e, irem_e, Bool.not_eq_true', Bool.not_eq_false', Bool.and_eq_true, Bool.or_eq_true, Bool.or_eq_false_iff, Bool.and_eq_false_iff, Cont.pts.injEq, Cont.ints.injEq, Cont.bools.injEq, Cont.ptss.injEq, Cont.intss.injEq, Cont.boolss.injEq, true_and, and_true, implies_true]
    have h0 := ilen_0 l
    refine ⟨⟨h0, hn⟩, ?_⟩
    refine ⟨fun | [.int k, .bools m] => 0 ≤ k ∧ k ≤ ilen l ∧ ilen m = ilen l ∧ ∀ j, 0 ≤ j → j < k → getb m j = getb l j | _ => False, fun | [.int k, .bools m] => (ilen l - k).toNat | _ => 0, ?_, ?_⟩
    · exact ⟨Int.le_refl 0, h0, ilen_rep _ h0, fun j h0 h1 => absurd h1 (by omega)⟩
    · rintro k m ⟨hk0, hk1, hm, hk⟩
      refine ⟨fun hc => ?_, fun hc => ?_⟩
      · rw [iadd_e (by omega) (by omega)]
        refine ⟨⟨⟨hk0, hc⟩, hk0, by omega⟩, by omega, ⟨by omega, by omega, by rw [ilen_setb]; exact hm, fun j j0 j1 => ?_⟩, by dsimp only; omega⟩
        rw [getb_setb hk0 (by omega) j0]
        by_cases hj : j = k
        · simp only [hj, if_pos, and_self]
        · simp only [if_neg hj]; exact hk j j0 (by omega)
      · rw [bools_ext (l := m) (m := l) hm fun j j0 j1 => hk j j0 (by omega)]
  · cases h
def g_laws_toBoolSS : List AV → Option Sg
  | [.s (.view (.boolss l))] => some ⟨ilen l ≤ 100000000 ∧ ∀ i, 0 ≤ i → i < ilen l → ilen (getl l i) ≤ 100000000, [.nrow 57 (.boolss (l))]⟩
  | _ => none
def sig_laws_toBoolSS : FuncId → List AV → Option Sg := sigL [(74, g_laws_toBoolS)]
def xs_laws_toBoolSS : XS := ⟨xsigL [], ysigL []⟩
theorem sig_laws_toBoolSS_ok : SigOK sig_laws_toBoolSS := sigL_cons F_laws_toBoolS sigL_nil
theorem xs_laws_toBoolSS_ok : XSigOK xs_laws_toBoolSS := ⟨xsigL_nil, ysigL_nil⟩
theorem V_laws_toBoolSS (l : List (List Bool)) : ((true = true) ∧ ((True) ∧ True) ∧ (true = true) ∧ ((True) ∧ (True) ∧ (NLe 0 (ilen l) ∧ NLe (ilen l) 100000000 ∧ NIs (ieq (ilen l) (ilen l)) true) ∧ (True) ∧ True) ∧ (true = true) ∧ ((True) ∧ True) ∧ ∃ (I1 : List GV → Prop) (μ1 : List GV → Nat), (((true = true) ∧ ((((0 : Int) : Int) = (0 : Int)) ∧ ((Cont.boolss l) = (Cont.boolss l)) ∧ (((ilen l) : Int) = (ilen l)) ∧ (true = true) ∧ (true = true) ∧ ((Cont.boolss l) = (Cont.boolss l)) ∧ True) ∧ (((true = true) ∧ ((Cont.boolss (irep (ilen l) [])) = (Cont.boolss (irep (ilen l) [])))) ∧ ((true = true) ∧ ((Cont.boolss []) = (Cont.boolss []))) ∧ True)) ∧ (([GK.int, GK.boolss] : List GK) = ([GK.int, GK.boolss] : List GK)) ∧ I1 [GV.int (0 : Int), GV.boolss (irep (ilen l) [])]) ∧ (∀ i1_0 : Int, ∀ l1_1 : List (List Bool), I1 [GV.int i1_0, GV.boolss l1_1] → ((true = true) ∧ ((True) ∧ (True) ∧ (True) ∧ (True) ∧ True) ∧ ((ilt i1_0 (ilen l)) = true → ((true = true) ∧ ((True) ∧ (True) ∧ (True) ∧ (True) ∧ (NLe 0 i1_0 ∧ NLt i1_0 (ilen l)) ∧ (True) ∧ ((ilen (getl l i1_0) ≤ 100000000)) ∧ (NLe 0 i1_0 ∧ NLt i1_0 (ilen l1_1)) ∧ True) ∧ (NLt i1_0 (ilen l1_1)) ∧ (true = true) ∧ ((True) ∧ (True) ∧ (True) ∧ True) ∧ ((true = true) ∧ ((((iadd i1_0 (1 : Int)) : Int) = (iadd i1_0 (1 : Int))) ∧ ((Cont.boolss l) = (Cont.boolss l)) ∧ (((ilen l) : Int) = (ilen l)) ∧ (true = true) ∧ (true = true) ∧ ((Cont.boolss l) = (Cont.boolss l)) ∧ True) ∧ (((true = true) ∧ ((Cont.boolss (setl l1_1 i1_0 ((getl l i1_0)))) = (Cont.boolss (setl l1_1 i1_0 ((getl l i1_0)))))) ∧ ((true = true) ∧ ((Cont.boolss []) = (Cont.boolss []))) ∧ True)) ∧ ((([GK.int, GK.boolss] : List GK) = ([GK.int, GK.boolss] : List GK)) ∧ I1 [GV.int (iadd i1_0 (1 : Int)), GV.boolss (setl l1_1 i1_0 ((getl l i1_0)))] ∧ μ1 [GV.int (iadd i1_0 (1 : Int)), GV.boolss (setl l1_1 i1_0 ((getl l i1_0)))] < μ1 [GV.int i1_0, GV.boolss l1_1]))) ∧ ((ilt i1_0 (ilen l)) = false → ((true = true) ∧ ((True) ∧ (True) ∧ True) ∧ ((true = true) ∧ ((Cont.boolss l1_1) = (Cont.boolss (l)))) ∧ True))))) = ev sig_laws_toBoolSS xs_laws_toBoolSS Try.f45.ntmps (fun b => if b == 0 then [.v 4, .b 3] else []) (codeOf Try.f45) 0 (initS [.s (.view (.boolss l))]) (retK Try.f45.results.toList [.nrow 57 (.boolss (l))]) := by kernel_rfl
set_option maxHeartbeats 400000 in
theorem F_laws_toBoolSS : FunOK 45 g_laws_toBoolSS := by
  refine fun_F (by kernel_rfl) Try.func45 rfl (by kernel_rfl) sig_laws_toBoolSS_ok xs_laws_toBoolSS_ok ?_
  intro avs sg h hn hl
  unfold g_laws_toBoolSS at h
  split at h
  · rename_i l
    injection h with h; subst h
    refine ⟨by kernel_rfl, fun b => if b == 0 then [.v 4, .b 3] else [], Eq.mp (V_laws_toBoolSS l) ?_⟩
    simp only [true_and, and_true, implies_true, and_self, forall_const, true_implies, lenA, lenL, SV.lenOK, Cont.lenOK] at hn hl ⊢
    have h0 := ilen_0 l
    simp only [ilt_t, ilt_f, ile_t, ile_f, ieq_t, ieq_f, bnot_e, band_e, bite_and, bite_or, NLt_e, NLe_e, NNe_e, NIs_e, imax_e, imin_e, irem_e, Bool.not_eq_true', Bool.not_eq_false', Bool.and_eq_true, Bool.or_eq_true, Bool.or_eq_false_iff, Bool.and_eq_false_iff, Cont.pts.injEq, Cont.ints.injEq, Cont.bools.injEq, Cont.ptss.injEq, Cont.intss.injEq, Cont.boolss.injEq, true_and, and_true, implies_true]
    refine ⟨⟨h0, hn.1⟩, ?_⟩
    refine ⟨fun | [.int k, .boolss m] => 0 ≤ k ∧ k ≤ ilen l ∧ ilen m = ilen l ∧ (∀ i, 0 ≤ i → i < k → getl m i = getl l i) | _ => False, fun | .int k :: _ => (ilen l - k).toNat | _ => 0, ?_, ?_⟩
    · exact ⟨Int.le_refl 0, h0, ilen_rep _ h0, fun j h0 h1 => absurd h1 (by omega)⟩
    · rintro k m ⟨hk0, hk1, hm, hk⟩
      simp only [ilt_t, ilt_f, ile_t, ile_f, ieq_t, ieq_f, bnot_e, band_e, bite_and, bite_or, NLt_e, NLe_e, NNe_e, NIs_e, imax_e, imin_e, irem_e, Bool.not_eq_true', Bool.not_eq_false', Bool.and_eq_true, Bool.or_eq_true, Bool.or_eq_false_iff, Bool.and_eq_false_iff, Cont.pts.injEq, Cont.ints.injEq, Cont.bools.injEq, Cont.ptss.injEq, Cont.intss.injEq, Cont.boolss.injEq, true_and, and_true, implies_true]
      refine ⟨fun hkn => ?_, fun hkn => ?_⟩
      · rw [iadd_1 hk0 hkn hl.1]
        refine ⟨⟨⟨hk0, hkn⟩, hn.2 k hk0 hkn, hk0, by omega⟩, by omega, ⟨by omega, by omega, by rw [ilen_setl]; exact hm, fun j j0 j1 => ?_⟩, by omega⟩
        rw [getl_setl hk0 (by omega) j0]
        by_cases hj : j = k
        · simp [hj]
        · rw [if_neg hj]; exact hk j j0 (by omega)
      · exact lists_ext hm fun j j0 j1 => hk j j0 (by omega)
  · cases h
def g_laws_toCell : List AV → Option Sg
  | [.agg [.int p1, .int p2]] => some ⟨True, [.agg [.int (p1), .int (p2)]]⟩
  | _ => none
def sig_laws_toCell : FuncId → List AV → Option Sg := sigL []
def xs_laws_toCell : XS := ⟨xsigL [], ysigL []⟩
theorem sig_laws_toCell_ok : SigOK sig_laws_toCell := sigL_nil
theorem xs_laws_toCell_ok : XSigOK xs_laws_toCell := ⟨xsigL_nil, ysigL_nil⟩
theorem V_laws_toCell (p1 : Int) (p2 : Int) : ((true = true) ∧ ((True) ∧ (True) ∧ True) ∧ (true = true) ∧ ((True) ∧ True) ∧ (true = true) ∧ ((True) ∧ (True) ∧ (True) ∧ True) ∧ (True) ∧ (true = true) ∧ ((True) ∧ (True) ∧ (True) ∧ True) ∧ (True) ∧ (true = true) ∧ ((True) ∧ True) ∧ (True) ∧ (((p1 : Int) = (p1)) ∧ ((p2 : Int) = (p2)) ∧ True) ∧ True) = ev sig_laws_toCell xs_laws_toCell Try.f38.ntmps (fun b => []) (codeOf Try.f38) 0 (initS [.agg [.int p1, .int p2]]) (retK Try.f38.results.toList [.agg [.int (p1), .int (p2)]]) := by kernel_rfl
set_option maxHeartbeats 400000 in
theorem F_laws_toCell : FunOK 38 g_laws_toCell := by
  refine fun_F (by kernel_rfl) Try.func38 rfl (by kernel_rfl) sig_laws_toCell_ok xs_laws_toCell_ok ?_
  intro avs sg h hn hl
  unfold g_laws_toCell at h
  split at h
  · rename_i p1 p2
    injection h with h; subst h
    refine ⟨by kernel_rfl, fun b => [], Eq.mp (V_laws_toCell p1 p2) ?_⟩
    simp only [true_and, and_true, implies_true, and_self, forall_const, true_implies, lenA, lenL, SV.lenOK, Cont.lenOK] at hn hl ⊢
  · cases h
def g_laws_toCellS : List AV → Option Sg
  | [.s (.view (.pts l))] => some ⟨ilen l ≤ 100000000, [.nrow 47 (.pts (l))]⟩
  | _ => none
def sig_laws_toCellS : FuncId → List AV → Option Sg := sigL [(38, g_laws_toCell)]
def xs_laws_toCellS : XS := ⟨xsigL [], ysigL []⟩
theorem sig_laws_toCellS_ok : SigOK sig_laws_toCellS := sigL_cons F_laws_toCell sigL_nil
theorem xs_laws_toCellS_ok : XSigOK xs_laws_toCellS := ⟨xsigL_nil, ysigL_nil⟩
theorem V_laws_toCellS (l : List Pt) : ((true = true) ∧ ((True) ∧ True) ∧ (true = true) ∧ ((True) ∧ (True) ∧ (NLe 0 (ilen l) ∧ NLe (ilen l) 100000000 ∧ NIs (ieq (ilen l) (ilen l)) true) ∧ (True) ∧ True) ∧ (true = true) ∧ ((True) ∧ True) ∧ ∃ (I1 : List GV → Prop) (μ1 : List GV → Nat), (((true = true) ∧ ((((0 : Int) : Int) = (0 : Int)) ∧ ((Cont.pts l) = (Cont.pts l)) ∧ (((ilen l) : Int) = (ilen l)) ∧ (true = true) ∧ (true = true) ∧ ((Cont.pts l) = (Cont.pts l)) ∧ True) ∧ (((true = true) ∧ ((Cont.pts (irep (ilen l) (0, 0))) = (Cont.pts (irep (ilen l) (0, 0))))) ∧ ((true = true) ∧ ((Cont.pts []) = (Cont.pts []))) ∧ True)) ∧ (([GK.int, GK.pts] : List GK) = ([GK.int, GK.pts] : List GK)) ∧ I1 [GV.int (0 : Int), GV.pts (irep (ilen l) (0, 0))]) ∧ (∀ i1_0 : Int, ∀ l1_1 : List Pt, I1 [GV.int i1_0, GV.pts l1_1] → ((true = true) ∧ ((True) ∧ (True) ∧ (True) ∧ (True) ∧ True) ∧ ((ilt i1_0 (ilen l)) = true → ((true = true) ∧ ((True) ∧ (True) ∧ (True) ∧ (True) ∧ (NLe 0 i1_0 ∧ NLt i1_0 (ilen l)) ∧ (True) ∧ ((True)) ∧ (NLe 0 i1_0 ∧ NLt i1_0 (ilen l1_1)) ∧ True) ∧ (NLt i1_0 (ilen l1_1)) ∧ (true = true) ∧ ((True) ∧ (True) ∧ (True) ∧ True) ∧ ((true = true) ∧ ((((iadd i1_0 (1 : Int)) : Int) = (iadd i1_0 (1 : Int))) ∧ ((Cont.pts l) = (Cont.pts l)) ∧ (((ilen l) : Int) = (ilen l)) ∧ (true = true) ∧ (true = true) ∧ ((Cont.pts l) = (Cont.pts l)) ∧ True) ∧ (((true = true) ∧ ((Cont.pts (setp l1_1 i1_0 ((getx l i1_0)) ((gety l i1_0)))) = (Cont.pts (setp l1_1 i1_0 ((getx l i1_0)) ((gety l i1_0)))))) ∧ ((true = true) ∧ ((Cont.pts []) = (Cont.pts []))) ∧ True)) ∧ ((([GK.int, GK.pts] : List GK) = ([GK.int, GK.pts] : List GK)) ∧ I1 [GV.int (iadd i1_0 (1 : Int)), GV.pts (setp l1_1 i1_0 ((getx l i1_0)) ((gety l i1_0)))] ∧ μ1 [GV.int (iadd i1_0 (1 : Int)), GV.pts (setp l1_1 i1_0 ((getx l i1_0)) ((gety l i1_0)))] < μ1 [GV.int i1_0, GV.pts l1_1]))) ∧ ((ilt i1_0 (ilen l)) = false → ((true = true) ∧ ((True) ∧ (True) ∧ True) ∧ ((true = true) ∧ ((Cont.pts l1_1) = (Cont.pts (l)))) ∧ True))))) = ev sig_laws_toCellS xs_laws_toCellS Try.f16.ntmps (fun b => if b == 0 then [.v 4, .b 3] else []) (codeOf Try.f16) 0 (initS [.s (.view (.pts l))]) (retK Try.f16.results.toList [.nrow 47 (.pts (l))]) := by kernel_rfl
set_option maxHeartbeats 400000 in
theorem F_laws_toCellS : FunOK 16 g_laws_toCellS := by
  refine fun_F (by kernel_rfl) Try.func16 rfl (by kernel_rfl) sig_laws_toCellS_ok xs_laws_toCellS_ok ?_
  intro avs sg h hn hl
  unfold g_laws_toCellS at h
  split at h
  · rename_i l
    injection h with h; subst h
    refine ⟨by kernel_rfl, fun b => if b == 0 then [.v 4, .b 3] else [], Eq.mp (V_laws_toCellS l) ?_⟩
    simp only [true_and, and_true, implies_true, and_self, forall_const, true_implies, lenA, lenL, SV.lenOK, Cont.lenOK] at hn hl ⊢
    simp only [ilt_t, ilt_f, ile_t, ile_f, ieq_t, ieq_f, bnot_e, band_e, bite_and, bite_or, NLt_e, NLe_e, NNe_e, NIs_e, imax_e, imin_e, irem_e, Bool.not_eq_true', Bool.not_eq_false', Bool.and_eq_true, Bool.or_eq_true, Bool.or_eq_false_iff, Bool.and_eq_false_iff, Cont.pts.injEq, Cont.ints.injEq, Cont.bools.injEq, Cont.ptss.injEq, Cont.intss.injEq, Cont.boolss.injEq, true_and, and_true, implies_true]
    have h0 := ilen_0 l
    refine ⟨⟨h0, hn⟩, ?_⟩
    refine ⟨fun | [.int k, .pts m] => 0 ≤ k ∧ k ≤ ilen l ∧ ilen m = ilen l ∧ ∀ j, 0 ≤ j → j < k → getx m j = getx l j ∧ gety m j = gety l j | _ => False, fun | [.int k, .pts m] => (ilen l - k).toNat | _ => 0, ?_, ?_⟩
    · exact ⟨Int.le_refl 0, h0, ilen_rep _ h0, fun j h0 h1 => absurd h1 (by omega)⟩
    · rintro k m ⟨hk0, hk1, hm, hk⟩
      refine ⟨fun hc => ?_, fun hc => ?_⟩
      · rw [iadd_e (by omega) (by omega)]
        refine ⟨⟨⟨hk0, hc⟩, hk0, by omega⟩, by omega, ⟨by omega, by omega, by rw [ilen_setp]; exact hm, fun j j0 j1 => ?_⟩, by dsimp only; omega⟩
        rw [getx_setp hk0 (by omega) j0, gety_setp hk0 (by omega) j0]
        by_cases hj : j = k
        · simp only [hj, if_pos, and_self]
        · simp only [if_neg hj]; exact hk j j0 (by omega)
      · rw [pts_ext (l := m) (m := l) hm fun j j0 j1 => hk j j0 (by omega)]
  · cases h
def tblE (l : List (List Bool)) (i : Int) : Bool := decide (ilen (getl l i) ≤ 20 ∧ ilen (getl l i) = ilen (getl l 0))
def tblB (l : List (List Bool)) : Bool := decide (ilen l ≤ 20) && allN (ilen l) (tblE l)
def freeB (l : List (List Bool)) (c1 c2 : Int) : Bool := decide (0 ≤ c1 ∧ c1 < ilen l) && decide (0 ≤ c2 ∧ c2 < ilen (getl l c1)) && getb (getl l c1) c2
def stepB (p : List Pt) (i : Int) : Bool := decide (max (getx p i - getx p (i - 1)) (getx p (i - 1) - getx p i) + max (gety p i - gety p (i - 1)) (gety p (i - 1) - gety p i) = 1)
def pvE (l : List (List Bool)) (p : List Pt) (i : Int) : Bool := freeB l (getx p i) (gety p i) && (decide (i ≤ 0) || stepB p i)
def pvB (l : List (List Bool)) (p : List Pt) : Bool := tblB l && inB (ilen p) 1 400 && allN (ilen p) (pvE l p)
theorem free_in {l : List (List Bool)} {c1 c2 : Int} (ht : tblB l = true) (h : freeB l c1 c2 = true) : 0 ≤ c1 ∧ c1 < 20 ∧ 0 ≤ c2 ∧ c2 < 20 := by
  unfold freeB at h
  unfold tblB at ht
  simp only [Bool.and_eq_true, decide_eq_true_eq] at h ht
  have := allN_iff.1 ht.2 c1 h.1.1.1 h.1.1.2
  unfold tblE at this
  simp only [decide_eq_true_eq] at this
  omega
theorem sq_1 {d : Int} (h : d * d ≤ 1) : -1 ≤ d ∧ d ≤ 1 := by
  constructor
  · apply Classical.byContradiction; intro hn
    have := Int.mul_le_mul (show 2 ≤ -d by omega) (show 2 ≤ -d by omega) (by decide) (by omega)
    rw [Int.neg_mul_neg] at this; omega
  · apply Classical.byContradiction; intro hn
    have := Int.mul_le_mul (show 2 ≤ d by omega) (show 2 ≤ d by omega) (by decide) (by omega)
    omega
theorem sq_0 (d : Int) : 0 ≤ d * d := by
  rcases Int.le_total 0 d with h | h
  · exact Int.mul_nonneg h h
  · exact Int.mul_nonneg_of_nonpos_of_nonpos h h
theorem step_e {d e : Int} : d * d + e * e = 1 ↔ max d (-d) + max e (-e) = 1 := by
  constructor
  · intro h
    have := sq_0 d; have := sq_0 e
    have h1 := sq_1 (d := d) (by omega)
    have h2 := sq_1 (d := e) (by omega)
    rcases (show d = -1 ∨ d = 0 ∨ d = 1 by omega) with rfl | rfl | rfl <;> rcases (show e = -1 ∨ e = 0 ∨ e = 1 by omega) with rfl | rfl | rfl <;> first | rfl | (exfalso; revert h; decide)
  · intro h
    have : (d = 1 ∧ e = 0) ∨ (d = -1 ∧ e = 0) ∨ (d = 0 ∧ e = 1) ∨ (d = 0 ∧ e = -1) := by omega
    rcases this with ⟨rfl, rfl⟩ | ⟨rfl, rfl⟩ | ⟨rfl, rfl⟩ | ⟨rfl, rfl⟩ <;> decide
def g_spec_l11Square : List AV → Option Sg
  | [.s (.view (.boolss l))] => some ⟨True, [.s (.bool (tblB l))]⟩
  | _ => none
def sig_spec_l11Square : FuncId → List AV → Option Sg := sigL []
def xs_spec_l11Square : XS := ⟨xsigL [], ysigL []⟩
theorem sig_spec_l11Square_ok : SigOK sig_spec_l11Square := sigL_nil
theorem xs_spec_l11Square_ok : XSigOK xs_spec_l11Square := ⟨xsigL_nil, ysigL_nil⟩
theorem V_spec_l11Square (l : List (List Bool)) : ((true = true) ∧ ((True) ∧ True) ∧ (true = true) ∧ ((True) ∧ True) ∧ ∃ (I1 : List GV → Prop) (μ1 : List GV → Nat), (((true = true) ∧ (((false : Bool) = false) ∧ (((0 : Int) : Int) = (0 : Int)) ∧ ((Cont.boolss l) = (Cont.boolss l)) ∧ True) ∧ (True)) ∧ (([GK.int, GK.bool] : List GK) = ([GK.int, GK.bool] : List GK)) ∧ I1 [GV.int (0 : Int), GV.bool false]) ∧ (∀ i1_0 : Int, ∀ b1_1 : Bool, I1 [GV.int i1_0, GV.bool b1_1] → ((true = true) ∧ ((True) ∧ (True) ∧ (True) ∧ (True) ∧ True) ∧ ((ilt i1_0 (ilen l)) = true → ((true = true) ∧ ((True) ∧ (True) ∧ (NLe 0 i1_0 ∧ NLt i1_0 (ilen l)) ∧ (True) ∧ (True) ∧ (True) ∧ (NLe 0 (0 : Int) ∧ NLt (0 : Int) (ilen l)) ∧ (True) ∧ (True) ∧ (True) ∧ (True) ∧ (NIs (bnot (ieq (ilen (getl l i1_0)) (ilen (getl l (0 : Int))))) false → True) ∧ (NIs (bnot (ieq (ilen (getl l i1_0)) (ilen (getl l (0 : Int))))) false → True) ∧ (NIs (bnot (ieq (ilen (getl l i1_0)) (ilen (getl l (0 : Int))))) false → (NLe 0 i1_0 ∧ NLt i1_0 (ilen l))) ∧ (NIs (bnot (ieq (ilen (getl l i1_0)) (ilen (getl l (0 : Int))))) false → True) ∧ (NIs (bnot (ieq (ilen (getl l i1_0)) (ilen (getl l (0 : Int))))) false → True) ∧ (NIs (bnot (ieq (ilen (getl l i1_0)) (ilen (getl l (0 : Int))))) false → True) ∧ (True) ∧ True) ∧ ((bite (bnot (ieq (ilen (getl l i1_0)) (ilen (getl l (0 : Int))))) true (ilt (20 : Int) (ilen (getl l i1_0)))) = true → ((true = true) ∧ ((True) ∧ True) ∧ ((false : Bool) = (tblB l)) ∧ True)) ∧ ((bite (bnot (ieq (ilen (getl l i1_0)) (ilen (getl l (0 : Int))))) true (ilt (20 : Int) (ilen (getl l i1_0)))) = false → ((true = true) ∧ ((True) ∧ (True) ∧ (True) ∧ True) ∧ ((true = true) ∧ (((b1_1 : Bool) = b1_1) ∧ (((iadd i1_0 (1 : Int)) : Int) = (iadd i1_0 (1 : Int))) ∧ ((Cont.boolss l) = (Cont.boolss l)) ∧ True) ∧ (True)) ∧ ((([GK.int, GK.bool] : List GK) = ([GK.int, GK.bool] : List GK)) ∧ I1 [GV.int (iadd i1_0 (1 : Int)), GV.bool b1_1] ∧ μ1 [GV.int (iadd i1_0 (1 : Int)), GV.bool b1_1] < μ1 [GV.int i1_0, GV.bool b1_1]))))) ∧ ((ilt i1_0 (ilen l)) = false → ((true = true) ∧ ((True) ∧ (True) ∧ (True) ∧ (True) ∧ True) ∧ (((ile (ilen l) (20 : Int)) : Bool) = (tblB l)) ∧ True))))) = ev sig_spec_l11Square xs_spec_l11Square Try.f69.ntmps (fun b => if b == 0 then [.v 3, .v 2] else []) (codeOf Try.f69) 0 (initS [.s (.view (.boolss l))]) (retK Try.f69.results.toList [.s (.bool (tblB l))]) := by kernel_rfl
set_option maxHeartbeats 400000 in
theorem F_spec_l11Square : FunOK 69 g_spec_l11Square := by
  refine fun_F (by kernel_rfl) Try.func69 rfl (by kernel_rfl) sig_spec_l11Square_ok xs_spec_l11Square_ok ?_
  intro avs sg h hn hl
  unfold g_spec_l11Square at h
  split at h
  · rename_i l
    injection h with h; subst h
    refine ⟨by kernel_rfl, fun b => if b == 0 then [.v 3, .v 2] else [], Eq.mp (V_spec_l11Square l) ?_⟩
    simp only [true_and, and_true, implies_true, and_self, forall_const, true_implies, lenA, lenL, SV.lenOK, Cont.lenOK] at hn hl ⊢
    have h0 := ilen_0 l
    simp only [ilt_t, ilt_f, ile_t, ile_f, ieq_t, ieq_f, bnot_e, band_e, bite_and, bite_or, NLt_e, NLe_e, NNe_e, NIs_e, imax_e, imin_e, irem_e, Bool.not_eq_true', Bool.not_eq_false', Bool.and_eq_true, Bool.or_eq_true, Bool.or_eq_false_iff, Bool.and_eq_false_iff, Cont.pts.injEq, Cont.ints.injEq, Cont.bools.injEq, Cont.ptss.injEq, Cont.intss.injEq, Cont.boolss.injEq, true_and, and_true, implies_true]
    refine ⟨fun | .int k :: _ => 0 ≤ k ∧ k ≤ ilen l ∧ (∀ i, 0 ≤ i → i < k → tblE l i = true) | _ => False, fun | .int k :: _ => (ilen l - k).toNat | _ => 0, ?_, ?_⟩
    · exact ⟨Int.le_refl 0, h0, fun j h0 h1 => absurd h1 (by omega)⟩
    · rintro k _ ⟨hk0, hk1, hk⟩
      simp only [ilt_t, ilt_f, ile_t, ile_f, ieq_t, ieq_f, bnot_e, band_e, bite_and, bite_or, NLt_e, NLe_e, NNe_e, NIs_e, imax_e, imin_e, irem_e, Bool.not_eq_true', Bool.not_eq_false', Bool.and_eq_true, Bool.or_eq_true, Bool.or_eq_false_iff, Bool.and_eq_false_iff, Cont.pts.injEq, Cont.ints.injEq, Cont.bools.injEq, Cont.ptss.injEq, Cont.intss.injEq, Cont.boolss.injEq, true_and, and_true, implies_true]
      refine ⟨fun hkn => ⟨⟨⟨hk0, hkn⟩, ⟨by omega, by omega⟩, fun _ => ⟨hk0, hkn⟩⟩, fun hx => ?_, fun hx => ?_⟩, fun hkn => ?_⟩
      · have hE : tblE l k = false := by unfold tblE; simp only [decide_eq_false_iff_not]; omega
        unfold tblB; rw [allN_no k hk0 hkn hE]; simp
      · have hE : tblE l k = true := by unfold tblE; simp only [decide_eq_true_eq]; omega
        rw [iadd_1 hk0 hkn hl.1]
        exact ⟨⟨by omega, by omega, upTo hk hE⟩, by omega⟩
      · unfold tblB; rw [allN_mk fun j j0 j1 => hk j j0 (by omega)]; simp [ile]
  · cases h
theorem inB_eq (n lo hi : Int) : inB n lo hi = (ile lo n && ile n hi) := by
  unfold inB ile
  by_cases h1 : lo ≤ n <;> by_cases h2 : n ≤ hi <;> simp [h1, h2]
def g_spec_l1In : List AV → Option Sg
  | [.s (.int n), .s (.int lo), .s (.int hi)] => some ⟨True, [.s (.bool (inB n lo hi))]⟩
  | _ => none
def sig_spec_l1In : FuncId → List AV → Option Sg := sigL []
def xs_spec_l1In : XS := ⟨xsigL [], ysigL []⟩
theorem sig_spec_l1In_ok : SigOK sig_spec_l1In := sigL_nil
theorem xs_spec_l1In_ok : XSigOK xs_spec_l1In := ⟨xsigL_nil, ysigL_nil⟩
theorem V_spec_l1In (n : Int) (lo : Int) (hi : Int) : ((true = true) ∧ ((True) ∧ True) ∧ (true = true) ∧ ((True) ∧ (True) ∧ (True) ∧ (True) ∧ (NIs (ile lo n) true → True) ∧ (NIs (ile lo n) true → True) ∧ (NIs (ile lo n) true → True) ∧ (True) ∧ (True) ∧ True) ∧ (((bite (ile lo n) (ile n hi) false) : Bool) = (inB n lo hi)) ∧ True) = ev sig_spec_l1In xs_spec_l1In Try.f65.ntmps (fun b => []) (codeOf Try.f65) 0 (initS [.s (.int n), .s (.int lo), .s (.int hi)]) (retK Try.f65.results.toList [.s (.bool (inB n lo hi))]) := by kernel_rfl
set_option maxHeartbeats 400000 in
theorem F_spec_l1In : FunOK 65 g_spec_l1In := by
  refine fun_F (by kernel_rfl) Try.func65 rfl (by kernel_rfl) sig_spec_l1In_ok xs_spec_l1In_ok ?_
  intro avs sg h hn hl
  unfold g_spec_l1In at h
  split at h
  · rename_i n lo hi
    injection h with h; subst h
    refine ⟨by kernel_rfl, fun b => [], Eq.mp (V_spec_l1In n lo hi) ?_⟩
    simp only [true_and, and_true, implies_true, and_self, forall_const, true_implies, lenA, lenL, SV.lenOK, Cont.lenOK] at hn hl ⊢
    simp only [bite_and, inB_eq]
  · cases h
theorem getl_any {α : Type} {l : List (List α)} (h : ∀ m ∈ l, ilen m ≤ 9223372036854775807) (j : Int) : ilen (getl l j) ≤ 9223372036854775807 := by
  unfold getl
  rw [List.getD_eq_getElem?_getD]
  by_cases hj : j.toNat < l.length
  · rw [List.getElem?_eq_getElem hj]; exact h _ (List.getElem_mem _)
  · rw [List.getElem?_eq_none (by omega)]; simp [ilen]
def g_spec_l11Free : List AV → Option Sg
  | [.s (.view (.boolss l)), .agg [.int c1, .int c2]] => some ⟨True, [.s (.bool (freeB l c1 c2))]⟩
  | _ => none
def sig_spec_l11Free : FuncId → List AV → Option Sg := sigL [(65, g_spec_l1In)]
def xs_spec_l11Free : XS := ⟨xsigL [], ysigL []⟩
theorem sig_spec_l11Free_ok : SigOK sig_spec_l11Free := sigL_cons F_spec_l1In sigL_nil
theorem xs_spec_l11Free_ok : XSigOK xs_spec_l11Free := ⟨xsigL_nil, ysigL_nil⟩
theorem V_spec_l11Free (l : List (List Bool)) (c1 : Int) (c2 : Int) : ((true = true) ∧ ((True) ∧ (True) ∧ True) ∧ (true = true) ∧ ((True) ∧ (True) ∧ (True) ∧ (True) ∧ (True) ∧ ((True)) ∧ (True) ∧ (NIs (inB c1 (0 : Int) (isub (ilen l) (1 : Int))) true → True) ∧ (NIs (inB c1 (0 : Int) (isub (ilen l) (1 : Int))) true → True) ∧ (NIs (inB c1 (0 : Int) (isub (ilen l) (1 : Int))) true → True) ∧ (NIs (inB c1 (0 : Int) (isub (ilen l) (1 : Int))) true → True) ∧ (NIs (inB c1 (0 : Int) (isub (ilen l) (1 : Int))) true → True) ∧ (NIs (inB c1 (0 : Int) (isub (ilen l) (1 : Int))) true → (NLe 0 c1 ∧ NLt c1 (ilen l))) ∧ (NIs (inB c1 (0 : Int) (isub (ilen l) (1 : Int))) true → True) ∧ (NIs (inB c1 (0 : Int) (isub (ilen l) (1 : Int))) true → True) ∧ (NIs (inB c1 (0 : Int) (isub (ilen l) (1 : Int))) true → True) ∧ (NIs (inB c1 (0 : Int) (isub (ilen l) (1 : Int))) true → (True)) ∧ (True) ∧ (True) ∧ (NIs (bite (inB c1 (0 : Int) (isub (ilen l) (1 : Int))) (inB c2 (0 : Int) (isub (ilen (getl l c1)) (1 : Int))) false) true → True) ∧ (NIs (bite (inB c1 (0 : Int) (isub (ilen l) (1 : Int))) (inB c2 (0 : Int) (isub (ilen (getl l c1)) (1 : Int))) false) true → True) ∧ (NIs (bite (inB c1 (0 : Int) (isub (ilen l) (1 : Int))) (inB c2 (0 : Int) (isub (ilen (getl l c1)) (1 : Int))) false) true → True) ∧ (NIs (bite (inB c1 (0 : Int) (isub (ilen l) (1 : Int))) (inB c2 (0 : Int) (isub (ilen (getl l c1)) (1 : Int))) false) true → (NLe 0 c1 ∧ NLt c1 (ilen l))) ∧ (NIs (bite (inB c1 (0 : Int) (isub (ilen l) (1 : Int))) (inB c2 (0 : Int) (isub (ilen (getl l c1)) (1 : Int))) false) true → True) ∧ (NIs (bite (inB c1 (0 : Int) (isub (ilen l) (1 : Int))) (inB c2 (0 : Int) (isub (ilen (getl l c1)) (1 : Int))) false) true → True) ∧ (NIs (bite (inB c1 (0 : Int) (isub (ilen l) (1 : Int))) (inB c2 (0 : Int) (isub (ilen (getl l c1)) (1 : Int))) false) true → True) ∧ (NIs (bite (inB c1 (0 : Int) (isub (ilen l) (1 : Int))) (inB c2 (0 : Int) (isub (ilen (getl l c1)) (1 : Int))) false) true → (NLe 0 c2 ∧ NLt c2 (ilen (getl l c1)))) ∧ (NIs (bite (inB c1 (0 : Int) (isub (ilen l) (1 : Int))) (inB c2 (0 : Int) (isub (ilen (getl l c1)) (1 : Int))) false) true → True) ∧ (True) ∧ (True) ∧ True) ∧ (((bite (bite (inB c1 (0 : Int) (isub (ilen l) (1 : Int))) (inB c2 (0 : Int) (isub (ilen (getl l c1)) (1 : Int))) false) (getb (getl l c1) c2) false) : Bool) = (freeB l c1 c2)) ∧ True) = ev sig_spec_l11Free xs_spec_l11Free Try.f70.ntmps (fun b => []) (codeOf Try.f70) 0 (initS [.s (.view (.boolss l)), .agg [.int c1, .int c2]]) (retK Try.f70.results.toList [.s (.bool (freeB l c1 c2))]) := by kernel_rfl
set_option maxHeartbeats 400000 in
theorem F_spec_l11Free : FunOK 70 g_spec_l11Free := by
  refine fun_F (by kernel_rfl) Try.func70 rfl (by kernel_rfl) sig_spec_l11Free_ok xs_spec_l11Free_ok ?_
  intro avs sg h hn hl
  unfold g_spec_l11Free at h
  split at h
  · rename_i l c1 c2
    injection h with h; subst h
    refine ⟨by kernel_rfl, fun b => [], Eq.mp (V_spec_l11Free l c1 c2) ?_⟩
    simp only [true_and, and_true, implies_true, and_self, forall_const, true_implies, lenA, lenL, SV.lenOK, Cont.lenOK] at hn hl ⊢
    have h0 := ilen_0 l
    have g0 := ilen_0 (getl l c1)
    have g1 := getl_any hl.2 c1
    have e1 : isub (ilen l) 1 = ilen l - 1 := isub_e (by omega) (by omega)
    have e2 : isub (ilen (getl l c1)) 1 = ilen (getl l c1) - 1 := isub_e (by omega) (by omega)
    simp only [ilt_t, ilt_f, ile_t, ile_f, ieq_t, ieq_f, bnot_e, band_e, bite_and, bite_or, NLt_e, NLe_e, NNe_e, NIs_e, imax_e, imin_e, irem_e, Bool.not_eq_true', Bool.not_eq_false', Bool.and_eq_true, Bool.or_eq_true, Bool.or_eq_false_iff, Bool.and_eq_false_iff, Cont.pts.injEq, Cont.ints.injEq, Cont.bools.injEq, Cont.ptss.injEq, Cont.intss.injEq, Cont.boolss.injEq, true_and, and_true, implies_true, e1, e2]
    have i1 : inB c1 0 (ilen l - 1) = decide (0 ≤ c1 ∧ c1 < ilen l) := by unfold inB; exact decide_eq_decide.2 (by omega)
    have i2 : inB c2 0 (ilen (getl l c1) - 1) = decide (0 ≤ c2 ∧ c2 < ilen (getl l c1)) := by unfold inB; exact decide_eq_decide.2 (by omega)
    rw [i1, i2]
    simp only [decide_eq_true_eq]
    exact ⟨⟨fun h => h, fun h => h.1, fun h => h.2⟩, rfl⟩
  · cases h
theorem mul20 {x y : Int} (hx : -20000 ≤ x ∧ x ≤ 20000) (hy : -20000 ≤ y ∧ y ≤ 20000) : -400000000 ≤ x * y ∧ x * y ≤ 400000000 := by
  have h := mul_box hx.1 hx.2 hy.1 hy.2
  generalize x * y = z at *
  have e1 : min (min ((-20000 : Int) * -20000) (-20000 * 20000)) (min (20000 * -20000) (20000 * 20000)) = -400000000 := by decide
  have e2 : max (max ((-20000 : Int) * -20000) (-20000 * 20000)) (max (20000 * -20000) (20000 * 20000)) = 400000000 := by decide
  rw [e1, e2] at h
  exact h
theorem crW_e {a1 a2 b1 b2 c1 c2 : Int} (ha : vB a1 a2 = true) (hb : vB b1 b2 = true) (hc : vB c1 c2 = true) : crW a1 a2 b1 b2 c1 c2 = crs (a1, a2) (b1, b2) (c1, c2) := by
  unfold vB at ha hb hc
  simp only [Bool.and_eq_true] at ha hb hc
  have a1' := inB_true ha.1; have a2' := inB_true ha.2; have b1' := inB_true hb.1; have b2' := inB_true hb.2; have c1' := inB_true hc.1; have c2' := inB_true hc.2
  unfold crW crs
  rw [isub_e (a := b1) (by omega) (by omega), isub_e (a := c2) (by omega) (by omega), isub_e (a := b2) (by omega) (by omega), isub_e (a := c1) (by omega) (by omega)]
  have m1 := mul20 (x := b1 - a1) (y := c2 - a2) (by omega) (by omega)
  have m2 := mul20 (x := b2 - a2) (y := c1 - a1) (by omega) (by omega)
  rw [imul_e (a := b1 - a1) (by omega) (by omega), imul_e (a := b2 - a2) (by omega) (by omega), isub_e (by omega) (by omega)]
def P (l : List Pt) (i : Int) : Pt := (getx l i, gety l i)
theorem sgn_01 (z : Int) : -1 ≤ sgn z ∧ sgn z ≤ 1 := by unfold sgn; split <;> (try split) <;> omega
theorem ieq_sgn (z : Int) : ieq (sgn z) 0 = decide (z = 0) := by
  unfold ieq
  congr 1
  simp only [eq_iff_iff]
  unfold sgn; split <;> (try split) <;> omega
theorem imul_sgn (x y : Int) : imul (sgn x) (sgn y) = sgn x * sgn y := by
  have s1 := sgn_01 x; have s2 := sgn_01 y
  have := mul20 (x := sgn x) (y := sgn y) (by omega) (by omega)
  exact imul_e (by omega) (by omega)
theorem sgn_0 (z : Int) : sgn z = 0 ↔ z = 0 := by unfold sgn; split <;> (try split) <;> omega
def btW (a1 a2 b1 b2 p1 p2 : Int) : Bool := inB p1 (min a1 b1) (max a1 b1) && inB p2 (min a2 b2) (max a2 b2)
theorem btW_e (a1 a2 b1 b2 p1 p2 : Int) : btW a1 a2 b1 b2 p1 p2 = btw (a1, a2) (b1, b2) (p1, p2) := by
  unfold btW btw inB
  simp only [← Bool.decide_and]
  congr 1
  simp only [eq_iff_iff]
  constructor
  · rintro ⟨⟨h1, h2⟩, h3, h4⟩; exact ⟨h1, h2, h3, h4⟩
  · rintro ⟨h1, h2, h3, h4⟩; exact ⟨⟨h1, h2⟩, h3, h4⟩
def g_spec_PathValid : List AV → Option Sg
  | [.s (.view (.boolss l)), .s (.view (.pts p))] => some ⟨True, [.s (.bool (pvB l p))]⟩
  | _ => none
def sig_spec_PathValid : FuncId → List AV → Option Sg := sigL [(69, g_spec_l11Square), (65, g_spec_l1In), (70, g_spec_l11Free)]
def xs_spec_PathValid : XS := ⟨xsigL [], ysigL []⟩
theorem sig_spec_PathValid_ok : SigOK sig_spec_PathValid := sigL_cons F_spec_l11Square (sigL_cons F_spec_l1In (sigL_cons F_spec_l11Free sigL_nil))
theorem xs_spec_PathValid_ok : XSigOK xs_spec_PathValid := ⟨xsigL_nil, ysigL_nil⟩
theorem V_spec_PathValid (l : List (List Bool)) (p : List Pt) : ((true = true) ∧ ((True) ∧ True) ∧ (true = true) ∧ ((True) ∧ ((True)) ∧ (True) ∧ (True) ∧ (NIs (bnot (tblB l)) false → True) ∧ (NIs (bnot (tblB l)) false → True) ∧ (NIs (bnot (tblB l)) false → (True)) ∧ (NIs (bnot (tblB l)) false → True) ∧ (True) ∧ True) ∧ ((bite (bnot (tblB l)) true (bnot (inB (ilen p) (1 : Int) (400 : Int)))) = true → ((true = true) ∧ ((True) ∧ True) ∧ ((false : Bool) = (pvB l p)) ∧ True)) ∧ ((bite (bnot (tblB l)) true (bnot (inB (ilen p) (1 : Int) (400 : Int)))) = false → ((true = true) ∧ ((True) ∧ True) ∧ ∃ (I1 : List GV → Prop) (μ1 : List GV → Nat), (((true = true) ∧ (((false : Bool) = false) ∧ (((0 : Int) : Int) = (0 : Int)) ∧ ((Cont.boolss l) = (Cont.boolss l)) ∧ (((tblB l) : Bool) = (tblB l)) ∧ (((bnot (tblB l)) : Bool) = (bnot (tblB l))) ∧ (((bnot (tblB l)) : Bool) = (bnot (tblB l))) ∧ (((bite (bnot (tblB l)) true (bnot (inB (ilen p) (1 : Int) (400 : Int)))) : Bool) = (bite (bnot (tblB l)) true (bnot (inB (ilen p) (1 : Int) (400 : Int))))) ∧ ((Cont.boolss l) = (Cont.boolss l)) ∧ ((Cont.pts p) = (Cont.pts p)) ∧ True) ∧ (True)) ∧ (([GK.int, GK.bool] : List GK) = ([GK.int, GK.bool] : List GK)) ∧ I1 [GV.int (0 : Int), GV.bool false]) ∧ (∀ i1_0 : Int, ∀ b1_1 : Bool, I1 [GV.int i1_0, GV.bool b1_1] → ((true = true) ∧ ((True) ∧ (True) ∧ (True) ∧ (True) ∧ True) ∧ ((ilt i1_0 (ilen p)) = true → ((true = true) ∧ ((True) ∧ (True) ∧ (True) ∧ (NLe 0 i1_0 ∧ NLt i1_0 (ilen p)) ∧ (True) ∧ ((True)) ∧ (True) ∧ True) ∧ ((bnot (freeB l (getx p i1_0) (gety p i1_0))) = true → ((true = true) ∧ ((True) ∧ True) ∧ ((false : Bool) = (pvB l p)) ∧ True)) ∧ ((bnot (freeB l (getx p i1_0) (gety p i1_0))) = false → ((true = true) ∧ ((True) ∧ (True) ∧ (True) ∧ (NIs (ilt (0 : Int) i1_0) true → True) ∧ (NIs (ilt (0 : Int) i1_0) true → True) ∧ (NIs (ilt (0 : Int) i1_0) true → (NLe 0 i1_0 ∧ NLt i1_0 (ilen p))) ∧ (NIs (ilt (0 : Int) i1_0) true → True) ∧ (NIs (ilt (0 : Int) i1_0) true → True) ∧ (NIs (ilt (0 : Int) i1_0) true → True) ∧ (NIs (ilt (0 : Int) i1_0) true → True) ∧ (NIs (ilt (0 : Int) i1_0) true → True) ∧ (NIs (ilt (0 : Int) i1_0) true → (NLe 0 (isub i1_0 (1 : Int)) ∧ NLt (isub i1_0 (1 : Int)) (ilen p))) ∧ (NIs (ilt (0 : Int) i1_0) true → True) ∧ (NIs (ilt (0 : Int) i1_0) true → True) ∧ (NIs (ilt (0 : Int) i1_0) true → True) ∧ (NIs (ilt (0 : Int) i1_0) true → True) ∧ (NIs (ilt (0 : Int) i1_0) true → True) ∧ (NIs (ilt (0 : Int) i1_0) true → True) ∧ (NIs (ilt (0 : Int) i1_0) true → (NLe 0 (isub i1_0 (1 : Int)) ∧ NLt (isub i1_0 (1 : Int)) (ilen p))) ∧ (NIs (ilt (0 : Int) i1_0) true → True) ∧ (NIs (ilt (0 : Int) i1_0) true → True) ∧ (NIs (ilt (0 : Int) i1_0) true → True) ∧ (NIs (ilt (0 : Int) i1_0) true → True) ∧ (NIs (ilt (0 : Int) i1_0) true → (NLe 0 i1_0 ∧ NLt i1_0 (ilen p))) ∧ (NIs (ilt (0 : Int) i1_0) true → True) ∧ (NIs (ilt (0 : Int) i1_0) true → True) ∧ (NIs (ilt (0 : Int) i1_0) true → True) ∧ (NIs (ilt (0 : Int) i1_0) true → True) ∧ (NIs (ilt (0 : Int) i1_0) true → True) ∧ (NIs (ilt (0 : Int) i1_0) true → True) ∧ (NIs (ilt (0 : Int) i1_0) true → (NLe 0 i1_0 ∧ NLt i1_0 (ilen p))) ∧ (NIs (ilt (0 : Int) i1_0) true → True) ∧ (NIs (ilt (0 : Int) i1_0) true → True) ∧ (NIs (ilt (0 : Int) i1_0) true → True) ∧ (NIs (ilt (0 : Int) i1_0) true → True) ∧ (NIs (ilt (0 : Int) i1_0) true → True) ∧ (NIs (ilt (0 : Int) i1_0) true → (NLe 0 (isub i1_0 (1 : Int)) ∧ NLt (isub i1_0 (1 : Int)) (ilen p))) ∧ (NIs (ilt (0 : Int) i1_0) true → True) ∧ (NIs (ilt (0 : Int) i1_0) true → True) ∧ (NIs (ilt (0 : Int) i1_0) true → True) ∧ (NIs (ilt (0 : Int) i1_0) true → True) ∧ (NIs (ilt (0 : Int) i1_0) true → True) ∧ (NIs (ilt (0 : Int) i1_0) true → True) ∧ (NIs (ilt (0 : Int) i1_0) true → (NLe 0 (isub i1_0 (1 : Int)) ∧ NLt (isub i1_0 (1 : Int)) (ilen p))) ∧ (NIs (ilt (0 : Int) i1_0) true → True) ∧ (NIs (ilt (0 : Int) i1_0) true → True) ∧ (NIs (ilt (0 : Int) i1_0) true → True) ∧ (NIs (ilt (0 : Int) i1_0) true → True) ∧ (NIs (ilt (0 : Int) i1_0) true → (NLe 0 i1_0 ∧ NLt i1_0 (ilen p))) ∧ (NIs (ilt (0 : Int) i1_0) true → True) ∧ (NIs (ilt (0 : Int) i1_0) true → True) ∧ (NIs (ilt (0 : Int) i1_0) true → True) ∧ (NIs (ilt (0 : Int) i1_0) true → True) ∧ (NIs (ilt (0 : Int) i1_0) true → True) ∧ (NIs (ilt (0 : Int) i1_0) true → True) ∧ (True) ∧ True) ∧ ((bite (ilt (0 : Int) i1_0) (bnot (ieq (iadd (imax (isub (getx p i1_0) (getx p (isub i1_0 (1 : Int)))) (isub (getx p (isub i1_0 (1 : Int))) (getx p i1_0))) (imax (isub (gety p i1_0) (gety p (isub i1_0 (1 : Int)))) (isub (gety p (isub i1_0 (1 : Int))) (gety p i1_0)))) (1 : Int))) false) = true → ((true = true) ∧ ((True) ∧ True) ∧ ((false : Bool) = (pvB l p)) ∧ True)) ∧ ((bite (ilt (0 : Int) i1_0) (bnot (ieq (iadd (imax (isub (getx p i1_0) (getx p (isub i1_0 (1 : Int)))) (isub (getx p (isub i1_0 (1 : Int))) (getx p i1_0))) (imax (isub (gety p i1_0) (gety p (isub i1_0 (1 : Int)))) (isub (gety p (isub i1_0 (1 : Int))) (gety p i1_0)))) (1 : Int))) false) = false → ((true = true) ∧ ((True) ∧ (True) ∧ (True) ∧ True) ∧ ((true = true) ∧ (((b1_1 : Bool) = b1_1) ∧ (((iadd i1_0 (1 : Int)) : Int) = (iadd i1_0 (1 : Int))) ∧ ((Cont.boolss l) = (Cont.boolss l)) ∧ (((tblB l) : Bool) = (tblB l)) ∧ (((bnot (tblB l)) : Bool) = (bnot (tblB l))) ∧ (((bnot (tblB l)) : Bool) = (bnot (tblB l))) ∧ (((bite (bnot (tblB l)) true (bnot (inB (ilen p) (1 : Int) (400 : Int)))) : Bool) = (bite (bnot (tblB l)) true (bnot (inB (ilen p) (1 : Int) (400 : Int))))) ∧ ((Cont.boolss l) = (Cont.boolss l)) ∧ ((Cont.pts p) = (Cont.pts p)) ∧ True) ∧ (True)) ∧ ((([GK.int, GK.bool] : List GK) = ([GK.int, GK.bool] : List GK)) ∧ I1 [GV.int (iadd i1_0 (1 : Int)), GV.bool b1_1] ∧ μ1 [GV.int (iadd i1_0 (1 : Int)), GV.bool b1_1] < μ1 [GV.int i1_0, GV.bool b1_1]))))))) ∧ ((ilt i1_0 (ilen p)) = false → ((true = true) ∧ ((True) ∧ True) ∧ ((true : Bool) = (pvB l p)) ∧ True))))))) = ev sig_spec_PathValid xs_spec_PathValid Try.f44.ntmps (fun b => if b == 0 then [.v 5, .v 4] else []) (codeOf Try.f44) 0 (initS [.s (.view (.boolss l)), .s (.view (.pts p))]) (retK Try.f44.results.toList [.s (.bool (pvB l p))]) := by kernel_rfl
set_option maxHeartbeats 400000 in
theorem F_spec_PathValid : FunOK 44 g_spec_PathValid := by
  refine fun_F (by kernel_rfl) Try.func44 rfl (by kernel_rfl) sig_spec_PathValid_ok xs_spec_PathValid_ok ?_
  intro avs sg h hn hl
  unfold g_spec_PathValid at h
  split at h
  · rename_i l p
    injection h with h; subst h
    refine ⟨by kernel_rfl, fun b => if b == 0 then [.v 5, .v 4] else [], Eq.mp (V_spec_PathValid l p) ?_⟩
    simp only [true_and, and_true, implies_true, and_self, forall_const, true_implies, lenA, lenL, SV.lenOK, Cont.lenOK] at hn hl ⊢
    have h0 := ilen_0 p
    simp only [ilt_t, ilt_f, ile_t, ile_f, ieq_t, ieq_f, bnot_e, band_e, bite_and, bite_or, NLt_e, NLe_e, NNe_e, NIs_e, imax_e, imin_e, irem_e, Bool.not_eq_true', Bool.not_eq_false', Bool.and_eq_true, Bool.or_eq_true, Bool.or_eq_false_iff, Bool.and_eq_false_iff, Cont.pts.injEq, Cont.ints.injEq, Cont.bools.injEq, Cont.ptss.injEq, Cont.intss.injEq, Cont.boolss.injEq, true_and, and_true, implies_true]
    refine ⟨fun h => by unfold pvB; rcases h with h | h <;> simp [h], fun h => ?_⟩
    obtain ⟨ht, hl1⟩ := h
    refine ⟨fun | .int k :: _ => 0 ≤ k ∧ k ≤ ilen p ∧ (∀ i, 0 ≤ i → i < k → pvE l p i = true) | _ => False, fun | .int k :: _ => (ilen p - k).toNat | _ => 0, ?_, ?_⟩
    · exact ⟨Int.le_refl 0, h0, fun j h0 h1 => absurd h1 (by omega)⟩
    · rintro k _ ⟨hk0, hk1, hk⟩
      simp only [ilt_t, ilt_f, ile_t, ile_f, ieq_t, ieq_f, bnot_e, band_e, bite_and, bite_or, NLt_e, NLe_e, NNe_e, NIs_e, imax_e, imin_e, irem_e, Bool.not_eq_true', Bool.not_eq_false', Bool.and_eq_true, Bool.or_eq_true, Bool.or_eq_false_iff, Bool.and_eq_false_iff, Cont.pts.injEq, Cont.ints.injEq, Cont.bools.injEq, Cont.ptss.injEq, Cont.intss.injEq, Cont.boolss.injEq, true_and, and_true, implies_true]
      have e4 : isub k 1 = k - 1 := isub_e (by omega) (by omega)
      simp only [e4]
      refine ⟨fun hkn => ⟨⟨hk0, hkn⟩, fun hx => ?_, fun hx => ?_⟩, fun hkn => ?_⟩
      · have hE : pvE l p k = false := by unfold pvE; rw [hx]; rfl
        unfold pvB; rw [allN_no k hk0 hkn hE]; simp
      · have e1 := iadd_1 hk0 hkn hl.2
        have fin : pvE l p k = true → (0 ≤ k + 1 ∧ k + 1 ≤ ilen p ∧ ∀ i, 0 ≤ i → i < k + 1 → pvE l p i = true) ∧ (ilen p - (k + 1)).toNat < (ilen p - k).toNat := fun hE => ⟨⟨by omega, by omega, upTo hk hE⟩, by omega⟩
        have bad : pvE l p k = false → false = pvB l p := fun hE => by unfold pvB; rw [allN_no k hk0 hkn hE]; simp
        have q1 := free_in ht hx
        have q2 : 0 < k → 0 ≤ getx p (k - 1) ∧ getx p (k - 1) < 20 ∧ 0 ≤ gety p (k - 1) ∧ gety p (k - 1) < 20 := fun h => by
          have := hk (k - 1) (by omega) (by omega)
          unfold pvE at this
          simp only [Bool.and_eq_true] at this
          exact free_in ht this.1
        simp only [e1]
        refine ⟨⟨fun h => ⟨hk0, hkn⟩, fun h => ⟨by omega, by omega⟩, fun h => ⟨by omega, by omega⟩, fun h => ⟨hk0, hkn⟩, fun h => ⟨hk0, hkn⟩, fun h => ⟨by omega, by omega⟩, fun h => ⟨by omega, by omega⟩, fun h => ⟨hk0, hkn⟩⟩, fun hp => ?_, fun hp => fin ?_⟩
        · have q3 := q2 hp.1
          have hy := hp.2
          rw [isub_e (a := getx p k) (by omega) (by omega), isub_e (a := getx p (k - 1)) (by omega) (by omega), isub_e (a := gety p k) (by omega) (by omega), isub_e (a := gety p (k - 1)) (by omega) (by omega), iadd_e (by omega) (by omega)] at hy
          have hS : stepB p k = false := by unfold stepB; simp only [decide_eq_false_iff_not]; exact hy
          refine bad ?_
          unfold pvE; rw [hx, hS]; simp; omega
        · by_cases h0k : k ≤ 0
          · unfold pvE; rw [hx]; simp [h0k]
          · have q3 := q2 (by omega)
            rcases hp with hp | hy
            · exact absurd hp h0k
            · rw [isub_e (a := getx p k) (by omega) (by omega), isub_e (a := getx p (k - 1)) (by omega) (by omega), isub_e (a := gety p k) (by omega) (by omega), isub_e (a := gety p (k - 1)) (by omega) (by omega), iadd_e (by omega) (by omega)] at hy
              have hS : stepB p k = true := by unfold stepB; simp only [decide_eq_true_eq]; exact hy
              unfold pvE; rw [hx, hS]; simp
      · unfold pvB; rw [ht, hl1, allN_mk fun j j0 j1 => hk j j0 (by omega)]; rfl
  · cases h
def g_impl_tableValid : List AV → Option Sg
  | [.s (.view (.boolss l))] => some ⟨True, [.s (.bool (tblB l))]⟩
  | _ => none
def sig_impl_tableValid : FuncId → List AV → Option Sg := sigL []
def xs_impl_tableValid : XS := ⟨xsigL [], ysigL []⟩
theorem sig_impl_tableValid_ok : SigOK sig_impl_tableValid := sigL_nil
theorem xs_impl_tableValid_ok : XSigOK xs_impl_tableValid := ⟨xsigL_nil, ysigL_nil⟩
theorem V_impl_tableValid (l : List (List Bool)) : ((true = true) ∧ ((True) ∧ True) ∧ (true = true) ∧ ((True) ∧ (True) ∧ (True) ∧ True) ∧ ((ilt (20 : Int) (ilen l)) = true → ((true = true) ∧ ((True) ∧ True) ∧ ((false : Bool) = (tblB l)) ∧ True)) ∧ ((ilt (20 : Int) (ilen l)) = false → ((true = true) ∧ ((True) ∧ (True) ∧ (True) ∧ True) ∧ ∃ (I1 : List GV → Prop) (μ1 : List GV → Nat), (((true = true) ∧ (((false : Bool) = false) ∧ (((0 : Int) : Int) = (0 : Int)) ∧ ((Cont.boolss l) = (Cont.boolss l)) ∧ (((ilen l) : Int) = (ilen l)) ∧ ((Cont.boolss l) = (Cont.boolss l)) ∧ (((ilen l) : Int) = (ilen l)) ∧ (((ilt (20 : Int) (ilen l)) : Bool) = (ilt (20 : Int) (ilen l))) ∧ ((Cont.boolss l) = (Cont.boolss l)) ∧ True) ∧ (True)) ∧ (([GK.int, GK.bool] : List GK) = ([GK.int, GK.bool] : List GK)) ∧ I1 [GV.int (0 : Int), GV.bool false]) ∧ (∀ i1_0 : Int, ∀ b1_1 : Bool, I1 [GV.int i1_0, GV.bool b1_1] → ((true = true) ∧ ((True) ∧ True) ∧ ((ilt i1_0 (ilen l)) = true → ((true = true) ∧ ((NLe 0 i1_0 ∧ NLt i1_0 (ilen l)) ∧ (True) ∧ (True) ∧ True) ∧ (true = true) ∧ ((True) ∧ (True) ∧ (True) ∧ (True) ∧ (NIs (ilt (20 : Int) (ilen (getl l i1_0))) false → True) ∧ (NIs (ilt (20 : Int) (ilen (getl l i1_0))) false → True) ∧ (NIs (ilt (20 : Int) (ilen (getl l i1_0))) false → True) ∧ (NIs (ilt (20 : Int) (ilen (getl l i1_0))) false → (NLe 0 (0 : Int) ∧ NLt (0 : Int) (ilen l))) ∧ (NIs (ilt (20 : Int) (ilen (getl l i1_0))) false → True) ∧ (NIs (ilt (20 : Int) (ilen (getl l i1_0))) false → True) ∧ (NIs (ilt (20 : Int) (ilen (getl l i1_0))) false → True) ∧ (True) ∧ True) ∧ ((bite (ilt (20 : Int) (ilen (getl l i1_0))) true (bnot (ieq (ilen (getl l i1_0)) (ilen (getl l (0 : Int)))))) = true → ((true = true) ∧ ((True) ∧ True) ∧ ((false : Bool) = (tblB l)) ∧ True)) ∧ ((bite (ilt (20 : Int) (ilen (getl l i1_0))) true (bnot (ieq (ilen (getl l i1_0)) (ilen (getl l (0 : Int)))))) = false → ((true = true) ∧ ((True) ∧ (True) ∧ True) ∧ ((true = true) ∧ (((b1_1 : Bool) = b1_1) ∧ (((iadd i1_0 (1 : Int)) : Int) = (iadd i1_0 (1 : Int))) ∧ ((Cont.boolss l) = (Cont.boolss l)) ∧ (((ilen l) : Int) = (ilen l)) ∧ ((Cont.boolss l) = (Cont.boolss l)) ∧ (((ilen l) : Int) = (ilen l)) ∧ (((ilt (20 : Int) (ilen l)) : Bool) = (ilt (20 : Int) (ilen l))) ∧ ((Cont.boolss l) = (Cont.boolss l)) ∧ True) ∧ (True)) ∧ ((([GK.int, GK.bool] : List GK) = ([GK.int, GK.bool] : List GK)) ∧ I1 [GV.int (iadd i1_0 (1 : Int)), GV.bool b1_1] ∧ μ1 [GV.int (iadd i1_0 (1 : Int)), GV.bool b1_1] < μ1 [GV.int i1_0, GV.bool b1_1]))))) ∧ ((ilt i1_0 (ilen l)) = false → ((true = true) ∧ ((True) ∧ True) ∧ ((true : Bool) = (tblB l)) ∧ True))))))) = ev sig_impl_tableValid xs_impl_tableValid Try.f66.ntmps (fun b => if b == 0 then [.v 10, .v 2] else []) (codeOf Try.f66) 0 (initS [.s (.view (.boolss l))]) (retK Try.f66.results.toList [.s (.bool (tblB l))]) := by kernel_rfl
set_option maxHeartbeats 400000 in
theorem F_impl_tableValid : FunOK 66 g_impl_tableValid := by
  refine fun_F (by kernel_rfl) Try.func66 rfl (by kernel_rfl) sig_impl_tableValid_ok xs_impl_tableValid_ok ?_
  intro avs sg h hn hl
  unfold g_impl_tableValid at h
  split at h
  · rename_i l
    injection h with h; subst h
    refine ⟨by kernel_rfl, fun b => if b == 0 then [.v 10, .v 2] else [], Eq.mp (V_impl_tableValid l) ?_⟩
    simp only [true_and, and_true, implies_true, and_self, forall_const, true_implies, lenA, lenL, SV.lenOK, Cont.lenOK] at hn hl ⊢
    have h0 := ilen_0 l
    simp only [ilt_t, ilt_f, ile_t, ile_f, ieq_t, ieq_f, bnot_e, band_e, bite_and, bite_or, NLt_e, NLe_e, NNe_e, NIs_e, imax_e, imin_e, irem_e, Bool.not_eq_true', Bool.not_eq_false', Bool.and_eq_true, Bool.or_eq_true, Bool.or_eq_false_iff, Bool.and_eq_false_iff, Cont.pts.injEq, Cont.ints.injEq, Cont.bools.injEq, Cont.ptss.injEq, Cont.intss.injEq, Cont.boolss.injEq, true_and, and_true, implies_true]
    refine ⟨fun h => by unfold tblB; simp; omega, fun hle => ?_⟩
    refine ⟨fun | .int k :: _ => 0 ≤ k ∧ k ≤ ilen l ∧ (∀ i, 0 ≤ i → i < k → tblE l i = true) | _ => False, fun | .int k :: _ => (ilen l - k).toNat | _ => 0, ?_, ?_⟩
    · exact ⟨Int.le_refl 0, h0, fun j h0 h1 => absurd h1 (by omega)⟩
    · rintro k _ ⟨hk0, hk1, hk⟩
      simp only [ilt_t, ilt_f, ile_t, ile_f, ieq_t, ieq_f, bnot_e, band_e, bite_and, bite_or, NLt_e, NLe_e, NNe_e, NIs_e, imax_e, imin_e, irem_e, Bool.not_eq_true', Bool.not_eq_false', Bool.and_eq_true, Bool.or_eq_true, Bool.or_eq_false_iff, Bool.and_eq_false_iff, Cont.pts.injEq, Cont.ints.injEq, Cont.bools.injEq, Cont.ptss.injEq, Cont.intss.injEq, Cont.boolss.injEq, true_and, and_true, implies_true]
      refine ⟨fun hkn => ⟨⟨hk0, hkn⟩, fun _ => ⟨by omega, by omega⟩, fun hx => ?_, fun hx => ?_⟩, fun hkn => ?_⟩
      · have hE : tblE l k = false := by unfold tblE; simp only [decide_eq_false_iff_not]; omega
        unfold tblB; rw [allN_no k hk0 hkn hE]; simp
      · have hE : tblE l k = true := by unfold tblE; simp only [decide_eq_true_eq]; omega
        rw [iadd_1 hk0 hkn hl.1]
        exact ⟨⟨by omega, by omega, upTo hk hE⟩, by omega⟩
      · unfold tblB; rw [allN_mk fun j j0 j1 => hk j j0 (by omega)]; simp [ile, hle]
  · cases h
def g_impl_within : List AV → Option Sg
  | [.s (.int n), .s (.int lo), .s (.int hi)] => some ⟨True, [.s (.bool (inB n lo hi))]⟩
  | _ => none
def sig_impl_within : FuncId → List AV → Option Sg := sigL []
def xs_impl_within : XS := ⟨xsigL [], ysigL []⟩
theorem sig_impl_within_ok : SigOK sig_impl_within := sigL_nil
theorem xs_impl_within_ok : XSigOK xs_impl_within := ⟨xsigL_nil, ysigL_nil⟩
theorem V_impl_within (n : Int) (lo : Int) (hi : Int) : ((true = true) ∧ ((True) ∧ True) ∧ (true = true) ∧ ((True) ∧ (True) ∧ (True) ∧ (True) ∧ (NIs (ile lo n) true → True) ∧ (NIs (ile lo n) true → True) ∧ (NIs (ile lo n) true → True) ∧ (True) ∧ (True) ∧ True) ∧ (((bite (ile lo n) (ile n hi) false) : Bool) = (inB n lo hi)) ∧ True) = ev sig_impl_within xs_impl_within Try.f56.ntmps (fun b => []) (codeOf Try.f56) 0 (initS [.s (.int n), .s (.int lo), .s (.int hi)]) (retK Try.f56.results.toList [.s (.bool (inB n lo hi))]) := by kernel_rfl
set_option maxHeartbeats 400000 in
theorem F_impl_within : FunOK 56 g_impl_within := by
  refine fun_F (by kernel_rfl) Try.func56 rfl (by kernel_rfl) sig_impl_within_ok xs_impl_within_ok ?_
  intro avs sg h hn hl
  unfold g_impl_within at h
  split at h
  · rename_i n lo hi
    injection h with h; subst h
    refine ⟨by kernel_rfl, fun b => [], Eq.mp (V_impl_within n lo hi) ?_⟩
    simp only [true_and, and_true, implies_true, and_self, forall_const, true_implies, lenA, lenL, SV.lenOK, Cont.lenOK] at hn hl ⊢
    simp only [bite_and, inB_eq]
  · cases h
def g_impl_isFree : List AV → Option Sg
  | [.s (.view (.boolss l)), .agg [.int c1, .int c2]] => some ⟨True, [.s (.bool (freeB l c1 c2))]⟩
  | _ => none
def sig_impl_isFree : FuncId → List AV → Option Sg := sigL []
def xs_impl_isFree : XS := ⟨xsigL [], ysigL []⟩
theorem sig_impl_isFree_ok : SigOK sig_impl_isFree := sigL_nil
theorem xs_impl_isFree_ok : XSigOK xs_impl_isFree := ⟨xsigL_nil, ysigL_nil⟩
theorem V_impl_isFree (l : List (List Bool)) (c1 : Int) (c2 : Int) : ((true = true) ∧ ((True) ∧ (True) ∧ True) ∧ (true = true) ∧ ((True) ∧ (True) ∧ (True) ∧ (True) ∧ (NIs (ile (0 : Int) c1) true → True) ∧ (NIs (ile (0 : Int) c1) true → True) ∧ (NIs (ile (0 : Int) c1) true → True) ∧ (NIs (ile (0 : Int) c1) true → True) ∧ (NIs (ile (0 : Int) c1) true → True) ∧ (True) ∧ (True) ∧ (NIs (bite (ile (0 : Int) c1) (ilt c1 (ilen l)) false) true → True) ∧ (NIs (bite (ile (0 : Int) c1) (ilt c1 (ilen l)) false) true → True) ∧ (NIs (bite (ile (0 : Int) c1) (ilt c1 (ilen l)) false) true → True) ∧ (True) ∧ (True) ∧ (NIs (bite (bite (ile (0 : Int) c1) (ilt c1 (ilen l)) false) (ile (0 : Int) c2) false) true → True) ∧ (NIs (bite (bite (ile (0 : Int) c1) (ilt c1 (ilen l)) false) (ile (0 : Int) c2) false) true → True) ∧ (NIs (bite (bite (ile (0 : Int) c1) (ilt c1 (ilen l)) false) (ile (0 : Int) c2) false) true → True) ∧ (NIs (bite (bite (ile (0 : Int) c1) (ilt c1 (ilen l)) false) (ile (0 : Int) c2) false) true → True) ∧ (NIs (bite (bite (ile (0 : Int) c1) (ilt c1 (ilen l)) false) (ile (0 : Int) c2) false) true → True) ∧ (NIs (bite (bite (ile (0 : Int) c1) (ilt c1 (ilen l)) false) (ile (0 : Int) c2) false) true → (NLe 0 c1 ∧ NLt c1 (ilen l))) ∧ (NIs (bite (bite (ile (0 : Int) c1) (ilt c1 (ilen l)) false) (ile (0 : Int) c2) false) true → True) ∧ (NIs (bite (bite (ile (0 : Int) c1) (ilt c1 (ilen l)) false) (ile (0 : Int) c2) false) true → True) ∧ (NIs (bite (bite (ile (0 : Int) c1) (ilt c1 (ilen l)) false) (ile (0 : Int) c2) false) true → True) ∧ (True) ∧ (True) ∧ (NIs (bite (bite (bite (ile (0 : Int) c1) (ilt c1 (ilen l)) false) (ile (0 : Int) c2) false) (ilt c2 (ilen (getl l c1))) false) true → True) ∧ (NIs (bite (bite (bite (ile (0 : Int) c1) (ilt c1 (ilen l)) false) (ile (0 : Int) c2) false) (ilt c2 (ilen (getl l c1))) false) true → True) ∧ (NIs (bite (bite (bite (ile (0 : Int) c1) (ilt c1 (ilen l)) false) (ile (0 : Int) c2) false) (ilt c2 (ilen (getl l c1))) false) true → True) ∧ (NIs (bite (bite (bite (ile (0 : Int) c1) (ilt c1 (ilen l)) false) (ile (0 : Int) c2) false) (ilt c2 (ilen (getl l c1))) false) true → (NLe 0 c1 ∧ NLt c1 (ilen l))) ∧ (NIs (bite (bite (bite (ile (0 : Int) c1) (ilt c1 (ilen l)) false) (ile (0 : Int) c2) false) (ilt c2 (ilen (getl l c1))) false) true → True) ∧ (NIs (bite (bite (bite (ile (0 : Int) c1) (ilt c1 (ilen l)) false) (ile (0 : Int) c2) false) (ilt c2 (ilen (getl l c1))) false) true → True) ∧ (NIs (bite (bite (bite (ile (0 : Int) c1) (ilt c1 (ilen l)) false) (ile (0 : Int) c2) false) (ilt c2 (ilen (getl l c1))) false) true → True) ∧ (NIs (bite (bite (bite (ile (0 : Int) c1) (ilt c1 (ilen l)) false) (ile (0 : Int) c2) false) (ilt c2 (ilen (getl l c1))) false) true → (NLe 0 c2 ∧ NLt c2 (ilen (getl l c1)))) ∧ (NIs (bite (bite (bite (ile (0 : Int) c1) (ilt c1 (ilen l)) false) (ile (0 : Int) c2) false) (ilt c2 (ilen (getl l c1))) false) true → True) ∧ (True) ∧ (True) ∧ True) ∧ (((bite (bite (bite (bite (ile (0 : Int) c1) (ilt c1 (ilen l)) false) (ile (0 : Int) c2) false) (ilt c2 (ilen (getl l c1))) false) (getb (getl l c1) c2) false) : Bool) = (freeB l c1 c2)) ∧ True) = ev sig_impl_isFree xs_impl_isFree Try.f67.ntmps (fun b => []) (codeOf Try.f67) 0 (initS [.s (.view (.boolss l)), .agg [.int c1, .int c2]]) (retK Try.f67.results.toList [.s (.bool (freeB l c1 c2))]) := by kernel_rfl
set_option maxHeartbeats 400000 in
theorem F_impl_isFree : FunOK 67 g_impl_isFree := by
  refine fun_F (by kernel_rfl) Try.func67 rfl (by kernel_rfl) sig_impl_isFree_ok xs_impl_isFree_ok ?_
  intro avs sg h hn hl
  unfold g_impl_isFree at h
  split at h
  · rename_i l c1 c2
    injection h with h; subst h
    refine ⟨by kernel_rfl, fun b => [], Eq.mp (V_impl_isFree l c1 c2) ?_⟩
    simp only [true_and, and_true, implies_true, and_self, forall_const, true_implies, lenA, lenL, SV.lenOK, Cont.lenOK] at hn hl ⊢
    simp only [ilt_t, ilt_f, ile_t, ile_f, ieq_t, ieq_f, bnot_e, band_e, bite_and, bite_or, NLt_e, NLe_e, NNe_e, NIs_e, imax_e, imin_e, irem_e, Bool.not_eq_true', Bool.not_eq_false', Bool.and_eq_true, Bool.or_eq_true, Bool.or_eq_false_iff, Bool.and_eq_false_iff, Cont.pts.injEq, Cont.ints.injEq, Cont.bools.injEq, Cont.ptss.injEq, Cont.intss.injEq, Cont.boolss.injEq, true_and, and_true, implies_true]
    refine ⟨⟨fun h => h.1, fun h => h.1.1, fun h => ⟨h.1.2, h.2⟩⟩, ?_⟩
    simp only [freeB, ile, ilt, Bool.decide_and, Bool.and_assoc]
  · cases h
def g_impl_PathValid : List AV → Option Sg
  | [.s (.view (.boolss l)), .s (.view (.pts p))] => some ⟨True, [.s (.bool (pvB l p))]⟩
  | _ => none
def sig_impl_PathValid : FuncId → List AV → Option Sg := sigL [(66, g_impl_tableValid), (56, g_impl_within), (67, g_impl_isFree)]
def xs_impl_PathValid : XS := ⟨xsigL [], ysigL []⟩
theorem sig_impl_PathValid_ok : SigOK sig_impl_PathValid := sigL_cons F_impl_tableValid (sigL_cons F_impl_within (sigL_cons F_impl_isFree sigL_nil))
theorem xs_impl_PathValid_ok : XSigOK xs_impl_PathValid := ⟨xsigL_nil, ysigL_nil⟩
theorem V_impl_PathValid (l : List (List Bool)) (p : List Pt) : ((true = true) ∧ ((True) ∧ True) ∧ (true = true) ∧ ((True) ∧ ((True)) ∧ (True) ∧ (True) ∧ (NIs (bnot (tblB l)) false → True) ∧ (NIs (bnot (tblB l)) false → True) ∧ (NIs (bnot (tblB l)) false → (True)) ∧ (NIs (bnot (tblB l)) false → True) ∧ (True) ∧ True) ∧ ((bite (bnot (tblB l)) true (bnot (inB (ilen p) (1 : Int) (400 : Int)))) = true → ((true = true) ∧ ((True) ∧ True) ∧ ((false : Bool) = (pvB l p)) ∧ True)) ∧ ((bite (bnot (tblB l)) true (bnot (inB (ilen p) (1 : Int) (400 : Int)))) = false → ((true = true) ∧ ((True) ∧ (True) ∧ (True) ∧ True) ∧ ∃ (I1 : List GV → Prop) (μ1 : List GV → Nat), (((true = true) ∧ (((false : Bool) = false) ∧ (((0 : Int) : Int) = (0 : Int)) ∧ ((Cont.pts p) = (Cont.pts p)) ∧ (((ilen p) : Int) = (ilen p)) ∧ ((Cont.boolss l) = (Cont.boolss l)) ∧ (((tblB l) : Bool) = (tblB l)) ∧ (((bnot (tblB l)) : Bool) = (bnot (tblB l))) ∧ (((bnot (tblB l)) : Bool) = (bnot (tblB l))) ∧ (((bite (bnot (tblB l)) true (bnot (inB (ilen p) (1 : Int) (400 : Int)))) : Bool) = (bite (bnot (tblB l)) true (bnot (inB (ilen p) (1 : Int) (400 : Int))))) ∧ ((Cont.boolss l) = (Cont.boolss l)) ∧ ((Cont.pts p) = (Cont.pts p)) ∧ True) ∧ (True)) ∧ (([GK.int, GK.bool] : List GK) = ([GK.int, GK.bool] : List GK)) ∧ I1 [GV.int (0 : Int), GV.bool false]) ∧ (∀ i1_0 : Int, ∀ b1_1 : Bool, I1 [GV.int i1_0, GV.bool b1_1] → ((true = true) ∧ ((True) ∧ True) ∧ ((ilt i1_0 (ilen p)) = true → ((true = true) ∧ ((True) ∧ (NLe 0 i1_0 ∧ NLt i1_0 (ilen p)) ∧ (True) ∧ (True) ∧ (True) ∧ True) ∧ (True) ∧ (true = true) ∧ ((True) ∧ (True) ∧ ((True)) ∧ (True) ∧ True) ∧ ((bnot (freeB l (getx p i1_0) (gety p i1_0))) = true → ((true = true) ∧ ((True) ∧ True) ∧ ((false : Bool) = (pvB l p)) ∧ True)) ∧ ((bnot (freeB l (getx p i1_0) (gety p i1_0))) = false → ((true = true) ∧ ((True) ∧ (True) ∧ True) ∧ ((ilt (0 : Int) i1_0) = true → ((true = true) ∧ ((True) ∧ (True) ∧ (True) ∧ (True) ∧ (True) ∧ (NLe 0 (isub i1_0 (1 : Int)) ∧ NLt (isub i1_0 (1 : Int)) (ilen p)) ∧ (True) ∧ (True) ∧ (True) ∧ (True) ∧ (True) ∧ (True) ∧ (True) ∧ (True) ∧ (NLe 0 (isub i1_0 (1 : Int)) ∧ NLt (isub i1_0 (1 : Int)) (ilen p)) ∧ (True) ∧ (True) ∧ (True) ∧ (True) ∧ (True) ∧ True) ∧ (true = true) ∧ ((True) ∧ (True) ∧ (True) ∧ (True) ∧ (True) ∧ (True) ∧ (True) ∧ (True) ∧ True) ∧ ((bnot (ieq (iadd (imul (isub (getx p i1_0) (getx p (isub i1_0 (1 : Int)))) (isub (getx p i1_0) (getx p (isub i1_0 (1 : Int))))) (imul (isub (gety p i1_0) (gety p (isub i1_0 (1 : Int)))) (isub (gety p i1_0) (gety p (isub i1_0 (1 : Int)))))) (1 : Int))) = true → ((true = true) ∧ ((True) ∧ True) ∧ ((false : Bool) = (pvB l p)) ∧ True)) ∧ ((bnot (ieq (iadd (imul (isub (getx p i1_0) (getx p (isub i1_0 (1 : Int)))) (isub (getx p i1_0) (getx p (isub i1_0 (1 : Int))))) (imul (isub (gety p i1_0) (gety p (isub i1_0 (1 : Int)))) (isub (gety p i1_0) (gety p (isub i1_0 (1 : Int)))))) (1 : Int))) = false → ((true = true) ∧ ((True) ∧ (True) ∧ True) ∧ ((true = true) ∧ (((b1_1 : Bool) = b1_1) ∧ (((iadd i1_0 (1 : Int)) : Int) = (iadd i1_0 (1 : Int))) ∧ ((Cont.pts p) = (Cont.pts p)) ∧ (((ilen p) : Int) = (ilen p)) ∧ ((Cont.boolss l) = (Cont.boolss l)) ∧ (((tblB l) : Bool) = (tblB l)) ∧ (((bnot (tblB l)) : Bool) = (bnot (tblB l))) ∧ (((bnot (tblB l)) : Bool) = (bnot (tblB l))) ∧ (((bite (bnot (tblB l)) true (bnot (inB (ilen p) (1 : Int) (400 : Int)))) : Bool) = (bite (bnot (tblB l)) true (bnot (inB (ilen p) (1 : Int) (400 : Int))))) ∧ ((Cont.boolss l) = (Cont.boolss l)) ∧ ((Cont.pts p) = (Cont.pts p)) ∧ True) ∧ (True)) ∧ ((([GK.int, GK.bool] : List GK) = ([GK.int, GK.bool] : List GK)) ∧ I1 [GV.int (iadd i1_0 (1 : Int)), GV.bool b1_1] ∧ μ1 [GV.int (iadd i1_0 (1 : Int)), GV.bool b1_1] < μ1 [GV.int i1_0, GV.bool b1_1]))))) ∧ ((ilt (0 : Int) i1_0) = false → ((true = true) ∧ ((True) ∧ (True) ∧ True) ∧ ((true = true) ∧ (((b1_1 : Bool) = b1_1) ∧ (((iadd i1_0 (1 : Int)) : Int) = (iadd i1_0 (1 : Int))) ∧ ((Cont.pts p) = (Cont.pts p)) ∧ (((ilen p) : Int) = (ilen p)) ∧ ((Cont.boolss l) = (Cont.boolss l)) ∧ (((tblB l) : Bool) = (tblB l)) ∧ (((bnot (tblB l)) : Bool) = (bnot (tblB l))) ∧ (((bnot (tblB l)) : Bool) = (bnot (tblB l))) ∧ (((bite (bnot (tblB l)) true (bnot (inB (ilen p) (1 : Int) (400 : Int)))) : Bool) = (bite (bnot (tblB l)) true (bnot (inB (ilen p) (1 : Int) (400 : Int))))) ∧ ((Cont.boolss l) = (Cont.boolss l)) ∧ ((Cont.pts p) = (Cont.pts p)) ∧ True) ∧ (True)) ∧ ((([GK.int, GK.bool] : List GK) = ([GK.int, GK.bool] : List GK)) ∧ I1 [GV.int (iadd i1_0 (1 : Int)), GV.bool b1_1] ∧ μ1 [GV.int (iadd i1_0 (1 : Int)), GV.bool b1_1] < μ1 [GV.int i1_0, GV.bool b1_1]))))))) ∧ ((ilt i1_0 (ilen p)) = false → ((true = true) ∧ ((True) ∧ True) ∧ ((true : Bool) = (pvB l p)) ∧ True))))))) = ev sig_impl_PathValid xs_impl_PathValid Try.f46.ntmps (fun b => if b == 0 then [.v 20, .v 4] else []) (codeOf Try.f46) 0 (initS [.s (.view (.boolss l)), .s (.view (.pts p))]) (retK Try.f46.results.toList [.s (.bool (pvB l p))]) := by kernel_rfl
set_option maxHeartbeats 400000 in
theorem F_impl_PathValid : FunOK 46 g_impl_PathValid := by
  refine fun_F (by kernel_rfl) Try.func46 rfl (by kernel_rfl) sig_impl_PathValid_ok xs_impl_PathValid_ok ?_
  intro avs sg h hn hl
  unfold g_impl_PathValid at h
  split at h
  · rename_i l p
    injection h with h; subst h
    refine ⟨by kernel_rfl, fun b => if b == 0 then [.v 20, .v 4] else [], Eq.mp (V_impl_PathValid l p) ?_⟩
    simp only [true_and, and_true, implies_true, and_self, forall_const, true_implies, lenA, lenL, SV.lenOK, Cont.lenOK] at hn hl ⊢
    have h0 := ilen_0 p
    simp only [ilt_t, ilt_f, ile_t, ile_f, ieq_t, ieq_f, bnot_e, band_e, bite_and, bite_or, NLt_e, NLe_e, NNe_e, NIs_e, imax_e, imin_e, irem_e, Bool.not_eq_true', Bool.not_eq_false', Bool.and_eq_true, Bool.or_eq_true, Bool.or_eq_false_iff, Bool.and_eq_false_iff, Cont.pts.injEq, Cont.ints.injEq, Cont.bools.injEq, Cont.ptss.injEq, Cont.intss.injEq, Cont.boolss.injEq, true_and, and_true, implies_true]
    refine ⟨fun h => by unfold pvB; rcases h with h | h <;> simp [h], fun h => ?_⟩
    obtain ⟨ht, hl1⟩ := h
    refine ⟨fun | .int k :: _ => 0 ≤ k ∧ k ≤ ilen p ∧ (∀ i, 0 ≤ i → i < k → pvE l p i = true) | _ => False, fun | .int k :: _ => (ilen p - k).toNat | _ => 0, ?_, ?_⟩
    · exact ⟨Int.le_refl 0, h0, fun j h0 h1 => absurd h1 (by omega)⟩
    · rintro k _ ⟨hk0, hk1, hk⟩
      simp only [ilt_t, ilt_f, ile_t, ile_f, ieq_t, ieq_f, bnot_e, band_e, bite_and, bite_or, NLt_e, NLe_e, NNe_e, NIs_e, imax_e, imin_e, irem_e, Bool.not_eq_true', Bool.not_eq_false', Bool.and_eq_true, Bool.or_eq_true, Bool.or_eq_false_iff, Bool.and_eq_false_iff, Cont.pts.injEq, Cont.ints.injEq, Cont.bools.injEq, Cont.ptss.injEq, Cont.intss.injEq, Cont.boolss.injEq, true_and, and_true, implies_true]
      have e4 : isub k 1 = k - 1 := isub_e (by omega) (by omega)
      simp only [e4]
      refine ⟨fun hkn => ⟨⟨hk0, hkn⟩, fun hx => ?_, fun hx => ?_⟩, fun hkn => ?_⟩
      · have hE : pvE l p k = false := by unfold pvE; rw [hx]; rfl
        unfold pvB; rw [allN_no k hk0 hkn hE]; simp
      · have e1 := iadd_1 hk0 hkn hl.2
        have fin : pvE l p k = true → (0 ≤ k + 1 ∧ k + 1 ≤ ilen p ∧ ∀ i, 0 ≤ i → i < k + 1 → pvE l p i = true) ∧ (ilen p - (k + 1)).toNat < (ilen p - k).toNat := fun hE => ⟨⟨by omega, by omega, upTo hk hE⟩, by omega⟩
        have bad : pvE l p k = false → false = pvB l p := fun hE => by unfold pvB; rw [allN_no k hk0 hkn hE]; simp
        have q1 := free_in ht hx
        have q2 : 0 < k → 0 ≤ getx p (k - 1) ∧ getx p (k - 1) < 20 ∧ 0 ≤ gety p (k - 1) ∧ gety p (k - 1) < 20 := fun h => by
          have := hk (k - 1) (by omega) (by omega)
          unfold pvE at this
          simp only [Bool.and_eq_true] at this
          exact free_in ht this.1
        simp only [e1]
        refine ⟨fun hp => ⟨⟨by omega, by omega⟩, ?_⟩, fun hp => fin (by unfold pvE; rw [hx]; simp [hp])⟩
        have q3 := q2 hp
        have s1 : isub (getx p k) (getx p (k - 1)) = getx p k - getx p (k - 1) := isub_e (by omega) (by omega)
        have s2 : isub (gety p k) (gety p (k - 1)) = gety p k - gety p (k - 1) := isub_e (by omega) (by omega)
        rw [s1, s2]
        have m1 := mul20 (x := getx p k - getx p (k - 1)) (y := getx p k - getx p (k - 1)) (by omega) (by omega)
        have m2 := mul20 (x := gety p k - gety p (k - 1)) (y := gety p k - gety p (k - 1)) (by omega) (by omega)
        rw [imul_e (by omega) (by omega), imul_e (by omega) (by omega), iadd_e (by omega) (by omega)]
        have se := step_e (d := getx p k - getx p (k - 1)) (e := gety p k - gety p (k - 1))
        have t1 : -(getx p k - getx p (k - 1)) = getx p (k - 1) - getx p k := by omega
        have t2 : -(gety p k - gety p (k - 1)) = gety p (k - 1) - gety p k := by omega
        rw [t1, t2] at se
        refine ⟨fun hy => bad ?_, fun hy => fin ?_⟩
        · have hS : stepB p k = false := by unfold stepB; simp only [decide_eq_false_iff_not]; exact fun h => hy (se.2 h)
          unfold pvE; rw [hx, hS]; simp; omega
        · have hS : stepB p k = true := by unfold stepB; simp only [decide_eq_true_eq]; exact se.1 hy
          unfold pvE; rw [hx, hS]; simp
      · unfold pvB; rw [ht, hl1, allN_mk fun j j0 j1 => hk j j0 (by omega)]; rfl
  · cases h
def g_laws_eqBoolS : List AV → Option Sg
  | [.s (.view (.bools l)), .s (.view (.bools m))] => some ⟨True, [.s (.bool (eqBo l m))]⟩
  | _ => none
def sig_laws_eqBoolS : FuncId → List AV → Option Sg := sigL []
def xs_laws_eqBoolS : XS := ⟨xsigL [], ysigL []⟩
theorem sig_laws_eqBoolS_ok : SigOK sig_laws_eqBoolS := sigL_nil
theorem xs_laws_eqBoolS_ok : XSigOK xs_laws_eqBoolS := ⟨xsigL_nil, ysigL_nil⟩
theorem V_laws_eqBoolS (l : List Bool) (m : List Bool) : ((true = true) ∧ ((True) ∧ True) ∧ (true = true) ∧ ((True) ∧ (True) ∧ (True) ∧ (True) ∧ (True) ∧ True) ∧ ((bnot (ieq (ilen l) (ilen m))) = true → ((true = true) ∧ ((True) ∧ True) ∧ ((false : Bool) = (eqBo l m)) ∧ True)) ∧ ((bnot (ieq (ilen l) (ilen m))) = false → ((true = true) ∧ ((True) ∧ True) ∧ ∃ (I1 : List GV → Prop) (μ1 : List GV → Nat), (((true = true) ∧ (((false : Bool) = false) ∧ (((0 : Int) : Int) = (0 : Int)) ∧ ((Cont.bools l) = (Cont.bools l)) ∧ (((ilen l) : Int) = (ilen l)) ∧ ((Cont.bools m) = (Cont.bools m)) ∧ (((ilen m) : Int) = (ilen m)) ∧ (((bnot (ieq (ilen l) (ilen m))) : Bool) = (bnot (ieq (ilen l) (ilen m)))) ∧ ((Cont.bools l) = (Cont.bools l)) ∧ ((Cont.bools m) = (Cont.bools m)) ∧ True) ∧ (True)) ∧ (([GK.int, GK.bool] : List GK) = ([GK.int, GK.bool] : List GK)) ∧ I1 [GV.int (0 : Int), GV.bool false]) ∧ (∀ i1_0 : Int, ∀ b1_1 : Bool, I1 [GV.int i1_0, GV.bool b1_1] → ((true = true) ∧ ((True) ∧ (True) ∧ (True) ∧ (True) ∧ True) ∧ ((ilt i1_0 (ilen l)) = true → ((true = true) ∧ ((True) ∧ (True) ∧ (NLe 0 i1_0 ∧ NLt i1_0 (ilen l)) ∧ (True) ∧ (True) ∧ (True) ∧ (NLe 0 i1_0 ∧ NLt i1_0 (ilen m)) ∧ (True) ∧ (True) ∧ True) ∧ ((bxor (getb l i1_0) (getb m i1_0)) = true → ((true = true) ∧ ((True) ∧ True) ∧ ((false : Bool) = (eqBo l m)) ∧ True)) ∧ ((bxor (getb l i1_0) (getb m i1_0)) = false → ((true = true) ∧ ((True) ∧ (True) ∧ (True) ∧ True) ∧ ((true = true) ∧ (((b1_1 : Bool) = b1_1) ∧ (((iadd i1_0 (1 : Int)) : Int) = (iadd i1_0 (1 : Int))) ∧ ((Cont.bools l) = (Cont.bools l)) ∧ (((ilen l) : Int) = (ilen l)) ∧ ((Cont.bools m) = (Cont.bools m)) ∧ (((ilen m) : Int) = (ilen m)) ∧ (((bnot (ieq (ilen l) (ilen m))) : Bool) = (bnot (ieq (ilen l) (ilen m)))) ∧ ((Cont.bools l) = (Cont.bools l)) ∧ ((Cont.bools m) = (Cont.bools m)) ∧ True) ∧ (True)) ∧ ((([GK.int, GK.bool] : List GK) = ([GK.int, GK.bool] : List GK)) ∧ I1 [GV.int (iadd i1_0 (1 : Int)), GV.bool b1_1] ∧ μ1 [GV.int (iadd i1_0 (1 : Int)), GV.bool b1_1] < μ1 [GV.int i1_0, GV.bool b1_1]))))) ∧ ((ilt i1_0 (ilen l)) = false → ((true = true) ∧ ((True) ∧ True) ∧ ((true : Bool) = (eqBo l m)) ∧ True))))))) = ev sig_laws_eqBoolS xs_laws_eqBoolS Try.f75.ntmps (fun b => if b == 0 then [.v 5, .v 4] else []) (codeOf Try.f75) 0 (initS [.s (.view (.bools l)), .s (.view (.bools m))]) (retK Try.f75.results.toList [.s (.bool (eqBo l m))]) := by kernel_rfl
set_option maxHeartbeats 400000 in
theorem F_laws_eqBoolS : FunOK 75 g_laws_eqBoolS := by
  refine fun_F (by kernel_rfl) Try.func75 rfl (by kernel_rfl) sig_laws_eqBoolS_ok xs_laws_eqBoolS_ok ?_
  intro avs sg h hn hl
  unfold g_laws_eqBoolS at h
  split at h
  · rename_i l m
    injection h with h; subst h
    refine ⟨by kernel_rfl, fun b => if b == 0 then [.v 5, .v 4] else [], Eq.mp (V_laws_eqBoolS l m) ?_⟩
    simp only [true_and, and_true, implies_true, and_self, forall_const, true_implies, lenA, lenL, SV.lenOK, Cont.lenOK] at hn hl ⊢
    have h0 := ilen_0 l
    simp only [ilt_t, ilt_f, ile_t, ile_f, ieq_t, ieq_f, bnot_e, band_e, bite_and, bite_or, NLt_e, NLe_e, NNe_e, NIs_e, imax_e, imin_e, irem_e, Bool.not_eq_true', Bool.not_eq_false', Bool.and_eq_true, Bool.or_eq_true, Bool.or_eq_false_iff, Bool.and_eq_false_iff, Cont.pts.injEq, Cont.ints.injEq, Cont.bools.injEq, Cont.ptss.injEq, Cont.intss.injEq, Cont.boolss.injEq, true_and, and_true, implies_true, bxor_f, bxor_t]
    unfold eqBo
    refine ⟨fun h => by simp [h], fun h => ?_⟩
    refine ⟨fun | .int k :: _ => 0 ≤ k ∧ k ≤ ilen l ∧ ∀ j, 0 ≤ j → j < k → (getb l j == getb m j) = true | _ => False, fun | .int k :: _ => (ilen l - k).toNat | _ => 0, ?_, ?_⟩
    · exact ⟨Int.le_refl 0, h0, fun j h0 h1 => absurd h1 (by omega)⟩
    · rintro k _ ⟨hk0, hk1, hk⟩
      simp only [ilt_t, ilt_f, ile_t, ile_f, ieq_t, ieq_f, bnot_e, band_e, bite_and, bite_or, NLt_e, NLe_e, NNe_e, NIs_e, imax_e, imin_e, irem_e, Bool.not_eq_true', Bool.not_eq_false', Bool.and_eq_true, Bool.or_eq_true, Bool.or_eq_false_iff, Bool.and_eq_false_iff, Cont.pts.injEq, Cont.ints.injEq, Cont.bools.injEq, Cont.ptss.injEq, Cont.intss.injEq, Cont.boolss.injEq, true_and, and_true, implies_true, bxor_f, bxor_t]
      refine ⟨fun hc => ⟨⟨⟨hk0, hc⟩, hk0, by omega⟩, fun hv => ?_, fun hv => ?_⟩, fun hc => ?_⟩
      · rw [allN_no k hk0 hc (by simpa using hv)]; simp
      · rw [iadd_1 hk0 hc hl.1]
        exact ⟨⟨by omega, by omega, allN_up hk (by simpa using hv)⟩, by omega⟩
      · rw [allN_mk fun j h0 h1 => hk j h0 (by omega)]; simp [h]
  · cases h
def g_laws_eqBoolSS : List AV → Option Sg
  | [.s (.view (.boolss l)), .s (.view (.boolss m))] => some ⟨True, [.s (.bool (eqBB l m))]⟩
  | _ => none
def sig_laws_eqBoolSS : FuncId → List AV → Option Sg := sigL [(75, g_laws_eqBoolS)]
def xs_laws_eqBoolSS : XS := ⟨xsigL [], ysigL []⟩
theorem sig_laws_eqBoolSS_ok : SigOK sig_laws_eqBoolSS := sigL_cons F_laws_eqBoolS sigL_nil
theorem xs_laws_eqBoolSS_ok : XSigOK xs_laws_eqBoolSS := ⟨xsigL_nil, ysigL_nil⟩
theorem V_laws_eqBoolSS (l : List (List Bool)) (m : List (List Bool)) : ((true = true) ∧ ((True) ∧ True) ∧ (true = true) ∧ ((True) ∧ (True) ∧ (True) ∧ (True) ∧ (True) ∧ True) ∧ ((bnot (ieq (ilen l) (ilen m))) = true → ((true = true) ∧ ((True) ∧ True) ∧ ((false : Bool) = (eqBB l m)) ∧ True)) ∧ ((bnot (ieq (ilen l) (ilen m))) = false → ((true = true) ∧ ((True) ∧ True) ∧ ∃ (I1 : List GV → Prop) (μ1 : List GV → Nat), (((true = true) ∧ (((false : Bool) = false) ∧ (((0 : Int) : Int) = (0 : Int)) ∧ ((Cont.boolss l) = (Cont.boolss l)) ∧ (((ilen l) : Int) = (ilen l)) ∧ ((Cont.boolss m) = (Cont.boolss m)) ∧ (((ilen m) : Int) = (ilen m)) ∧ (((bnot (ieq (ilen l) (ilen m))) : Bool) = (bnot (ieq (ilen l) (ilen m)))) ∧ ((Cont.boolss l) = (Cont.boolss l)) ∧ ((Cont.boolss m) = (Cont.boolss m)) ∧ True) ∧ (True)) ∧ (([GK.int, GK.bool] : List GK) = ([GK.int, GK.bool] : List GK)) ∧ I1 [GV.int (0 : Int), GV.bool false]) ∧ (∀ i1_0 : Int, ∀ b1_1 : Bool, I1 [GV.int i1_0, GV.bool b1_1] → ((true = true) ∧ ((True) ∧ (True) ∧ (True) ∧ (True) ∧ True) ∧ ((ilt i1_0 (ilen l)) = true → ((true = true) ∧ ((True) ∧ (True) ∧ (NLe 0 i1_0 ∧ NLt i1_0 (ilen l)) ∧ (True) ∧ (True) ∧ (True) ∧ (NLe 0 i1_0 ∧ NLt i1_0 (ilen m)) ∧ (True) ∧ ((True)) ∧ (True) ∧ True) ∧ ((bnot (eqBo (getl l i1_0) (getl m i1_0))) = true → ((true = true) ∧ ((True) ∧ True) ∧ ((false : Bool) = (eqBB l m)) ∧ True)) ∧ ((bnot (eqBo (getl l i1_0) (getl m i1_0))) = false → ((true = true) ∧ ((True) ∧ (True) ∧ (True) ∧ True) ∧ ((true = true) ∧ (((b1_1 : Bool) = b1_1) ∧ (((iadd i1_0 (1 : Int)) : Int) = (iadd i1_0 (1 : Int))) ∧ ((Cont.boolss l) = (Cont.boolss l)) ∧ (((ilen l) : Int) = (ilen l)) ∧ ((Cont.boolss m) = (Cont.boolss m)) ∧ (((ilen m) : Int) = (ilen m)) ∧ (((bnot (ieq (ilen l) (ilen m))) : Bool) = (bnot (ieq (ilen l) (ilen m)))) ∧ ((Cont.boolss l) = (Cont.boolss l)) ∧ ((Cont.boolss m) = (Cont.boolss m)) ∧ True) ∧ (True)) ∧ ((([GK.int, GK.bool] : List GK) = ([GK.int, GK.bool] : List GK)) ∧ I1 [GV.int (iadd i1_0 (1 : Int)), GV.bool b1_1] ∧ μ1 [GV.int (iadd i1_0 (1 : Int)), GV.bool b1_1] < μ1 [GV.int i1_0, GV.bool b1_1]))))) ∧ ((ilt i1_0 (ilen l)) = false → ((true = true) ∧ ((True) ∧ True) ∧ ((true : Bool) = (eqBB l m)) ∧ True))))))) = ev sig_laws_eqBoolSS xs_laws_eqBoolSS Try.f47.ntmps (fun b => if b == 0 then [.v 5, .v 4] else []) (codeOf Try.f47) 0 (initS [.s (.view (.boolss l)), .s (.view (.boolss m))]) (retK Try.f47.results.toList [.s (.bool (eqBB l m))]) := by kernel_rfl
set_option maxHeartbeats 400000 in
theorem F_laws_eqBoolSS : FunOK 47 g_laws_eqBoolSS := by
  refine fun_F (by kernel_rfl) Try.func47 rfl (by kernel_rfl) sig_laws_eqBoolSS_ok xs_laws_eqBoolSS_ok ?_
  intro avs sg h hn hl
  unfold g_laws_eqBoolSS at h
  split at h
  · rename_i l m
    injection h with h; subst h
    refine ⟨by kernel_rfl, fun b => if b == 0 then [.v 5, .v 4] else [], Eq.mp (V_laws_eqBoolSS l m) ?_⟩
    simp only [true_and, and_true, implies_true, and_self, forall_const, true_implies, lenA, lenL, SV.lenOK, Cont.lenOK] at hn hl ⊢
    have h0 := ilen_0 l
    simp only [ilt_t, ilt_f, ile_t, ile_f, ieq_t, ieq_f, bnot_e, band_e, bite_and, bite_or, NLt_e, NLe_e, NNe_e, NIs_e, imax_e, imin_e, irem_e, Bool.not_eq_true', Bool.not_eq_false', Bool.and_eq_true, Bool.or_eq_true, Bool.or_eq_false_iff, Bool.and_eq_false_iff, Cont.pts.injEq, Cont.ints.injEq, Cont.bools.injEq, Cont.ptss.injEq, Cont.intss.injEq, Cont.boolss.injEq, true_and, and_true, implies_true]
    unfold eqBB
    refine ⟨fun h => by simp [h], fun h => ?_⟩
    refine ⟨fun | .int k :: _ => 0 ≤ k ∧ k ≤ ilen l ∧ ∀ j, 0 ≤ j → j < k → eqBo (getl l j) (getl m j) = true | _ => False, fun | .int k :: _ => (ilen l - k).toNat | _ => 0, ?_, ?_⟩
    · exact ⟨Int.le_refl 0, h0, fun j h0 h1 => absurd h1 (by omega)⟩
    · rintro k _ ⟨hk0, hk1, hk⟩
      simp only [ilt_t, ilt_f, ile_t, ile_f, ieq_t, ieq_f, bnot_e, band_e, bite_and, bite_or, NLt_e, NLe_e, NNe_e, NIs_e, imax_e, imin_e, irem_e, Bool.not_eq_true', Bool.not_eq_false', Bool.and_eq_true, Bool.or_eq_true, Bool.or_eq_false_iff, Bool.and_eq_false_iff, Cont.pts.injEq, Cont.ints.injEq, Cont.bools.injEq, Cont.ptss.injEq, Cont.intss.injEq, Cont.boolss.injEq, true_and, and_true, implies_true]
      refine ⟨fun hc => ⟨⟨⟨hk0, hc⟩, hk0, by omega⟩, fun hv => ?_, fun hv => ?_⟩, fun hc => ?_⟩
      · rw [allN_no k hk0 hc hv]; simp
      · rw [iadd_1 hk0 hc hl.1.1]
        exact ⟨⟨by omega, by omega, allN_up hk hv⟩, by omega⟩
      · rw [allN_mk fun j h0 h1 => hk j h0 (by omega)]; simp [h]
  · cases h
def g_laws_eqCell : List AV → Option Sg
  | [.agg [.int p1, .int p2], .agg [.int q1, .int q2]] => some ⟨True, [.s (.bool (eqPt p1 p2 q1 q2))]⟩
  | _ => none
def sig_laws_eqCell : FuncId → List AV → Option Sg := sigL []
def xs_laws_eqCell : XS := ⟨xsigL [], ysigL []⟩
theorem sig_laws_eqCell_ok : SigOK sig_laws_eqCell := sigL_nil
theorem xs_laws_eqCell_ok : XSigOK xs_laws_eqCell := ⟨xsigL_nil, ysigL_nil⟩
theorem V_laws_eqCell (p1 : Int) (p2 : Int) (q1 : Int) (q2 : Int) : ((true = true) ∧ ((True) ∧ (True) ∧ (True) ∧ True) ∧ (true = true) ∧ ((True) ∧ (True) ∧ (True) ∧ (True) ∧ (True) ∧ True) ∧ ((bnot (ieq p1 q1)) = true → ((true = true) ∧ ((True) ∧ True) ∧ ((false : Bool) = (eqPt p1 p2 q1 q2)) ∧ True)) ∧ ((bnot (ieq p1 q1)) = false → ((true = true) ∧ ((True) ∧ (True) ∧ (True) ∧ (True) ∧ (True) ∧ True) ∧ ((bnot (ieq p2 q2)) = true → ((true = true) ∧ ((True) ∧ True) ∧ ((false : Bool) = (eqPt p1 p2 q1 q2)) ∧ True)) ∧ ((bnot (ieq p2 q2)) = false → ((true = true) ∧ ((True) ∧ True) ∧ ((true : Bool) = (eqPt p1 p2 q1 q2)) ∧ True))))) = ev sig_laws_eqCell xs_laws_eqCell Try.f51.ntmps (fun b => []) (codeOf Try.f51) 0 (initS [.agg [.int p1, .int p2], .agg [.int q1, .int q2]]) (retK Try.f51.results.toList [.s (.bool (eqPt p1 p2 q1 q2))]) := by kernel_rfl
set_option maxHeartbeats 400000 in
theorem F_laws_eqCell : FunOK 51 g_laws_eqCell := by
  refine fun_F (by kernel_rfl) Try.func51 rfl (by kernel_rfl) sig_laws_eqCell_ok xs_laws_eqCell_ok ?_
  intro avs sg h hn hl
  unfold g_laws_eqCell at h
  split at h
  · rename_i p1 p2 q1 q2
    injection h with h; subst h
    refine ⟨by kernel_rfl, fun b => [], Eq.mp (V_laws_eqCell p1 p2 q1 q2) ?_⟩
    simp only [true_and, and_true, implies_true, and_self, forall_const, true_implies, lenA, lenL, SV.lenOK, Cont.lenOK] at hn hl ⊢
    simp only [ilt_t, ilt_f, ile_t, ile_f, ieq_t, ieq_f, bnot_e, band_e, bite_and, bite_or, NLt_e, NLe_e, NNe_e, NIs_e, imax_e, imin_e, irem_e, Bool.not_eq_true', Bool.not_eq_false', Bool.and_eq_true, Bool.or_eq_true, Bool.or_eq_false_iff, Bool.and_eq_false_iff, Cont.pts.injEq, Cont.ints.injEq, Cont.bools.injEq, Cont.ptss.injEq, Cont.intss.injEq, Cont.boolss.injEq, true_and, and_true, implies_true]
    unfold eqPt
    refine ⟨fun h => by simp [h], fun h => ⟨fun h2 => by simp [h2], fun h2 => by simp [h, h2]⟩⟩
  · cases h
def g_laws_eqCellS : List AV → Option Sg
  | [.s (.view (.pts l)), .s (.view (.pts m))] => some ⟨True, [.s (.bool (eqL l m))]⟩
  | _ => none
def sig_laws_eqCellS : FuncId → List AV → Option Sg := sigL [(51, g_laws_eqCell)]
def xs_laws_eqCellS : XS := ⟨xsigL [], ysigL []⟩
theorem sig_laws_eqCellS_ok : SigOK sig_laws_eqCellS := sigL_cons F_laws_eqCell sigL_nil
theorem xs_laws_eqCellS_ok : XSigOK xs_laws_eqCellS := ⟨xsigL_nil, ysigL_nil⟩
theorem V_laws_eqCellS (l : List Pt) (m : List Pt) : ((true = true) ∧ ((True) ∧ True) ∧ (true = true) ∧ ((True) ∧ (True) ∧ (True) ∧ (True) ∧ (True) ∧ True) ∧ ((bnot (ieq (ilen l) (ilen m))) = true → ((true = true) ∧ ((True) ∧ True) ∧ ((false : Bool) = (eqL l m)) ∧ True)) ∧ ((bnot (ieq (ilen l) (ilen m))) = false → ((true = true) ∧ ((True) ∧ True) ∧ ∃ (I1 : List GV → Prop) (μ1 : List GV → Nat), (((true = true) ∧ (((false : Bool) = false) ∧ (((0 : Int) : Int) = (0 : Int)) ∧ ((Cont.pts l) = (Cont.pts l)) ∧ (((ilen l) : Int) = (ilen l)) ∧ ((Cont.pts m) = (Cont.pts m)) ∧ (((ilen m) : Int) = (ilen m)) ∧ (((bnot (ieq (ilen l) (ilen m))) : Bool) = (bnot (ieq (ilen l) (ilen m)))) ∧ ((Cont.pts l) = (Cont.pts l)) ∧ ((Cont.pts m) = (Cont.pts m)) ∧ True) ∧ (True)) ∧ (([GK.int, GK.bool] : List GK) = ([GK.int, GK.bool] : List GK)) ∧ I1 [GV.int (0 : Int), GV.bool false]) ∧ (∀ i1_0 : Int, ∀ b1_1 : Bool, I1 [GV.int i1_0, GV.bool b1_1] → ((true = true) ∧ ((True) ∧ (True) ∧ (True) ∧ (True) ∧ True) ∧ ((ilt i1_0 (ilen l)) = true → ((true = true) ∧ ((True) ∧ (True) ∧ (NLe 0 i1_0 ∧ NLt i1_0 (ilen l)) ∧ (True) ∧ (True) ∧ (True) ∧ (NLe 0 i1_0 ∧ NLt i1_0 (ilen m)) ∧ (True) ∧ ((True)) ∧ (True) ∧ True) ∧ ((bnot (eqPt (getx l i1_0) (gety l i1_0) (getx m i1_0) (gety m i1_0))) = true → ((true = true) ∧ ((True) ∧ True) ∧ ((false : Bool) = (eqL l m)) ∧ True)) ∧ ((bnot (eqPt (getx l i1_0) (gety l i1_0) (getx m i1_0) (gety m i1_0))) = false → ((true = true) ∧ ((True) ∧ (True) ∧ (True) ∧ True) ∧ ((true = true) ∧ (((b1_1 : Bool) = b1_1) ∧ (((iadd i1_0 (1 : Int)) : Int) = (iadd i1_0 (1 : Int))) ∧ ((Cont.pts l) = (Cont.pts l)) ∧ (((ilen l) : Int) = (ilen l)) ∧ ((Cont.pts m) = (Cont.pts m)) ∧ (((ilen m) : Int) = (ilen m)) ∧ (((bnot (ieq (ilen l) (ilen m))) : Bool) = (bnot (ieq (ilen l) (ilen m)))) ∧ ((Cont.pts l) = (Cont.pts l)) ∧ ((Cont.pts m) = (Cont.pts m)) ∧ True) ∧ (True)) ∧ ((([GK.int, GK.bool] : List GK) = ([GK.int, GK.bool] : List GK)) ∧ I1 [GV.int (iadd i1_0 (1 : Int)), GV.bool b1_1] ∧ μ1 [GV.int (iadd i1_0 (1 : Int)), GV.bool b1_1] < μ1 [GV.int i1_0, GV.bool b1_1]))))) ∧ ((ilt i1_0 (ilen l)) = false → ((true = true) ∧ ((True) ∧ True) ∧ ((true : Bool) = (eqL l m)) ∧ True))))))) = ev sig_laws_eqCellS xs_laws_eqCellS Try.f18.ntmps (fun b => if b == 0 then [.v 5, .v 4] else []) (codeOf Try.f18) 0 (initS [.s (.view (.pts l)), .s (.view (.pts m))]) (retK Try.f18.results.toList [.s (.bool (eqL l m))]) := by kernel_rfl
set_option maxHeartbeats 400000 in
theorem F_laws_eqCellS : FunOK 18 g_laws_eqCellS := by
  refine fun_F (by kernel_rfl) Try.func18 rfl (by kernel_rfl) sig_laws_eqCellS_ok xs_laws_eqCellS_ok ?_
  intro avs sg h hn hl
  unfold g_laws_eqCellS at h
  split at h
  · rename_i l m
    injection h with h; subst h
    refine ⟨by kernel_rfl, fun b => if b == 0 then [.v 5, .v 4] else [], Eq.mp (V_laws_eqCellS l m) ?_⟩
    simp only [true_and, and_true, implies_true, and_self, forall_const, true_implies, lenA, lenL, SV.lenOK, Cont.lenOK] at hn hl ⊢
    have h0 := ilen_0 l
    simp only [ilt_t, ilt_f, ile_t, ile_f, ieq_t, ieq_f, bnot_e, band_e, bite_and, bite_or, NLt_e, NLe_e, NNe_e, NIs_e, imax_e, imin_e, irem_e, Bool.not_eq_true', Bool.not_eq_false', Bool.and_eq_true, Bool.or_eq_true, Bool.or_eq_false_iff, Bool.and_eq_false_iff, Cont.pts.injEq, Cont.ints.injEq, Cont.bools.injEq, Cont.ptss.injEq, Cont.intss.injEq, Cont.boolss.injEq, true_and, and_true, implies_true]
    unfold eqL
    refine ⟨fun h => by simp [h], fun h => ?_⟩
    refine ⟨fun | .int k :: _ => 0 ≤ k ∧ k ≤ ilen l ∧ ∀ j, 0 ≤ j → j < k → eqPt (getx l j) (gety l j) (getx m j) (gety m j) = true | _ => False, fun | .int k :: _ => (ilen l - k).toNat | _ => 0, ?_, ?_⟩
    · exact ⟨Int.le_refl 0, h0, fun j h0 h1 => absurd h1 (by omega)⟩
    · rintro k _ ⟨hk0, hk1, hk⟩
      simp only [ilt_t, ilt_f, ile_t, ile_f, ieq_t, ieq_f, bnot_e, band_e, bite_and, bite_or, NLt_e, NLe_e, NNe_e, NIs_e, imax_e, imin_e, irem_e, Bool.not_eq_true', Bool.not_eq_false', Bool.and_eq_true, Bool.or_eq_true, Bool.or_eq_false_iff, Bool.and_eq_false_iff, Cont.pts.injEq, Cont.ints.injEq, Cont.bools.injEq, Cont.ptss.injEq, Cont.intss.injEq, Cont.boolss.injEq, true_and, and_true, implies_true]
      refine ⟨fun hc => ⟨⟨⟨hk0, hc⟩, hk0, by omega⟩, fun hv => ?_, fun hv => ?_⟩, fun hc => ?_⟩
      · rw [allN_no k hk0 hc hv]; simp
      · rw [iadd_1 hk0 hc hl.1]
        exact ⟨⟨by omega, by omega, allN_up hk hv⟩, by omega⟩
      · rw [allN_mk fun j h0 h1 => hk j h0 (by omega)]; simp [h]
  · cases h
theorem bxor_self (a : Bool) : bxor a a = false := by cases a <;> simp [bxor]
def g_laws_FnExactPathValid : List AV → Option Sg
  | [.s (.view (.boolss l)), .s (.view (.pts p))] => some ⟨True, [.s (.bool (true))]⟩
  | _ => none
def sig_laws_FnExactPathValid : FuncId → List AV → Option Sg := sigL [(14, g_laws_szCellS), (45, g_laws_toBoolSS), (16, g_laws_toCellS), (44, g_spec_PathValid), (46, g_impl_PathValid), (47, g_laws_eqBoolSS), (18, g_laws_eqCellS)]
def xs_laws_FnExactPathValid : XS := ⟨xsigL [], ysigL [(43, g_laws_szBoolSS)]⟩
theorem sig_laws_FnExactPathValid_ok : SigOK sig_laws_FnExactPathValid := sigL_cons F_laws_szCellS (sigL_cons F_laws_toBoolSS (sigL_cons F_laws_toCellS (sigL_cons F_spec_PathValid (sigL_cons F_impl_PathValid (sigL_cons F_laws_eqBoolSS (sigL_cons F_laws_eqCellS sigL_nil))))))
theorem xs_laws_FnExactPathValid_ok : XSigOK xs_laws_FnExactPathValid := ⟨xsigL_nil, ysigL_cons F_laws_szBoolSS ysigL_nil⟩
theorem V_laws_FnExactPathValid (l : List (List Bool)) (p : List Pt) : ((true = true) ∧ ((True) ∧ True) ∧ (true = true) ∧ ((True) ∧ True) ∧ (true = true) ∧ ((True) ∧ (True) ∧ True) ∧ (true = true) ∧ ((0 ≤ (1048576 : Int) ∧ (1048576 : Int) ≤ 1048576)) ∧ (∀ k_1 : Int, ((k_1 < 0 ∨ (0 ≤ k_1 ∧ k_1 ≤ (1048576 : Int) ∧ ilen l ≤ (1048576 : Int) ∧ ∀ i, 0 ≤ i → i < ilen l → ilen (getl l i) ≤ (1048576 : Int))) → ((True) ∧ (true = true) ∧ ((True) ∧ (True) ∧ True) ∧ ((ilt (k_1) (0 : Int)) = true → ((true = true) ∧ ((True) ∧ True) ∧ ((true : Bool) = (true)) ∧ True)) ∧ ((ilt (k_1) (0 : Int)) = false → ((true = true) ∧ ((True) ∧ (True) ∧ ((0 ≤ (k_1) ∧ (k_1) ≤ 1048576)) ∧ (True) ∧ True) ∧ (true = true) ∧ ((True) ∧ (True) ∧ True) ∧ ((ilt (szI (ilen p) (k_1)) (0 : Int)) = true → ((true = true) ∧ ((True) ∧ True) ∧ ((true : Bool) = (true)) ∧ True)) ∧ ((ilt (szI (ilen p) (k_1)) (0 : Int)) = false → ((true = true) ∧ ((True) ∧ ((ilen l ≤ 100000000 ∧ ∀ i, 0 ≤ i → i < ilen l → ilen (getl l i) ≤ 100000000)) ∧ (True) ∧ ((ilen p ≤ 100000000)) ∧ ((True)) ∧ (True) ∧ True) ∧ (true = true) ∧ ((True) ∧ ((ilen l ≤ 100000000 ∧ ∀ i, 0 ≤ i → i < ilen l → ilen (getl l i) ≤ 100000000)) ∧ (True) ∧ True) ∧ (true = true) ∧ ((True) ∧ ((ilen p ≤ 100000000)) ∧ (True) ∧ True) ∧ (true = true) ∧ ((True) ∧ (True) ∧ ((True)) ∧ (True) ∧ True) ∧ (true = true) ∧ ((True) ∧ (True) ∧ (True) ∧ True) ∧ ((bxor (pvB (l) (p)) (pvB (l) (p))) = true → ((true = true) ∧ ((True) ∧ True) ∧ ((false : Bool) = (true)) ∧ True)) ∧ ((bxor (pvB (l) (p)) (pvB (l) (p))) = false → ((true = true) ∧ ((True) ∧ (True) ∧ ((ilen l ≤ 100000000 ∧ ∀ i, 0 ≤ i → i < ilen l → ilen (getl l i) ≤ 100000000)) ∧ ((True)) ∧ (True) ∧ True) ∧ ((bnot (eqBB (l) (l))) = true → ((true = true) ∧ ((True) ∧ True) ∧ ((false : Bool) = (true)) ∧ True)) ∧ ((bnot (eqBB (l) (l))) = false → ((true = true) ∧ ((True) ∧ (True) ∧ ((ilen p ≤ 100000000)) ∧ ((True)) ∧ (True) ∧ True) ∧ ((bnot (eqL (p) (p))) = true → ((true = true) ∧ ((True) ∧ True) ∧ ((false : Bool) = (true)) ∧ True)) ∧ ((bnot (eqL (p) (p))) = false → ((true = true) ∧ ((True) ∧ True) ∧ ((true : Bool) = (true)) ∧ True)))))))))))))) = ev sig_laws_FnExactPathValid xs_laws_FnExactPathValid Try.f10.ntmps (fun b => []) (codeOf Try.f10) 0 (initS [.s (.view (.boolss l)), .s (.view (.pts p))]) (retK Try.f10.results.toList [.s (.bool (true))]) := by kernel_rfl
set_option maxHeartbeats 400000 in
theorem F_laws_FnExactPathValid : FunOK 10 g_laws_FnExactPathValid := by
  refine fun_F (by kernel_rfl) Try.func10 rfl (by kernel_rfl) sig_laws_FnExactPathValid_ok xs_laws_FnExactPathValid_ok ?_
  intro avs sg h hn hl
  unfold g_laws_FnExactPathValid at h
  split at h
  · rename_i l p
    injection h with h; subst h
    refine ⟨by kernel_rfl, fun b => [], Eq.mp (V_laws_FnExactPathValid l p) ?_⟩
    simp only [true_and, and_true, implies_true, and_self, forall_const, true_implies, lenA, lenL, SV.lenOK, Cont.lenOK] at hn hl ⊢
    have h0 := ilen_0 l
    have p0 := ilen_0 p
    simp only [ilt_t, ilt_f, ile_t, ile_f, ieq_t, ieq_f, bnot_e, band_e, bite_and, bite_or, NLt_e, NLe_e, NNe_e, NIs_e, imax_e, imin_e, irem_e, Bool.not_eq_true', Bool.not_eq_false', Bool.and_eq_true, Bool.or_eq_true, Bool.or_eq_false_iff, Bool.and_eq_false_iff, Cont.pts.injEq, Cont.ints.injEq, Cont.bools.injEq, Cont.ptss.injEq, Cont.intss.injEq, Cont.boolss.injEq, true_and, and_true, implies_true, eqPt_same, eqL_same, eqBB_same, bxor_self]
    refine ⟨by omega, ?_⟩
    intro k hk hk0
    have hb : ilen l ≤ 100000000 ∧ ∀ i, 0 ≤ i → i < ilen l → ilen (getl l i) ≤ 100000000 := by
      rcases hk with h | ⟨_, h1, h2, h3⟩
      · omega
      · exact ⟨by omega, fun i i0 i1 => by have := h3 i i0 i1; omega⟩
    have hkb : k ≤ 1048576 := by rcases hk with h | h <;> omega
    refine ⟨⟨hk0, hkb⟩, fun hz => ?_⟩
    have hp : ilen p ≤ 100000000 := by unfold szI at hz; split at hz <;> omega
    exact ⟨⟨hb, hp⟩, hb, hp, by simp, fun _ => ⟨hb, by simp, fun _ => ⟨hp, by simp⟩⟩⟩
  · cases h
theorem fnExactPathValid_walk (w : World) (v0 : Value) (x0 : List (List Bool)) (w0 : BoolSSArg w v0 x0) (v1 : Value) (x1 : List Pt) (w1 : CellsArg w v1 x1) : Calls Try.prog 10 #[v0, v1] w fun e w' => e = .returned (.bool true) ∧ Bel w w' :=
  walk_of F_laws_FnExactPathValid (avs := [.s (.view (.boolss x0)), .s (.view (.pts x1))]) rfl trivial ⟨boolss_reads w0, pts_reads w1.1, trivial⟩
set_option maxRecDepth 100000 in
theorem fnExactPathValid_lifted (os : Os) (started : os.Started) (H : Type) (enc : TypeId × Value → H) :
    ReturnsInHanded {} Try.checked os 10 .any (Rows.fnExactPathValidSpec.pre6 enc Try.prog Try.f10 Rows.fnExactPathValidRow.domain false) (Rows.fnExactPathValidSpec.post enc Try.prog Try.f10 false true false false) := by
  have own : ownKnob Try.prog.godebug = none := by kernel_rfl
  have laidOut : laidOutB Try.prog = true := by kernel_rfl
  refine returnsInHanded_of_change (C := Try.checked) own started (by kernel_rfl) Try.func10
    (ChangeSpec.witness6 (enc := enc) (C := Try.checked) false ⟨#[], #[.slice none 0 0, .slice none 0 0], []⟩ 8 (by kernel_rfl) (by kernel_rfl) (by kernel_rfl) (by kernel_rfl)) ?_
  intro W base args ds gs before hval0 hW hcnd _
  have hval : ∀ (j : Nat) t v, Try.f10.params[j]? = some t → args[j]? = some v → Value.okWide Try.prog W .any base t v := hval0
  have hW' := hW
  obtain ⟨p, q, hA0, hV, rfl, hfz, hnd⟩ := hW
  have hA : DataW.TrodAll enc Try.prog W 0 (fun _ => true) true Try.f10.params.toList args.toList ds p := hA0
  rw [Try.params10] at hA hval
  obtain ⟨v0, vs0, d0, ds0, p0, q0, hargs, rfl, rfl, h0, r0⟩ := trodAll_cons hA
  obtain ⟨v1, vs1, d1, ds1, p1, q1, rfl, rfl, rfl, h1, r1⟩ := trodAll_cons r0
  obtain ⟨rfl, rfl, rfl⟩ := trodAll_nil r1
  obtain rfl : args = #[v0, v1] := by cases args; simp_all
  obtain ⟨rfl, rfl⟩ := trodVars_none hV
  have k0 := h0
  have lt0 : ∀ x ∈ p0, x.block < W.heap.size := by obtain ⟨m, hm⟩ := k0; exact DataW.trod_lt m _ _ _ hm
  have k1 := h1
  have lt1 : ∀ x ∈ p1, x.block < W.heap.size := by obtain ⟨m, hm⟩ := k1; exact DataW.trod_lt m _ _ _ hm
  obtain ⟨x0, w0⟩ := opn_BoolSS (hval 0 53 v0 rfl rfl) h0
  obtain ⟨x1, w1⟩ := opn_Cells (hval 1 22 v1 rfl rfl) h1
  clear hA0 hval0
  refine (fnExactPathValid_walk W v0 x0 w0 v1 x1 w1).mono fun e W' ⟨he, bel⟩ => ?_
  subst he
  exact ⟨_, rfl, _, _, _, [], _, [], hW', trodAll_mk1 (shut_bool Try.underlying4 _), (trodAll_cons_mk (Below.trod laidOut (by kernel_rfl) (of_decide_eq_true (by kernel_rfl)) k0 bel lt0) (trodAll_cons_mk (Below.trod laidOut (by kernel_rfl) (of_decide_eq_true (by kernel_rfl)) k1 bel lt1) trodAll_mk0)), rfl, Below.frame bel _, fun h => by cases h⟩
theorem fnExactPathValid_over : Rows.fnExactPathValidRow.holds Try.pinned (OpenSpec.ofChange Rows.fnExactPathValidSpec) :=
  OpenClaim.holds_of_wide 10 Try.f10 rfl rfl rfl rfl rfl rfl rfl ⟨rfl, rfl, rfl, rfl, rfl⟩ rfl rfl rfl rfl rfl (by kernel_rfl) Try.func10 (by kernel_rfl)
    (of_decide_eq_true (by kernel_rfl)) (by unfold Func.isWrapper; first | (rw [if_pos (by decide +kernel)]; kernel_rfl) | (rw [if_neg (by decide +kernel)]; exact ⟨rfl, rfl⟩))
    (fun os started H enc _ => fnExactPathValid_lifted os started H enc)
theorem fnExactPathValid_proved : Rows.FnExactPathValidSaid := fnExactPathValid_over
#print axioms fnExactPathValid_proved
end Go.Proofs.Ytnhgojcleepdiaa

/- 'FnExactCellJoints': for all arguments the program's CellJoints returns what the reference's returns and leaves its arguments alone. Conditions: none. -/
import Derived.Test.YtdpokkegkedlfaaFrag
namespace Go.Proofs.Ytdpokkegkedlfaa
open Go.ChangeShapes Go.WideShapes Go.ChangeAt Go.RowKit
set_option maxRecDepth 100000
set_option linter.unusedSimpArgs false
set_option linter.unusedVariables false
theorem bxor_self (a : Bool) : bxor a a = false := by cases a <;> simp [bxor]
def armE (a1 a2 a3 : List Int) (k : Int) : Bool := inB (geti a1 k) 1 500 && inB (geti a2 k) (-180) 180 && inB (geti a3 k) (geti a2 k) 180
def armB (a1 a2 a3 : List Int) : Bool := inB (ilen a1) 1 4 && decide (ilen a2 = ilen a1) && decide (ilen a3 = ilen a1) && allN (ilen a1) (armE a1 a2 a3)
def crW (a1 a2 b1 b2 c1 c2 : Int) : Int := isub (imul (isub b1 a1) (isub c2 a2)) (imul (isub b2 a2) (isub c1 a1))
def cr (l : List Pt) (i j k : Int) : Int := crW (getx l i) (gety l i) (getx l j) (gety l j) (getx l k) (gety l k)
def nx (l : List Pt) (i : Int) : Int := (i + 1).tmod (ilen l)
def convE (l : List Pt) (i j : Int) : Bool := decide (j = i ∨ j = nx l i ∨ 0 < cr l i (nx l i) j)
def convB (l : List Pt) : Bool := inB (ilen l) 3 8 && allB l && allN (ilen l) fun i => allN (ilen l) fun j => convE l i j
theorem nx_in {l : List Pt} {i : Int} (h0 : 0 ≤ i) (h1 : i < ilen l) : 0 ≤ nx l i ∧ nx l i < ilen l ∧ ((i + 1 < ilen l ∧ nx l i = i + 1) ∨ (i + 1 = ilen l ∧ nx l i = 0)) := by
  have e : nx l i = (i + 1) % ilen l := Int.tmod_eq_emod_of_nonneg (by omega)
  rcases Int.lt_or_le (i + 1) (ilen l) with h | h
  · rw [e, Int.emod_eq_of_lt (by omega) h]; omega
  · have h2 : i + 1 = ilen l := by omega
    rw [e, h2, Int.emod_self]; omega
theorem allN_up {f : Int → Bool} {k : Int} (h : ∀ j, 0 ≤ j → j < k → f j = true) (hk : f k = true) : ∀ j, 0 ≤ j → j < k + 1 → f j = true := by
  intro j h0 h1
  rcases Int.lt_or_le j k with h2 | h2
  · exact h j h0 h2
  · rw [show j = k by omega]; exact hk
theorem upTo {P : Int → Prop} {k : Int} (h : ∀ j, 0 ≤ j → j < k → P j) (hk : P k) : ∀ j, 0 ≤ j → j < k + 1 → P j := by
  intro j h0 h1
  rcases Int.lt_or_le j k with h2 | h2
  · exact h j h0 h2
  · rw [show j = k by omega]; exact hk
theorem iadd_1 {k n : Int} (h0 : 0 ≤ k) (h1 : k < n) (h2 : n ≤ 9223372036854775807) : iadd k 1 = k + 1 := iadd_e (by omega) (by omega)
def gsB (a1 a2 a3 : List Int) (s : Int) : Bool := armB a1 a2 a3 && decide (ilen a1 = 2) && inB s 1 360
def gsN (a2 a3 : List Int) (s i : Int) : Int := iadd (iquo (isub (geti a3 i) (geti a2 i)) s) 1
def gsK (a1 a2 a3 : List Int) (s i : Int) : Int := if gsB a1 a2 a3 s = true ∧ gsN a2 a3 s 0 ≤ 20 ∧ gsN a2 a3 s 1 ≤ 20 then gsN a2 a3 s i else 0
theorem armB_len {a1 a2 a3 : List Int} (h : armB a1 a2 a3 = true) : ilen a2 = ilen a1 ∧ ilen a3 = ilen a1 := by
  unfold armB at h
  simp only [Bool.and_eq_true, decide_eq_true_eq] at h
  exact ⟨h.1.1.2, h.1.2⟩
theorem armB_at {a1 a2 a3 : List Int} (h : armB a1 a2 a3 = true) {i : Int} (h0 : 0 ≤ i) (h1 : i < ilen a1) : (-180 ≤ geti a2 i ∧ geti a2 i ≤ 180) ∧ geti a2 i ≤ geti a3 i ∧ geti a3 i ≤ 180 := by
  unfold armB at h
  simp only [Bool.and_eq_true] at h
  have := allN_iff.1 h.2 i h0 h1
  unfold armE at this
  simp only [Bool.and_eq_true] at this
  have b1 := inB_true this.1.2; have b2 := inB_true this.2
  omega
theorem gsB_parts {a1 a2 a3 : List Int} {s : Int} (h : gsB a1 a2 a3 s = true) : armB a1 a2 a3 = true ∧ ilen a1 = 2 ∧ 1 ≤ s ∧ s ≤ 360 := by
  unfold gsB at h
  simp only [Bool.and_eq_true, decide_eq_true_eq] at h
  have := inB_true h.2
  exact ⟨h.1.1, h.1.2, this.1, this.2⟩
theorem gsN_e {a1 a2 a3 : List Int} {s i : Int} (h : gsB a1 a2 a3 s = true) (h0 : 0 ≤ i) (h1 : i < 2) : gsN a2 a3 s i = (geti a3 i - geti a2 i) / s + 1 ∧ 0 ≤ (geti a3 i - geti a2 i) / s ∧ (geti a3 i - geti a2 i) / s ≤ 360 ∧ (geti a3 i - geti a2 i) / s * s ≤ geti a3 i - geti a2 i := by
  obtain ⟨ha, hl, s1, s2⟩ := gsB_parts h
  obtain ⟨b1, b2, b3⟩ := armB_at ha h0 (by omega)
  have e1 : isub (geti a3 i) (geti a2 i) = geti a3 i - geti a2 i := isub_e (by omega) (by omega)
  have q0 : 0 ≤ (geti a3 i - geti a2 i) / s := Int.ediv_nonneg (by omega) (by omega)
  have q1 : (geti a3 i - geti a2 i) / s ≤ 360 := by
    have := Int.ediv_le_self (a := geti a3 i - geti a2 i) s (by omega)
    omega
  unfold gsN
  rw [e1, iquo_e (by omega) (by omega) s1, Int.tdiv_eq_ediv_of_nonneg (by omega), iadd_e (by omega) (by omega)]
  exact ⟨rfl, q0, q1, Int.ediv_mul_le _ (by omega)⟩
theorem gsK_cases (a1 a2 a3 : List Int) (s : Int) : (gsK a1 a2 a3 s 0 = 0 ∧ gsK a1 a2 a3 s 1 = 0) ∨ (gsB a1 a2 a3 s = true ∧ gsN a2 a3 s 0 ≤ 20 ∧ gsN a2 a3 s 1 ≤ 20 ∧ gsK a1 a2 a3 s 0 = gsN a2 a3 s 0 ∧ gsK a1 a2 a3 s 1 = gsN a2 a3 s 1 ∧ 1 ≤ gsN a2 a3 s 0 ∧ 1 ≤ gsN a2 a3 s 1) := by
  unfold gsK
  by_cases h : gsB a1 a2 a3 s = true ∧ gsN a2 a3 s 0 ≤ 20 ∧ gsN a2 a3 s 1 ≤ 20
  · rw [if_pos h, if_pos h]
    have h0 := gsN_e h.1 (i := 0) (by omega) (by omega)
    have h1 := gsN_e h.1 (i := 1) (by omega) (by omega)
    exact .inr ⟨h.1, h.2.1, h.2.2, rfl, rfl, by omega, by omega⟩
  · rw [if_neg h, if_neg h]; exact .inl ⟨rfl, rfl⟩
theorem div_anti {d s t : Int} (hd : 0 ≤ d) (hs : 1 ≤ s) (ht : s ≤ t) : d / t ≤ d / s := by
  refine (Int.le_ediv_iff_mul_le (by omega)).2 ?_
  have h1 : d / t * t ≤ d := Int.ediv_mul_le _ (by omega)
  have h0 : 0 ≤ d / t := Int.ediv_nonneg hd (by omega)
  have := Int.mul_le_mul_of_nonneg_left ht h0
  omega
theorem gsK_less {a1 a2 a3 : List Int} {s : Int} (hs : 0 ≤ s ∧ s ≤ 361) (h : gsK a1 a2 a3 s 0 ≠ 0) :
    (1 ≤ gsK a1 a2 a3 s 0 ∧ 1 ≤ gsK a1 a2 a3 s 1) ∧ (gsK a1 a2 a3 (min 360 (s + 1)) 0 ≤ gsK a1 a2 a3 s 0 ∧ gsK a1 a2 a3 (min 360 (s + 1)) 1 ≤ gsK a1 a2 a3 s 1) ∧ 1 ≤ gsK a1 a2 a3 (min 360 (s + 1)) 0 ∧ gsK a1 a2 a3 s 0 ≤ 20 ∧ gsK a1 a2 a3 s 1 ≤ 20 := by
  rcases gsK_cases a1 a2 a3 s with ⟨h0, _⟩ | ⟨hB, g0, g1, e0, e1, m0, m1⟩
  · exact absurd h0 h
  obtain ⟨ha, hl, s1, s2⟩ := gsB_parts hB
  have hB' : gsB a1 a2 a3 (min 360 (s + 1)) = true := by
    unfold gsB
    rw [ha, hl]; unfold inB; simp; omega
  obtain ⟨b1, b2, b3⟩ := armB_at ha (i := 0) (by omega) (by omega)
  obtain ⟨c1, c2, c3⟩ := armB_at ha (i := 1) (by omega) (by omega)
  have p0 := (gsN_e hB (i := 0) (by omega) (by omega)).1
  have p1 := (gsN_e hB (i := 1) (by omega) (by omega)).1
  have q0 := gsN_e hB' (i := 0) (by omega) (by omega)
  have q1 := gsN_e hB' (i := 1) (by omega) (by omega)
  have d0 := div_anti (d := geti a3 0 - geti a2 0) (s := s) (t := min 360 (s + 1)) (by omega) s1 (by omega)
  have d1 := div_anti (d := geti a3 1 - geti a2 1) (s := s) (t := min 360 (s + 1)) (by omega) s1 (by omega)
  rcases gsK_cases a1 a2 a3 (min 360 (s + 1)) with ⟨h0, h1⟩ | ⟨_, _, _, f0, f1, _, _⟩
  · exfalso
    unfold gsK at h0
    rw [if_pos ⟨hB', by omega, by omega⟩] at h0
    omega
  · omega
def cjB (a1 a2 a3 : List Int) (s c1 c2 : Int) : Bool := inB c1 0 (isub (gsK a1 a2 a3 s 0) 1) && inB c2 0 (isub (gsK a1 a2 a3 s 1) 1)
def cjL (a1 a2 a3 : List Int) (s c1 c2 : Int) : List Int := if cjB a1 a2 a3 s c1 c2 then [iadd (geti a2 0) (imul c1 s), iadd (geti a2 1) (imul c2 s)] else []
theorem cj_parts {a1 a2 a3 : List Int} {s c1 c2 : Int} (h : cjB a1 a2 a3 s c1 c2 = true) : gsB a1 a2 a3 s = true ∧ ilen a2 = 2 ∧ ilen a3 = 2 ∧ (0 ≤ c1 ∧ c1 ≤ 19 ∧ c1 ≤ (geti a3 0 - geti a2 0) / s) ∧ (0 ≤ c2 ∧ c2 ≤ 19 ∧ c2 ≤ (geti a3 1 - geti a2 1) / s) ∧ gsK a1 a2 a3 s 0 = gsN a2 a3 s 0 ∧ gsK a1 a2 a3 s 1 = gsN a2 a3 s 1 := by
  unfold cjB at h
  simp only [Bool.and_eq_true] at h
  have b1 := inB_true h.1; have b2 := inB_true h.2
  rcases gsK_cases a1 a2 a3 s with ⟨h0, h1⟩ | ⟨hB, g0, g1, e0, e1, m0, m1⟩
  · rw [h0] at b1
    have : isub 0 1 = -1 := isub_e (by omega) (by omega)
    omega
  · obtain ⟨ha, hl, s1, s2⟩ := gsB_parts hB
    obtain ⟨l2, l3⟩ := armB_len ha
    have q0 := gsN_e hB (i := 0) (by omega) (by omega)
    have q1 := gsN_e hB (i := 1) (by omega) (by omega)
    rw [e0, isub_e (by omega) (by omega)] at b1
    rw [e1, isub_e (by omega) (by omega)] at b2
    exact ⟨hB, by omega, by omega, by omega, by omega, e0, e1⟩
theorem cj_val {a1 a2 a3 : List Int} {s c1 c2 : Int} (h : cjB a1 a2 a3 s c1 c2 = true) :
    cjL a1 a2 a3 s c1 c2 = [geti a2 0 + c1 * s, geti a2 1 + c2 * s] ∧ (iadd (geti a2 0) (imul c1 s) = geti a2 0 + c1 * s) ∧ (geti a2 0 ≤ geti a2 0 + c1 * s ∧ geti a2 0 + c1 * s ≤ geti a3 0) ∧ (geti a2 1 ≤ geti a2 1 + c2 * s ∧ geti a2 1 + c2 * s ≤ geti a3 1) := by
  obtain ⟨hB, l2, l3, p1, p2, -, -⟩ := cj_parts h
  obtain ⟨ha, hl, s1, s2⟩ := gsB_parts hB
  obtain ⟨b1, b2, b3⟩ := armB_at ha (i := 0) (by omega) (by omega)
  obtain ⟨d1, d2, d3⟩ := armB_at ha (i := 1) (by omega) (by omega)
  have q0 := gsN_e hB (i := 0) (by omega) (by omega)
  have q1 := gsN_e hB (i := 1) (by omega) (by omega)
  have m1 : 0 ≤ c1 * s := Int.mul_nonneg p1.1 (by omega)
  have m2 : 0 ≤ c2 * s := Int.mul_nonneg p2.1 (by omega)
  have n1 := Int.mul_le_mul_of_nonneg_right p1.2.2 (show 0 ≤ s by omega)
  have n2 := Int.mul_le_mul_of_nonneg_right p2.2.2 (show 0 ≤ s by omega)
  have w1 : imul c1 s = c1 * s := imul_e (by omega) (by omega)
  have w2 : imul c2 s = c2 * s := imul_e (by omega) (by omega)
  have v1 : iadd (geti a2 0) (c1 * s) = geti a2 0 + c1 * s := iadd_e (by omega) (by omega)
  have v2 : iadd (geti a2 1) (c2 * s) = geti a2 1 + c2 * s := iadd_e (by omega) (by omega)
  unfold cjL
  rw [if_pos h, w1, w2, v1, v2]
  exact ⟨rfl, rfl, by omega, by omega⟩
def jvB (a1 a2 a3 j : List Int) : Bool := armB a1 a2 a3 && decide (ilen j = ilen a1) && allN (ilen j) fun k => inB (geti j k) (geti a2 k) (geti a3 k)
def eqI (l m : List Int) : Bool := decide (ilen l = ilen m) && allN (ilen l) fun j => decide (geti l j = geti m j)
theorem eqI_same (l : List Int) : eqI l l = true := by
  unfold eqI
  rw [allN_mk fun j _ _ => by simp]
  simp
def g_laws_FnExactCellJoints : List AV → Option Sg
  | [.agg [.view (.ints a1), .view (.ints a2), .view (.ints a3)], .s (.int s), .agg [.int c1, .int c2]] => some ⟨True, [.s (.bool (true))]⟩
  | _ => none
def szI (k n : Int) : Int := if k ≤ n then n - k else -1
def g_laws_szIntS : List AV → Option Sg
  | [.s (.view (.ints l)), .s (.int n)] => some ⟨0 ≤ n ∧ n ≤ 1048576, [.s (.int (szI (ilen l) n))]⟩
  | _ => none
def sig_laws_szIntS : FuncId → List AV → Option Sg := sigL []
def xs_laws_szIntS : XS := ⟨xsigL [], ysigL []⟩
theorem sig_laws_szIntS_ok : SigOK sig_laws_szIntS := sigL_nil
theorem xs_laws_szIntS_ok : XSigOK xs_laws_szIntS := ⟨xsigL_nil, ysigL_nil⟩
theorem V_laws_szIntS (l : List Int) (n : Int) : ((true = true) ∧ ((True) ∧ True) ∧ (true = true) ∧ ((True) ∧ (True) ∧ (True) ∧ (True) ∧ (True) ∧ True) ∧ (true = true) ∧ ((True) ∧ (True) ∧ True) ∧ ((ilt (isub n (ilen l)) (0 : Int)) = true → ((true = true) ∧ ((True) ∧ True) ∧ (((-1 : Int) : Int) = (szI (ilen l) n)) ∧ True)) ∧ ((ilt (isub n (ilen l)) (0 : Int)) = false → ((true = true) ∧ ((True) ∧ (True) ∧ True) ∧ (((isub n (ilen l)) : Int) = (szI (ilen l) n)) ∧ True))) = ev sig_laws_szIntS xs_laws_szIntS Try.f74.ntmps (fun b => []) (codeOf Try.f74) 0 (initS [.s (.view (.ints l)), .s (.int n)]) (retK Try.f74.results.toList [.s (.int (szI (ilen l) n))]) := by kernel_rfl
set_option maxHeartbeats 400000 in
theorem F_laws_szIntS : FunOK 74 g_laws_szIntS := by
  refine fun_F (by kernel_rfl) Try.func74 rfl (by kernel_rfl) sig_laws_szIntS_ok xs_laws_szIntS_ok ?_
  intro avs sg h hn hl
  unfold g_laws_szIntS at h
  split at h
  · rename_i l n
    injection h with h; subst h
    refine ⟨by kernel_rfl, fun b => [], Eq.mp (V_laws_szIntS l n) ?_⟩
    simp only [true_and, and_true, implies_true, and_self, forall_const, true_implies, lenA, lenL, SV.lenOK, Cont.lenOK] at hn hl ⊢
    simp only [ilt_t, ilt_f, ile_t, ile_f, ieq_t, ieq_f, bnot_e, band_e, bite_and, bite_or, NLt_e, NLe_e, NNe_e, NIs_e, imax_e, imin_e, irem_e, Bool.not_eq_true', Bool.not_eq_false', Bool.and_eq_true, Bool.or_eq_true, Bool.or_eq_false_iff, Bool.and_eq_false_iff, Cont.pts.injEq, Cont.ints.injEq, Cont.bools.injEq, Cont.ptss.injEq, Cont.intss.injEq, Cont.boolss.injEq, true_and, and_true, implies_true]
    have := ilen_0 l
    rw [isub_e (by omega) (by omega)]
    unfold szI
    refine ⟨fun h => ?_, fun h => ?_⟩
    · rw [if_neg (by omega)]
    · rw [if_pos (by omega)]
  · cases h
def eqPt (p1 p2 q1 q2 : Int) : Bool := decide (p1 = q1) && decide (p2 = q2)
theorem eqPt_same (p q : Int) : eqPt p q p q = true := by simp [eqPt]
def eqL (l m : List Pt) : Bool := decide (ilen l = ilen m) && allN (ilen l) fun j => eqPt (getx l j) (gety l j) (getx m j) (gety m j)
theorem eqL_same (l : List Pt) : eqL l l = true := by
  unfold eqL
  rw [allN_mk fun j _ _ => eqPt_same _ _]
  simp
def eqLL (l m : List (List Pt)) : Bool := decide (ilen l = ilen m) && allN (ilen l) fun j => eqL (getl l j) (getl m j)
theorem eqLL_same (l : List (List Pt)) : eqLL l l = true := by
  unfold eqLL
  rw [allN_mk fun j _ _ => eqL_same _]
  simp
theorem szI_e {k n : Int} (h : 0 ≤ szI k n) : k ≤ n ∧ szI k n = n - k := by
  unfold szI at h ⊢
  split at h
  · rename_i h1; rw [if_pos h1]; exact ⟨h1, rfl⟩
  · omega
def s_laws_szArm (a1 : List Int) (a2 : List Int) (a3 : List Int) (n : Int) : SgY := ⟨0 ≤ n ∧ n ≤ 1048576, [.int], (fun | [.int k] => k < 0 ∨ (0 ≤ k ∧ k ≤ n ∧ ilen a1 ≤ n ∧ ilen a2 ≤ n ∧ ilen a3 ≤ n) | _ => False), (fun | [.int k] => [.s (.int (k))] | _ => [])⟩
def g_laws_szArm : List AV → Option SgY
  | [.agg [.view (.ints a1), .view (.ints a2), .view (.ints a3)], .s (.int n)] => some (s_laws_szArm a1 a2 a3 n)
  | _ => none
def sig_laws_szArm : FuncId → List AV → Option Sg := sigL [(74, g_laws_szIntS)]
def xs_laws_szArm : XS := ⟨xsigL [], ysigL []⟩
theorem sig_laws_szArm_ok : SigOK sig_laws_szArm := sigL_cons F_laws_szIntS sigL_nil
theorem xs_laws_szArm_ok : XSigOK xs_laws_szArm := ⟨xsigL_nil, ysigL_nil⟩
theorem V_laws_szArm (a1 : List Int) (a2 : List Int) (a3 : List Int) (n : Int) : ((true = true) ∧ ((True) ∧ (True) ∧ True) ∧ (true = true) ∧ ((True) ∧ (True) ∧ (True) ∧ ((0 ≤ n ∧ n ≤ 1048576)) ∧ (True) ∧ True) ∧ (true = true) ∧ ((True) ∧ (True) ∧ True) ∧ ((ilt (szI (ilen a1) n) (0 : Int)) = true → ((true = true) ∧ ((True) ∧ True) ∧ ∃ k : Int, ((k < 0 ∨ (0 ≤ k ∧ k ≤ n ∧ ilen a1 ≤ n ∧ ilen a2 ≤ n ∧ ilen a3 ≤ n)) ∧ ((((-1 : Int) : Int) = (k)) ∧ True)))) ∧ ((ilt (szI (ilen a1) n) (0 : Int)) = false → ((true = true) ∧ ((True) ∧ (True) ∧ (True) ∧ ((0 ≤ (szI (ilen a1) n) ∧ (szI (ilen a1) n) ≤ 1048576)) ∧ (True) ∧ True) ∧ (true = true) ∧ ((True) ∧ (True) ∧ True) ∧ ((ilt (szI (ilen a2) (szI (ilen a1) n)) (0 : Int)) = true → ((true = true) ∧ ((True) ∧ True) ∧ ∃ k : Int, ((k < 0 ∨ (0 ≤ k ∧ k ≤ n ∧ ilen a1 ≤ n ∧ ilen a2 ≤ n ∧ ilen a3 ≤ n)) ∧ ((((-1 : Int) : Int) = (k)) ∧ True)))) ∧ ((ilt (szI (ilen a2) (szI (ilen a1) n)) (0 : Int)) = false → ((true = true) ∧ ((True) ∧ (True) ∧ (True) ∧ ((0 ≤ (szI (ilen a2) (szI (ilen a1) n)) ∧ (szI (ilen a2) (szI (ilen a1) n)) ≤ 1048576)) ∧ (True) ∧ True) ∧ (true = true) ∧ ((True) ∧ (True) ∧ True) ∧ ((ilt (szI (ilen a3) (szI (ilen a2) (szI (ilen a1) n))) (0 : Int)) = true → ((true = true) ∧ ((True) ∧ True) ∧ ∃ k : Int, ((k < 0 ∨ (0 ≤ k ∧ k ≤ n ∧ ilen a1 ≤ n ∧ ilen a2 ≤ n ∧ ilen a3 ≤ n)) ∧ ((((-1 : Int) : Int) = (k)) ∧ True)))) ∧ ((ilt (szI (ilen a3) (szI (ilen a2) (szI (ilen a1) n))) (0 : Int)) = false → ((true = true) ∧ ((True) ∧ (True) ∧ True) ∧ ∃ k : Int, ((k < 0 ∨ (0 ≤ k ∧ k ≤ n ∧ ilen a1 ≤ n ∧ ilen a2 ≤ n ∧ ilen a3 ≤ n)) ∧ ((((szI (ilen a3) (szI (ilen a2) (szI (ilen a1) n))) : Int) = (k)) ∧ True))))))))) = (fun sg => ev sig_laws_szArm xs_laws_szArm Try.f28.ntmps (fun b => []) (codeOf Try.f28) 0 (initS [.agg [.view (.ints a1), .view (.ints a2), .view (.ints a3)], .s (.int n)]) (retY Try.f28.results.toList sg.kinds sg.post sg.ret)) (s_laws_szArm a1 a2 a3 n) := by kernel_rfl
set_option maxHeartbeats 400000 in
theorem F_laws_szArm : FunY 28 g_laws_szArm := by
  refine fun_Y (by kernel_rfl) Try.func28 rfl (by kernel_rfl) sig_laws_szArm_ok xs_laws_szArm_ok ?_
  intro avs sg h hn hl
  unfold g_laws_szArm at h
  split at h
  · rename_i a1 a2 a3 n
    injection h with h; subst h
    refine ⟨by kernel_rfl, fun b => [], Eq.mp (V_laws_szArm a1 a2 a3 n) ?_⟩
    simp only [true_and, and_true, implies_true, and_self, forall_const, true_implies, lenA, lenL, SV.lenOK, Cont.lenOK, s_laws_szArm] at hn hl ⊢
    have q1 := ilen_0 a1; have q2 := ilen_0 a2; have q3 := ilen_0 a3
    simp only [ilt_t, ilt_f, ile_t, ile_f, ieq_t, ieq_f, bnot_e, band_e, bite_and, bite_or, NLt_e, NLe_e, NNe_e, NIs_e, imax_e, imin_e, irem_e, Bool.not_eq_true', Bool.not_eq_false', Bool.and_eq_true, Bool.or_eq_true, Bool.or_eq_false_iff, Bool.and_eq_false_iff, Cont.pts.injEq, Cont.ints.injEq, Cont.bools.injEq, Cont.ptss.injEq, Cont.intss.injEq, Cont.boolss.injEq, true_and, and_true, implies_true]
    refine ⟨hn, fun h => ⟨-1, .inl (by omega), rfl⟩, fun h1 => ?_⟩
    obtain ⟨e1, e2⟩ := szI_e h1
    rw [e2] at h1 ⊢
    refine ⟨by omega, fun h => ⟨-1, .inl (by omega), rfl⟩, fun h2 => ?_⟩
    obtain ⟨f1, f2⟩ := szI_e h2
    rw [f2] at h2 ⊢
    refine ⟨by omega, fun h => ⟨-1, .inl (by omega), rfl⟩, fun h3 => ?_⟩
    obtain ⟨g1, g2⟩ := szI_e h3
    exact ⟨_, .inr ⟨h3, by omega, by omega, by omega, by omega⟩, rfl⟩
  · cases h
def g_laws_toIntS : List AV → Option Sg
  | [.s (.view (.ints l))] => some ⟨ilen l ≤ 100000000, [.nrow 3 (.ints (l))]⟩
  | _ => none
def sig_laws_toIntS : FuncId → List AV → Option Sg := sigL []
def xs_laws_toIntS : XS := ⟨xsigL [], ysigL []⟩
theorem sig_laws_toIntS_ok : SigOK sig_laws_toIntS := sigL_nil
theorem xs_laws_toIntS_ok : XSigOK xs_laws_toIntS := ⟨xsigL_nil, ysigL_nil⟩
theorem V_laws_toIntS (l : List Int) : ((true = true) ∧ ((True) ∧ True) ∧ (true = true) ∧ ((True) ∧ (True) ∧ (NLe 0 (ilen l) ∧ NLe (ilen l) 100000000 ∧ NIs (ieq (ilen l) (ilen l)) true) ∧ (True) ∧ True) ∧ (true = true) ∧ ((True) ∧ True) ∧ ∃ (I1 : List GV → Prop) (μ1 : List GV → Nat), (((true = true) ∧ ((((0 : Int) : Int) = (0 : Int)) ∧ ((Cont.ints l) = (Cont.ints l)) ∧ (((ilen l) : Int) = (ilen l)) ∧ (true = true) ∧ (true = true) ∧ ((Cont.ints l) = (Cont.ints l)) ∧ True) ∧ (((true = true) ∧ ((Cont.ints (irep (ilen l) 0)) = (Cont.ints (irep (ilen l) 0)))) ∧ ((true = true) ∧ ((Cont.ints []) = (Cont.ints []))) ∧ True)) ∧ (([GK.int, GK.ints] : List GK) = ([GK.int, GK.ints] : List GK)) ∧ I1 [GV.int (0 : Int), GV.ints (irep (ilen l) 0)]) ∧ (∀ i1_0 : Int, ∀ l1_1 : List Int, I1 [GV.int i1_0, GV.ints l1_1] → ((true = true) ∧ ((True) ∧ (True) ∧ (True) ∧ (True) ∧ True) ∧ ((ilt i1_0 (ilen l)) = true → ((true = true) ∧ ((True) ∧ (True) ∧ (True) ∧ (True) ∧ (NLe 0 i1_0 ∧ NLt i1_0 (ilen l)) ∧ (True) ∧ (NLe 0 i1_0 ∧ NLt i1_0 (ilen l1_1)) ∧ True) ∧ (NLt i1_0 (ilen l1_1)) ∧ (true = true) ∧ ((True) ∧ (True) ∧ (True) ∧ True) ∧ ((true = true) ∧ ((((iadd i1_0 (1 : Int)) : Int) = (iadd i1_0 (1 : Int))) ∧ ((Cont.ints l) = (Cont.ints l)) ∧ (((ilen l) : Int) = (ilen l)) ∧ (true = true) ∧ (true = true) ∧ ((Cont.ints l) = (Cont.ints l)) ∧ True) ∧ (((true = true) ∧ ((Cont.ints (seti l1_1 i1_0 (geti l i1_0))) = (Cont.ints (seti l1_1 i1_0 (geti l i1_0))))) ∧ ((true = true) ∧ ((Cont.ints []) = (Cont.ints []))) ∧ True)) ∧ ((([GK.int, GK.ints] : List GK) = ([GK.int, GK.ints] : List GK)) ∧ I1 [GV.int (iadd i1_0 (1 : Int)), GV.ints (seti l1_1 i1_0 (geti l i1_0))] ∧ μ1 [GV.int (iadd i1_0 (1 : Int)), GV.ints (seti l1_1 i1_0 (geti l i1_0))] < μ1 [GV.int i1_0, GV.ints l1_1]))) ∧ ((ilt i1_0 (ilen l)) = false → ((true = true) ∧ ((True) ∧ (True) ∧ True) ∧ ((true = true) ∧ ((Cont.ints l1_1) = (Cont.ints (l)))) ∧ True))))) = ev sig_laws_toIntS xs_laws_toIntS Try.f38.ntmps (fun b => if b == 0 then [.v 4, .b 3] else []) (codeOf Try.f38) 0 (initS [.s (.view (.ints l))]) (retK Try.f38.results.toList [.nrow 3 (.ints (l))]) := by kernel_rfl
set_option maxHeartbeats 400000 in
theorem F_laws_toIntS : FunOK 38 g_laws_toIntS := by
  refine fun_F (by kernel_rfl) Try.func38 rfl (by kernel_rfl) sig_laws_toIntS_ok xs_laws_toIntS_ok ?_
  intro avs sg h hn hl
  unfold g_laws_toIntS at h
  split at h
  · rename_i l
    injection h with h; subst h
    refine ⟨by kernel_rfl, fun b => if b == 0 then [.v 4, .b 3] else [], Eq.mp (V_laws_toIntS l) ?_⟩
    simp only [true_and, and_true, implies_true, and_self, forall_const, true_implies, lenA, lenL, SV.lenOK, Cont.lenOK] at hn hl ⊢
    simp only [ilt_t, ilt_f, ile_t, ile_f, ieq_t, ieq_f, bnot_e, band_e, bite_and, bite_or, NLt_e, NLe_e, NNe_e, NIs_e, imax_e, imin_e, irem_e, Bool.not_eq_true', Bool.not_eq_false', Bool.and_eq_true, Bool.or_eq_true, Bool.or_eq_false_iff, Bool.and_eq_false_iff, Cont.pts.injEq, Cont.ints.injEq, Cont.bools.injEq, Cont.ptss.injEq, Cont.intss.injEq, Cont.boolss.injEq, true_and, and_true, implies_true]
    have h0 := ilen_0 l
    refine ⟨⟨h0, hn⟩, ?_⟩
    refine ⟨fun | [.int k, .ints m] => 0 ≤ k ∧ k ≤ ilen l ∧ ilen m = ilen l ∧ ∀ j, 0 ≤ j → j < k → geti m j = geti l j | _ => False, fun | [.int k, .ints m] => (ilen l - k).toNat | _ => 0, ?_, ?_⟩
    · exact ⟨Int.le_refl 0, h0, ilen_rep _ h0, fun j h0 h1 => absurd h1 (by omega)⟩
    · rintro k m ⟨hk0, hk1, hm, hk⟩
      refine ⟨fun hc => ?_, fun hc => ?_⟩
      · rw [iadd_e (by omega) (by omega)]
        refine ⟨⟨⟨hk0, hc⟩, hk0, by omega⟩, by omega, ⟨by omega, by omega, by rw [ilen_seti]; exact hm, fun j j0 j1 => ?_⟩, by dsimp only; omega⟩
        rw [geti_seti hk0 (by omega) j0]
        by_cases hj : j = k
        · simp only [hj, if_pos, and_self]
        · simp only [if_neg hj]; exact hk j j0 (by omega)
      · rw [ints_ext (l := m) (m := l) hm fun j j0 j1 => hk j j0 (by omega)]
  · cases h
def g_laws_toArm : List AV → Option Sg
  | [.agg [.view (.ints a1), .view (.ints a2), .view (.ints a3)]] => some ⟨ilen a1 ≤ 100000000 ∧ ilen a2 ≤ 100000000 ∧ ilen a3 ≤ 100000000, [.agg [.view (.ints (a1)), .view (.ints (a2)), .view (.ints (a3))]]⟩
  | _ => none
def sig_laws_toArm : FuncId → List AV → Option Sg := sigL [(38, g_laws_toIntS)]
def xs_laws_toArm : XS := ⟨xsigL [], ysigL []⟩
theorem sig_laws_toArm_ok : SigOK sig_laws_toArm := sigL_cons F_laws_toIntS sigL_nil
theorem xs_laws_toArm_ok : XSigOK xs_laws_toArm := ⟨xsigL_nil, ysigL_nil⟩
theorem V_laws_toArm (a1 : List Int) (a2 : List Int) (a3 : List Int) : ((true = true) ∧ ((True) ∧ (True) ∧ True) ∧ (true = true) ∧ ((True) ∧ True) ∧ (true = true) ∧ ((True) ∧ (True) ∧ ((ilen a1 ≤ 100000000)) ∧ (True) ∧ True) ∧ (True) ∧ (true = true) ∧ ((True) ∧ (True) ∧ ((ilen a2 ≤ 100000000)) ∧ (True) ∧ True) ∧ (True) ∧ (true = true) ∧ ((True) ∧ (True) ∧ ((ilen a3 ≤ 100000000)) ∧ (True) ∧ True) ∧ (True) ∧ (true = true) ∧ ((True) ∧ True) ∧ (True) ∧ (((true = true) ∧ ((Cont.ints (a1)) = (Cont.ints (a1)))) ∧ ((true = true) ∧ ((Cont.ints (a2)) = (Cont.ints (a2)))) ∧ ((true = true) ∧ ((Cont.ints (a3)) = (Cont.ints (a3)))) ∧ True) ∧ True) = ev sig_laws_toArm xs_laws_toArm Try.f30.ntmps (fun b => []) (codeOf Try.f30) 0 (initS [.agg [.view (.ints a1), .view (.ints a2), .view (.ints a3)]]) (retK Try.f30.results.toList [.agg [.view (.ints (a1)), .view (.ints (a2)), .view (.ints (a3))]]) := by kernel_rfl
set_option maxHeartbeats 400000 in
theorem F_laws_toArm : FunOK 30 g_laws_toArm := by
  refine fun_F (by kernel_rfl) Try.func30 rfl (by kernel_rfl) sig_laws_toArm_ok xs_laws_toArm_ok ?_
  intro avs sg h hn hl
  unfold g_laws_toArm at h
  split at h
  · rename_i a1 a2 a3
    injection h with h; subst h
    refine ⟨by kernel_rfl, fun b => [], Eq.mp (V_laws_toArm a1 a2 a3) ?_⟩
    simp only [true_and, and_true, implies_true, and_self, forall_const, true_implies, lenA, lenL, SV.lenOK, Cont.lenOK] at hn hl ⊢
    exact ⟨hn.1, hn.2.1, hn.2.2⟩
  · cases h
def g_laws_toCell : List AV → Option Sg
  | [.agg [.int p1, .int p2]] => some ⟨True, [.agg [.int (p1), .int (p2)]]⟩
  | _ => none
def sig_laws_toCell : FuncId → List AV → Option Sg := sigL []
def xs_laws_toCell : XS := ⟨xsigL [], ysigL []⟩
theorem sig_laws_toCell_ok : SigOK sig_laws_toCell := sigL_nil
theorem xs_laws_toCell_ok : XSigOK xs_laws_toCell := ⟨xsigL_nil, ysigL_nil⟩
theorem V_laws_toCell (p1 : Int) (p2 : Int) : ((true = true) ∧ ((True) ∧ (True) ∧ True) ∧ (true = true) ∧ ((True) ∧ True) ∧ (true = true) ∧ ((True) ∧ (True) ∧ (True) ∧ True) ∧ (True) ∧ (true = true) ∧ ((True) ∧ (True) ∧ (True) ∧ True) ∧ (True) ∧ (true = true) ∧ ((True) ∧ True) ∧ (True) ∧ (((p1 : Int) = (p1)) ∧ ((p2 : Int) = (p2)) ∧ True) ∧ True) = ev sig_laws_toCell xs_laws_toCell Try.f15.ntmps (fun b => []) (codeOf Try.f15) 0 (initS [.agg [.int p1, .int p2]]) (retK Try.f15.results.toList [.agg [.int (p1), .int (p2)]]) := by kernel_rfl
set_option maxHeartbeats 400000 in
theorem F_laws_toCell : FunOK 15 g_laws_toCell := by
  refine fun_F (by kernel_rfl) Try.func15 rfl (by kernel_rfl) sig_laws_toCell_ok xs_laws_toCell_ok ?_
  intro avs sg h hn hl
  unfold g_laws_toCell at h
  split at h
  · rename_i p1 p2
    injection h with h; subst h
    refine ⟨by kernel_rfl, fun b => [], Eq.mp (V_laws_toCell p1 p2) ?_⟩
    simp only [true_and, and_true, implies_true, and_self, forall_const, true_implies, lenA, lenL, SV.lenOK, Cont.lenOK] at hn hl ⊢
  · cases h
theorem inB_eq (n lo hi : Int) : inB n lo hi = (ile lo n && ile n hi) := by
  unfold inB ile
  by_cases h1 : lo ≤ n <;> by_cases h2 : n ≤ hi <;> simp [h1, h2]
def g_spec_l1In : List AV → Option Sg
  | [.s (.int n), .s (.int lo), .s (.int hi)] => some ⟨True, [.s (.bool (inB n lo hi))]⟩
  | _ => none
def sig_spec_l1In : FuncId → List AV → Option Sg := sigL []
def xs_spec_l1In : XS := ⟨xsigL [], ysigL []⟩
theorem sig_spec_l1In_ok : SigOK sig_spec_l1In := sigL_nil
theorem xs_spec_l1In_ok : XSigOK xs_spec_l1In := ⟨xsigL_nil, ysigL_nil⟩
theorem V_spec_l1In (n : Int) (lo : Int) (hi : Int) : ((true = true) ∧ ((True) ∧ True) ∧ (true = true) ∧ ((True) ∧ (True) ∧ (True) ∧ (True) ∧ (NIs (ile lo n) true → True) ∧ (NIs (ile lo n) true → True) ∧ (NIs (ile lo n) true → True) ∧ (True) ∧ (True) ∧ True) ∧ (((bite (ile lo n) (ile n hi) false) : Bool) = (inB n lo hi)) ∧ True) = ev sig_spec_l1In xs_spec_l1In Try.f73.ntmps (fun b => []) (codeOf Try.f73) 0 (initS [.s (.int n), .s (.int lo), .s (.int hi)]) (retK Try.f73.results.toList [.s (.bool (inB n lo hi))]) := by kernel_rfl
set_option maxHeartbeats 400000 in
theorem F_spec_l1In : FunOK 73 g_spec_l1In := by
  refine fun_F (by kernel_rfl) Try.func73 rfl (by kernel_rfl) sig_spec_l1In_ok xs_spec_l1In_ok ?_
  intro avs sg h hn hl
  unfold g_spec_l1In at h
  split at h
  · rename_i n lo hi
    injection h with h; subst h
    refine ⟨by kernel_rfl, fun b => [], Eq.mp (V_spec_l1In n lo hi) ?_⟩
    simp only [true_and, and_true, implies_true, and_self, forall_const, true_implies, lenA, lenL, SV.lenOK, Cont.lenOK] at hn hl ⊢
    simp only [bite_and, inB_eq]
  · cases h
def g_spec_ArmValid : List AV → Option Sg
  | [.agg [.view (.ints a1), .view (.ints a2), .view (.ints a3)]] => some ⟨True, [.s (.bool (armB a1 a2 a3))]⟩
  | _ => none
def sig_spec_ArmValid : FuncId → List AV → Option Sg := sigL [(73, g_spec_l1In)]
def xs_spec_ArmValid : XS := ⟨xsigL [], ysigL []⟩
theorem sig_spec_ArmValid_ok : SigOK sig_spec_ArmValid := sigL_cons F_spec_l1In sigL_nil
theorem xs_spec_ArmValid_ok : XSigOK xs_spec_ArmValid := ⟨xsigL_nil, ysigL_nil⟩
theorem V_spec_ArmValid (a1 : List Int) (a2 : List Int) (a3 : List Int) : ((true = true) ∧ ((True) ∧ (True) ∧ True) ∧ (true = true) ∧ ((True) ∧ (True) ∧ (True) ∧ (True) ∧ True) ∧ (true = true) ∧ ((True) ∧ ((True)) ∧ (True) ∧ (True) ∧ (NIs (bnot (inB (ilen a1) (1 : Int) (4 : Int))) false → True) ∧ (NIs (bnot (inB (ilen a1) (1 : Int) (4 : Int))) false → True) ∧ (NIs (bnot (inB (ilen a1) (1 : Int) (4 : Int))) false → True) ∧ (NIs (bnot (inB (ilen a1) (1 : Int) (4 : Int))) false → True) ∧ (NIs (bnot (inB (ilen a1) (1 : Int) (4 : Int))) false → True) ∧ (True) ∧ (True) ∧ (NIs (bite (bnot (inB (ilen a1) (1 : Int) (4 : Int))) true (bnot (ieq (ilen a2) (ilen a1)))) false → True) ∧ (NIs (bite (bnot (inB (ilen a1) (1 : Int) (4 : Int))) true (bnot (ieq (ilen a2) (ilen a1)))) false → True) ∧ (NIs (bite (bnot (inB (ilen a1) (1 : Int) (4 : Int))) true (bnot (ieq (ilen a2) (ilen a1)))) false → True) ∧ (NIs (bite (bnot (inB (ilen a1) (1 : Int) (4 : Int))) true (bnot (ieq (ilen a2) (ilen a1)))) false → True) ∧ (NIs (bite (bnot (inB (ilen a1) (1 : Int) (4 : Int))) true (bnot (ieq (ilen a2) (ilen a1)))) false → True) ∧ (True) ∧ True) ∧ ((bite (bite (bnot (inB (ilen a1) (1 : Int) (4 : Int))) true (bnot (ieq (ilen a2) (ilen a1)))) true (bnot (ieq (ilen a3) (ilen a1)))) = true → ((true = true) ∧ ((True) ∧ True) ∧ ((false : Bool) = (armB a1 a2 a3)) ∧ True)) ∧ ((bite (bite (bnot (inB (ilen a1) (1 : Int) (4 : Int))) true (bnot (ieq (ilen a2) (ilen a1)))) true (bnot (ieq (ilen a3) (ilen a1)))) = false → ((true = true) ∧ ((True) ∧ True) ∧ ∃ (I1 : List GV → Prop) (μ1 : List GV → Nat), (((true = true) ∧ (((false : Bool) = false) ∧ (((0 : Int) : Int) = (0 : Int)) ∧ (((ilen a1) : Int) = (ilen a1)) ∧ (((inB (ilen a1) (1 : Int) (4 : Int)) : Bool) = (inB (ilen a1) (1 : Int) (4 : Int))) ∧ (((bnot (inB (ilen a1) (1 : Int) (4 : Int))) : Bool) = (bnot (inB (ilen a1) (1 : Int) (4 : Int)))) ∧ (((bnot (inB (ilen a1) (1 : Int) (4 : Int))) : Bool) = (bnot (inB (ilen a1) (1 : Int) (4 : Int)))) ∧ (((bite (bnot (inB (ilen a1) (1 : Int) (4 : Int))) true (bnot (ieq (ilen a2) (ilen a1)))) : Bool) = (bite (bnot (inB (ilen a1) (1 : Int) (4 : Int))) true (bnot (ieq (ilen a2) (ilen a1))))) ∧ (((bite (bnot (inB (ilen a1) (1 : Int) (4 : Int))) true (bnot (ieq (ilen a2) (ilen a1)))) : Bool) = (bite (bnot (inB (ilen a1) (1 : Int) (4 : Int))) true (bnot (ieq (ilen a2) (ilen a1))))) ∧ (((bite (bite (bnot (inB (ilen a1) (1 : Int) (4 : Int))) true (bnot (ieq (ilen a2) (ilen a1)))) true (bnot (ieq (ilen a3) (ilen a1)))) : Bool) = (bite (bite (bnot (inB (ilen a1) (1 : Int) (4 : Int))) true (bnot (ieq (ilen a2) (ilen a1)))) true (bnot (ieq (ilen a3) (ilen a1))))) ∧ (true = true) ∧ ((Cont.ints a1) = (Cont.ints a1)) ∧ (((ilen a1) : Int) = (ilen a1)) ∧ (((ilen a1) : Int) = (ilen a1)) ∧ (true = true) ∧ (((Cont.ints a1) = (Cont.ints a1)) ∧ ((Cont.ints a2) = (Cont.ints a2)) ∧ ((Cont.ints a3) = (Cont.ints a3)) ∧ True) ∧ True) ∧ ((((Cont.ints a1) = (Cont.ints a1)) ∧ ((Cont.ints a2) = (Cont.ints a2)) ∧ ((Cont.ints a3) = (Cont.ints a3)) ∧ True) ∧ True)) ∧ (([GK.int, GK.bool] : List GK) = ([GK.int, GK.bool] : List GK)) ∧ I1 [GV.int (0 : Int), GV.bool false]) ∧ (∀ i1_0 : Int, ∀ b1_1 : Bool, I1 [GV.int i1_0, GV.bool b1_1] → ((true = true) ∧ ((True) ∧ (True) ∧ (True) ∧ True) ∧ ((ilt i1_0 (ilen a1)) = true → ((true = true) ∧ ((True) ∧ (True) ∧ (True) ∧ (NLe 0 i1_0 ∧ NLt i1_0 (ilen a1)) ∧ (True) ∧ ((True)) ∧ (True) ∧ (True) ∧ (NIs (bnot (inB (geti a1 i1_0) (1 : Int) (500 : Int))) false → True) ∧ (NIs (bnot (inB (geti a1 i1_0) (1 : Int) (500 : Int))) false → True) ∧ (NIs (bnot (inB (geti a1 i1_0) (1 : Int) (500 : Int))) false → True) ∧ (NIs (bnot (inB (geti a1 i1_0) (1 : Int) (500 : Int))) false → (NLe 0 i1_0 ∧ NLt i1_0 (ilen a2))) ∧ (NIs (bnot (inB (geti a1 i1_0) (1 : Int) (500 : Int))) false → True) ∧ (NIs (bnot (inB (geti a1 i1_0) (1 : Int) (500 : Int))) false → (True)) ∧ (NIs (bnot (inB (geti a1 i1_0) (1 : Int) (500 : Int))) false → True) ∧ (True) ∧ (True) ∧ (NIs (bite (bnot (inB (geti a1 i1_0) (1 : Int) (500 : Int))) true (bnot (inB (geti a2 i1_0) (-180 : Int) (180 : Int)))) false → True) ∧ (NIs (bite (bnot (inB (geti a1 i1_0) (1 : Int) (500 : Int))) true (bnot (inB (geti a2 i1_0) (-180 : Int) (180 : Int)))) false → True) ∧ (NIs (bite (bnot (inB (geti a1 i1_0) (1 : Int) (500 : Int))) true (bnot (inB (geti a2 i1_0) (-180 : Int) (180 : Int)))) false → True) ∧ (NIs (bite (bnot (inB (geti a1 i1_0) (1 : Int) (500 : Int))) true (bnot (inB (geti a2 i1_0) (-180 : Int) (180 : Int)))) false → (NLe 0 i1_0 ∧ NLt i1_0 (ilen a3))) ∧ (NIs (bite (bnot (inB (geti a1 i1_0) (1 : Int) (500 : Int))) true (bnot (inB (geti a2 i1_0) (-180 : Int) (180 : Int)))) false → True) ∧ (NIs (bite (bnot (inB (geti a1 i1_0) (1 : Int) (500 : Int))) true (bnot (inB (geti a2 i1_0) (-180 : Int) (180 : Int)))) false → True) ∧ (NIs (bite (bnot (inB (geti a1 i1_0) (1 : Int) (500 : Int))) true (bnot (inB (geti a2 i1_0) (-180 : Int) (180 : Int)))) false → True) ∧ (NIs (bite (bnot (inB (geti a1 i1_0) (1 : Int) (500 : Int))) true (bnot (inB (geti a2 i1_0) (-180 : Int) (180 : Int)))) false → True) ∧ (NIs (bite (bnot (inB (geti a1 i1_0) (1 : Int) (500 : Int))) true (bnot (inB (geti a2 i1_0) (-180 : Int) (180 : Int)))) false → (NLe 0 i1_0 ∧ NLt i1_0 (ilen a2))) ∧ (NIs (bite (bnot (inB (geti a1 i1_0) (1 : Int) (500 : Int))) true (bnot (inB (geti a2 i1_0) (-180 : Int) (180 : Int)))) false → True) ∧ (NIs (bite (bnot (inB (geti a1 i1_0) (1 : Int) (500 : Int))) true (bnot (inB (geti a2 i1_0) (-180 : Int) (180 : Int)))) false → (True)) ∧ (NIs (bite (bnot (inB (geti a1 i1_0) (1 : Int) (500 : Int))) true (bnot (inB (geti a2 i1_0) (-180 : Int) (180 : Int)))) false → True) ∧ (True) ∧ True) ∧ ((bite (bite (bnot (inB (geti a1 i1_0) (1 : Int) (500 : Int))) true (bnot (inB (geti a2 i1_0) (-180 : Int) (180 : Int)))) true (bnot (inB (geti a3 i1_0) (geti a2 i1_0) (180 : Int)))) = true → ((true = true) ∧ ((True) ∧ True) ∧ ((false : Bool) = (armB a1 a2 a3)) ∧ True)) ∧ ((bite (bite (bnot (inB (geti a1 i1_0) (1 : Int) (500 : Int))) true (bnot (inB (geti a2 i1_0) (-180 : Int) (180 : Int)))) true (bnot (inB (geti a3 i1_0) (geti a2 i1_0) (180 : Int)))) = false → ((true = true) ∧ ((True) ∧ (True) ∧ (True) ∧ True) ∧ ((true = true) ∧ (((b1_1 : Bool) = b1_1) ∧ (((iadd i1_0 (1 : Int)) : Int) = (iadd i1_0 (1 : Int))) ∧ (((ilen a1) : Int) = (ilen a1)) ∧ (((inB (ilen a1) (1 : Int) (4 : Int)) : Bool) = (inB (ilen a1) (1 : Int) (4 : Int))) ∧ (((bnot (inB (ilen a1) (1 : Int) (4 : Int))) : Bool) = (bnot (inB (ilen a1) (1 : Int) (4 : Int)))) ∧ (((bnot (inB (ilen a1) (1 : Int) (4 : Int))) : Bool) = (bnot (inB (ilen a1) (1 : Int) (4 : Int)))) ∧ (((bite (bnot (inB (ilen a1) (1 : Int) (4 : Int))) true (bnot (ieq (ilen a2) (ilen a1)))) : Bool) = (bite (bnot (inB (ilen a1) (1 : Int) (4 : Int))) true (bnot (ieq (ilen a2) (ilen a1))))) ∧ (((bite (bnot (inB (ilen a1) (1 : Int) (4 : Int))) true (bnot (ieq (ilen a2) (ilen a1)))) : Bool) = (bite (bnot (inB (ilen a1) (1 : Int) (4 : Int))) true (bnot (ieq (ilen a2) (ilen a1))))) ∧ (((bite (bite (bnot (inB (ilen a1) (1 : Int) (4 : Int))) true (bnot (ieq (ilen a2) (ilen a1)))) true (bnot (ieq (ilen a3) (ilen a1)))) : Bool) = (bite (bite (bnot (inB (ilen a1) (1 : Int) (4 : Int))) true (bnot (ieq (ilen a2) (ilen a1)))) true (bnot (ieq (ilen a3) (ilen a1))))) ∧ (true = true) ∧ ((Cont.ints a1) = (Cont.ints a1)) ∧ (((ilen a1) : Int) = (ilen a1)) ∧ (((ilen a1) : Int) = (ilen a1)) ∧ (true = true) ∧ (((Cont.ints a1) = (Cont.ints a1)) ∧ ((Cont.ints a2) = (Cont.ints a2)) ∧ ((Cont.ints a3) = (Cont.ints a3)) ∧ True) ∧ True) ∧ ((((Cont.ints a1) = (Cont.ints a1)) ∧ ((Cont.ints a2) = (Cont.ints a2)) ∧ ((Cont.ints a3) = (Cont.ints a3)) ∧ True) ∧ True)) ∧ ((([GK.int, GK.bool] : List GK) = ([GK.int, GK.bool] : List GK)) ∧ I1 [GV.int (iadd i1_0 (1 : Int)), GV.bool b1_1] ∧ μ1 [GV.int (iadd i1_0 (1 : Int)), GV.bool b1_1] < μ1 [GV.int i1_0, GV.bool b1_1]))))) ∧ ((ilt i1_0 (ilen a1)) = false → ((true = true) ∧ ((True) ∧ True) ∧ ((true : Bool) = (armB a1 a2 a3)) ∧ True))))))) = ev sig_spec_ArmValid xs_spec_ArmValid Try.f105.ntmps (fun b => if b == 0 then [.v 4, .v 2] else []) (codeOf Try.f105) 0 (initS [.agg [.view (.ints a1), .view (.ints a2), .view (.ints a3)]]) (retK Try.f105.results.toList [.s (.bool (armB a1 a2 a3))]) := by kernel_rfl
set_option maxHeartbeats 400000 in
theorem F_spec_ArmValid : FunOK 105 g_spec_ArmValid := by
  refine fun_F (by kernel_rfl) Try.func105 rfl (by kernel_rfl) sig_spec_ArmValid_ok xs_spec_ArmValid_ok ?_
  intro avs sg h hn hl
  unfold g_spec_ArmValid at h
  split at h
  · rename_i a1 a2 a3
    injection h with h; subst h
    refine ⟨by kernel_rfl, fun b => if b == 0 then [.v 4, .v 2] else [], Eq.mp (V_spec_ArmValid a1 a2 a3) ?_⟩
    simp only [true_and, and_true, implies_true, and_self, forall_const, true_implies, lenA, lenL, SV.lenOK, Cont.lenOK] at hn hl ⊢
    have h0 := ilen_0 a1
    simp only [ilt_t, ilt_f, ile_t, ile_f, ieq_t, ieq_f, bnot_e, band_e, bite_and, bite_or, NLt_e, NLe_e, NNe_e, NIs_e, imax_e, imin_e, irem_e, Bool.not_eq_true', Bool.not_eq_false', Bool.and_eq_true, Bool.or_eq_true, Bool.or_eq_false_iff, Bool.and_eq_false_iff, Cont.pts.injEq, Cont.ints.injEq, Cont.bools.injEq, Cont.ptss.injEq, Cont.intss.injEq, Cont.boolss.injEq, true_and, and_true, implies_true]
    refine ⟨fun h => ?_, fun h => ?_⟩
    · unfold armB
      rcases h with (h | h) | h <;> simp [h]
    · obtain ⟨⟨c1, c2⟩, c3⟩ := h
      refine ⟨fun | .int k :: _ => 0 ≤ k ∧ k ≤ ilen a1 ∧ (∀ j, 0 ≤ j → j < k → armE a1 a2 a3 j = true) | _ => False, fun | .int k :: _ => (ilen a1 - k).toNat | _ => 0, ?_, ?_⟩
      · exact ⟨Int.le_refl 0, h0, fun j h0 h1 => absurd h1 (by omega)⟩
      · rintro k _ ⟨hk0, hk1, hk⟩
        simp only [ilt_t, ilt_f, ile_t, ile_f, ieq_t, ieq_f, bnot_e, band_e, bite_and, bite_or, NLt_e, NLe_e, NNe_e, NIs_e, imax_e, imin_e, irem_e, Bool.not_eq_true', Bool.not_eq_false', Bool.and_eq_true, Bool.or_eq_true, Bool.or_eq_false_iff, Bool.and_eq_false_iff, Cont.pts.injEq, Cont.ints.injEq, Cont.bools.injEq, Cont.ptss.injEq, Cont.intss.injEq, Cont.boolss.injEq, true_and, and_true, implies_true]
        refine ⟨fun hc => ⟨⟨⟨hk0, hc⟩, fun _ => ⟨hk0, by omega⟩, fun _ => ⟨hk0, by omega⟩, fun _ => ⟨hk0, by omega⟩⟩, fun hv => ?_, fun hv => ?_⟩, fun hc => ?_⟩
        · have hE : armE a1 a2 a3 k = false := by unfold armE; rcases hv with (hv | hv) | hv <;> simp [hv]
          unfold armB; rw [allN_no k hk0 hc hE]; simp
        · have hE : armE a1 a2 a3 k = true := by unfold armE; rw [hv.1.1, hv.1.2, hv.2]; rfl
          rw [iadd_1 hk0 hc hl.1]
          exact ⟨⟨by omega, by omega, upTo hk hE⟩, by omega⟩
        · unfold armB; rw [allN_mk fun j h0 h1 => hk j h0 (by omega), c1]; simp [c2, c3]
  · cases h
def g_spec_l11Size : List AV → Option Sg
  | [.agg [.view (.ints a1), .view (.ints a2), .view (.ints a3)], .s (.int s)] => some ⟨True, [.s (.int (gsK a1 a2 a3 s 0)), .s (.int (gsK a1 a2 a3 s 1))]⟩
  | _ => none
def sig_spec_l11Size : FuncId → List AV → Option Sg := sigL [(105, g_spec_ArmValid), (73, g_spec_l1In)]
def xs_spec_l11Size : XS := ⟨xsigL [], ysigL []⟩
theorem sig_spec_l11Size_ok : SigOK sig_spec_l11Size := sigL_cons F_spec_ArmValid (sigL_cons F_spec_l1In sigL_nil)
theorem xs_spec_l11Size_ok : XSigOK xs_spec_l11Size := ⟨xsigL_nil, ysigL_nil⟩
theorem V_spec_l11Size (a1 : List Int) (a2 : List Int) (a3 : List Int) (s : Int) : ((true = true) ∧ ((True) ∧ (True) ∧ (True) ∧ True) ∧ (true = true) ∧ ((True) ∧ ((True)) ∧ (True) ∧ (True) ∧ (NIs (bnot (armB a1 a2 a3)) false → True) ∧ (NIs (bnot (armB a1 a2 a3)) false → True) ∧ (NIs (bnot (armB a1 a2 a3)) false → True) ∧ (NIs (bnot (armB a1 a2 a3)) false → True) ∧ (True) ∧ (True) ∧ (NIs (bite (bnot (armB a1 a2 a3)) true (bnot (ieq (ilen a1) (2 : Int)))) false → True) ∧ (NIs (bite (bnot (armB a1 a2 a3)) true (bnot (ieq (ilen a1) (2 : Int)))) false → (True)) ∧ (NIs (bite (bnot (armB a1 a2 a3)) true (bnot (ieq (ilen a1) (2 : Int)))) false → True) ∧ (True) ∧ True) ∧ ((bite (bite (bnot (armB a1 a2 a3)) true (bnot (ieq (ilen a1) (2 : Int)))) true (bnot (inB s (1 : Int) (360 : Int)))) = true → ((true = true) ∧ ((True) ∧ (True) ∧ True) ∧ (((0 : Int) : Int) = (gsK a1 a2 a3 s 0)) ∧ (((0 : Int) : Int) = (gsK a1 a2 a3 s 1)) ∧ True)) ∧ ((bite (bite (bnot (armB a1 a2 a3)) true (bnot (ieq (ilen a1) (2 : Int)))) true (bnot (inB s (1 : Int) (360 : Int)))) = false → ((true = true) ∧ ((True) ∧ (True) ∧ (NLe 0 (0 : Int) ∧ NLt (0 : Int) (ilen a3)) ∧ (True) ∧ (True) ∧ (True) ∧ (NLe 0 (0 : Int) ∧ NLt (0 : Int) (ilen a2)) ∧ (True) ∧ (True) ∧ (True) ∧ (NNe s 0) ∧ (True) ∧ (True) ∧ True) ∧ (true = true) ∧ ((True) ∧ (True) ∧ (NLe 0 (1 : Int) ∧ NLt (1 : Int) (ilen a3)) ∧ (True) ∧ (True) ∧ (True) ∧ (NLe 0 (1 : Int) ∧ NLt (1 : Int) (ilen a2)) ∧ (True) ∧ (True) ∧ (True) ∧ (NNe s 0) ∧ (True) ∧ (True) ∧ True) ∧ (true = true) ∧ ((True) ∧ (True) ∧ (True) ∧ (NIs (ilt (20 : Int) (iadd (iquo (isub (geti a3 (0 : Int)) (geti a2 (0 : Int))) s) (1 : Int))) false → True) ∧ (NIs (ilt (20 : Int) (iadd (iquo (isub (geti a3 (0 : Int)) (geti a2 (0 : Int))) s) (1 : Int))) false → True) ∧ (True) ∧ True) ∧ ((bite (ilt (20 : Int) (iadd (iquo (isub (geti a3 (0 : Int)) (geti a2 (0 : Int))) s) (1 : Int))) true (ilt (20 : Int) (iadd (iquo (isub (geti a3 (1 : Int)) (geti a2 (1 : Int))) s) (1 : Int)))) = true → ((true = true) ∧ ((True) ∧ (True) ∧ True) ∧ (((0 : Int) : Int) = (gsK a1 a2 a3 s 0)) ∧ (((0 : Int) : Int) = (gsK a1 a2 a3 s 1)) ∧ True)) ∧ ((bite (ilt (20 : Int) (iadd (iquo (isub (geti a3 (0 : Int)) (geti a2 (0 : Int))) s) (1 : Int))) true (ilt (20 : Int) (iadd (iquo (isub (geti a3 (1 : Int)) (geti a2 (1 : Int))) s) (1 : Int)))) = false → ((true = true) ∧ ((True) ∧ (True) ∧ (True) ∧ (True) ∧ True) ∧ (((iadd (iquo (isub (geti a3 (0 : Int)) (geti a2 (0 : Int))) s) (1 : Int)) : Int) = (gsK a1 a2 a3 s 0)) ∧ (((iadd (iquo (isub (geti a3 (1 : Int)) (geti a2 (1 : Int))) s) (1 : Int)) : Int) = (gsK a1 a2 a3 s 1)) ∧ True))))) = ev sig_spec_l11Size xs_spec_l11Size Try.f75.ntmps (fun b => []) (codeOf Try.f75) 0 (initS [.agg [.view (.ints a1), .view (.ints a2), .view (.ints a3)], .s (.int s)]) (retK Try.f75.results.toList [.s (.int (gsK a1 a2 a3 s 0)), .s (.int (gsK a1 a2 a3 s 1))]) := by kernel_rfl
set_option maxHeartbeats 400000 in
theorem F_spec_l11Size : FunOK 75 g_spec_l11Size := by
  refine fun_F (by kernel_rfl) Try.func75 rfl (by kernel_rfl) sig_spec_l11Size_ok xs_spec_l11Size_ok ?_
  intro avs sg h hn hl
  unfold g_spec_l11Size at h
  split at h
  · rename_i a1 a2 a3 s
    injection h with h; subst h
    refine ⟨by kernel_rfl, fun b => [], Eq.mp (V_spec_l11Size a1 a2 a3 s) ?_⟩
    simp only [true_and, and_true, implies_true, and_self, forall_const, true_implies, lenA, lenL, SV.lenOK, Cont.lenOK] at hn hl ⊢
    simp only [ilt_t, ilt_f, ile_t, ile_f, ieq_t, ieq_f, bnot_e, band_e, bite_and, bite_or, NLt_e, NLe_e, NNe_e, NIs_e, imax_e, imin_e, irem_e, Bool.not_eq_true', Bool.not_eq_false', Bool.and_eq_true, Bool.or_eq_true, Bool.or_eq_false_iff, Bool.and_eq_false_iff, Cont.pts.injEq, Cont.ints.injEq, Cont.bools.injEq, Cont.ptss.injEq, Cont.intss.injEq, Cont.boolss.injEq, true_and, and_true, implies_true]
    refine ⟨fun h => ?_, fun h => ?_⟩
    · have hB : gsB a1 a2 a3 s = false := by unfold gsB; rcases h with (h | h) | h <;> simp [h]
      unfold gsK; simp [hB]
    · obtain ⟨⟨h1, h2⟩, h3⟩ := h
      obtain ⟨e1, e2⟩ := armB_len h1
      have hB : gsB a1 a2 a3 s = true := by unfold gsB; rw [h1, h3]; simp [h2]
      have hs := inB_true h3
      refine ⟨by omega, by omega, fun h => ?_, fun h => ?_⟩
      · have : ¬ (gsB a1 a2 a3 s = true ∧ gsN a2 a3 s 0 ≤ 20 ∧ gsN a2 a3 s 1 ≤ 20) := by rintro ⟨_, g1, g2⟩; unfold gsN at g1 g2; omega
        unfold gsK; rw [if_neg this, if_neg this]; exact ⟨rfl, rfl⟩
      · have : gsB a1 a2 a3 s = true ∧ gsN a2 a3 s 0 ≤ 20 ∧ gsN a2 a3 s 1 ≤ 20 := ⟨hB, h.1, h.2⟩
        unfold gsK; rw [if_pos this, if_pos this]; exact ⟨rfl, rfl⟩
  · cases h
def g_spec_CellJoints : List AV → Option Sg
  | [.agg [.view (.ints a1), .view (.ints a2), .view (.ints a3)], .s (.int s), .agg [.int c1, .int c2]] => some ⟨True, [.nrow 3 (.ints (cjL a1 a2 a3 s c1 c2))]⟩
  | _ => none
def sig_spec_CellJoints : FuncId → List AV → Option Sg := sigL [(75, g_spec_l11Size), (73, g_spec_l1In)]
def xs_spec_CellJoints : XS := ⟨xsigL [], ysigL []⟩
theorem sig_spec_CellJoints_ok : SigOK sig_spec_CellJoints := sigL_cons F_spec_l11Size (sigL_cons F_spec_l1In sigL_nil)
theorem xs_spec_CellJoints_ok : XSigOK xs_spec_CellJoints := ⟨xsigL_nil, ysigL_nil⟩
theorem V_spec_CellJoints (a1 : List Int) (a2 : List Int) (a3 : List Int) (s : Int) (c1 : Int) (c2 : Int) : ((true = true) ∧ ((True) ∧ (True) ∧ (True) ∧ True) ∧ (true = true) ∧ ((True) ∧ (True) ∧ ((True)) ∧ (True) ∧ (True) ∧ (True) ∧ (True) ∧ (True) ∧ True) ∧ (true = true) ∧ ((True) ∧ (True) ∧ (True) ∧ (True) ∧ ((True)) ∧ (True) ∧ (True) ∧ (NIs (bnot (inB c1 (0 : Int) (isub (gsK a1 a2 a3 s 0) (1 : Int)))) false → True) ∧ (NIs (bnot (inB c1 (0 : Int) (isub (gsK a1 a2 a3 s 0) (1 : Int)))) false → True) ∧ (NIs (bnot (inB c1 (0 : Int) (isub (gsK a1 a2 a3 s 0) (1 : Int)))) false → True) ∧ (NIs (bnot (inB c1 (0 : Int) (isub (gsK a1 a2 a3 s 0) (1 : Int)))) false → True) ∧ (NIs (bnot (inB c1 (0 : Int) (isub (gsK a1 a2 a3 s 0) (1 : Int)))) false → (True)) ∧ (NIs (bnot (inB c1 (0 : Int) (isub (gsK a1 a2 a3 s 0) (1 : Int)))) false → True) ∧ (True) ∧ True) ∧ ((bite (bnot (inB c1 (0 : Int) (isub (gsK a1 a2 a3 s 0) (1 : Int)))) true (bnot (inB c2 (0 : Int) (isub (gsK a1 a2 a3 s 1) (1 : Int))))) = true → ((true = true) ∧ ((True) ∧ (True) ∧ True) ∧ ((true = true) ∧ ((Cont.ints []) = (Cont.ints (cjL a1 a2 a3 s c1 c2)))) ∧ True)) ∧ ((bite (bnot (inB c1 (0 : Int) (isub (gsK a1 a2 a3 s 0) (1 : Int)))) true (bnot (inB c2 (0 : Int) (isub (gsK a1 a2 a3 s 1) (1 : Int))))) = false → ((true = true) ∧ ((True) ∧ (True) ∧ (NLe 0 (0 : Int) ∧ NLt (0 : Int) (ilen a2)) ∧ (True) ∧ (True) ∧ (True) ∧ (True) ∧ (True) ∧ (True) ∧ (True) ∧ (True) ∧ (NLe 0 (1 : Int) ∧ NLt (1 : Int) (ilen a2)) ∧ (True) ∧ (True) ∧ (True) ∧ (True) ∧ (True) ∧ (True) ∧ (True) ∧ (True) ∧ True) ∧ ((true = true) ∧ ((Cont.ints [(iadd (geti a2 (0 : Int)) (imul c1 s)), (iadd (geti a2 (1 : Int)) (imul c2 s))]) = (Cont.ints (cjL a1 a2 a3 s c1 c2)))) ∧ True))) = ev sig_spec_CellJoints xs_spec_CellJoints Try.f29.ntmps (fun b => []) (codeOf Try.f29) 0 (initS [.agg [.view (.ints a1), .view (.ints a2), .view (.ints a3)], .s (.int s), .agg [.int c1, .int c2]]) (retK Try.f29.results.toList [.nrow 3 (.ints (cjL a1 a2 a3 s c1 c2))]) := by kernel_rfl
set_option maxHeartbeats 400000 in
theorem F_spec_CellJoints : FunOK 29 g_spec_CellJoints := by
  refine fun_F (by kernel_rfl) Try.func29 rfl (by kernel_rfl) sig_spec_CellJoints_ok xs_spec_CellJoints_ok ?_
  intro avs sg h hn hl
  unfold g_spec_CellJoints at h
  split at h
  · rename_i a1 a2 a3 s c1 c2
    injection h with h; subst h
    refine ⟨by kernel_rfl, fun b => [], Eq.mp (V_spec_CellJoints a1 a2 a3 s c1 c2) ?_⟩
    simp only [true_and, and_true, implies_true, and_self, forall_const, true_implies, lenA, lenL, SV.lenOK, Cont.lenOK] at hn hl ⊢
    simp only [ilt_t, ilt_f, ile_t, ile_f, ieq_t, ieq_f, bnot_e, band_e, bite_and, bite_or, NLt_e, NLe_e, NNe_e, NIs_e, imax_e, imin_e, irem_e, Bool.not_eq_true', Bool.not_eq_false', Bool.and_eq_true, Bool.or_eq_true, Bool.or_eq_false_iff, Bool.and_eq_false_iff, Cont.pts.injEq, Cont.ints.injEq, Cont.bools.injEq, Cont.ptss.injEq, Cont.intss.injEq, Cont.boolss.injEq, true_and, and_true, implies_true]
    refine ⟨fun h => ?_, fun h => ?_⟩
    · have : cjB a1 a2 a3 s c1 c2 = false := by unfold cjB; rcases h with h | h <;> simp [h]
      unfold cjL; simp [this]
    · have hB : cjB a1 a2 a3 s c1 c2 = true := by unfold cjB; rw [h.1, h.2]; rfl
      obtain ⟨_, l2, _⟩ := cj_parts hB
      refine ⟨⟨⟨by omega, by omega⟩, by omega, by omega⟩, ?_⟩
      unfold cjL; rw [if_pos hB]
  · cases h
def g_impl_within : List AV → Option Sg
  | [.s (.int n), .s (.int lo), .s (.int hi)] => some ⟨True, [.s (.bool (inB n lo hi))]⟩
  | _ => none
def sig_impl_within : FuncId → List AV → Option Sg := sigL []
def xs_impl_within : XS := ⟨xsigL [], ysigL []⟩
theorem sig_impl_within_ok : SigOK sig_impl_within := sigL_nil
theorem xs_impl_within_ok : XSigOK xs_impl_within := ⟨xsigL_nil, ysigL_nil⟩
theorem V_impl_within (n : Int) (lo : Int) (hi : Int) : ((true = true) ∧ ((True) ∧ True) ∧ (true = true) ∧ ((True) ∧ (True) ∧ (True) ∧ (True) ∧ (NIs (ile lo n) true → True) ∧ (NIs (ile lo n) true → True) ∧ (NIs (ile lo n) true → True) ∧ (True) ∧ (True) ∧ True) ∧ (((bite (ile lo n) (ile n hi) false) : Bool) = (inB n lo hi)) ∧ True) = ev sig_impl_within xs_impl_within Try.f71.ntmps (fun b => []) (codeOf Try.f71) 0 (initS [.s (.int n), .s (.int lo), .s (.int hi)]) (retK Try.f71.results.toList [.s (.bool (inB n lo hi))]) := by kernel_rfl
set_option maxHeartbeats 400000 in
theorem F_impl_within : FunOK 71 g_impl_within := by
  refine fun_F (by kernel_rfl) Try.func71 rfl (by kernel_rfl) sig_impl_within_ok xs_impl_within_ok ?_
  intro avs sg h hn hl
  unfold g_impl_within at h
  split at h
  · rename_i n lo hi
    injection h with h; subst h
    refine ⟨by kernel_rfl, fun b => [], Eq.mp (V_impl_within n lo hi) ?_⟩
    simp only [true_and, and_true, implies_true, and_self, forall_const, true_implies, lenA, lenL, SV.lenOK, Cont.lenOK] at hn hl ⊢
    simp only [bite_and, inB_eq]
  · cases h
def g_impl_ArmValid : List AV → Option Sg
  | [.agg [.view (.ints a1), .view (.ints a2), .view (.ints a3)]] => some ⟨True, [.s (.bool (armB a1 a2 a3))]⟩
  | _ => none
def sig_impl_ArmValid : FuncId → List AV → Option Sg := sigL [(71, g_impl_within)]
def xs_impl_ArmValid : XS := ⟨xsigL [], ysigL []⟩
theorem sig_impl_ArmValid_ok : SigOK sig_impl_ArmValid := sigL_cons F_impl_within sigL_nil
theorem xs_impl_ArmValid_ok : XSigOK xs_impl_ArmValid := ⟨xsigL_nil, ysigL_nil⟩
theorem V_impl_ArmValid (a1 : List Int) (a2 : List Int) (a3 : List Int) : ((true = true) ∧ ((True) ∧ (True) ∧ True) ∧ (true = true) ∧ ((True) ∧ (True) ∧ (True) ∧ (True) ∧ True) ∧ (true = true) ∧ ((True) ∧ ((True)) ∧ (True) ∧ (True) ∧ (NIs (bnot (inB (ilen a1) (1 : Int) (4 : Int))) false → True) ∧ (NIs (bnot (inB (ilen a1) (1 : Int) (4 : Int))) false → True) ∧ (NIs (bnot (inB (ilen a1) (1 : Int) (4 : Int))) false → True) ∧ (NIs (bnot (inB (ilen a1) (1 : Int) (4 : Int))) false → True) ∧ (NIs (bnot (inB (ilen a1) (1 : Int) (4 : Int))) false → True) ∧ (True) ∧ (True) ∧ (NIs (bite (bnot (inB (ilen a1) (1 : Int) (4 : Int))) true (bnot (ieq (ilen a2) (ilen a1)))) false → True) ∧ (NIs (bite (bnot (inB (ilen a1) (1 : Int) (4 : Int))) true (bnot (ieq (ilen a2) (ilen a1)))) false → True) ∧ (NIs (bite (bnot (inB (ilen a1) (1 : Int) (4 : Int))) true (bnot (ieq (ilen a2) (ilen a1)))) false → True) ∧ (NIs (bite (bnot (inB (ilen a1) (1 : Int) (4 : Int))) true (bnot (ieq (ilen a2) (ilen a1)))) false → True) ∧ (NIs (bite (bnot (inB (ilen a1) (1 : Int) (4 : Int))) true (bnot (ieq (ilen a2) (ilen a1)))) false → True) ∧ (True) ∧ True) ∧ ((bite (bite (bnot (inB (ilen a1) (1 : Int) (4 : Int))) true (bnot (ieq (ilen a2) (ilen a1)))) true (bnot (ieq (ilen a3) (ilen a1)))) = true → ((true = true) ∧ ((True) ∧ True) ∧ ((false : Bool) = (armB a1 a2 a3)) ∧ True)) ∧ ((bite (bite (bnot (inB (ilen a1) (1 : Int) (4 : Int))) true (bnot (ieq (ilen a2) (ilen a1)))) true (bnot (ieq (ilen a3) (ilen a1)))) = false → ((true = true) ∧ ((True) ∧ (True) ∧ True) ∧ ∃ (I1 : List GV → Prop) (μ1 : List GV → Nat), (((true = true) ∧ (((false : Bool) = false) ∧ (((0 : Int) : Int) = (0 : Int)) ∧ (((ilen a1) : Int) = (ilen a1)) ∧ (((ilen a1) : Int) = (ilen a1)) ∧ (((inB (ilen a1) (1 : Int) (4 : Int)) : Bool) = (inB (ilen a1) (1 : Int) (4 : Int))) ∧ (((bnot (inB (ilen a1) (1 : Int) (4 : Int))) : Bool) = (bnot (inB (ilen a1) (1 : Int) (4 : Int)))) ∧ (((bnot (inB (ilen a1) (1 : Int) (4 : Int))) : Bool) = (bnot (inB (ilen a1) (1 : Int) (4 : Int)))) ∧ (((bite (bnot (inB (ilen a1) (1 : Int) (4 : Int))) true (bnot (ieq (ilen a2) (ilen a1)))) : Bool) = (bite (bnot (inB (ilen a1) (1 : Int) (4 : Int))) true (bnot (ieq (ilen a2) (ilen a1))))) ∧ (((bite (bnot (inB (ilen a1) (1 : Int) (4 : Int))) true (bnot (ieq (ilen a2) (ilen a1)))) : Bool) = (bite (bnot (inB (ilen a1) (1 : Int) (4 : Int))) true (bnot (ieq (ilen a2) (ilen a1))))) ∧ (((bite (bite (bnot (inB (ilen a1) (1 : Int) (4 : Int))) true (bnot (ieq (ilen a2) (ilen a1)))) true (bnot (ieq (ilen a3) (ilen a1)))) : Bool) = (bite (bite (bnot (inB (ilen a1) (1 : Int) (4 : Int))) true (bnot (ieq (ilen a2) (ilen a1)))) true (bnot (ieq (ilen a3) (ilen a1))))) ∧ (true = true) ∧ ((Cont.ints a1) = (Cont.ints a1)) ∧ (((ilen a1) : Int) = (ilen a1)) ∧ (((ilen a1) : Int) = (ilen a1)) ∧ (true = true) ∧ (((Cont.ints a1) = (Cont.ints a1)) ∧ ((Cont.ints a2) = (Cont.ints a2)) ∧ ((Cont.ints a3) = (Cont.ints a3)) ∧ True) ∧ True) ∧ ((((Cont.ints a1) = (Cont.ints a1)) ∧ ((Cont.ints a2) = (Cont.ints a2)) ∧ ((Cont.ints a3) = (Cont.ints a3)) ∧ True) ∧ True)) ∧ (([GK.int, GK.bool] : List GK) = ([GK.int, GK.bool] : List GK)) ∧ I1 [GV.int (0 : Int), GV.bool false]) ∧ (∀ i1_0 : Int, ∀ b1_1 : Bool, I1 [GV.int i1_0, GV.bool b1_1] → ((true = true) ∧ ((True) ∧ True) ∧ ((ilt i1_0 (ilen a1)) = true → ((true = true) ∧ ((True) ∧ (True) ∧ True) ∧ (true = true) ∧ ((True) ∧ (True) ∧ (True) ∧ (NLe 0 i1_0 ∧ NLt i1_0 (ilen a1)) ∧ (True) ∧ ((True)) ∧ (True) ∧ (True) ∧ (NIs (bnot (inB (geti a1 i1_0) (1 : Int) (500 : Int))) false → True) ∧ (NIs (bnot (inB (geti a1 i1_0) (1 : Int) (500 : Int))) false → True) ∧ (NIs (bnot (inB (geti a1 i1_0) (1 : Int) (500 : Int))) false → True) ∧ (NIs (bnot (inB (geti a1 i1_0) (1 : Int) (500 : Int))) false → (NLe 0 i1_0 ∧ NLt i1_0 (ilen a2))) ∧ (NIs (bnot (inB (geti a1 i1_0) (1 : Int) (500 : Int))) false → True) ∧ (NIs (bnot (inB (geti a1 i1_0) (1 : Int) (500 : Int))) false → (True)) ∧ (NIs (bnot (inB (geti a1 i1_0) (1 : Int) (500 : Int))) false → True) ∧ (True) ∧ (True) ∧ (NIs (bite (bnot (inB (geti a1 i1_0) (1 : Int) (500 : Int))) true (bnot (inB (geti a2 i1_0) (-180 : Int) (180 : Int)))) false → True) ∧ (NIs (bite (bnot (inB (geti a1 i1_0) (1 : Int) (500 : Int))) true (bnot (inB (geti a2 i1_0) (-180 : Int) (180 : Int)))) false → True) ∧ (NIs (bite (bnot (inB (geti a1 i1_0) (1 : Int) (500 : Int))) true (bnot (inB (geti a2 i1_0) (-180 : Int) (180 : Int)))) false → True) ∧ (NIs (bite (bnot (inB (geti a1 i1_0) (1 : Int) (500 : Int))) true (bnot (inB (geti a2 i1_0) (-180 : Int) (180 : Int)))) false → (NLe 0 i1_0 ∧ NLt i1_0 (ilen a3))) ∧ (NIs (bite (bnot (inB (geti a1 i1_0) (1 : Int) (500 : Int))) true (bnot (inB (geti a2 i1_0) (-180 : Int) (180 : Int)))) false → True) ∧ (NIs (bite (bnot (inB (geti a1 i1_0) (1 : Int) (500 : Int))) true (bnot (inB (geti a2 i1_0) (-180 : Int) (180 : Int)))) false → True) ∧ (NIs (bite (bnot (inB (geti a1 i1_0) (1 : Int) (500 : Int))) true (bnot (inB (geti a2 i1_0) (-180 : Int) (180 : Int)))) false → True) ∧ (NIs (bite (bnot (inB (geti a1 i1_0) (1 : Int) (500 : Int))) true (bnot (inB (geti a2 i1_0) (-180 : Int) (180 : Int)))) false → True) ∧ (NIs (bite (bnot (inB (geti a1 i1_0) (1 : Int) (500 : Int))) true (bnot (inB (geti a2 i1_0) (-180 : Int) (180 : Int)))) false → (NLe 0 i1_0 ∧ NLt i1_0 (ilen a2))) ∧ (NIs (bite (bnot (inB (geti a1 i1_0) (1 : Int) (500 : Int))) true (bnot (inB (geti a2 i1_0) (-180 : Int) (180 : Int)))) false → True) ∧ (NIs (bite (bnot (inB (geti a1 i1_0) (1 : Int) (500 : Int))) true (bnot (inB (geti a2 i1_0) (-180 : Int) (180 : Int)))) false → (True)) ∧ (NIs (bite (bnot (inB (geti a1 i1_0) (1 : Int) (500 : Int))) true (bnot (inB (geti a2 i1_0) (-180 : Int) (180 : Int)))) false → True) ∧ (True) ∧ True) ∧ ((bite (bite (bnot (inB (geti a1 i1_0) (1 : Int) (500 : Int))) true (bnot (inB (geti a2 i1_0) (-180 : Int) (180 : Int)))) true (bnot (inB (geti a3 i1_0) (geti a2 i1_0) (180 : Int)))) = true → ((true = true) ∧ ((True) ∧ True) ∧ ((false : Bool) = (armB a1 a2 a3)) ∧ True)) ∧ ((bite (bite (bnot (inB (geti a1 i1_0) (1 : Int) (500 : Int))) true (bnot (inB (geti a2 i1_0) (-180 : Int) (180 : Int)))) true (bnot (inB (geti a3 i1_0) (geti a2 i1_0) (180 : Int)))) = false → ((true = true) ∧ ((True) ∧ (True) ∧ True) ∧ ((true = true) ∧ (((b1_1 : Bool) = b1_1) ∧ (((iadd i1_0 (1 : Int)) : Int) = (iadd i1_0 (1 : Int))) ∧ (((ilen a1) : Int) = (ilen a1)) ∧ (((ilen a1) : Int) = (ilen a1)) ∧ (((inB (ilen a1) (1 : Int) (4 : Int)) : Bool) = (inB (ilen a1) (1 : Int) (4 : Int))) ∧ (((bnot (inB (ilen a1) (1 : Int) (4 : Int))) : Bool) = (bnot (inB (ilen a1) (1 : Int) (4 : Int)))) ∧ (((bnot (inB (ilen a1) (1 : Int) (4 : Int))) : Bool) = (bnot (inB (ilen a1) (1 : Int) (4 : Int)))) ∧ (((bite (bnot (inB (ilen a1) (1 : Int) (4 : Int))) true (bnot (ieq (ilen a2) (ilen a1)))) : Bool) = (bite (bnot (inB (ilen a1) (1 : Int) (4 : Int))) true (bnot (ieq (ilen a2) (ilen a1))))) ∧ (((bite (bnot (inB (ilen a1) (1 : Int) (4 : Int))) true (bnot (ieq (ilen a2) (ilen a1)))) : Bool) = (bite (bnot (inB (ilen a1) (1 : Int) (4 : Int))) true (bnot (ieq (ilen a2) (ilen a1))))) ∧ (((bite (bite (bnot (inB (ilen a1) (1 : Int) (4 : Int))) true (bnot (ieq (ilen a2) (ilen a1)))) true (bnot (ieq (ilen a3) (ilen a1)))) : Bool) = (bite (bite (bnot (inB (ilen a1) (1 : Int) (4 : Int))) true (bnot (ieq (ilen a2) (ilen a1)))) true (bnot (ieq (ilen a3) (ilen a1))))) ∧ (true = true) ∧ ((Cont.ints a1) = (Cont.ints a1)) ∧ (((ilen a1) : Int) = (ilen a1)) ∧ (((ilen a1) : Int) = (ilen a1)) ∧ (true = true) ∧ (((Cont.ints a1) = (Cont.ints a1)) ∧ ((Cont.ints a2) = (Cont.ints a2)) ∧ ((Cont.ints a3) = (Cont.ints a3)) ∧ True) ∧ True) ∧ ((((Cont.ints a1) = (Cont.ints a1)) ∧ ((Cont.ints a2) = (Cont.ints a2)) ∧ ((Cont.ints a3) = (Cont.ints a3)) ∧ True) ∧ True)) ∧ ((([GK.int, GK.bool] : List GK) = ([GK.int, GK.bool] : List GK)) ∧ I1 [GV.int (iadd i1_0 (1 : Int)), GV.bool b1_1] ∧ μ1 [GV.int (iadd i1_0 (1 : Int)), GV.bool b1_1] < μ1 [GV.int i1_0, GV.bool b1_1]))))) ∧ ((ilt i1_0 (ilen a1)) = false → ((true = true) ∧ ((True) ∧ True) ∧ ((true : Bool) = (armB a1 a2 a3)) ∧ True))))))) = ev sig_impl_ArmValid xs_impl_ArmValid Try.f106.ntmps (fun b => if b == 0 then [.v 26, .v 2] else []) (codeOf Try.f106) 0 (initS [.agg [.view (.ints a1), .view (.ints a2), .view (.ints a3)]]) (retK Try.f106.results.toList [.s (.bool (armB a1 a2 a3))]) := by kernel_rfl
set_option maxHeartbeats 400000 in
theorem F_impl_ArmValid : FunOK 106 g_impl_ArmValid := by
  refine fun_F (by kernel_rfl) Try.func106 rfl (by kernel_rfl) sig_impl_ArmValid_ok xs_impl_ArmValid_ok ?_
  intro avs sg h hn hl
  unfold g_impl_ArmValid at h
  split at h
  · rename_i a1 a2 a3
    injection h with h; subst h
    refine ⟨by kernel_rfl, fun b => if b == 0 then [.v 26, .v 2] else [], Eq.mp (V_impl_ArmValid a1 a2 a3) ?_⟩
    simp only [true_and, and_true, implies_true, and_self, forall_const, true_implies, lenA, lenL, SV.lenOK, Cont.lenOK] at hn hl ⊢
    have h0 := ilen_0 a1
    simp only [ilt_t, ilt_f, ile_t, ile_f, ieq_t, ieq_f, bnot_e, band_e, bite_and, bite_or, NLt_e, NLe_e, NNe_e, NIs_e, imax_e, imin_e, irem_e, Bool.not_eq_true', Bool.not_eq_false', Bool.and_eq_true, Bool.or_eq_true, Bool.or_eq_false_iff, Bool.and_eq_false_iff, Cont.pts.injEq, Cont.ints.injEq, Cont.bools.injEq, Cont.ptss.injEq, Cont.intss.injEq, Cont.boolss.injEq, true_and, and_true, implies_true]
    refine ⟨fun h => ?_, fun h => ?_⟩
    · unfold armB
      rcases h with (h | h) | h <;> simp [h]
    · obtain ⟨⟨c1, c2⟩, c3⟩ := h
      refine ⟨fun | .int k :: _ => 0 ≤ k ∧ k ≤ ilen a1 ∧ (∀ j, 0 ≤ j → j < k → armE a1 a2 a3 j = true) | _ => False, fun | .int k :: _ => (ilen a1 - k).toNat | _ => 0, ?_, ?_⟩
      · exact ⟨Int.le_refl 0, h0, fun j h0 h1 => absurd h1 (by omega)⟩
      · rintro k _ ⟨hk0, hk1, hk⟩
        simp only [ilt_t, ilt_f, ile_t, ile_f, ieq_t, ieq_f, bnot_e, band_e, bite_and, bite_or, NLt_e, NLe_e, NNe_e, NIs_e, imax_e, imin_e, irem_e, Bool.not_eq_true', Bool.not_eq_false', Bool.and_eq_true, Bool.or_eq_true, Bool.or_eq_false_iff, Bool.and_eq_false_iff, Cont.pts.injEq, Cont.ints.injEq, Cont.bools.injEq, Cont.ptss.injEq, Cont.intss.injEq, Cont.boolss.injEq, true_and, and_true, implies_true]
        refine ⟨fun hc => ⟨⟨⟨hk0, hc⟩, fun _ => ⟨hk0, by omega⟩, fun _ => ⟨hk0, by omega⟩, fun _ => ⟨hk0, by omega⟩⟩, fun hv => ?_, fun hv => ?_⟩, fun hc => ?_⟩
        · have hE : armE a1 a2 a3 k = false := by unfold armE; rcases hv with (hv | hv) | hv <;> simp [hv]
          unfold armB; rw [allN_no k hk0 hc hE]; simp
        · have hE : armE a1 a2 a3 k = true := by unfold armE; rw [hv.1.1, hv.1.2, hv.2]; rfl
          rw [iadd_1 hk0 hc hl.1]
          exact ⟨⟨by omega, by omega, upTo hk hE⟩, by omega⟩
        · unfold armB; rw [allN_mk fun j h0 h1 => hk j h0 (by omega), c1]; simp [c2, c3]
  · cases h
def g_impl_GridSize : List AV → Option Sg
  | [.agg [.view (.ints a1), .view (.ints a2), .view (.ints a3)], .s (.int s)] => some ⟨True, [.s (.int (gsK a1 a2 a3 s 0)), .s (.int (gsK a1 a2 a3 s 1))]⟩
  | _ => none
def sig_impl_GridSize : FuncId → List AV → Option Sg := sigL [(106, g_impl_ArmValid), (71, g_impl_within)]
def xs_impl_GridSize : XS := ⟨xsigL [], ysigL []⟩
theorem sig_impl_GridSize_ok : SigOK sig_impl_GridSize := sigL_cons F_impl_ArmValid (sigL_cons F_impl_within sigL_nil)
theorem xs_impl_GridSize_ok : XSigOK xs_impl_GridSize := ⟨xsigL_nil, ysigL_nil⟩
theorem V_impl_GridSize (a1 : List Int) (a2 : List Int) (a3 : List Int) (s : Int) : ((true = true) ∧ ((True) ∧ (True) ∧ (True) ∧ True) ∧ (true = true) ∧ ((True) ∧ ((True)) ∧ (True) ∧ (True) ∧ (NIs (bnot (armB a1 a2 a3)) false → True) ∧ (NIs (bnot (armB a1 a2 a3)) false → True) ∧ (NIs (bnot (armB a1 a2 a3)) false → True) ∧ (NIs (bnot (armB a1 a2 a3)) false → True) ∧ (True) ∧ (True) ∧ (NIs (bite (bnot (armB a1 a2 a3)) true (bnot (ieq (ilen a1) (2 : Int)))) false → True) ∧ (NIs (bite (bnot (armB a1 a2 a3)) true (bnot (ieq (ilen a1) (2 : Int)))) false → (True)) ∧ (NIs (bite (bnot (armB a1 a2 a3)) true (bnot (ieq (ilen a1) (2 : Int)))) false → True) ∧ (True) ∧ True) ∧ ((bite (bite (bnot (armB a1 a2 a3)) true (bnot (ieq (ilen a1) (2 : Int)))) true (bnot (inB s (1 : Int) (360 : Int)))) = true → ((true = true) ∧ ((True) ∧ (True) ∧ True) ∧ (((0 : Int) : Int) = (gsK a1 a2 a3 s 0)) ∧ (((0 : Int) : Int) = (gsK a1 a2 a3 s 1)) ∧ True)) ∧ ((bite (bite (bnot (armB a1 a2 a3)) true (bnot (ieq (ilen a1) (2 : Int)))) true (bnot (inB s (1 : Int) (360 : Int)))) = false → ((true = true) ∧ ((True) ∧ (True) ∧ (NLe 0 (0 : Int) ∧ NLt (0 : Int) (ilen a3)) ∧ (True) ∧ (True) ∧ (True) ∧ (NLe 0 (0 : Int) ∧ NLt (0 : Int) (ilen a2)) ∧ (True) ∧ (True) ∧ (True) ∧ (NNe s 0) ∧ (True) ∧ (True) ∧ True) ∧ (true = true) ∧ ((True) ∧ (True) ∧ (NLe 0 (1 : Int) ∧ NLt (1 : Int) (ilen a3)) ∧ (True) ∧ (True) ∧ (True) ∧ (NLe 0 (1 : Int) ∧ NLt (1 : Int) (ilen a2)) ∧ (True) ∧ (True) ∧ (True) ∧ (NNe s 0) ∧ (True) ∧ (True) ∧ True) ∧ (true = true) ∧ ((True) ∧ (True) ∧ (True) ∧ (NIs (ilt (20 : Int) (iadd (iquo (isub (geti a3 (0 : Int)) (geti a2 (0 : Int))) s) (1 : Int))) false → True) ∧ (NIs (ilt (20 : Int) (iadd (iquo (isub (geti a3 (0 : Int)) (geti a2 (0 : Int))) s) (1 : Int))) false → True) ∧ (True) ∧ True) ∧ ((bite (ilt (20 : Int) (iadd (iquo (isub (geti a3 (0 : Int)) (geti a2 (0 : Int))) s) (1 : Int))) true (ilt (20 : Int) (iadd (iquo (isub (geti a3 (1 : Int)) (geti a2 (1 : Int))) s) (1 : Int)))) = true → ((true = true) ∧ ((True) ∧ (True) ∧ True) ∧ (((0 : Int) : Int) = (gsK a1 a2 a3 s 0)) ∧ (((0 : Int) : Int) = (gsK a1 a2 a3 s 1)) ∧ True)) ∧ ((bite (ilt (20 : Int) (iadd (iquo (isub (geti a3 (0 : Int)) (geti a2 (0 : Int))) s) (1 : Int))) true (ilt (20 : Int) (iadd (iquo (isub (geti a3 (1 : Int)) (geti a2 (1 : Int))) s) (1 : Int)))) = false → ((true = true) ∧ ((True) ∧ (True) ∧ (True) ∧ (True) ∧ True) ∧ (((iadd (iquo (isub (geti a3 (0 : Int)) (geti a2 (0 : Int))) s) (1 : Int)) : Int) = (gsK a1 a2 a3 s 0)) ∧ (((iadd (iquo (isub (geti a3 (1 : Int)) (geti a2 (1 : Int))) s) (1 : Int)) : Int) = (gsK a1 a2 a3 s 1)) ∧ True))))) = ev sig_impl_GridSize xs_impl_GridSize Try.f76.ntmps (fun b => []) (codeOf Try.f76) 0 (initS [.agg [.view (.ints a1), .view (.ints a2), .view (.ints a3)], .s (.int s)]) (retK Try.f76.results.toList [.s (.int (gsK a1 a2 a3 s 0)), .s (.int (gsK a1 a2 a3 s 1))]) := by kernel_rfl
set_option maxHeartbeats 400000 in
theorem F_impl_GridSize : FunOK 76 g_impl_GridSize := by
  refine fun_F (by kernel_rfl) Try.func76 rfl (by kernel_rfl) sig_impl_GridSize_ok xs_impl_GridSize_ok ?_
  intro avs sg h hn hl
  unfold g_impl_GridSize at h
  split at h
  · rename_i a1 a2 a3 s
    injection h with h; subst h
    refine ⟨by kernel_rfl, fun b => [], Eq.mp (V_impl_GridSize a1 a2 a3 s) ?_⟩
    simp only [true_and, and_true, implies_true, and_self, forall_const, true_implies, lenA, lenL, SV.lenOK, Cont.lenOK] at hn hl ⊢
    simp only [ilt_t, ilt_f, ile_t, ile_f, ieq_t, ieq_f, bnot_e, band_e, bite_and, bite_or, NLt_e, NLe_e, NNe_e, NIs_e, imax_e, imin_e, irem_e, Bool.not_eq_true', Bool.not_eq_false', Bool.and_eq_true, Bool.or_eq_true, Bool.or_eq_false_iff, Bool.and_eq_false_iff, Cont.pts.injEq, Cont.ints.injEq, Cont.bools.injEq, Cont.ptss.injEq, Cont.intss.injEq, Cont.boolss.injEq, true_and, and_true, implies_true]
    refine ⟨fun h => ?_, fun h => ?_⟩
    · have hB : gsB a1 a2 a3 s = false := by unfold gsB; rcases h with (h | h) | h <;> simp [h]
      unfold gsK; simp [hB]
    · obtain ⟨⟨h1, h2⟩, h3⟩ := h
      obtain ⟨e1, e2⟩ := armB_len h1
      have hB : gsB a1 a2 a3 s = true := by unfold gsB; rw [h1, h3]; simp [h2]
      have hs := inB_true h3
      refine ⟨by omega, by omega, fun h => ?_, fun h => ?_⟩
      · have : ¬ (gsB a1 a2 a3 s = true ∧ gsN a2 a3 s 0 ≤ 20 ∧ gsN a2 a3 s 1 ≤ 20) := by rintro ⟨_, g1, g2⟩; unfold gsN at g1 g2; omega
        unfold gsK; rw [if_neg this, if_neg this]; exact ⟨rfl, rfl⟩
      · have : gsB a1 a2 a3 s = true ∧ gsN a2 a3 s 0 ≤ 20 ∧ gsN a2 a3 s 1 ≤ 20 := ⟨hB, h.1, h.2⟩
        unfold gsK; rw [if_pos this, if_pos this]; exact ⟨rfl, rfl⟩
  · cases h
def g_impl_CellJoints : List AV → Option Sg
  | [.agg [.view (.ints a1), .view (.ints a2), .view (.ints a3)], .s (.int s), .agg [.int c1, .int c2]] => some ⟨True, [.nrow 3 (.ints (cjL a1 a2 a3 s c1 c2))]⟩
  | _ => none
def sig_impl_CellJoints : FuncId → List AV → Option Sg := sigL [(76, g_impl_GridSize), (71, g_impl_within)]
def xs_impl_CellJoints : XS := ⟨xsigL [], ysigL []⟩
theorem sig_impl_CellJoints_ok : SigOK sig_impl_CellJoints := sigL_cons F_impl_GridSize (sigL_cons F_impl_within sigL_nil)
theorem xs_impl_CellJoints_ok : XSigOK xs_impl_CellJoints := ⟨xsigL_nil, ysigL_nil⟩
theorem V_impl_CellJoints (a1 : List Int) (a2 : List Int) (a3 : List Int) (s : Int) (c1 : Int) (c2 : Int) : ((true = true) ∧ ((True) ∧ (True) ∧ (True) ∧ True) ∧ (true = true) ∧ ((True) ∧ (True) ∧ ((True)) ∧ (True) ∧ (True) ∧ (True) ∧ (True) ∧ (True) ∧ True) ∧ (true = true) ∧ ((True) ∧ (True) ∧ (True) ∧ (True) ∧ ((True)) ∧ (True) ∧ (True) ∧ (NIs (bnot (inB c1 (0 : Int) (isub (gsK a1 a2 a3 s 0) (1 : Int)))) false → True) ∧ (NIs (bnot (inB c1 (0 : Int) (isub (gsK a1 a2 a3 s 0) (1 : Int)))) false → True) ∧ (NIs (bnot (inB c1 (0 : Int) (isub (gsK a1 a2 a3 s 0) (1 : Int)))) false → True) ∧ (NIs (bnot (inB c1 (0 : Int) (isub (gsK a1 a2 a3 s 0) (1 : Int)))) false → True) ∧ (NIs (bnot (inB c1 (0 : Int) (isub (gsK a1 a2 a3 s 0) (1 : Int)))) false → (True)) ∧ (NIs (bnot (inB c1 (0 : Int) (isub (gsK a1 a2 a3 s 0) (1 : Int)))) false → True) ∧ (True) ∧ True) ∧ ((bite (bnot (inB c1 (0 : Int) (isub (gsK a1 a2 a3 s 0) (1 : Int)))) true (bnot (inB c2 (0 : Int) (isub (gsK a1 a2 a3 s 1) (1 : Int))))) = true → ((true = true) ∧ ((True) ∧ True) ∧ ((true = true) ∧ ((Cont.ints []) = (Cont.ints (cjL a1 a2 a3 s c1 c2)))) ∧ True)) ∧ ((bite (bnot (inB c1 (0 : Int) (isub (gsK a1 a2 a3 s 0) (1 : Int)))) true (bnot (inB c2 (0 : Int) (isub (gsK a1 a2 a3 s 1) (1 : Int))))) = false → ((true = true) ∧ ((True) ∧ (True) ∧ (NLe 0 (0 : Int) ∧ NLt (0 : Int) (ilen a2)) ∧ (True) ∧ (True) ∧ (True) ∧ (True) ∧ (True) ∧ (True) ∧ (True) ∧ (True) ∧ (NLe 0 (1 : Int) ∧ NLt (1 : Int) (ilen a2)) ∧ (True) ∧ (True) ∧ (True) ∧ (True) ∧ (True) ∧ (True) ∧ (True) ∧ (True) ∧ True) ∧ ((true = true) ∧ ((Cont.ints [(iadd (geti a2 (0 : Int)) (imul c1 s)), (iadd (geti a2 (1 : Int)) (imul c2 s))]) = (Cont.ints (cjL a1 a2 a3 s c1 c2)))) ∧ True))) = ev sig_impl_CellJoints xs_impl_CellJoints Try.f31.ntmps (fun b => []) (codeOf Try.f31) 0 (initS [.agg [.view (.ints a1), .view (.ints a2), .view (.ints a3)], .s (.int s), .agg [.int c1, .int c2]]) (retK Try.f31.results.toList [.nrow 3 (.ints (cjL a1 a2 a3 s c1 c2))]) := by kernel_rfl
set_option maxHeartbeats 400000 in
theorem F_impl_CellJoints : FunOK 31 g_impl_CellJoints := by
  refine fun_F (by kernel_rfl) Try.func31 rfl (by kernel_rfl) sig_impl_CellJoints_ok xs_impl_CellJoints_ok ?_
  intro avs sg h hn hl
  unfold g_impl_CellJoints at h
  split at h
  · rename_i a1 a2 a3 s c1 c2
    injection h with h; subst h
    refine ⟨by kernel_rfl, fun b => [], Eq.mp (V_impl_CellJoints a1 a2 a3 s c1 c2) ?_⟩
    simp only [true_and, and_true, implies_true, and_self, forall_const, true_implies, lenA, lenL, SV.lenOK, Cont.lenOK] at hn hl ⊢
    simp only [ilt_t, ilt_f, ile_t, ile_f, ieq_t, ieq_f, bnot_e, band_e, bite_and, bite_or, NLt_e, NLe_e, NNe_e, NIs_e, imax_e, imin_e, irem_e, Bool.not_eq_true', Bool.not_eq_false', Bool.and_eq_true, Bool.or_eq_true, Bool.or_eq_false_iff, Bool.and_eq_false_iff, Cont.pts.injEq, Cont.ints.injEq, Cont.bools.injEq, Cont.ptss.injEq, Cont.intss.injEq, Cont.boolss.injEq, true_and, and_true, implies_true]
    refine ⟨fun h => ?_, fun h => ?_⟩
    · have : cjB a1 a2 a3 s c1 c2 = false := by unfold cjB; rcases h with h | h <;> simp [h]
      unfold cjL; simp [this]
    · have hB : cjB a1 a2 a3 s c1 c2 = true := by unfold cjB; rw [h.1, h.2]; rfl
      obtain ⟨_, l2, _⟩ := cj_parts hB
      refine ⟨⟨⟨by omega, by omega⟩, by omega, by omega⟩, ?_⟩
      unfold cjL; rw [if_pos hB]
  · cases h
def g_laws_eqIntS : List AV → Option Sg
  | [.s (.view (.ints l)), .s (.view (.ints m))] => some ⟨True, [.s (.bool (eqI l m))]⟩
  | _ => none
def sig_laws_eqIntS : FuncId → List AV → Option Sg := sigL []
def xs_laws_eqIntS : XS := ⟨xsigL [], ysigL []⟩
theorem sig_laws_eqIntS_ok : SigOK sig_laws_eqIntS := sigL_nil
theorem xs_laws_eqIntS_ok : XSigOK xs_laws_eqIntS := ⟨xsigL_nil, ysigL_nil⟩
theorem V_laws_eqIntS (l : List Int) (m : List Int) : ((true = true) ∧ ((True) ∧ True) ∧ (true = true) ∧ ((True) ∧ (True) ∧ (True) ∧ (True) ∧ (True) ∧ True) ∧ ((bnot (ieq (ilen l) (ilen m))) = true → ((true = true) ∧ ((True) ∧ True) ∧ ((false : Bool) = (eqI l m)) ∧ True)) ∧ ((bnot (ieq (ilen l) (ilen m))) = false → ((true = true) ∧ ((True) ∧ True) ∧ ∃ (I1 : List GV → Prop) (μ1 : List GV → Nat), (((true = true) ∧ (((false : Bool) = false) ∧ (((0 : Int) : Int) = (0 : Int)) ∧ ((Cont.ints l) = (Cont.ints l)) ∧ (((ilen l) : Int) = (ilen l)) ∧ ((Cont.ints m) = (Cont.ints m)) ∧ (((ilen m) : Int) = (ilen m)) ∧ (((bnot (ieq (ilen l) (ilen m))) : Bool) = (bnot (ieq (ilen l) (ilen m)))) ∧ ((Cont.ints l) = (Cont.ints l)) ∧ ((Cont.ints m) = (Cont.ints m)) ∧ True) ∧ (True)) ∧ (([GK.int, GK.bool] : List GK) = ([GK.int, GK.bool] : List GK)) ∧ I1 [GV.int (0 : Int), GV.bool false]) ∧ (∀ i1_0 : Int, ∀ b1_1 : Bool, I1 [GV.int i1_0, GV.bool b1_1] → ((true = true) ∧ ((True) ∧ (True) ∧ (True) ∧ (True) ∧ True) ∧ ((ilt i1_0 (ilen l)) = true → ((true = true) ∧ ((True) ∧ (True) ∧ (NLe 0 i1_0 ∧ NLt i1_0 (ilen l)) ∧ (True) ∧ (True) ∧ (True) ∧ (NLe 0 i1_0 ∧ NLt i1_0 (ilen m)) ∧ (True) ∧ (True) ∧ True) ∧ ((bnot (ieq (geti l i1_0) (geti m i1_0))) = true → ((true = true) ∧ ((True) ∧ True) ∧ ((false : Bool) = (eqI l m)) ∧ True)) ∧ ((bnot (ieq (geti l i1_0) (geti m i1_0))) = false → ((true = true) ∧ ((True) ∧ (True) ∧ (True) ∧ True) ∧ ((true = true) ∧ (((b1_1 : Bool) = b1_1) ∧ (((iadd i1_0 (1 : Int)) : Int) = (iadd i1_0 (1 : Int))) ∧ ((Cont.ints l) = (Cont.ints l)) ∧ (((ilen l) : Int) = (ilen l)) ∧ ((Cont.ints m) = (Cont.ints m)) ∧ (((ilen m) : Int) = (ilen m)) ∧ (((bnot (ieq (ilen l) (ilen m))) : Bool) = (bnot (ieq (ilen l) (ilen m)))) ∧ ((Cont.ints l) = (Cont.ints l)) ∧ ((Cont.ints m) = (Cont.ints m)) ∧ True) ∧ (True)) ∧ ((([GK.int, GK.bool] : List GK) = ([GK.int, GK.bool] : List GK)) ∧ I1 [GV.int (iadd i1_0 (1 : Int)), GV.bool b1_1] ∧ μ1 [GV.int (iadd i1_0 (1 : Int)), GV.bool b1_1] < μ1 [GV.int i1_0, GV.bool b1_1]))))) ∧ ((ilt i1_0 (ilen l)) = false → ((true = true) ∧ ((True) ∧ True) ∧ ((true : Bool) = (eqI l m)) ∧ True))))))) = ev sig_laws_eqIntS xs_laws_eqIntS Try.f32.ntmps (fun b => if b == 0 then [.v 5, .v 4] else []) (codeOf Try.f32) 0 (initS [.s (.view (.ints l)), .s (.view (.ints m))]) (retK Try.f32.results.toList [.s (.bool (eqI l m))]) := by kernel_rfl
set_option maxHeartbeats 400000 in
theorem F_laws_eqIntS : FunOK 32 g_laws_eqIntS := by
  refine fun_F (by kernel_rfl) Try.func32 rfl (by kernel_rfl) sig_laws_eqIntS_ok xs_laws_eqIntS_ok ?_
  intro avs sg h hn hl
  unfold g_laws_eqIntS at h
  split at h
  · rename_i l m
    injection h with h; subst h
    refine ⟨by kernel_rfl, fun b => if b == 0 then [.v 5, .v 4] else [], Eq.mp (V_laws_eqIntS l m) ?_⟩
    simp only [true_and, and_true, implies_true, and_self, forall_const, true_implies, lenA, lenL, SV.lenOK, Cont.lenOK] at hn hl ⊢
    have h0 := ilen_0 l
    simp only [ilt_t, ilt_f, ile_t, ile_f, ieq_t, ieq_f, bnot_e, band_e, bite_and, bite_or, NLt_e, NLe_e, NNe_e, NIs_e, imax_e, imin_e, irem_e, Bool.not_eq_true', Bool.not_eq_false', Bool.and_eq_true, Bool.or_eq_true, Bool.or_eq_false_iff, Bool.and_eq_false_iff, Cont.pts.injEq, Cont.ints.injEq, Cont.bools.injEq, Cont.ptss.injEq, Cont.intss.injEq, Cont.boolss.injEq, true_and, and_true, implies_true]
    unfold eqI
    refine ⟨fun h => by simp [h], fun h => ?_⟩
    refine ⟨fun | .int k :: _ => 0 ≤ k ∧ k ≤ ilen l ∧ ∀ j, 0 ≤ j → j < k → decide (geti l j = geti m j) = true | _ => False, fun | .int k :: _ => (ilen l - k).toNat | _ => 0, ?_, ?_⟩
    · exact ⟨Int.le_refl 0, h0, fun j h0 h1 => absurd h1 (by omega)⟩
    · rintro k _ ⟨hk0, hk1, hk⟩
      simp only [ilt_t, ilt_f, ile_t, ile_f, ieq_t, ieq_f, bnot_e, band_e, bite_and, bite_or, NLt_e, NLe_e, NNe_e, NIs_e, imax_e, imin_e, irem_e, Bool.not_eq_true', Bool.not_eq_false', Bool.and_eq_true, Bool.or_eq_true, Bool.or_eq_false_iff, Bool.and_eq_false_iff, Cont.pts.injEq, Cont.ints.injEq, Cont.bools.injEq, Cont.ptss.injEq, Cont.intss.injEq, Cont.boolss.injEq, true_and, and_true, implies_true]
      refine ⟨fun hc => ⟨⟨⟨hk0, hc⟩, hk0, by omega⟩, fun hv => ?_, fun hv => ?_⟩, fun hc => ?_⟩
      · rw [allN_no k hk0 hc (by simpa using hv)]; simp
      · rw [iadd_1 hk0 hc hl.1]
        exact ⟨⟨by omega, by omega, allN_up hk (by simpa using hv)⟩, by omega⟩
      · rw [allN_mk fun j h0 h1 => hk j h0 (by omega)]; simp [h]
  · cases h
def g_laws_eqArm : List AV → Option Sg
  | [.agg [.view (.ints a1), .view (.ints a2), .view (.ints a3)], .agg [.view (.ints b1), .view (.ints b2), .view (.ints b3)]] => some ⟨True, [.s (.bool (eqI a1 b1 && eqI a2 b2 && eqI a3 b3))]⟩
  | _ => none
def sig_laws_eqArm : FuncId → List AV → Option Sg := sigL [(32, g_laws_eqIntS)]
def xs_laws_eqArm : XS := ⟨xsigL [], ysigL []⟩
theorem sig_laws_eqArm_ok : SigOK sig_laws_eqArm := sigL_cons F_laws_eqIntS sigL_nil
theorem xs_laws_eqArm_ok : XSigOK xs_laws_eqArm := ⟨xsigL_nil, ysigL_nil⟩
theorem V_laws_eqArm (a1 : List Int) (a2 : List Int) (a3 : List Int) (b1 : List Int) (b2 : List Int) (b3 : List Int) : ((true = true) ∧ ((True) ∧ (True) ∧ (True) ∧ True) ∧ (true = true) ∧ ((True) ∧ (True) ∧ (True) ∧ (True) ∧ ((True)) ∧ (True) ∧ True) ∧ ((bnot (eqI a1 b1)) = true → ((true = true) ∧ ((True) ∧ True) ∧ ((false : Bool) = (eqI a1 b1 && eqI a2 b2 && eqI a3 b3)) ∧ True)) ∧ ((bnot (eqI a1 b1)) = false → ((true = true) ∧ ((True) ∧ (True) ∧ (True) ∧ (True) ∧ ((True)) ∧ (True) ∧ True) ∧ ((bnot (eqI a2 b2)) = true → ((true = true) ∧ ((True) ∧ True) ∧ ((false : Bool) = (eqI a1 b1 && eqI a2 b2 && eqI a3 b3)) ∧ True)) ∧ ((bnot (eqI a2 b2)) = false → ((true = true) ∧ ((True) ∧ (True) ∧ (True) ∧ (True) ∧ ((True)) ∧ (True) ∧ True) ∧ ((bnot (eqI a3 b3)) = true → ((true = true) ∧ ((True) ∧ True) ∧ ((false : Bool) = (eqI a1 b1 && eqI a2 b2 && eqI a3 b3)) ∧ True)) ∧ ((bnot (eqI a3 b3)) = false → ((true = true) ∧ ((True) ∧ True) ∧ ((true : Bool) = (eqI a1 b1 && eqI a2 b2 && eqI a3 b3)) ∧ True))))))) = ev sig_laws_eqArm xs_laws_eqArm Try.f33.ntmps (fun b => []) (codeOf Try.f33) 0 (initS [.agg [.view (.ints a1), .view (.ints a2), .view (.ints a3)], .agg [.view (.ints b1), .view (.ints b2), .view (.ints b3)]]) (retK Try.f33.results.toList [.s (.bool (eqI a1 b1 && eqI a2 b2 && eqI a3 b3))]) := by kernel_rfl
set_option maxHeartbeats 400000 in
theorem F_laws_eqArm : FunOK 33 g_laws_eqArm := by
  refine fun_F (by kernel_rfl) Try.func33 rfl (by kernel_rfl) sig_laws_eqArm_ok xs_laws_eqArm_ok ?_
  intro avs sg h hn hl
  unfold g_laws_eqArm at h
  split at h
  · rename_i a1 a2 a3 b1 b2 b3
    injection h with h; subst h
    refine ⟨by kernel_rfl, fun b => [], Eq.mp (V_laws_eqArm a1 a2 a3 b1 b2 b3) ?_⟩
    simp only [true_and, and_true, implies_true, and_self, forall_const, true_implies, lenA, lenL, SV.lenOK, Cont.lenOK] at hn hl ⊢
    simp only [ilt_t, ilt_f, ile_t, ile_f, ieq_t, ieq_f, bnot_e, band_e, bite_and, bite_or, NLt_e, NLe_e, NNe_e, NIs_e, imax_e, imin_e, irem_e, Bool.not_eq_true', Bool.not_eq_false', Bool.and_eq_true, Bool.or_eq_true, Bool.or_eq_false_iff, Bool.and_eq_false_iff, Cont.pts.injEq, Cont.ints.injEq, Cont.bools.injEq, Cont.ptss.injEq, Cont.intss.injEq, Cont.boolss.injEq, true_and, and_true, implies_true]
    cases eqI a1 b1 <;> cases eqI a2 b2 <;> cases eqI a3 b3 <;> simp
  · cases h
theorem getb_setb {l : List Bool} {i j : Int} {x : Bool} (h0 : 0 ≤ i) (h1 : i < ilen l) (h2 : 0 ≤ j) : getb (setb l i x) j = if j = i then x else getb l j := by
  unfold ilen at h1
  unfold getb setb
  by_cases h : j = i
  · subst h; simp [List.getD_eq_getElem?_getD, List.getElem?_set, show j.toNat < l.length by omega]
  · rw [if_neg h]; simp [List.getD_eq_getElem?_getD, List.getElem?_set, show ¬ i.toNat = j.toNat by omega]
theorem bools_ext {l m : List Bool} (h : ilen l = ilen m) (hx : ∀ j, 0 ≤ j → j < ilen l → getb l j = getb m j) : l = m := by
  unfold ilen at h hx
  refine List.ext_getElem (by omega) fun i h1 h2 => ?_
  have e1 := hx i (by omega) (by omega)
  simpa [getb, List.getD_eq_getElem?_getD, h1, h2] using e1
def eqBo (l m : List Bool) : Bool := decide (ilen l = ilen m) && allN (ilen l) fun j => getb l j == getb m j
theorem eqBo_same (l : List Bool) : eqBo l l = true := by
  unfold eqBo
  rw [allN_mk fun j _ _ => by simp]
  simp
def eqBB (l m : List (List Bool)) : Bool := decide (ilen l = ilen m) && allN (ilen l) fun j => eqBo (getl l j) (getl m j)
theorem eqBB_same (l : List (List Bool)) : eqBB l l = true := by
  unfold eqBB
  rw [allN_mk fun j _ _ => eqBo_same _]
  simp
theorem bxor_f {a b : Bool} : (bxor a b = false) = (a = b) := by cases a <;> cases b <;> simp [bxor]
theorem bxor_t {a b : Bool} : (bxor a b = true) = (a ≠ b) := by cases a <;> cases b <;> simp [bxor]
def mkdI (m : List Int) (k n : Int) : Prop := ∀ j, 0 ≤ j → j < n → geti m j = k + j
def heldIE (l : List Int) (k j : Int) : Bool := decide (geti l j = k + j)
def heldIF (l : List Int) (k : Int) : Int := if allN (ilen l) (heldIE l k) then k + ilen l else -1
theorem heldIF_e {l : List Int} {k : Int} (h : mkdI l k (ilen l)) : heldIF l k = k + ilen l := by
  unfold heldIF
  rw [if_pos (allN_mk fun j j0 j1 => by unfold heldIE; simp [h j j0 j1])]
def mkB (k : Int) : Bool := decide (k.tmod 3 = 0)
def mkdB (m : List Bool) (k n : Int) : Prop := ∀ j, 0 ≤ j → j < n → getb m j = mkB (k + j)
def heldBE (l : List Bool) (k j : Int) : Bool := decide (getb l j = mkB (k + j))
def heldBF (l : List Bool) (k : Int) : Int := if allN (ilen l) (heldBE l k) then k + ilen l else -1
theorem heldBF_e {l : List Bool} {k : Int} (h : mkdB l k (ilen l)) : heldBF l k = k + ilen l := by
  unfold heldBF
  rw [if_pos (allN_mk fun j j0 j1 => by unfold heldBE; simp [h j j0 j1])]
def s_laws_markIntS (l : List Int) (k : Int) : SgX := ⟨0 ≤ k ∧ k ≤ 10000000000000 ∧ ilen l ≤ 1000000000, [.ints, .int], (fun | [.ints m, .int q] => ilen m = ilen l ∧ mkdI m k (ilen l) ∧ q = k + ilen l | _ => False), (fun | [.ints m, .int q] => [.s (.int (q))] | _ => []), (fun | [.ints m, .int q] => .row 3 (.ints (m)) | _ => .box [])⟩
def g_laws_markIntS : Bx → List AV → Option SgX
  | .row 3 (.ints l), [.s (.int k)] => some (s_laws_markIntS l k)
  | _, _ => none
def sig_laws_markIntS : FuncId → List AV → Option Sg := sigL []
def xs_laws_markIntS : XS := ⟨xsigL [], ysigL []⟩
theorem sig_laws_markIntS_ok : SigOK sig_laws_markIntS := sigL_nil
theorem xs_laws_markIntS_ok : XSigOK xs_laws_markIntS := ⟨xsigL_nil, ysigL_nil⟩
def L_laws_markIntS_0 (l : List Int) (k : Int) (i1_1 : Int) (l1_2 : List Int) : Prop := ∃ m : List Int, ∃ q : Int, ((ilen m = ilen l ∧ mkdI m k (ilen l) ∧ q = k + ilen l) ∧ (((i1_1 : Int) = (q)) ∧ True) ∧ ((true = true) ∧ ((Cont.ints l1_2) = (Cont.ints (m)))))
theorem V_laws_markIntS (l : List Int) (k : Int) : ((true = true) ∧ ((True) ∧ True) ∧ (true = true) ∧ ((True) ∧ True) ∧ ∃ (I1 : List GV → Prop) (μ1 : List GV → Nat), (((true = true) ∧ (((k : Int) = k) ∧ (((0 : Int) : Int) = (0 : Int)) ∧ (((0 : Int) : Int) = (0 : Int)) ∧ (true = true) ∧ True) ∧ (((true = true) ∧ ((Cont.ints l) = (Cont.ints l))) ∧ True)) ∧ (([GK.int, GK.int, GK.ints] : List GK) = ([GK.int, GK.int, GK.ints] : List GK)) ∧ I1 [GV.int (0 : Int), GV.int k, GV.ints l]) ∧ (∀ i1_0 : Int, ∀ i1_1 : Int, ∀ l1_2 : List Int, I1 [GV.int i1_0, GV.int i1_1, GV.ints l1_2] → ((true = true) ∧ ((True) ∧ (True) ∧ (True) ∧ (True) ∧ True) ∧ ((ilt i1_0 (ilen l1_2)) = true → ((true = true) ∧ ((True) ∧ (True) ∧ (True) ∧ (NLe 0 i1_0 ∧ NLt i1_0 (ilen l1_2)) ∧ True) ∧ (NLt i1_0 (ilen l1_2)) ∧ (true = true) ∧ ((True) ∧ (True) ∧ (True) ∧ True) ∧ (true = true) ∧ ((True) ∧ (True) ∧ (True) ∧ True) ∧ ((true = true) ∧ ((((iadd i1_1 (1 : Int)) : Int) = (iadd i1_1 (1 : Int))) ∧ (((iadd i1_0 (1 : Int)) : Int) = (iadd i1_0 (1 : Int))) ∧ (((0 : Int) : Int) = (0 : Int)) ∧ (true = true) ∧ True) ∧ (((true = true) ∧ ((Cont.ints (seti l1_2 i1_0 i1_1)) = (Cont.ints (seti l1_2 i1_0 i1_1)))) ∧ True)) ∧ ((([GK.int, GK.int, GK.ints] : List GK) = ([GK.int, GK.int, GK.ints] : List GK)) ∧ I1 [GV.int (iadd i1_0 (1 : Int)), GV.int (iadd i1_1 (1 : Int)), GV.ints (seti l1_2 i1_0 i1_1)] ∧ μ1 [GV.int (iadd i1_0 (1 : Int)), GV.int (iadd i1_1 (1 : Int)), GV.ints (seti l1_2 i1_0 i1_1)] < μ1 [GV.int i1_0, GV.int i1_1, GV.ints l1_2]))) ∧ ((ilt i1_0 (ilen l1_2)) = false → ((true = true) ∧ ((True) ∧ (True) ∧ True) ∧ L_laws_markIntS_0 l k i1_1 l1_2))))) = (fun sg => ev sig_laws_markIntS xs_laws_markIntS Try.f35.ntmps (fun b => if b == 0 then [.v 5, .v 1, .b 0] else []) (codeOf Try.f35) 0 (initX (.row 3 (.ints l)) [.s (.int k)]) (retX Try.f35.results.toList sg.kinds sg.post sg.ret sg.out)) (s_laws_markIntS l k) := by kernel_rfl
set_option maxHeartbeats 400000 in
theorem F_laws_markIntS : FunX 35 g_laws_markIntS := by
  refine fun_X (by kernel_rfl) Try.func35 rfl (by kernel_rfl) sig_laws_markIntS_ok xs_laws_markIntS_ok ?_
  intro bx avs sg h hn hl hlb
  unfold g_laws_markIntS at h
  split at h
  · rename_i l k
    injection h with h; subst h
    refine ⟨by kernel_rfl, fun b => if b == 0 then [.v 5, .v 1, .b 0] else [], Eq.mp (V_laws_markIntS l k) ?_⟩
    simp only [true_and, and_true, implies_true, and_self, forall_const, true_implies, lenA, lenL, SV.lenOK, Cont.lenOK, lenB, s_laws_markIntS, L_laws_markIntS_0] at hn hl hlb ⊢
    have h0 := ilen_0 l
    obtain ⟨n1, n2, n3⟩ := hn
    simp only [ilt_t, ilt_f, ile_t, ile_f, ieq_t, ieq_f, bnot_e, band_e, bite_and, bite_or, NLt_e, NLe_e, NNe_e, NIs_e, imax_e, imin_e, irem_e, Bool.not_eq_true', Bool.not_eq_false', Bool.and_eq_true, Bool.or_eq_true, Bool.or_eq_false_iff, Bool.and_eq_false_iff, Cont.pts.injEq, Cont.ints.injEq, Cont.bools.injEq, Cont.ptss.injEq, Cont.intss.injEq, Cont.boolss.injEq, true_and, and_true, implies_true]
    refine ⟨fun | [.int i, .int k', .ints m] => 0 ≤ i ∧ i ≤ ilen l ∧ k' = k + i ∧ ilen m = ilen l ∧ ∀ j, 0 ≤ j → j < i → geti m j = k + j | _ => False, fun | .int i :: _ => (ilen l - i).toNat | _ => 0, ⟨Int.le_refl 0, h0, by omega, rfl, fun j h0 h1 => absurd h1 (by omega)⟩, ?_⟩
    rintro i k' m ⟨hi0, hi1, hk, hm, hmk⟩
    refine ⟨fun hc => ?_, fun hc => ⟨m, k', ⟨hm, fun j j0 j1 => hmk j j0 (by omega), by omega⟩, rfl, rfl⟩⟩
    have hi : i < ilen l := by omega
    rw [iadd_e (a := i) (by omega) (by omega), iadd_e (a := k') (by omega) (by omega)]
    refine ⟨⟨hi0, hc⟩, hc, ⟨by omega, by omega, by omega, by rw [ilen_seti]; exact hm, fun j j0 j1 => ?_⟩, by show (ilen l - (i + 1)).toNat < (ilen l - i).toNat; omega⟩
    rw [geti_seti hi0 hc j0]
    by_cases hj : j = i
    · rw [if_pos hj, hj, hk]; try (unfold mkB ieq; rfl)
    · rw [if_neg hj]; exact hmk j j0 (by omega)
  · cases h
def g_laws_heldIntS : List AV → Option Sg
  | [.s (.view (.ints l)), .s (.int k)] => some ⟨0 ≤ k ∧ k ≤ 10000000000000 ∧ ilen l ≤ 1000000000, [.s (.int (heldIF l k))]⟩
  | _ => none
def sig_laws_heldIntS : FuncId → List AV → Option Sg := sigL []
def xs_laws_heldIntS : XS := ⟨xsigL [], ysigL []⟩
theorem sig_laws_heldIntS_ok : SigOK sig_laws_heldIntS := sigL_nil
theorem xs_laws_heldIntS_ok : XSigOK xs_laws_heldIntS := ⟨xsigL_nil, ysigL_nil⟩
theorem V_laws_heldIntS (l : List Int) (k : Int) : ((true = true) ∧ ((True) ∧ True) ∧ (true = true) ∧ ((True) ∧ True) ∧ ∃ (I1 : List GV → Prop) (μ1 : List GV → Nat), (((true = true) ∧ (((k : Int) = k) ∧ (((0 : Int) : Int) = (0 : Int)) ∧ (((0 : Int) : Int) = (0 : Int)) ∧ ((Cont.ints l) = (Cont.ints l)) ∧ True) ∧ (True)) ∧ (([GK.int, GK.int, GK.int] : List GK) = ([GK.int, GK.int, GK.int] : List GK)) ∧ I1 [GV.int (0 : Int), GV.int (0 : Int), GV.int k]) ∧ (∀ i1_0 : Int, ∀ i1_1 : Int, ∀ i1_2 : Int, I1 [GV.int i1_0, GV.int i1_1, GV.int i1_2] → ((true = true) ∧ ((True) ∧ (True) ∧ (True) ∧ (True) ∧ True) ∧ ((ilt i1_0 (ilen l)) = true → ((true = true) ∧ ((True) ∧ (True) ∧ (NLe 0 i1_0 ∧ NLt i1_0 (ilen l)) ∧ (True) ∧ (True) ∧ (True) ∧ True) ∧ ((bnot (ieq (geti l i1_0) i1_2)) = true → ((true = true) ∧ ((True) ∧ True) ∧ (((-1 : Int) : Int) = (heldIF l k)) ∧ True)) ∧ ((bnot (ieq (geti l i1_0) i1_2)) = false → ((true = true) ∧ ((True) ∧ (True) ∧ (True) ∧ True) ∧ (true = true) ∧ ((True) ∧ (True) ∧ (True) ∧ True) ∧ ((true = true) ∧ ((((iadd i1_2 (1 : Int)) : Int) = (iadd i1_2 (1 : Int))) ∧ ((i1_1 : Int) = i1_1) ∧ (((iadd i1_0 (1 : Int)) : Int) = (iadd i1_0 (1 : Int))) ∧ ((Cont.ints l) = (Cont.ints l)) ∧ True) ∧ (True)) ∧ ((([GK.int, GK.int, GK.int] : List GK) = ([GK.int, GK.int, GK.int] : List GK)) ∧ I1 [GV.int (iadd i1_0 (1 : Int)), GV.int i1_1, GV.int (iadd i1_2 (1 : Int))] ∧ μ1 [GV.int (iadd i1_0 (1 : Int)), GV.int i1_1, GV.int (iadd i1_2 (1 : Int))] < μ1 [GV.int i1_0, GV.int i1_1, GV.int i1_2]))))) ∧ ((ilt i1_0 (ilen l)) = false → ((true = true) ∧ ((True) ∧ (True) ∧ True) ∧ ((i1_2 : Int) = (heldIF l k)) ∧ True))))) = ev sig_laws_heldIntS xs_laws_heldIntS Try.f36.ntmps (fun b => if b == 0 then [.v 5, .v 4, .v 1] else []) (codeOf Try.f36) 0 (initS [.s (.view (.ints l)), .s (.int k)]) (retK Try.f36.results.toList [.s (.int (heldIF l k))]) := by kernel_rfl
set_option maxHeartbeats 400000 in
theorem F_laws_heldIntS : FunOK 36 g_laws_heldIntS := by
  refine fun_F (by kernel_rfl) Try.func36 rfl (by kernel_rfl) sig_laws_heldIntS_ok xs_laws_heldIntS_ok ?_
  intro avs sg h hn hl
  unfold g_laws_heldIntS at h
  split at h
  · rename_i l k
    injection h with h; subst h
    refine ⟨by kernel_rfl, fun b => if b == 0 then [.v 5, .v 4, .v 1] else [], Eq.mp (V_laws_heldIntS l k) ?_⟩
    simp only [true_and, and_true, implies_true, and_self, forall_const, true_implies, lenA, lenL, SV.lenOK, Cont.lenOK] at hn hl ⊢
    have h0 := ilen_0 l
    obtain ⟨n1, n2, n3⟩ := hn
    simp only [ilt_t, ilt_f, ile_t, ile_f, ieq_t, ieq_f, bnot_e, band_e, bite_and, bite_or, NLt_e, NLe_e, NNe_e, NIs_e, imax_e, imin_e, irem_e, Bool.not_eq_true', Bool.not_eq_false', Bool.and_eq_true, Bool.or_eq_true, Bool.or_eq_false_iff, Bool.and_eq_false_iff, Cont.pts.injEq, Cont.ints.injEq, Cont.bools.injEq, Cont.ptss.injEq, Cont.intss.injEq, Cont.boolss.injEq, true_and, and_true, implies_true]
    refine ⟨fun | [.int i, .int _, .int k'] => 0 ≤ i ∧ i ≤ ilen l ∧ k' = k + i ∧ (∀ j, 0 ≤ j → j < i → heldIE l k j = true) | _ => False, fun | .int i :: _ => (ilen l - i).toNat | _ => 0, ⟨Int.le_refl 0, h0, by omega, fun j h0 h1 => absurd h1 (by omega)⟩, ?_⟩
    rintro i _ k' ⟨hi0, hi1, hk, hmk⟩
    refine ⟨fun hc => ⟨⟨hi0, hc⟩, fun hx => ?_, fun hx => ?_⟩, fun hc => ?_⟩
    · have hE : heldIE l k i = false := by unfold heldIE; rw [← hk]; simpa [mkB] using hx
      unfold heldIF; rw [allN_no i hi0 hc hE]; rfl
    · have hE : heldIE l k i = true := by unfold heldIE; rw [← hk]; simpa [mkB] using hx
      rw [iadd_1 hi0 hc hl, iadd_e (a := k') (by omega) (by omega)]
      exact ⟨⟨by omega, by omega, by omega, upTo hmk hE⟩, by show (ilen l - (i + 1)).toNat < (ilen l - i).toNat; omega⟩
    · unfold heldIF; rw [allN_mk fun j j0 j1 => hmk j j0 (by omega)]
      rw [if_pos rfl]; omega
  · cases h
def sig_laws_FnExactCellJoints : FuncId → List AV → Option Sg := sigL [(30, g_laws_toArm), (15, g_laws_toCell), (29, g_spec_CellJoints), (31, g_impl_CellJoints), (32, g_laws_eqIntS), (33, g_laws_eqArm), (36, g_laws_heldIntS)]
def xs_laws_FnExactCellJoints : XS := ⟨xsigL [(35, g_laws_markIntS)], ysigL [(28, g_laws_szArm)]⟩
theorem sig_laws_FnExactCellJoints_ok : SigOK sig_laws_FnExactCellJoints := sigL_cons F_laws_toArm (sigL_cons F_laws_toCell (sigL_cons F_spec_CellJoints (sigL_cons F_impl_CellJoints (sigL_cons F_laws_eqIntS (sigL_cons F_laws_eqArm (sigL_cons F_laws_heldIntS sigL_nil))))))
theorem xs_laws_FnExactCellJoints_ok : XSigOK xs_laws_FnExactCellJoints := ⟨xsigL_cons F_laws_markIntS xsigL_nil, ysigL_cons F_laws_szArm ysigL_nil⟩
theorem getl_setl {α : Type} {l : List (List α)} {i j : Int} {x : List α} (h0 : 0 ≤ i) (h1 : i < ilen l) (h2 : 0 ≤ j) : getl (setl l i x) j = if j = i then x else getl l j := by
  unfold ilen at h1
  unfold getl setl
  by_cases h : j = i
  · subst h; simp [List.getD_eq_getElem?_getD, List.getElem?_set, show j.toNat < l.length by omega]
  · rw [if_neg h]; simp [List.getD_eq_getElem?_getD, List.getElem?_set, show ¬ i.toNat = j.toNat by omega]
theorem lists_ext {α : Type} {l m : List (List α)} (h : ilen l = ilen m) (hx : ∀ j, 0 ≤ j → j < ilen l → getl l j = getl m j) : l = m := by
  unfold ilen at h hx
  refine List.ext_getElem (by omega) fun i h1 h2 => ?_
  have e1 := hx i (by omega) (by omega)
  simpa [getl, List.getD_eq_getElem?_getD, h1, h2] using e1
theorem getl_len {α : Type} {l : List (List α)} (h : ∀ m ∈ l, ilen m ≤ 9223372036854775807) {j : Int} (h0 : 0 ≤ j) (h1 : j < ilen l) : ilen (getl l j) ≤ 9223372036854775807 := by
  unfold ilen at h1
  unfold getl
  rw [List.getD_eq_getElem?_getD, List.getElem?_eq_getElem (by omega)]
  exact h _ (List.getElem_mem _)
theorem to_Int_b {w : World} {v : Value} {m : List Int} (hI : GInv w) (hv : Reads (fun _ => False) w v (.ints m)) (hm : ilen m ≤ 100000000) :
    Calls Try.prog 38 #[v] w fun e w' => ∃ r, e = .returned r ∧ w'.ownsRow w.heap.size 3 1 r m.length (fI m) ∧ Bel w w' := by
  refine (F_laws_toIntS [.s (.view (.ints m))] _ rfl hm (fun _ => False) #[v] w ⟨fun _ h => h.elim, hI⟩ ⟨hv, trivial⟩).2.mono ?_
  rintro e w' ⟨r, rfl, ⟨xs, h1, h2⟩, hb⟩
  have h2' : xs = fI m := h2
  subst h2'
  exact ⟨r, rfl, h1, hb⟩
/-- The boxes of a copied arm. -/
structure TaS (w : World) (x1 x2 x3 y1 y2 y3 : Value) (wq : World) : Prop where
  h0 : wq.heap[w.heap.size]? = some (.cells #[x1, x2, x3] 47 (0, 0))
  h1 : wq.heap[w.heap.size + 1]? = some (.cells #[.slice none 0 0, .slice none 0 0, .slice none 0 0] 50 (0, 0))
  h2 : wq.heap[w.heap.size + 1 + 1]? = some (.cells #[y1, y2, y3] 50 (0, 0))
  be : Bel w wq
theorem TaS.bel {w : World} {x1 x2 x3 y1 y2 y3 : Value} {wq wr : World} (h : TaS w x1 x2 x3 y1 y2 y3 wq) (hb : Bel wq wr) : TaS w x1 x2 x3 y1 y2 y3 wr :=
  ⟨(hb.block _ (heap_lt h.h0)).trans h.h0, (hb.block _ (heap_lt h.h1)).trans h.h1, (hb.block _ (heap_lt h.h2)).trans h.h2, h.be.trans hb⟩
theorem TaS.set {w : World} {x1 x2 x3 y1 y2 y3 z1 z2 z3 u : Value} {wq : World} {k : Nat} (h : TaS w x1 x2 x3 y1 y2 y3 wq) (hz : (#[y1, y2, y3] : Array Value).setIfInBounds k u = #[z1, z2, z3]) : TaS w x1 x2 x3 z1 z2 z3 (wq.setCell ⟨w.heap.size + 1 + 1, k, none⟩ u) :=
  ⟨(Below.heap_setCell wq ⟨w.heap.size + 1 + 1, k, none⟩ u w.heap.size (by simp; omega)).trans h.h0, (Below.heap_setCell wq ⟨w.heap.size + 1 + 1, k, none⟩ u (w.heap.size + 1) (by simp)).trans h.h1,
   by rw [heap_setCell_same wq (w.heap.size + 1 + 1) k _ 50 _ h.h2, hz], h.be.setCell (by simp; omega) _⟩
theorem TaS.cells {w : World} {x1 x2 x3 y1 y2 y3 : Value} {wq : World} (h : TaS w x1 x2 x3 y1 y2 y3 wq) : wq.cell? ⟨w.heap.size, 0, none⟩ = some x1 ∧ wq.cell? ⟨w.heap.size, 1, none⟩ = some x2 ∧ wq.cell? ⟨w.heap.size, 2, none⟩ = some x3 ∧ wq.cell? ⟨w.heap.size + 1 + 1, 0, none⟩ = some y1 ∧ wq.cell? ⟨w.heap.size + 1 + 1, 1, none⟩ = some y2 ∧ wq.cell? ⟨w.heap.size + 1 + 1, 2, none⟩ = some y3 :=
  ⟨cell_of_row wq _ 0 _ _ _ h.h0, cell_of_row wq _ 1 _ _ _ h.h0, cell_of_row wq _ 2 _ _ _ h.h0, cell_of_row wq _ 0 _ _ _ h.h2, cell_of_row wq _ 1 _ _ _ h.h2, cell_of_row wq _ 2 _ _ _ h.h2⟩
theorem TaS.open_ {w : World} {x1 x2 x3 y1 y2 y3 : Value} {wq : World} (h : TaS w x1 x2 x3 y1 y2 y3 wq) (k : Nat) : wq.frozen? ⟨w.heap.size + 1 + 1, k, none⟩ = false := by
  have := h.h2
  simp [World.frozen?, this]
theorem TaS.open1 {w : World} {x1 x2 x3 y1 y2 y3 : Value} {wq : World} (h : TaS w x1 x2 x3 y1 y2 y3 wq) (k : Nat) : wq.frozen? ⟨w.heap.size + 1, k, none⟩ = false := by
  have := h.h1
  simp [World.frozen?, this]
set_option maxHeartbeats 1000000 in
theorem toArm_own {w : World} {x1 x2 x3 : Value} {a1 a2 a3 : List Int} (hI : GInv w) (h1 : Reads (fun _ => False) w x1 (.ints a1)) (h2 : Reads (fun _ => False) w x2 (.ints a2)) (h3 : Reads (fun _ => False) w x3 (.ints a3)) (n1 : ilen a1 ≤ 100000000) (n2 : ilen a2 ≤ 100000000) (n3 : ilen a3 ≤ 100000000) :
    Calls Try.prog 30 #[.agg #[x1, x2, x3]] w fun e w' => ∃ r1 r2 r3, e = .returned (.agg #[r1, r2, r3]) ∧ Arm3 w.heap.size w' r1 r2 r3 a1 a2 a3 ∧ Bel w w' := by
  have f1 : ∃ A c, x1 = .slice A a1.length c := by obtain ⟨_, ⟨A, c, e, _⟩, _⟩ := h1; exact ⟨A, c, e⟩
  have f2 : ∃ A c, x2 = .slice A a2.length c := by obtain ⟨_, ⟨A, c, e, _⟩, _⟩ := h2; exact ⟨A, c, e⟩
  have f3 : ∃ A c, x3 = .slice A a3.length c := by obtain ⟨_, ⟨A, c, e, _⟩, _⟩ := h3; exact ⟨A, c, e⟩
  obtain ⟨B1, d1, rfl⟩ := f1
  obtain ⟨B2, d2, rfl⟩ := f2
  obtain ⟨B3, d3, rfl⟩ := f3
  have HC1 := Lib.hid (fun (wq : World) (hq : Bel w wq) => to_Int_b (ginv_bel0 hI hq) (reads_old h1 hq) n1)
  have HC2 := Lib.hid (fun (wq : World) (hq : Bel w wq) => to_Int_b (ginv_bel0 hI hq) (reads_old h2 hq) n2)
  have HC3 := Lib.hid (fun (wq : World) (hq : Bel w wq) => to_Int_b (ginv_bel0 hI hq) (reads_old h3 hq) n3)
  have hT0 : TaS w (.slice B1 a1.length d1) (.slice B2 a2.length d2) (.slice B3 a3.length d3) (.slice none 0 0) (.slice none 0 0) (.slice none 0 0) (((w.alloc (.cells #[.slice B1 a1.length d1, .slice B2 a2.length d2, .slice B3 a3.length d3] 47)).alloc (.cells #[.slice none 0 0, .slice none 0 0, .slice none 0 0] 50)).alloc (.cells #[.slice none 0 0, .slice none 0 0, .slice none 0 0] 50)) := by
    refine ⟨?_, ?_, ?_, (((Bel.refl w).alloc _).alloc _).alloc _⟩
    · rw [heap_alloc_old _ _ (by simp; omega), heap_alloc_old _ _ (by simp)]; exact heap_alloc_new w _
    · rw [heap_alloc_old _ _ (by simp)]
      have := heap_alloc_new (w.alloc (.cells #[.slice B1 a1.length d1, .slice B2 a2.length d2, .slice B3 a3.length d3] 47)) (.cells #[.slice none 0 0, .slice none 0 0, .slice none 0 0] 50)
      simpa using this
    · have := heap_alloc_new ((w.alloc (.cells #[.slice B1 a1.length d1, .slice B2 a2.length d2, .slice B3 a3.length d3] 47)).alloc (.cells #[.slice none 0 0, .slice none 0 0, .slice none 0 0] 50)) (.cells #[.slice none 0 0, .slice none 0 0, .slice none 0 0] 50)
      simpa using this
  have HT0 := Lib.hid hT0
  clear h1 h2 h3 hT0
  go_enter Try.func30, Try.ntmps30
  go_wp2_with (go_at_call 38; first
    | (refine (HC3.out _ HS2.out.be).mono ?_; rintro e w3 ⟨r3, rfl, o3, b3⟩; obtain ⟨A3, c3, rfl⟩ := own_form o3; have hT3 := HS2.out.bel b3; obtain ⟨e30, e31, e32, e33, e34, e35⟩ := hT3.cells; have e36 := hT3.open_ 2; have HS3 := Lib.hid (hT3.set (k := 2) (u := .slice A3 a3.length c3) rfl); clear hT3; have hz := HS3.out; obtain ⟨z30, z31, z32, z33, z34, z35⟩ := hz.cells; have z36 := cell_of_row _ _ 0 _ _ _ hz.h1; have z37 := cell_of_row _ _ 1 _ _ _ hz.h1; have z38 := cell_of_row _ _ 2 _ _ _ hz.h1; have z39 := hz.open1 0; have z3a := hz.open1 1; have z3b := hz.open1 2; clear hz; have P3 := Lib.hid o3; have G3 := Lib.hid b3; clear o3 b3)
    | (refine (HC2.out _ HS1.out.be).mono ?_; rintro e w2 ⟨r2, rfl, o2, b2⟩; obtain ⟨A2, c2, rfl⟩ := own_form o2; have hT2 := HS1.out.bel b2; obtain ⟨e20, e21, e22, e23, e24, e25⟩ := hT2.cells; have e26 := hT2.open_ 1; have HS2 := Lib.hid (hT2.set (k := 1) (u := .slice A2 a2.length c2) rfl); clear hT2; obtain ⟨z20, z21, z22, z23, z24, z25⟩ := HS2.out.cells; have P2 := Lib.hid o2; have G2 := Lib.hid b2; clear o2 b2)
    | (refine (HC1.out _ HT0.out.be).mono ?_; rintro e w1 ⟨r1, rfl, o1, b1⟩; obtain ⟨A1, c1, rfl⟩ := own_form o1; have hT1 := HT0.out.bel b1; obtain ⟨e10, e11, e12, e13, e14, e15⟩ := hT1.cells; have e16 := hT1.open_ 0; have HS1 := Lib.hid (hT1.set (k := 0) (u := .slice A1 a1.length c1) rfl); clear hT1; obtain ⟨z10, z11, z12, z13, z14, z15⟩ := HS1.out.cells; have P1 := Lib.hid o1; have G1 := Lib.hid b1; clear o1 b1))
  clear z30 z31 z32 z33 z34 z35 z36 z37 z38 z39 z3a z3b z20 z21 z22 z23 z24 z25 z10 z11 z12 z13 z14 z15 e10 e11 e12 e13 e14 e15 e16 e20 e21 e22 e23 e24 e25 e26 e30 e31 e32 e33 e34 e35 e36
  have s0 := heap_setCell_same _ (w.heap.size + 1) 0 _ 50 (.slice A1 a1.length c1) HS3.out.h1
  have s1 := heap_setCell_same _ (w.heap.size + 1) 1 _ 50 (.slice A2 a2.length c2) s0
  have s2 := heap_setCell_same _ (w.heap.size + 1) 2 _ 50 (.slice A3 a3.length c3) s1
  have hbe : Bel w ((((w3.setCell ⟨w.heap.size + 1 + 1, 2, none⟩ (.slice A3 a3.length c3)).setCell ⟨w.heap.size + 1, 0, none⟩ (.slice A1 a1.length c1)).setCell ⟨w.heap.size + 1, 1, none⟩ (.slice A2 a2.length c2)).setCell ⟨w.heap.size + 1, 2, none⟩ (.slice A3 a3.length c3)) := ((HS3.out.be.setCell (by simp) _).setCell (by simp) _).setCell (by simp) _
  have q1 : ∀ b, Value.ownBlock (.slice A1 a1.length c1) = some b → w.heap.size + 3 ≤ b ∧ b < w1.heap.size := fun b hb => by have := P1.out.lt b hb; simp at this; omega
  have g2 := G2.out.size
  have g3 := G3.out.size
  rw [set_size] at g2 g3
  have hs1 : w.heap.size + 3 ≤ w1.heap.size := by have := G1.out.size; simp at this; omega
  have q2 : ∀ b, Value.ownBlock (.slice A2 a2.length c2) = some b → w1.heap.size ≤ b ∧ b < w2.heap.size := fun b hb => by have := P2.out.lt b hb; rw [set_size] at this; omega
  have q3 : ∀ b, Value.ownBlock (.slice A3 a3.length c3) = some b → w2.heap.size ≤ b ∧ b < w3.heap.size := fun b hb => by have := P3.out.lt b hb; rw [set_size] at this; omega
  have fin : ∀ {v : Value} {a : List Int}, (w3.setCell ⟨w.heap.size + 1 + 1, 2, none⟩ (.slice A3 a3.length c3)).ownsRow w.heap.size 3 1 v a.length (fI a) → (∀ b, v.ownBlock = some b → w.heap.size + 3 ≤ b) →
      ((((w3.setCell ⟨w.heap.size + 1 + 1, 2, none⟩ (.slice A3 a3.length c3)).setCell ⟨w.heap.size + 1, 0, none⟩ (.slice A1 a1.length c1)).setCell ⟨w.heap.size + 1, 1, none⟩ (.slice A2 a2.length c2)).setCell ⟨w.heap.size + 1, 2, none⟩ (.slice A3 a3.length c3)).ownsRow w.heap.size 3 1 v a.length (fI a) := fun h hv =>
    own_set (own_set (own_set h fun b hb => by have := hv b hb; omega) fun b hb => by have := hv b hb; omega) fun b hb => by have := hv b hb; omega
  have r1 := fin (own_set (own_bel (own_set (own_bel (own_set (own_base P1.out (by simp; omega)) fun b hb => by have := q1 b hb; omega) G2.out) fun b hb => by have := q1 b hb; omega) G3.out) fun b hb => by have := q1 b hb; omega) (fun b hb => (q1 b hb).1)
  have r2 := fin (own_set (own_bel (own_set (own_base P2.out (by rw [set_size]; omega)) fun b hb => by have := q2 b hb; omega) G3.out) fun b hb => by have := q2 b hb; omega) (fun b hb => by have := q2 b hb; omega)
  have r3 := fin (own_set (own_base P3.out (by rw [set_size]; omega)) fun b hb => by have := q3 b hb; omega) (fun b hb => by have := q3 b hb; omega)
  generalize ((((w3.setCell ⟨w.heap.size + 1 + 1, 2, none⟩ (.slice A3 a3.length c3)).setCell ⟨w.heap.size + 1, 0, none⟩ (.slice A1 a1.length c1)).setCell ⟨w.heap.size + 1, 1, none⟩ (.slice A2 a2.length c2)).setCell ⟨w.heap.size + 1, 2, none⟩ (.slice A3 a3.length c3)) = Wf at s2 hbe r1 r2 r3 ⊢
  have e0 : Wf.cell? ⟨w.heap.size + 1, 0, none⟩ = some (.slice A1 a1.length c1) := cell_of_row _ _ 0 _ _ _ s2
  have e1 : Wf.cell? ⟨w.heap.size + 1, 1, none⟩ = some (.slice A2 a2.length c2) := cell_of_row _ _ 1 _ _ _ s2
  have e2 : Wf.cell? ⟨w.heap.size + 1, 2, none⟩ = some (.slice A3 a3.length c3) := cell_of_row _ _ 2 _ _ _ s2
  exact bodyPost_ret (v := .agg #[.slice A1 a1.length c1, .slice A2 a2.length c2, .slice A3 a3.length c3]) (by simp [results, Try.results30, go_sem, e0, e1, e2]) rfl ⟨_, _, _, rfl, ⟨r1, r2, r3, fun b hb hv => by have := q1 b hb; have := q2 b hv; omega, fun b hb hv => by have := q1 b hb; have := q3 b hv; omega, fun b hb hv => by have := q2 b hb; have := q3 b hv; omega⟩, hbe⟩
theorem mark_Int_b {w : World} {base : Nat} {v : Value} {m : List Int} {k : Int} (hI : GInv w) (hng : NG ≤ base) (ho : w.ownsRow base 3 1 v m.length (fI m)) (k0 : 0 ≤ k) (k1 : k ≤ 10000000000000) (hm : ilen m ≤ 1000000000) :
    Calls Try.prog 35 #[v, .int .i64 k] w fun e w' => ∃ m', e = .returned (.int .i64 (k + 1 * ilen m)) ∧ ilen m' = ilen m ∧ mkdI m' k (ilen m') ∧ w'.ownsRow base 3 1 v m'.length (fI m') ∧ w.grownBy w' v.ownBlock := by
  have hbk : ∀ b, blk v = some b ↔ v.ownBlock = some b := fun b => by
    rcases ho.2 with ⟨rfl, _⟩ | ⟨g, cap, cur, rfl, _⟩
    · simp [blk, Value.ownBlock]
    · simp [blk, Value.ownBlock]
  have hob : blk v = v.ownBlock := by
    rcases ho.2 with ⟨rfl, _⟩ | ⟨g, cap, cur, rfl, _⟩ <;> rfl
  refine (F_laws_markIntS (.row 3 (.ints m)) [.s (.int k)] _ rfl ⟨k0, by omega, hm⟩ (fun b => v.ownBlock = some b) v [.int .i64 k] w ⟨fun b hb => ⟨Nat.le_trans hng (ho.lt b hb).1, (ho.lt b hb).2⟩, hI⟩ (fun b hb => (hbk b).1 hb) ⟨_, own_base ho (Nat.zero_le _), rfl⟩ ⟨rfl, trivial⟩).2.mono ?_
  rintro e w' ⟨r, gs, rfl, hk, hp, hr, ho', _, hgr⟩
  match gs, hk, hp, hr, ho' with
  | [.ints m', .int q], _, ⟨p1, p2, p3⟩, hr, ⟨xs, o1, o2⟩ =>
    have hr' : r = .int .i64 q := hr
    have o2' : xs = fI m' := o2
    subst o2' p3
    rw [hob] at hgr
    exact ⟨m', by rw [hr']; first | rfl | simp, p1, by rw [p1]; exact p2, own_rebase o1 (fun b hb => (ho.lt b hb).1), hgr⟩
set_option maxHeartbeats 1000000 in
theorem markArm_own {w : World} {base : Nat} {v1 v2 v3 : Value} {a1 a2 a3 : List Int} {k : Int} (hI : GInv w) (hng : NG ≤ base) (h : Arm3 base w v1 v2 v3 a1 a2 a3) (k0 : 0 ≤ k) (k1 : k ≤ 1000000) (n1 : ilen a1 ≤ 1048576) (n2 : ilen a2 ≤ 1048576) (n3 : ilen a3 ≤ 1048576) :
    Calls Try.prog 34 #[.agg #[v1, v2, v3], .int .i64 k] w fun e w' => ∃ k', e = .returned (.int .i64 k') ∧ (k ≤ k' ∧ k' ≤ k + 3145728) ∧ Mch [v1, v2, v3] w w' := by
  obtain ⟨h1, h2, h3, d12, d13, d23⟩ := h
  have p1 := ilen_0 a1
  have p2 := ilen_0 a2
  have p3 := ilen_0 a3
  obtain ⟨A1, c1, rfl⟩ := own_form h1
  obtain ⟨A2, c2, rfl⟩ := own_form h2
  obtain ⟨A3, c3, rfl⟩ := own_form h3
  obtain ⟨W, hW⟩ : ∃ W, W = w.alloc (.cells #[.slice A1 a1.length c1, .slice A2 a2.length c2, .slice A3 a3.length c3] 50) := ⟨_, rfl⟩
  have hbW : Bel w W := by rw [hW]; exact (Bel.refl w).alloc _
  have hIW := ginv_bel0 hI hbW
  have hgW : W.heap[w.heap.size]? = some (.cells #[.slice A1 a1.length c1, .slice A2 a2.length c2, .slice A3 a3.length c3] 50 (0, 0)) := by rw [hW]; exact heap_alloc_new w _
  have o1 := own_bel h1 hbW
  have o2 := own_bel h2 hbW
  have o3 := own_bel h3 hbW
  have l1 := fun b hb => (h1.lt b hb).2
  have l2 := fun b hb => (h2.lt b hb).2
  have l3 := fun b hb => (h3.lt b hb).2
  have HC1 := Lib.hid (mark_Int_b (k := k) hIW hng o1 k0 (by omega) (by omega))
  have HC2 := Lib.hid (fun (wa : World) (hg : W.grownBy wa (Value.ownBlock (.slice A1 a1.length c1))) (q : Int) (q0 : 0 ≤ q) (q1 : q ≤ 10000000000000) => mark_Int_b (k := q) (GInv.keep hIW hg (fun b e => Nat.le_trans hng (h1.lt b e).1)) hng (o2.kept hg (none_or fun b hb hv => d12 b hb hv)) q0 q1 (by omega))
  have HC3 := Lib.hid (fun (wa wb : World) (hg : W.grownBy wa (Value.ownBlock (.slice A1 a1.length c1))) (hg2 : wa.grownBy wb (Value.ownBlock (.slice A2 a2.length c2))) (q : Int) (q0 : 0 ≤ q) (q1 : q ≤ 10000000000000) => mark_Int_b (k := q) (GInv.keep (GInv.keep hIW hg (fun b e => Nat.le_trans hng (h1.lt b e).1)) hg2 (fun b e => Nat.le_trans hng (h2.lt b e).1)) hng ((o3.kept hg (none_or fun b hb hv => d13 b hb hv)).kept hg2 (none_or fun b hb hv => d23 b hb hv)) q0 q1 (by omega))
  have HB1 := Lib.hid (fun (wa : World) (hg : W.grownBy wa (Value.ownBlock (.slice A1 a1.length c1))) => (hg.block w.heap.size (heap_lt hgW) (fun e => by have := l1 _ e.symm; omega)).trans hgW)
  have HB2 := Lib.hid (fun (wa wb : World) (hg : W.grownBy wa (Value.ownBlock (.slice A1 a1.length c1))) (hg2 : wa.grownBy wb (Value.ownBlock (.slice A2 a2.length c2))) => (hg2.block w.heap.size (Nat.lt_of_lt_of_le (heap_lt hgW) hg.size) (fun e => by have := l2 _ e.symm; omega)).trans ((hg.block w.heap.size (heap_lt hgW) (fun e => by have := l1 _ e.symm; omega)).trans hgW))
  have HM := Lib.hid (fun (wa wb wc : World) (hg : W.grownBy wa (Value.ownBlock (.slice A1 a1.length c1))) (hg2 : wa.grownBy wb (Value.ownBlock (.slice A2 a2.length c2))) (hg3 : wb.grownBy wc (Value.ownBlock (.slice A3 a3.length c3))) => (((((Mch.refl [Value.slice A1 a1.length c1, .slice A2 a2.length c2, .slice A3 a3.length c3] w).grown (bel_grown hbW)).step (i := 0) rfl hg).step (i := 1) rfl hg2).step (i := 2) rfl hg3))
  clear h1 h2 h3 o1 o2 o3 d12 d13 d23 l1 l2 l3 hbW hIW hgW
  subst hW
  go_enter Try.func34, Try.ntmps34
  go_wp2_with (go_at_call 35; first
    | (refine (HC3.out _ _ g1 g2 _ (by omega) (by omega)).mono ?_; rintro e w3 ⟨m3, rfl, -, -, -, g3⟩; have hmm := HM.out _ _ _ g1 g2 g3)
    | (refine (HC2.out _ g1 _ (by omega) (by omega)).mono ?_; rintro e w2 ⟨m2, rfl, -, -, -, g2⟩; have b2 := HB2.out _ _ g1 g2; have cc2 := cell_of_row w2 w.heap.size 2 _ _ _ b2; clear b2)
    | (refine HC1.out.mono ?_; rintro e w1 ⟨m1, rfl, -, -, -, g1⟩; have b1 := HB1.out _ g1; have cc1 := cell_of_row w1 w.heap.size 1 _ _ _ b1; clear b1))
  go_ret
  exact ⟨_, rfl, by constructor <;> omega, hmm⟩
theorem VA_laws_FnExactCellJoints (a1 : List Int) (a2 : List Int) (a3 : List Int) (s : Int) (c1 : Int) (c2 : Int) : ((true = true) ∧ ((True) ∧ (True) ∧ (True) ∧ True) ∧ (true = true) ∧ ((True) ∧ True) ∧ (true = true) ∧ ((True) ∧ (True) ∧ True) ∧ (true = true) ∧ ((0 ≤ (1048576 : Int) ∧ (1048576 : Int) ≤ 1048576)) ∧ (∀ k_1 : Int, ((k_1 < 0 ∨ (0 ≤ k_1 ∧ k_1 ≤ (1048576 : Int) ∧ ilen a1 ≤ (1048576 : Int) ∧ ilen a2 ≤ (1048576 : Int) ∧ ilen a3 ≤ (1048576 : Int))) → ((True) ∧ (true = true) ∧ ((True) ∧ (True) ∧ True) ∧ ((ilt (k_1) (0 : Int)) = true → ((true = true) ∧ ((True) ∧ True) ∧ ((true : Bool) = true) ∧ True)) ∧ ((ilt (k_1) (0 : Int)) = false → ((true = true) ∧ ((True) ∧ ((ilen a1 ≤ 100000000 ∧ ilen a2 ≤ 100000000 ∧ ilen a3 ≤ 100000000)) ∧ (True) ∧ (True) ∧ ((True)) ∧ ((True)) ∧ (True) ∧ True) ∧ (ilen a1 ≤ 1048576 ∧ ilen a2 ≤ 1048576 ∧ ilen a3 ≤ 1048576) ∧ ((true = true) ∧ ((Cont.ints a1) = (Cont.ints a1)) ∧ ((Cont.ints a2) = (Cont.ints a2)) ∧ ((Cont.ints a3) = (Cont.ints a3)) ∧ True) ∧ ((true = true) ∧ ((c1 : Int) = c1) ∧ ((c2 : Int) = c2) ∧ True) ∧ (((true = true) ∧ ((Cont.ints (cjL (a1) (a2) (a3) s (c1) (c2))) = (Cont.ints (cjL a1 a2 a3 s c1 c2))))) ∧ True)))))) = ev sig_laws_FnExactCellJoints xs_laws_FnExactCellJoints Try.f7.ntmps (fun b => []) (takeS 4 (dropS 0 (codeOf Try.f7))) 0 (initS [.agg [.view (.ints a1), .view (.ints a2), .view (.ints a3)], .s (.int s), .agg [.int c1, .int c2]]) (fragK (ilen a1 ≤ 1048576 ∧ ilen a2 ≤ 1048576 ∧ ilen a3 ≤ 1048576) [(3, .bx [.view (.ints a1), .view (.ints a2), .view (.ints a3)]), (5, .bx [.int c1, .int c2]), (8, .rv (.s (.view (.ints (cjL a1 a2 a3 s c1 c2)))))] Try.f7.results.toList [.s (.bool true)]) := by kernel_rfl
set_option maxHeartbeats 1000000 in
theorem PA_laws_FnExactCellJoints (a1 : List Int) (a2 : List Int) (a3 : List Int) (s : Int) (c1 : Int) (c2 : Int)  : ev sig_laws_FnExactCellJoints xs_laws_FnExactCellJoints Try.f7.ntmps (fun b => []) (takeS 4 (dropS 0 (codeOf Try.f7))) 0 (initS [.agg [.view (.ints a1), .view (.ints a2), .view (.ints a3)], .s (.int s), .agg [.int c1, .int c2]]) (fragK (ilen a1 ≤ 1048576 ∧ ilen a2 ≤ 1048576 ∧ ilen a3 ≤ 1048576) [(3, .bx [.view (.ints a1), .view (.ints a2), .view (.ints a3)]), (5, .bx [.int c1, .int c2]), (8, .rv (.s (.view (.ints (cjL a1 a2 a3 s c1 c2)))))] Try.f7.results.toList [.s (.bool true)]) := by
  refine Eq.mp (VA_laws_FnExactCellJoints a1 a2 a3 s c1 c2) ?_
  simp only [true_and, and_true, implies_true, and_self, forall_const, true_implies, lenA, lenL, SV.lenOK, Cont.lenOK]
  simp only [ilt_t, ilt_f, ile_t, ile_f, ieq_t, ieq_f, bnot_e, band_e, bite_and, bite_or, NLt_e, NLe_e, NNe_e, NIs_e, imax_e, imin_e, irem_e, Bool.not_eq_true', Bool.not_eq_false', Bool.and_eq_true, Bool.or_eq_true, Bool.or_eq_false_iff, Bool.and_eq_false_iff, Cont.pts.injEq, Cont.ints.injEq, Cont.bools.injEq, Cont.ptss.injEq, Cont.intss.injEq, Cont.boolss.injEq, true_and, and_true, implies_true]
  refine ⟨by omega, fun k hk h0 => ?_⟩
  rcases hk with hk | ⟨k0, k1, k2, k3, k4⟩
  · omega
  · exact ⟨⟨by omega, by omega, by omega⟩, by omega, by omega, by omega⟩
theorem VB_laws_FnExactCellJoints (a1 : List Int) (a2 : List Int) (a3 : List Int) (s : Int) (c1 : Int) (c2 : Int) : ((true = true) ∧ ((True) ∧ (True) ∧ (True) ∧ ((True)) ∧ ((True)) ∧ (True) ∧ True) ∧ (true = true) ∧ ((True) ∧ (True) ∧ ((True)) ∧ (True) ∧ True) ∧ ((bnot (eqI (cjL a1 a2 a3 s ((getx [(c1, c2)] (0 : Int))) ((gety [(c1, c2)] (0 : Int)))) (cjL a1 a2 a3 s c1 c2))) = true → ((true = true) ∧ ((True) ∧ True) ∧ ((false : Bool) = true) ∧ True)) ∧ ((bnot (eqI (cjL a1 a2 a3 s ((getx [(c1, c2)] (0 : Int))) ((gety [(c1, c2)] (0 : Int)))) (cjL a1 a2 a3 s c1 c2))) = false → ((true = true) ∧ ((True) ∧ (True) ∧ ((ilen a1 ≤ 100000000 ∧ ilen a2 ≤ 100000000 ∧ ilen a3 ≤ 100000000)) ∧ ((True)) ∧ (True) ∧ True) ∧ ((bnot (eqI a1 (a1) && eqI a2 (a2) && eqI a3 (a3))) = true → ((true = true) ∧ ((True) ∧ True) ∧ ((false : Bool) = true) ∧ True)) ∧ ((bnot (eqI a1 (a1) && eqI a2 (a2) && eqI a3 (a3))) = false → ((true = true) ∧ ((True) ∧ True) ∧ (True) ∧ (((true = true) ∧ ((Cont.ints (cjL a1 a2 a3 s ((getx [(c1, c2)] (0 : Int))) ((gety [(c1, c2)] (0 : Int))))) = (Cont.ints (cjL a1 a2 a3 s c1 c2))))) ∧ ((((1 : Int) : Int) = 1)) ∧ True))))) = ev sig_laws_FnExactCellJoints xs_laws_FnExactCellJoints Try.f7.ntmps (fun b => []) (takeS 3 (dropS 6 (codeOf Try.f7))) 0 (⟨[(1, .s (.int s)), (3, .s (.vptr (.intss [a1, a2, a3]) (0 : Int) 0)), (5, .s (.vptr (.pts [(c1, c2)]) (0 : Int) 0)), (8, .s (.view (.ints (cjL a1 a2 a3 s c1 c2)))), (9, .s (.vptr (.intss [a1, a2, a3]) (0 : Int) 0))], [], 1⟩) (fragK (True) [(10, .rv (.nrow 3 (.ints (cjL a1 a2 a3 s c1 c2)))), (11, .rv (.s (.int 1)))] Try.f7.results.toList [.s (.bool true)]) := by kernel_rfl
set_option maxHeartbeats 1000000 in
theorem PB_laws_FnExactCellJoints (a1 : List Int) (a2 : List Int) (a3 : List Int) (s : Int) (c1 : Int) (c2 : Int) (hl : ilen a1 ≤ 1048576 ∧ ilen a2 ≤ 1048576 ∧ ilen a3 ≤ 1048576) : ev sig_laws_FnExactCellJoints xs_laws_FnExactCellJoints Try.f7.ntmps (fun b => []) (takeS 3 (dropS 6 (codeOf Try.f7))) 0 (⟨[(1, .s (.int s)), (3, .s (.vptr (.intss [a1, a2, a3]) (0 : Int) 0)), (5, .s (.vptr (.pts [(c1, c2)]) (0 : Int) 0)), (8, .s (.view (.ints (cjL a1 a2 a3 s c1 c2)))), (9, .s (.vptr (.intss [a1, a2, a3]) (0 : Int) 0))], [], 1⟩) (fragK (True) [(10, .rv (.nrow 3 (.ints (cjL a1 a2 a3 s c1 c2)))), (11, .rv (.s (.int 1)))] Try.f7.results.toList [.s (.bool true)]) := by
  refine Eq.mp (VB_laws_FnExactCellJoints a1 a2 a3 s c1 c2) ?_
  simp only [true_and, and_true, implies_true, and_self, forall_const, true_implies, lenA, lenL, SV.lenOK, Cont.lenOK]
  simp only [ilt_t, ilt_f, ile_t, ile_f, ieq_t, ieq_f, bnot_e, band_e, bite_and, bite_or, NLt_e, NLe_e, NNe_e, NIs_e, imax_e, imin_e, irem_e, Bool.not_eq_true', Bool.not_eq_false', Bool.and_eq_true, Bool.or_eq_true, Bool.or_eq_false_iff, Bool.and_eq_false_iff, Cont.pts.injEq, Cont.ints.injEq, Cont.bools.injEq, Cont.ptss.injEq, Cont.intss.injEq, Cont.boolss.injEq, true_and, and_true, implies_true, getx_one, gety_one, eqI_same]
  have hcl : ilen (cjL a1 a2 a3 s c1 c2) ≤ 2 := by unfold cjL; split <;> (unfold ilen; simp)
  exact ⟨fun h => by simp at h, fun _ => ⟨⟨by omega, by omega, by omega⟩, fun h => by simp at h⟩⟩
theorem VC_laws_FnExactCellJoints (a1 : List Int) (a2 : List Int) (a3 : List Int) (s : Int) (c1 : Int) (c2 : Int) (k : Int) : ((true = true) ∧ ((True) ∧ (True) ∧ (True) ∧ (NIs (ilt k (0 : Int)) false → True) ∧ (NIs (ilt k (0 : Int)) false → True) ∧ (NIs (ilt k (0 : Int)) false → (True)) ∧ (NIs (ilt k (0 : Int)) false → True) ∧ (True) ∧ True) ∧ ((bite (ilt k (0 : Int)) true (bnot (eqI (cjL a1 a2 a3 s c1 c2) (cjL a1 a2 a3 s c1 c2)))) = true → ((true = true) ∧ ((True) ∧ True) ∧ ((false : Bool) = true) ∧ True)) ∧ ((bite (ilt k (0 : Int)) true (bnot (eqI (cjL a1 a2 a3 s c1 c2) (cjL a1 a2 a3 s c1 c2)))) = false → ((true = true) ∧ ((True) ∧ True) ∧ (true = true) ∧ ((True) ∧ (True) ∧ True) ∧ (true = true) ∧ ((0 ≤ (1 : Int) ∧ (1 : Int) ≤ 10000000000000 ∧ ilen (cjL a1 a2 a3 s c1 c2) ≤ 1000000000)) ∧ (∀ m_2 : List Int, ∀ q_3 : Int, ((ilen m_2 = ilen (cjL a1 a2 a3 s c1 c2) ∧ mkdI m_2 (1 : Int) (ilen (cjL a1 a2 a3 s c1 c2)) ∧ q_3 = (1 : Int) + ilen (cjL a1 a2 a3 s c1 c2)) → ((True) ∧ (true = true) ∧ ((True) ∧ True) ∧ (true = true) ∧ ((True) ∧ (True) ∧ ((0 ≤ (1 : Int) ∧ (1 : Int) ≤ 10000000000000 ∧ ilen (m_2) ≤ 1000000000)) ∧ (True) ∧ True) ∧ (true = true) ∧ ((True) ∧ (True) ∧ True) ∧ ((ilt (heldIF (m_2) (1 : Int)) (0 : Int)) = true → ((true = true) ∧ ((True) ∧ True) ∧ ((false : Bool) = true) ∧ True)) ∧ ((ilt (heldIF (m_2) (1 : Int)) (0 : Int)) = false → ((true = true) ∧ ((True) ∧ (True) ∧ (True) ∧ True) ∧ ((bnot (ieq (heldIF (m_2) (1 : Int)) (q_3))) = true → ((true = true) ∧ ((True) ∧ True) ∧ ((false : Bool) = true) ∧ True)) ∧ ((bnot (ieq (heldIF (m_2) (1 : Int)) (q_3))) = false → ((true = true) ∧ ((True) ∧ ((ilen a1 ≤ 100000000 ∧ ilen a2 ≤ 100000000 ∧ ilen a3 ≤ 100000000)) ∧ (True) ∧ (True) ∧ ((True)) ∧ ((True)) ∧ (True) ∧ True) ∧ (true = true) ∧ ((True) ∧ (True) ∧ ((True)) ∧ (True) ∧ True) ∧ ((bnot (eqI (cjL (a1) (a2) (a3) s ((getx [(c1, c2)] (0 : Int))) ((gety [(c1, c2)] (0 : Int)))) (cjL a1 a2 a3 s c1 c2))) = true → ((true = true) ∧ ((True) ∧ True) ∧ ((false : Bool) = true) ∧ True)) ∧ ((bnot (eqI (cjL (a1) (a2) (a3) s ((getx [(c1, c2)] (0 : Int))) ((gety [(c1, c2)] (0 : Int)))) (cjL a1 a2 a3 s c1 c2))) = false → ((true = true) ∧ ((True) ∧ True) ∧ (true = true) ∧ ((True) ∧ (True) ∧ ((0 ≤ (1 : Int) ∧ (1 : Int) ≤ 10000000000000 ∧ ilen (m_2) ≤ 1000000000)) ∧ (True) ∧ True) ∧ (true = true) ∧ ((True) ∧ (True) ∧ True) ∧ ((ilt (heldIF (m_2) (1 : Int)) (0 : Int)) = true → ((true = true) ∧ ((True) ∧ True) ∧ ((false : Bool) = true) ∧ True)) ∧ ((ilt (heldIF (m_2) (1 : Int)) (0 : Int)) = false → ((true = true) ∧ ((True) ∧ (True) ∧ (True) ∧ True) ∧ ((bnot (ieq (heldIF (m_2) (1 : Int)) (q_3))) = true → ((true = true) ∧ ((True) ∧ True) ∧ ((false : Bool) = true) ∧ True)) ∧ ((bnot (ieq (heldIF (m_2) (1 : Int)) (q_3))) = false → ((true = true) ∧ ((True) ∧ True) ∧ ((true : Bool) = true) ∧ True)))))))))))))))) = ev sig_laws_FnExactCellJoints xs_laws_FnExactCellJoints Try.f7.ntmps (fun b => []) (dropS 11 (codeOf Try.f7)) 0 (⟨[(1, .s (.int s)), (3, .s (.vptr (.intss [a1, a2, a3]) (0 : Int) 0)), (5, .s (.vptr (.pts [(c1, c2)]) (0 : Int) 0)), (8, .s (.view (.ints (cjL a1 a2 a3 s c1 c2)))), (10, .s (.row 1)), (11, .s (.int k))], [(1, .row 3 (.ints (cjL a1 a2 a3 s c1 c2)))], 2⟩) (retK Try.f7.results.toList [.s (.bool true)]) := by kernel_rfl
set_option maxHeartbeats 1000000 in
theorem PC_laws_FnExactCellJoints (a1 : List Int) (a2 : List Int) (a3 : List Int) (s : Int) (c1 : Int) (c2 : Int) (k : Int) (hl : ilen a1 ≤ 1048576 ∧ ilen a2 ≤ 1048576 ∧ ilen a3 ≤ 1048576) (hk : 0 ≤ k ∧ k ≤ 10000000000000) : ev sig_laws_FnExactCellJoints xs_laws_FnExactCellJoints Try.f7.ntmps (fun b => []) (dropS 11 (codeOf Try.f7)) 0 (⟨[(1, .s (.int s)), (3, .s (.vptr (.intss [a1, a2, a3]) (0 : Int) 0)), (5, .s (.vptr (.pts [(c1, c2)]) (0 : Int) 0)), (8, .s (.view (.ints (cjL a1 a2 a3 s c1 c2)))), (10, .s (.row 1)), (11, .s (.int k))], [(1, .row 3 (.ints (cjL a1 a2 a3 s c1 c2)))], 2⟩) (retK Try.f7.results.toList [.s (.bool true)]) := by
  refine Eq.mp (VC_laws_FnExactCellJoints a1 a2 a3 s c1 c2 k) ?_
  simp only [true_and, and_true, implies_true, and_self, forall_const, true_implies, lenA, lenL, SV.lenOK, Cont.lenOK]
  simp only [ilt_t, ilt_f, ile_t, ile_f, ieq_t, ieq_f, bnot_e, band_e, bite_and, bite_or, NLt_e, NLe_e, NNe_e, NIs_e, imax_e, imin_e, irem_e, Bool.not_eq_true', Bool.not_eq_false', Bool.and_eq_true, Bool.or_eq_true, Bool.or_eq_false_iff, Bool.and_eq_false_iff, Cont.pts.injEq, Cont.ints.injEq, Cont.bools.injEq, Cont.ptss.injEq, Cont.intss.injEq, Cont.boolss.injEq, true_and, and_true, implies_true, getx_one, gety_one, eqI_same]
  have hcl : ilen (cjL a1 a2 a3 s c1 c2) ≤ 2 := by unfold cjL; split <;> (unfold ilen; simp)
  have hcl0 := ilen_0 (cjL a1 a2 a3 s c1 c2)
  refine ⟨fun h => (by rcases h with h | h; omega; simp at h), fun _ => ⟨⟨by omega, by omega, by omega⟩, fun m q hm => ?_⟩⟩
  obtain ⟨m1, m2, m3⟩ := hm
  have hh : heldIF m 1 = 1 + ilen m := heldIF_e (by rw [m1]; exact m2)
  rw [hh]
  refine ⟨⟨by omega, by omega, by omega⟩, fun h => by omega, fun _ => ⟨fun h => by omega, fun _ => ⟨⟨by omega, by omega, by omega⟩, fun h => by simp at h, fun _ => ⟨⟨by omega, by omega, by omega⟩, fun h => by omega, fun _ h => by omega⟩⟩⟩⟩
set_option maxHeartbeats 1000000 in
theorem fecj_x {w : World} {v0 v1 v2 : Value} {a1 a2 a3 : List Int} {s c1 c2 : Int} (hI : GInv w) (hA : hasA (EL fun _ => False) w [v0, v1, v2] [.agg [.view (.ints a1), .view (.ints a2), .view (.ints a3)], .s (.int s), .agg [.int c1, .int c2]]) :
    Calls Try.prog 7 #[v0, v1, v2] w fun e w' => e = .returned (.bool true) ∧ Bel w w' := by
  have h1 : v1 = .int .i64 s := hA.2.1
  refine calls_of_wp Try.func7 (c := dropS 0 (codeOf Try.f7)) rfl ?_
  refine frag_wpK (ds := inS (wrS (takeS 4 (dropS 0 (codeOf Try.f7))))) sig_laws_FnExactCellJoints_ok xs_laws_FnExactCellJoints_ok (by kernel_rfl) 4 _ 0 _ _ _ _ _ _ (by kernel_rfl) (init_rel0 hI hA (by kernel_rfl)) (PA_laws_FnExactCellJoints a1 a2 a3 s c1 c2) ?_
  intro e σ1 E1 b1 w1 hR1 hk hs1
  cases e with
  | exit i => exact hk.elim
  | ret => exact frag_ret hR1 hk (Bel.refl w) (by kernel_rfl)
  | normal =>
    obtain ⟨hl, hend⟩ := hk
    have hB1 : Bel w w1 := rel_bel hR1
    have hI1 := ginv_bel hI hB1
    obtain ⟨g3, ⟨l3⟩, t3, p3, -, q3, r3⟩ := mEnd_ok hR1 hend 3 (.bx [.view (.ints a1), .view (.ints a2), .view (.ints a3)]) (by simp)
    obtain ⟨g5, c5, t5, p5, -, q5, r5⟩ := mEnd_ok hR1 hend 5 (.bx [.int c1, .int c2]) (by simp)
    have e8 : Reads (fun _ => False) w1 (b1.tmps.getD 8 undef) (.ints (cjL a1 a2 a3 s c1 c2)) := mEnd_ok hR1 hend 8 (.rv (.s (.view (.ints (cjL a1 a2 a3 s c1 c2))))) (by simp)
    match l3, r3 with
    | [x1, x2, x3], r3 =>
    have s1 : b1.tmps.getD 1 undef = .int .i64 s := ((hs1 rfl 1 (by kernel_rfl)).trans (init_get rfl)).trans h1
    obtain ⟨v8, s8⟩ : ∃ v, b1.tmps.getD 8 undef = v := ⟨_, rfl⟩
    rw [s8] at e8
    refine item_wp (by kernel_rfl) ?_
    refine arm_item (tl := 47) (ti := 50) (f := 30) (p := 3) (e := 9) (N := Try.f7.ntmps) (by kernel_rfl) hR1.size (enters_of Try.func30 (by kernel_rfl) rfl) rfl rfl p3 q3 ?_
    refine (toArm_own hI1 r3.1 r3.2.1 r3.2.2.1 (by omega) (by omega) (by omega)).mono ?_
    rintro en w2' ⟨y1, y2, y3, rfl, hT', hb2'⟩
    refine ⟨y1, y2, y3, rfl, ⟨own_one hT'.o1, own_one hT'.o2, own_one hT'.o3⟩, fun b2 w2 g9 hN2 hd2 hs2 s9 hg9 q9 hb2'' => ?_⟩
    have hb2 := hb2'.trans hb2''
    have hT := hT'.bel hb2''
    have hB2 := hB1.trans hb2
    have hI2 := ginv_bel hI1 hb2
    have s1 := (hs2 1 (by kernel_rfl)).trans s1
    have s3 := (hs2 3 (by kernel_rfl)).trans p3
    have s5 := (hs2 5 (by kernel_rfl)).trans p5
    have s8 := (hs2 8 (by kernel_rfl)).trans s8
    have q3b := (hb2.block g3 (heap_lt q3)).trans q3
    have q5b := (hb2.block g5 (heap_lt q5)).trans q5
    have rT : hasL (EL fun _ => False) w2 [y1, y2, y3] [.view (.ints a1), .view (.ints a2), .view (.ints a3)] := ⟨⟨_, Owned.flat hT.o1 (fun _ _ h => h), rfl⟩, ⟨_, Owned.flat hT.o2 (fun _ _ h => h), rfl⟩, ⟨_, Owned.flat hT.o3 (fun _ _ h => h), rfl⟩, trivial⟩
    refine frag_wpK (ds := inS (wrS (takeS 3 (dropS 6 (codeOf Try.f7))))) sig_laws_FnExactCellJoints_ok xs_laws_FnExactCellJoints_ok (by kernel_rfl) 3 (dropS 6 (codeOf Try.f7)) 0 _ _ _ _ _ _ (by kernel_rfl)
      (rel_part (S := [(1, .s (.int s)), (3, .s (.vptr (.intss [a1, a2, a3]) 0 0)), (5, .s (.vptr (.pts [(c1, c2)]) 0 0)), (8, .s (.view (.ints (cjL a1 a2 a3 s c1 c2)))), (9, .s (.vptr (.intss [a1, a2, a3]) 0 0))]) hI2 hN2 (hd2.trans hR1.defers) (by kernel_rfl)
        ⟨s1, vptr3_of s3 q3b r3 hb2 (fun h => h) (fun _ h => h.elim), vptr_of s5 q5b r5 (fun h => h), (by rw [s8]; exact reads_old e8 hb2), vptr3_of s9 q9 rT (Bel.refl _) (fun h => h) (fun _ h => h.elim), trivial⟩) (PB_laws_FnExactCellJoints a1 a2 a3 s c1 c2 hl) ?_
    intro e σ3 E3 b3 w3 hR3 hk hs3
    cases e with
    | exit i => exact hk.elim
    | ret => exact frag_ret hR3 hk hB2 (by kernel_rfl)
    | normal =>
      obtain ⟨-, hend3⟩ := hk
      have hb3 : Bel w2 w3 := rel_bel hR3
      have hI3 := ginv_bel hI2 hb3
      have e10 : Owned w2.heap.size (fun b => False ∨ blk (b3.tmps.getD 10 undef) = some b) w3 (b3.tmps.getD 10 undef) 3 (.ints (cjL a1 a2 a3 s c1 c2)) := mEnd_ok hR3 hend3 10 (.rv (.nrow 3 (.ints (cjL a1 a2 a3 s c1 c2)))) (by simp)
      have s11 : b3.tmps.getD 11 undef = .int .i64 1 := mEnd_ok hR3 hend3 11 (.rv (.s (.int 1))) (by simp)
      obtain ⟨v10, s10⟩ : ∃ v, b3.tmps.getD 10 undef = v := ⟨_, rfl⟩
      rw [s10] at e10
      have s1 := (hs3 rfl 1 (by kernel_rfl)).trans s1
      have s3 := (hs3 rfl 3 (by kernel_rfl)).trans s3
      have s5 := (hs3 rfl 5 (by kernel_rfl)).trans s5
      have s8 := (hs3 rfl 8 (by kernel_rfl)).trans s8
      have s9 := (hs3 rfl 9 (by kernel_rfl)).trans s9
      have q3c := (hb3.block g3 (heap_lt q3b)).trans q3b
      have q5c := (hb3.block g5 (heap_lt q5b)).trans q5b
      have q9c := (hb3.block g9 (heap_lt q9)).trans q9
      refine item_wp (by kernel_rfl) ?_
      refine mark_item (ti := 50) (f := 34) (p := 9) (q := 11) (e := 11) (N := Try.f7.ntmps) (by kernel_rfl) hR3.size (enters_of Try.func34 (by kernel_rfl) rfl) rfl s9 q9c s11 ?_
      refine (markArm_own hI3 hI1.ng (hT.bel hb3) (by omega) (by omega) (by omega) (by omega) (by omega)).mono ?_
      rintro en w4 ⟨k', rfl, hk1, hC⟩
      have hxb : ∀ (i : Nat) (x : Value) b, [y1, y2, y3][i]? = some x → x.ownBlock = some b → w1.heap.size ≤ b ∧ b < w2.heap.size := fun i x b hx hb => by
        match i, hx with
        | 0, hx => injection hx with hx; subst hx; exact hT.o1.lt b hb
        | 1, hx => injection hx with hx; subst hx; exact hT.o2.lt b hb
        | 2, hx => injection hx with hx; subst hx; exact hT.o3.lt b hb
        | i + 3, hx => simp at hx
      have hB4 : Bel w1 w4 := hC.bel (hb2.trans hb3) (fun i x b hx hb => (hxb i x b hx hb).1)
      have hI4 := ginv_bel hI1 hB4
      refine ⟨_, rfl, fun b4 hN4 hd4 hs4 s11 => ?_⟩
      have s1 := (hs4 1 (by kernel_rfl)).trans s1
      have s3 := (hs4 3 (by kernel_rfl)).trans s3
      have s5 := (hs4 5 (by kernel_rfl)).trans s5
      have s8 := (hs4 8 (by kernel_rfl)).trans s8
      have s10 := (hs4 10 (by kernel_rfl)).trans s10
      obtain ⟨ys, o10, hys⟩ := e10
      have hys' : ys = fI (cjL a1 a2 a3 s c1 c2) := hys
      subst hys'
      have hob : ∀ b, blk v10 = some b → v10.ownBlock = some b := fun b hb => by
        rcases o10.2 with ⟨rfl, _⟩ | ⟨g, cap, cur, rfl, _⟩
        · cases hb
        · exact hb
      have o10b := Mch.own o10 hC (fun i x b hx hb hv => by have := (hxb i x b hx hb).2; have := (o10.lt b hv).1; omega)
      have hlv : ∀ b, (ER [(3, .ints (cjL a1 a2 a3 s c1 c2), v10)]).lv b → w2.heap.size ≤ b := fun b hb => by
        obtain ⟨r, hr, hb⟩ := hb
        simp only [List.mem_singleton] at hr
        subst hr
        exact (o10.lt b (hob b hb)).1
      have hw12 := hb2.size
      have hw01 := hB1.size
      have q3d := (hC.block g3 (heap_lt q3c) (fun i x hx hb => by have := (hxb i x g3 hx hb).1; have := heap_lt q3; omega)).trans q3c
      have q5d := (hC.block g5 (heap_lt q5c) (fun i x hx hb => by have := (hxb i x g5 hx hb).1; have := heap_lt q5; omega)).trans q5c
      have hR4 := rel_fragR (w0 := w1) (w := w4) (a := b4) (N := Try.f7.ntmps) (R := [(3, .ints (cjL a1 a2 a3 s c1 c2), v10)]) (S := [(1, .s (.int s)), (3, .s (.vptr (.intss [a1, a2, a3]) 0 0)), (5, .s (.vptr (.pts [(c1, c2)]) 0 0)), (8, .s (.view (.ints (cjL a1 a2 a3 s c1 c2)))), (10, .s (.row 1)), (11, .s (.int k'))])
        hI1 hI4 hN4 ((hd4.trans hR3.defers)) hB4 (fun r hr => by
          simp only [List.mem_singleton] at hr
          subst hr
          exact ⟨_, own_base o10b hw12, rfl⟩) (fun i j r r' b hi hj _ _ => by
          have h1 := (List.getElem?_eq_some_iff.1 hi).1
          have h2 := (List.getElem?_eq_some_iff.1 hj).1
          simp at h1 h2; omega)
        (hasS_all ⟨s1, vptr3_of s3 q3d r3 hB4 (fun hb => by have := hlv g3 hb; have := heap_lt q3; omega) (fun b hb => by have := hlv b hb; omega), vptr_of s5 q5d r5 (fun hb => by have := hlv g5 hb; have := heap_lt q5; omega), (by rw [s8]; exact reads_late e8 hB4 (fun b hb => by have := hlv b hb; omega)), s10, s11, trivial⟩)
        (fun p hp k hk => by
          simp only [List.mem_cons, List.not_mem_nil, or_false] at hp
          rcases hp with rfl | rfl | rfl | rfl | rfl | rfl
          all_goals first
            | (cases hk; done)
            | (have : 1 = k := (by simpa [AV.on, SV.on] using hk); simp; omega))
      refine ev_ok sig_laws_FnExactCellJoints_ok xs_laws_FnExactCellJoints_ok (by kernel_rfl) (dropS 11 (codeOf Try.f7)) 0 _ _ _ _ _ _ hR4 (PC_laws_FnExactCellJoints a1 a2 a3 s c1 c2 k' hl ⟨by omega, by omega⟩) ?_
      intro e σ5 E5 b5 w5 hR5 hk
      cases e with
      | exit i => exact hk.elim
      | ret => exact frag_ret hR5 hk hB1 (by kernel_rfl)
      | normal => exact frag_ret hR5 hk hB1 (by kernel_rfl)
theorem F_laws_FnExactCellJoints : FunOK 7 g_laws_FnExactCellJoints := by
  intro avs sg hg hn L0 args w hL hA
  refine ⟨callFunc_enter Try.func7 (by kernel_rfl) (by kernel_rfl) _ w, ?_⟩
  unfold g_laws_FnExactCellJoints at hg
  split at hg
  · rename_i a1 a2 a3 s c1 c2
    injection hg with hg; subst hg
    have hA2 := hasA_less (L' := fun _ => False) (fun _ h => h.elim) (by rfl) hA
    obtain ⟨al⟩ := args
    match al, hA2 with
    | [v0, v1, v2], hA2 =>
      refine (fecj_x hL.inv hA2).mono ?_
      rintro e w' ⟨rfl, hb⟩
      exact ⟨_, rfl, rfl, hb⟩
  · cases hg
theorem fnExactCellJoints_walk (w : World) (v0 : Value) (x0 : List Int × List Int × List Int) (w0 : ArmArg w v0 x0) (v1 : Value) (x1 : Int) (w1 : IntArg v1 x1) (v2 : Value) (x2 : Pt) (w2 : CellArg v2 x2) : Calls Try.prog 7 #[v0, v1, v2] w fun e w' => e = .returned (.bool true) ∧ Bel w w' :=
  walk_of F_laws_FnExactCellJoints (avs := [.agg [.view (.ints x0.1), .view (.ints x0.2.1), .view (.ints x0.2.2)], .s (.int x1), .agg [.int x2.1, .int x2.2]]) rfl trivial ⟨arm_reads w0, w1.1, ⟨_, w2.1, rfl, rfl, trivial⟩, trivial⟩
set_option maxRecDepth 100000 in
theorem fnExactCellJoints_lifted (os : Os) (started : os.Started) (H : Type) (enc : TypeId × Value → H) :
    ReturnsInHanded {} Try.checked os 7 .any (Rows.fnExactCellJointsSpec.pre6 enc Try.prog Try.f7 Rows.fnExactCellJointsRow.domain false) (Rows.fnExactCellJointsSpec.post enc Try.prog Try.f7 false true false false) := by
  have own : ownKnob Try.prog.godebug = none := by kernel_rfl
  have laidOut : laidOutB Try.prog = true := by kernel_rfl
  refine returnsInHanded_of_change (C := Try.checked) own started (by kernel_rfl) Try.func7
    (ChangeSpec.witness6 (enc := enc) (C := Try.checked) false ⟨#[], #[.agg #[.slice none 0 0, .slice none 0 0, .slice none 0 0], .int .i64 0, .agg #[.int .i64 0, .int .i64 0]], []⟩ 8 (by kernel_rfl) (by kernel_rfl) (by kernel_rfl) (by kernel_rfl)) ?_
  intro W base args ds gs before hval0 hW hcnd _
  have hval : ∀ (j : Nat) t v, Try.f7.params[j]? = some t → args[j]? = some v → Value.okWide Try.prog W .any base t v := hval0
  have hW' := hW
  obtain ⟨p, q, hA0, hV, rfl, hfz, hnd⟩ := hW
  have hA : DataW.TrodAll enc Try.prog W 0 (fun _ => true) true Try.f7.params.toList args.toList ds p := hA0
  rw [Try.params7] at hA hval
  obtain ⟨v0, vs0, d0, ds0, p0, q0, hargs, rfl, rfl, h0, r0⟩ := trodAll_cons hA
  obtain ⟨v1, vs1, d1, ds1, p1, q1, rfl, rfl, rfl, h1, r1⟩ := trodAll_cons r0
  obtain ⟨v2, vs2, d2, ds2, p2, q2, rfl, rfl, rfl, h2, r2⟩ := trodAll_cons r1
  obtain ⟨rfl, rfl, rfl⟩ := trodAll_nil r2
  obtain rfl : args = #[v0, v1, v2] := by cases args; simp_all
  obtain ⟨rfl, rfl⟩ := trodVars_none hV
  have k0 := h0
  have lt0 : ∀ x ∈ p0, x.block < W.heap.size := by obtain ⟨m, hm⟩ := k0; exact DataW.trod_lt m _ _ _ hm
  have k1 := h1
  have lt1 : ∀ x ∈ p1, x.block < W.heap.size := by obtain ⟨m, hm⟩ := k1; exact DataW.trod_lt m _ _ _ hm
  have k2 := h2
  have lt2 : ∀ x ∈ p2, x.block < W.heap.size := by obtain ⟨m, hm⟩ := k2; exact DataW.trod_lt m _ _ _ hm
  obtain ⟨x0, w0⟩ := opn_Arm (hval 0 47 v0 rfl rfl) h0
  obtain ⟨x1, w1⟩ := opn_int (hval 1 3 v1 rfl rfl) h1
  obtain ⟨x2, w2⟩ := opn_Cell (hval 2 24 v2 rfl rfl) h2
  clear hA0 hval0
  refine (fnExactCellJoints_walk W v0 x0 w0 v1 x1 w1 v2 x2 w2).mono fun e W' ⟨he, bel⟩ => ?_
  subst he
  exact ⟨_, rfl, _, _, _, [], _, [], hW', trodAll_mk1 (shut_bool Try.underlying4 _), (trodAll_cons_mk (Below.trod laidOut (by kernel_rfl) (of_decide_eq_true (by kernel_rfl)) k0 bel lt0) (trodAll_cons_mk (Below.trod laidOut (by kernel_rfl) (of_decide_eq_true (by kernel_rfl)) k1 bel lt1) (trodAll_cons_mk (Below.trod laidOut (by kernel_rfl) (of_decide_eq_true (by kernel_rfl)) k2 bel lt2) trodAll_mk0))), rfl, Below.frame bel _, fun h => by cases h⟩
theorem fnExactCellJoints_over : Rows.fnExactCellJointsRow.holds Try.pinned (OpenSpec.ofChange Rows.fnExactCellJointsSpec) :=
  OpenClaim.holds_of_wide 7 Try.f7 rfl rfl rfl rfl rfl rfl rfl ⟨rfl, rfl, rfl, rfl, rfl⟩ rfl rfl rfl rfl rfl (by kernel_rfl) Try.func7 (by kernel_rfl)
    (of_decide_eq_true (by kernel_rfl)) (by unfold Func.isWrapper; first | (rw [if_pos (by decide +kernel)]; kernel_rfl) | (rw [if_neg (by decide +kernel)]; exact ⟨rfl, rfl⟩))
    (fun os started H enc _ => fnExactCellJoints_lifted os started H enc)
theorem fnExactCellJoints_proved : Rows.FnExactCellJointsSaid := fnExactCellJoints_over
#print axioms fnExactCellJoints_proved
end Go.Proofs.Ytdpokkegkedlfaa

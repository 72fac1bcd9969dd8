/- 'FnExactMoveJoints': for all arguments the program's MoveJoints returns what the reference's returns and leaves its arguments alone. Conditions: none. -/
import Derived.Test.YtdpokkegkedlfaaFnExactMoveJointsP1
namespace Go.Proofs.Ytdpokkegkedlfaa
open Go.ChangeShapes Go.WideShapes Go.ChangeAt Go.RowKit
set_option maxRecDepth 100000
set_option linter.unusedSimpArgs false
set_option linter.unusedVariables false
def g_laws_eqArm : List AV → Option Sg
  | [.agg [.view (.ints a1), .view (.ints a2), .view (.ints a3)], .agg [.view (.ints b1), .view (.ints b2), .view (.ints b3)]] => some ⟨True, [.s (.bool (eqI a1 b1 && eqI a2 b2 && eqI a3 b3))]⟩
  | _ => none
def sig_laws_eqArm : FuncId → List AV → Option Sg := sigL [(32, g_laws_eqIntS)]
def xs_laws_eqArm : XS := ⟨xsigL [], ysigL []⟩
theorem sig_laws_eqArm_ok : SigOK sig_laws_eqArm := sigL_cons F_laws_eqIntS sigL_nil
theorem xs_laws_eqArm_ok : XSigOK xs_laws_eqArm := ⟨xsigL_nil, ysigL_nil⟩
theorem V_laws_eqArm (a1 : List Int) (a2 : List Int) (a3 : List Int) (b1 : List Int) (b2 : List Int) (b3 : List Int) : ((true = true) ∧ ((True) ∧ (True) ∧ (True) ∧ True) ∧ (true = true) ∧ ((True) ∧ (True) ∧ (True) ∧ (True) ∧ ((True)) ∧ (True) ∧ True) ∧ ((bnot (eqI a1 b1)) = true → ((true = true) ∧ ((True) ∧ True) ∧ ((false : Bool) = (eqI a1 b1 && eqI a2 b2 && eqI a3 b3)) ∧ True)) ∧ ((bnot (eqI a1 b1)) = false → ((true = true) ∧ ((True) ∧ (True) ∧ (True) ∧ (True) ∧ ((True)) ∧ (True) ∧ True) ∧ ((bnot (eqI a2 b2)) = true → ((true = true) ∧ ((True) ∧ True) ∧ ((false : Bool) = (eqI a1 b1 && eqI a2 b2 && eqI a3 b3)) ∧ True)) ∧ ((bnot (eqI a2 b2)) = false → ((true = true) ∧ ((True) ∧ (True) ∧ (True) ∧ (True) ∧ ((True)) ∧ (True) ∧ True) ∧ ((bnot (eqI a3 b3)) = true → ((true = true) ∧ ((True) ∧ True) ∧ ((false : Bool) = (eqI a1 b1 && eqI a2 b2 && eqI a3 b3)) ∧ True)) ∧ ((bnot (eqI a3 b3)) = false → ((true = true) ∧ ((True) ∧ True) ∧ ((true : Bool) = (eqI a1 b1 && eqI a2 b2 && eqI a3 b3)) ∧ True))))))) = ev sig_laws_eqArm xs_laws_eqArm Try.f33.ntmps (fun b => []) (codeOf Try.f33) 0 (initS [.agg [.view (.ints a1), .view (.ints a2), .view (.ints a3)], .agg [.view (.ints b1), .view (.ints b2), .view (.ints b3)]]) (retK Try.f33.results.toList [.s (.bool (eqI a1 b1 && eqI a2 b2 && eqI a3 b3))]) := by kernel_rfl
set_option maxHeartbeats 400000 in
theorem F_laws_eqArm : FunOK 33 g_laws_eqArm := by
  refine fun_F (by kernel_rfl) Try.func33 rfl (by kernel_rfl) sig_laws_eqArm_ok xs_laws_eqArm_ok ?_
  intro avs sg h hn hl
  unfold g_laws_eqArm at h
  split at h
  · rename_i a1 a2 a3 b1 b2 b3
    injection h with h; subst h
    refine ⟨by kernel_rfl, fun b => [], Eq.mp (V_laws_eqArm a1 a2 a3 b1 b2 b3) ?_⟩
    simp only [true_and, and_true, implies_true, and_self, forall_const, true_implies, lenA, lenL, SV.lenOK, Cont.lenOK] at hn hl ⊢
    simp only [ilt_t, ilt_f, ile_t, ile_f, ieq_t, ieq_f, bnot_e, band_e, bite_and, bite_or, NLt_e, NLe_e, NNe_e, NIs_e, imax_e, imin_e, irem_e, Bool.not_eq_true', Bool.not_eq_false', Bool.and_eq_true, Bool.or_eq_true, Bool.or_eq_false_iff, Bool.and_eq_false_iff, Cont.pts.injEq, Cont.ints.injEq, Cont.bools.injEq, Cont.ptss.injEq, Cont.intss.injEq, Cont.boolss.injEq, true_and, and_true, implies_true]
    cases eqI a1 b1 <;> cases eqI a2 b2 <;> cases eqI a3 b3 <;> simp
  · cases h
def mkdI (m : List Int) (k n : Int) : Prop := ∀ j, 0 ≤ j → j < n → geti m j = k + j
def heldIE (l : List Int) (k j : Int) : Bool := decide (geti l j = k + j)
def heldIF (l : List Int) (k : Int) : Int := if allN (ilen l) (heldIE l k) then k + ilen l else -1
theorem heldIF_e {l : List Int} {k : Int} (h : mkdI l k (ilen l)) : heldIF l k = k + ilen l := by
  unfold heldIF
  rw [if_pos (allN_mk fun j j0 j1 => by unfold heldIE; simp [h j j0 j1])]
def mkB (k : Int) : Bool := decide (k.tmod 3 = 0)
def mkdB (m : List Bool) (k n : Int) : Prop := ∀ j, 0 ≤ j → j < n → getb m j = mkB (k + j)
def heldBE (l : List Bool) (k j : Int) : Bool := decide (getb l j = mkB (k + j))
def heldBF (l : List Bool) (k : Int) : Int := if allN (ilen l) (heldBE l k) then k + ilen l else -1
theorem heldBF_e {l : List Bool} {k : Int} (h : mkdB l k (ilen l)) : heldBF l k = k + ilen l := by
  unfold heldBF
  rw [if_pos (allN_mk fun j j0 j1 => by unfold heldBE; simp [h j j0 j1])]
theorem heldBE_of {l : List Bool} {k j : Int} {b : Bool} (h : bxor (getb l j) (ieq ((k + j).tmod 3) 0) = b) : heldBE l k j = !b := by
  unfold heldBE mkB
  have hi : ieq ((k + j).tmod 3) 0 = decide ((k + j).tmod 3 = 0) := by unfold ieq; rfl
  rw [hi] at h
  subst h
  cases getb l j <;> cases decide ((k + j).tmod 3 = 0) <;> (unfold bxor; rfl)
def g_laws_heldIntS : List AV → Option Sg
  | [.s (.view (.ints l)), .s (.int k)] => some ⟨0 ≤ k ∧ k ≤ 10000000000000 ∧ ilen l ≤ 1000000000, [.s (.int (heldIF l k))]⟩
  | _ => none
def sig_laws_heldIntS : FuncId → List AV → Option Sg := sigL []
def xs_laws_heldIntS : XS := ⟨xsigL [], ysigL []⟩
theorem sig_laws_heldIntS_ok : SigOK sig_laws_heldIntS := sigL_nil
theorem xs_laws_heldIntS_ok : XSigOK xs_laws_heldIntS := ⟨xsigL_nil, ysigL_nil⟩
theorem V_laws_heldIntS (l : List Int) (k : Int) : ((true = true) ∧ ((True) ∧ True) ∧ (true = true) ∧ ((True) ∧ True) ∧ ∃ (I1 : List GV → Prop) (μ1 : List GV → Nat), (((true = true) ∧ (((k : Int) = k) ∧ (((0 : Int) : Int) = (0 : Int)) ∧ (((0 : Int) : Int) = (0 : Int)) ∧ ((Cont.ints l) = (Cont.ints l)) ∧ True) ∧ (True)) ∧ (([GK.int, GK.int, GK.int] : List GK) = ([GK.int, GK.int, GK.int] : List GK)) ∧ I1 [GV.int (0 : Int), GV.int (0 : Int), GV.int k]) ∧ (∀ i1_0 : Int, ∀ i1_1 : Int, ∀ i1_2 : Int, I1 [GV.int i1_0, GV.int i1_1, GV.int i1_2] → ((true = true) ∧ ((True) ∧ (True) ∧ (True) ∧ (True) ∧ True) ∧ ((ilt i1_0 (ilen l)) = true → ((true = true) ∧ ((True) ∧ (True) ∧ (NLe 0 i1_0 ∧ NLt i1_0 (ilen l)) ∧ (True) ∧ (True) ∧ (True) ∧ True) ∧ ((bnot (ieq (geti l i1_0) i1_2)) = true → ((true = true) ∧ ((True) ∧ True) ∧ (((-1 : Int) : Int) = (heldIF l k)) ∧ True)) ∧ ((bnot (ieq (geti l i1_0) i1_2)) = false → ((true = true) ∧ ((True) ∧ (True) ∧ (True) ∧ True) ∧ (true = true) ∧ ((True) ∧ (True) ∧ (True) ∧ True) ∧ ((true = true) ∧ ((((iadd i1_2 (1 : Int)) : Int) = (iadd i1_2 (1 : Int))) ∧ ((i1_1 : Int) = i1_1) ∧ (((iadd i1_0 (1 : Int)) : Int) = (iadd i1_0 (1 : Int))) ∧ ((Cont.ints l) = (Cont.ints l)) ∧ True) ∧ (True)) ∧ ((([GK.int, GK.int, GK.int] : List GK) = ([GK.int, GK.int, GK.int] : List GK)) ∧ I1 [GV.int (iadd i1_0 (1 : Int)), GV.int i1_1, GV.int (iadd i1_2 (1 : Int))] ∧ μ1 [GV.int (iadd i1_0 (1 : Int)), GV.int i1_1, GV.int (iadd i1_2 (1 : Int))] < μ1 [GV.int i1_0, GV.int i1_1, GV.int i1_2]))))) ∧ ((ilt i1_0 (ilen l)) = false → ((true = true) ∧ ((True) ∧ (True) ∧ True) ∧ ((i1_2 : Int) = (heldIF l k)) ∧ True))))) = ev sig_laws_heldIntS xs_laws_heldIntS Try.f36.ntmps (fun b => if b == 0 then [.v 5, .v 4, .v 1] else []) (codeOf Try.f36) 0 (initS [.s (.view (.ints l)), .s (.int k)]) (retK Try.f36.results.toList [.s (.int (heldIF l k))]) := by kernel_rfl
set_option maxHeartbeats 400000 in
theorem F_laws_heldIntS : FunOK 36 g_laws_heldIntS := by
  refine fun_F (by kernel_rfl) Try.func36 rfl (by kernel_rfl) sig_laws_heldIntS_ok xs_laws_heldIntS_ok ?_
  intro avs sg h hn hl
  unfold g_laws_heldIntS at h
  split at h
  · rename_i l k
    injection h with h; subst h
    refine ⟨by kernel_rfl, fun b => if b == 0 then [.v 5, .v 4, .v 1] else [], Eq.mp (V_laws_heldIntS l k) ?_⟩
    simp only [true_and, and_true, implies_true, and_self, forall_const, true_implies, lenA, lenL, SV.lenOK, Cont.lenOK] at hn hl ⊢
    have h0 := ilen_0 l
    obtain ⟨n1, n2, n3⟩ := hn
    simp only [ilt_t, ilt_f, ile_t, ile_f, ieq_t, ieq_f, bnot_e, band_e, bite_and, bite_or, NLt_e, NLe_e, NNe_e, NIs_e, imax_e, imin_e, irem_e, Bool.not_eq_true', Bool.not_eq_false', Bool.and_eq_true, Bool.or_eq_true, Bool.or_eq_false_iff, Bool.and_eq_false_iff, Cont.pts.injEq, Cont.ints.injEq, Cont.bools.injEq, Cont.ptss.injEq, Cont.intss.injEq, Cont.boolss.injEq, true_and, and_true, implies_true]
    refine ⟨fun | [.int i, .int _, .int k'] => 0 ≤ i ∧ i ≤ ilen l ∧ k' = k + i ∧ (∀ j, 0 ≤ j → j < i → heldIE l k j = true) | _ => False, fun | .int i :: _ => (ilen l - i).toNat | _ => 0, ⟨Int.le_refl 0, h0, by omega, fun j h0 h1 => absurd h1 (by omega)⟩, ?_⟩
    rintro i _ k' ⟨hi0, hi1, hk, hmk⟩
    refine ⟨fun hc => ⟨⟨hi0, hc⟩, fun hx => ?_, fun hx => ?_⟩, fun hc => ?_⟩
    · have hE : heldIE l k i = false := by unfold heldIE; rw [← hk]; simpa [mkB] using hx
      unfold heldIF; rw [allN_no i hi0 hc hE]; rfl
    · have hE : heldIE l k i = true := by unfold heldIE; rw [← hk]; simpa [mkB] using hx
      rw [iadd_1 hi0 hc hl, iadd_e (a := k') (by omega) (by omega)]
      exact ⟨⟨by omega, by omega, by omega, upTo hmk hE⟩, by show (ilen l - (i + 1)).toNat < (ilen l - i).toNat; omega⟩
    · unfold heldIF; rw [allN_mk fun j j0 j1 => hmk j j0 (by omega)]
      rw [if_pos rfl]; omega
  · cases h
def hsI : List (List Int) → Int → Int
  | [], k => k
  | m :: ms, k => if heldIF m k < 0 then -1 else hsI ms (heldIF m k)
theorem heldIF_cases (l : List Int) (k : Int) : heldIF l k = k + ilen l ∨ heldIF l k = -1 := by
  unfold heldIF
  split
  · exact .inl rfl
  · exact .inr rfl
theorem hsI_drop {l : List (List Int)} {i k : Int} (i0 : 0 ≤ i) (hi : i < ilen l) : hsI (l.drop i.toNat) k = if heldIF (getl l i) k < 0 then -1 else hsI (l.drop (i + 1).toNat) (heldIF (getl l i) k) := by
  unfold ilen at hi
  have hn : i.toNat < l.length := by omega
  have e : (i + 1).toNat = i.toNat + 1 := by omega
  have g : getl l i = l[i.toNat] := by unfold getl; simp [List.getD_eq_getElem?_getD, hn]
  rw [List.drop_eq_getElem_cons hn, e, g]
  rfl
theorem hsI_end {l : List (List Int)} {i k : Int} (hi : ilen l ≤ i) : hsI (l.drop i.toNat) k = k := by
  unfold ilen at hi
  rw [List.drop_eq_nil_of_le (by omega)]; rfl
def g_laws_heldIntSS : List AV → Option Sg
  | [.s (.view (.intss l)), .s (.int k)] => some ⟨0 ≤ k ∧ k ≤ 1000000 ∧ ilen l ≤ 1048576 ∧ ∀ i, 0 ≤ i → i < ilen l → ilen (getl l i) ≤ 1048576, [.s (.int (hsI l k))]⟩
  | _ => none
def sig_laws_heldIntSS : FuncId → List AV → Option Sg := sigL [(36, g_laws_heldIntS)]
def xs_laws_heldIntSS : XS := ⟨xsigL [], ysigL []⟩
theorem sig_laws_heldIntSS_ok : SigOK sig_laws_heldIntSS := sigL_cons F_laws_heldIntS sigL_nil
theorem xs_laws_heldIntSS_ok : XSigOK xs_laws_heldIntSS := ⟨xsigL_nil, ysigL_nil⟩
theorem V_laws_heldIntSS (l : List (List Int)) (k : Int) : ((true = true) ∧ ((True) ∧ True) ∧ (true = true) ∧ ((True) ∧ True) ∧ ∃ (I1 : List GV → Prop) (μ1 : List GV → Nat), (((true = true) ∧ (((k : Int) = k) ∧ (((0 : Int) : Int) = (0 : Int)) ∧ (((0 : Int) : Int) = (0 : Int)) ∧ ((Cont.intss l) = (Cont.intss l)) ∧ True) ∧ (True)) ∧ (([GK.int, GK.int, GK.int] : List GK) = ([GK.int, GK.int, GK.int] : List GK)) ∧ I1 [GV.int (0 : Int), GV.int (0 : Int), GV.int k]) ∧ (∀ i1_0 : Int, ∀ i1_1 : Int, ∀ i1_2 : Int, I1 [GV.int i1_0, GV.int i1_1, GV.int i1_2] → ((true = true) ∧ ((True) ∧ (True) ∧ (True) ∧ (True) ∧ True) ∧ ((ilt i1_0 (ilen l)) = true → ((true = true) ∧ ((True) ∧ (True) ∧ (NLe 0 i1_0 ∧ NLt i1_0 (ilen l)) ∧ (True) ∧ (True) ∧ ((0 ≤ i1_2 ∧ i1_2 ≤ 10000000000000 ∧ ilen (getl l i1_0) ≤ 1000000000)) ∧ (True) ∧ True) ∧ (true = true) ∧ ((True) ∧ (True) ∧ True) ∧ ((ilt (heldIF (getl l i1_0) i1_2) (0 : Int)) = true → ((true = true) ∧ ((True) ∧ True) ∧ (((-1 : Int) : Int) = (hsI l k)) ∧ True)) ∧ ((ilt (heldIF (getl l i1_0) i1_2) (0 : Int)) = false → ((true = true) ∧ ((True) ∧ (True) ∧ (True) ∧ True) ∧ ((true = true) ∧ ((((heldIF (getl l i1_0) i1_2) : Int) = (heldIF (getl l i1_0) i1_2)) ∧ ((i1_1 : Int) = i1_1) ∧ (((iadd i1_0 (1 : Int)) : Int) = (iadd i1_0 (1 : Int))) ∧ ((Cont.intss l) = (Cont.intss l)) ∧ True) ∧ (True)) ∧ ((([GK.int, GK.int, GK.int] : List GK) = ([GK.int, GK.int, GK.int] : List GK)) ∧ I1 [GV.int (iadd i1_0 (1 : Int)), GV.int i1_1, GV.int (heldIF (getl l i1_0) i1_2)] ∧ μ1 [GV.int (iadd i1_0 (1 : Int)), GV.int i1_1, GV.int (heldIF (getl l i1_0) i1_2)] < μ1 [GV.int i1_0, GV.int i1_1, GV.int i1_2]))))) ∧ ((ilt i1_0 (ilen l)) = false → ((true = true) ∧ ((True) ∧ (True) ∧ True) ∧ ((i1_2 : Int) = (hsI l k)) ∧ True))))) = ev sig_laws_heldIntSS xs_laws_heldIntSS Try.f42.ntmps (fun b => if b == 0 then [.v 5, .v 4, .v 1] else []) (codeOf Try.f42) 0 (initS [.s (.view (.intss l)), .s (.int k)]) (retK Try.f42.results.toList [.s (.int (hsI l k))]) := by kernel_rfl
set_option maxHeartbeats 400000 in
theorem F_laws_heldIntSS : FunOK 42 g_laws_heldIntSS := by
  refine fun_F (by kernel_rfl) Try.func42 rfl (by kernel_rfl) sig_laws_heldIntSS_ok xs_laws_heldIntSS_ok ?_
  intro avs sg h hn hl
  unfold g_laws_heldIntSS at h
  split at h
  · rename_i l k
    injection h with h; subst h
    refine ⟨by kernel_rfl, fun b => if b == 0 then [.v 5, .v 4, .v 1] else [], Eq.mp (V_laws_heldIntSS l k) ?_⟩
    simp only [true_and, and_true, implies_true, and_self, forall_const, true_implies, lenA, lenL, SV.lenOK, Cont.lenOK] at hn hl ⊢
    have hl0 := ilen_0 l
    obtain ⟨n1, n2, n3, n4⟩ := hn
    simp only [ilt_t, ilt_f, ile_t, ile_f, ieq_t, ieq_f, bnot_e, band_e, bite_and, bite_or, NLt_e, NLe_e, NNe_e, NIs_e, imax_e, imin_e, irem_e, Bool.not_eq_true', Bool.not_eq_false', Bool.and_eq_true, Bool.or_eq_true, Bool.or_eq_false_iff, Bool.and_eq_false_iff, Cont.pts.injEq, Cont.ints.injEq, Cont.bools.injEq, Cont.ptss.injEq, Cont.intss.injEq, Cont.boolss.injEq, true_and, and_true, implies_true]
    refine ⟨fun | [.int i, .int _, .int k'] => 0 ≤ i ∧ i ≤ ilen l ∧ 0 ≤ k' ∧ k' ≤ k + i * 1048576 ∧ hsI l k = hsI (l.drop i.toNat) k' | _ => False, fun | .int i :: _ => (ilen l - i).toNat | _ => 0, ⟨Int.le_refl 0, hl0, by omega, by omega, rfl⟩, ?_⟩
    rintro i _ k' ⟨hi0, hi1, hk0, hk1, he⟩
    refine ⟨fun hc => ?_, fun hc => ?_⟩
    · have hli := n4 i hi0 hc
      have hg0 := ilen_0 (getl l i)
      rw [hsI_drop hi0 hc] at he
      rcases heldIF_cases (getl l i) k' with h | h
      · rw [if_neg (by omega)] at he
        rw [iadd_1 hi0 hc (by omega)]
        refine ⟨⟨⟨hi0, hc⟩, by omega, by omega, by omega⟩, fun hx => by omega, fun hx => ⟨⟨by omega, by omega, by omega, by omega, he⟩, by show (ilen l - (i + 1)).toNat < (ilen l - i).toNat; omega⟩⟩
      · rw [if_pos (by omega)] at he
        refine ⟨⟨⟨hi0, hc⟩, by omega, by omega, by omega⟩, fun _ => he.symm, fun hx => by omega⟩
    · rw [he, hsI_end (by omega)]
  · cases h
def sig_laws_FnExactMoveJoints : FuncId → List AV → Option Sg := sigL [(30, g_laws_toArm), (38, viewG g_laws_toIntS), (37, g_spec_MoveJoints), (39, g_impl_MoveJoints), (40, g_laws_eqIntSS), (33, g_laws_eqArm), (32, g_laws_eqIntS), (42, g_laws_heldIntSS)]
def xs_laws_FnExactMoveJoints : XS := ⟨xsigL [], ysigL [(28, g_laws_szArm)]⟩
theorem sig_laws_FnExactMoveJoints_ok : SigOK sig_laws_FnExactMoveJoints := sigL_cons F_laws_toArm (sigL_cons (FunOK.view F_laws_toIntS) (sigL_cons F_spec_MoveJoints (sigL_cons F_impl_MoveJoints (sigL_cons F_laws_eqIntSS (sigL_cons F_laws_eqArm (sigL_cons F_laws_eqIntS (sigL_cons F_laws_heldIntSS sigL_nil)))))))
theorem xs_laws_FnExactMoveJoints_ok : XSigOK xs_laws_FnExactMoveJoints := ⟨xsigL_nil, ysigL_cons F_laws_szArm ysigL_nil⟩
theorem to_Int_b {w : World} {v : Value} {m : List Int} (hI : GInv w) (hv : Reads (fun _ => False) w v (.ints m)) (hm : ilen m ≤ 100000000) :
    Calls Try.prog 38 #[v] w fun e w' => ∃ r, e = .returned r ∧ w'.ownsRow w.heap.size 3 1 r m.length (fI m) ∧ Bel w w' := by
  refine (F_laws_toIntS [.s (.view (.ints m))] _ rfl hm (fun _ => False) #[v] w ⟨fun _ h => h.elim, hI⟩ ⟨hv, trivial⟩).2.mono ?_
  rintro e w' ⟨r, rfl, ⟨xs, h1, h2⟩, hb⟩
  have h2' : xs = fI m := h2
  subst h2'
  exact ⟨r, rfl, h1, hb⟩
/-- The boxes of a copied arm. -/
structure TaS (w : World) (x1 x2 x3 y1 y2 y3 : Value) (wq : World) : Prop where
  h0 : wq.heap[w.heap.size]? = some (.cells #[x1, x2, x3] 47 (0, 0))
  h1 : wq.heap[w.heap.size + 1]? = some (.cells #[.slice none 0 0, .slice none 0 0, .slice none 0 0] 50 (0, 0))
  h2 : wq.heap[w.heap.size + 1 + 1]? = some (.cells #[y1, y2, y3] 50 (0, 0))
  be : Bel w wq
theorem TaS.bel {w : World} {x1 x2 x3 y1 y2 y3 : Value} {wq wr : World} (h : TaS w x1 x2 x3 y1 y2 y3 wq) (hb : Bel wq wr) : TaS w x1 x2 x3 y1 y2 y3 wr :=
  ⟨(hb.block _ (heap_lt h.h0)).trans h.h0, (hb.block _ (heap_lt h.h1)).trans h.h1, (hb.block _ (heap_lt h.h2)).trans h.h2, h.be.trans hb⟩
theorem TaS.set {w : World} {x1 x2 x3 y1 y2 y3 z1 z2 z3 u : Value} {wq : World} {k : Nat} (h : TaS w x1 x2 x3 y1 y2 y3 wq) (hz : (#[y1, y2, y3] : Array Value).setIfInBounds k u = #[z1, z2, z3]) : TaS w x1 x2 x3 z1 z2 z3 (wq.setCell ⟨w.heap.size + 1 + 1, k, none⟩ u) :=
  ⟨(Below.heap_setCell wq ⟨w.heap.size + 1 + 1, k, none⟩ u w.heap.size (by simp; omega)).trans h.h0, (Below.heap_setCell wq ⟨w.heap.size + 1 + 1, k, none⟩ u (w.heap.size + 1) (by simp)).trans h.h1,
   by rw [heap_setCell_same wq (w.heap.size + 1 + 1) k _ 50 _ h.h2, hz], h.be.setCell (by simp; omega) _⟩
theorem TaS.cells {w : World} {x1 x2 x3 y1 y2 y3 : Value} {wq : World} (h : TaS w x1 x2 x3 y1 y2 y3 wq) : wq.cell? ⟨w.heap.size, 0, none⟩ = some x1 ∧ wq.cell? ⟨w.heap.size, 1, none⟩ = some x2 ∧ wq.cell? ⟨w.heap.size, 2, none⟩ = some x3 ∧ wq.cell? ⟨w.heap.size + 1 + 1, 0, none⟩ = some y1 ∧ wq.cell? ⟨w.heap.size + 1 + 1, 1, none⟩ = some y2 ∧ wq.cell? ⟨w.heap.size + 1 + 1, 2, none⟩ = some y3 :=
  ⟨cell_of_row wq _ 0 _ _ _ h.h0, cell_of_row wq _ 1 _ _ _ h.h0, cell_of_row wq _ 2 _ _ _ h.h0, cell_of_row wq _ 0 _ _ _ h.h2, cell_of_row wq _ 1 _ _ _ h.h2, cell_of_row wq _ 2 _ _ _ h.h2⟩
theorem TaS.open_ {w : World} {x1 x2 x3 y1 y2 y3 : Value} {wq : World} (h : TaS w x1 x2 x3 y1 y2 y3 wq) (k : Nat) : wq.frozen? ⟨w.heap.size + 1 + 1, k, none⟩ = false := by
  have := h.h2
  simp [World.frozen?, this]
theorem TaS.open1 {w : World} {x1 x2 x3 y1 y2 y3 : Value} {wq : World} (h : TaS w x1 x2 x3 y1 y2 y3 wq) (k : Nat) : wq.frozen? ⟨w.heap.size + 1, k, none⟩ = false := by
  have := h.h1
  simp [World.frozen?, this]
set_option maxHeartbeats 1000000 in
theorem toArm_own {w : World} {x1 x2 x3 : Value} {a1 a2 a3 : List Int} (hI : GInv w) (h1 : Reads (fun _ => False) w x1 (.ints a1)) (h2 : Reads (fun _ => False) w x2 (.ints a2)) (h3 : Reads (fun _ => False) w x3 (.ints a3)) (n1 : ilen a1 ≤ 100000000) (n2 : ilen a2 ≤ 100000000) (n3 : ilen a3 ≤ 100000000) :
    Calls Try.prog 30 #[.agg #[x1, x2, x3]] w fun e w' => ∃ r1 r2 r3, e = .returned (.agg #[r1, r2, r3]) ∧ Arm3 w.heap.size w' r1 r2 r3 a1 a2 a3 ∧ Bel w w' := by
  have f1 : ∃ A c, x1 = .slice A a1.length c := by obtain ⟨_, ⟨A, c, e, _⟩, _⟩ := h1; exact ⟨A, c, e⟩
  have f2 : ∃ A c, x2 = .slice A a2.length c := by obtain ⟨_, ⟨A, c, e, _⟩, _⟩ := h2; exact ⟨A, c, e⟩
  have f3 : ∃ A c, x3 = .slice A a3.length c := by obtain ⟨_, ⟨A, c, e, _⟩, _⟩ := h3; exact ⟨A, c, e⟩
  obtain ⟨B1, d1, rfl⟩ := f1
  obtain ⟨B2, d2, rfl⟩ := f2
  obtain ⟨B3, d3, rfl⟩ := f3
  have HC1 := Lib.hid (fun (wq : World) (hq : Bel w wq) => to_Int_b (ginv_bel0 hI hq) (reads_old h1 hq) n1)
  have HC2 := Lib.hid (fun (wq : World) (hq : Bel w wq) => to_Int_b (ginv_bel0 hI hq) (reads_old h2 hq) n2)
  have HC3 := Lib.hid (fun (wq : World) (hq : Bel w wq) => to_Int_b (ginv_bel0 hI hq) (reads_old h3 hq) n3)
  have hT0 : TaS w (.slice B1 a1.length d1) (.slice B2 a2.length d2) (.slice B3 a3.length d3) (.slice none 0 0) (.slice none 0 0) (.slice none 0 0) (((w.alloc (.cells #[.slice B1 a1.length d1, .slice B2 a2.length d2, .slice B3 a3.length d3] 47)).alloc (.cells #[.slice none 0 0, .slice none 0 0, .slice none 0 0] 50)).alloc (.cells #[.slice none 0 0, .slice none 0 0, .slice none 0 0] 50)) := by
    refine ⟨?_, ?_, ?_, (((Bel.refl w).alloc _).alloc _).alloc _⟩
    · rw [heap_alloc_old _ _ (by simp; omega), heap_alloc_old _ _ (by simp)]; exact heap_alloc_new w _
    · rw [heap_alloc_old _ _ (by simp)]
      have := heap_alloc_new (w.alloc (.cells #[.slice B1 a1.length d1, .slice B2 a2.length d2, .slice B3 a3.length d3] 47)) (.cells #[.slice none 0 0, .slice none 0 0, .slice none 0 0] 50)
      simpa using this
    · have := heap_alloc_new ((w.alloc (.cells #[.slice B1 a1.length d1, .slice B2 a2.length d2, .slice B3 a3.length d3] 47)).alloc (.cells #[.slice none 0 0, .slice none 0 0, .slice none 0 0] 50)) (.cells #[.slice none 0 0, .slice none 0 0, .slice none 0 0] 50)
      simpa using this
  have HT0 := Lib.hid hT0
  clear h1 h2 h3 hT0
  go_enter Try.func30, Try.ntmps30
  go_wp2_with (go_at_call 38; first
    | (refine (HC3.out _ HS2.out.be).mono ?_; rintro e w3 ⟨r3, rfl, o3, b3⟩; obtain ⟨A3, c3, rfl⟩ := own_form o3; have hT3 := HS2.out.bel b3; obtain ⟨e30, e31, e32, e33, e34, e35⟩ := hT3.cells; have e36 := hT3.open_ 2; have HS3 := Lib.hid (hT3.set (k := 2) (u := .slice A3 a3.length c3) rfl); clear hT3; have hz := HS3.out; obtain ⟨z30, z31, z32, z33, z34, z35⟩ := hz.cells; have z36 := cell_of_row _ _ 0 _ _ _ hz.h1; have z37 := cell_of_row _ _ 1 _ _ _ hz.h1; have z38 := cell_of_row _ _ 2 _ _ _ hz.h1; have z39 := hz.open1 0; have z3a := hz.open1 1; have z3b := hz.open1 2; clear hz; have P3 := Lib.hid o3; have G3 := Lib.hid b3; clear o3 b3)
    | (refine (HC2.out _ HS1.out.be).mono ?_; rintro e w2 ⟨r2, rfl, o2, b2⟩; obtain ⟨A2, c2, rfl⟩ := own_form o2; have hT2 := HS1.out.bel b2; obtain ⟨e20, e21, e22, e23, e24, e25⟩ := hT2.cells; have e26 := hT2.open_ 1; have HS2 := Lib.hid (hT2.set (k := 1) (u := .slice A2 a2.length c2) rfl); clear hT2; obtain ⟨z20, z21, z22, z23, z24, z25⟩ := HS2.out.cells; have P2 := Lib.hid o2; have G2 := Lib.hid b2; clear o2 b2)
    | (refine (HC1.out _ HT0.out.be).mono ?_; rintro e w1 ⟨r1, rfl, o1, b1⟩; obtain ⟨A1, c1, rfl⟩ := own_form o1; have hT1 := HT0.out.bel b1; obtain ⟨e10, e11, e12, e13, e14, e15⟩ := hT1.cells; have e16 := hT1.open_ 0; have HS1 := Lib.hid (hT1.set (k := 0) (u := .slice A1 a1.length c1) rfl); clear hT1; obtain ⟨z10, z11, z12, z13, z14, z15⟩ := HS1.out.cells; have P1 := Lib.hid o1; have G1 := Lib.hid b1; clear o1 b1))
  clear z30 z31 z32 z33 z34 z35 z36 z37 z38 z39 z3a z3b z20 z21 z22 z23 z24 z25 z10 z11 z12 z13 z14 z15 e10 e11 e12 e13 e14 e15 e16 e20 e21 e22 e23 e24 e25 e26 e30 e31 e32 e33 e34 e35 e36
  have s0 := heap_setCell_same _ (w.heap.size + 1) 0 _ 50 (.slice A1 a1.length c1) HS3.out.h1
  have s1 := heap_setCell_same _ (w.heap.size + 1) 1 _ 50 (.slice A2 a2.length c2) s0
  have s2 := heap_setCell_same _ (w.heap.size + 1) 2 _ 50 (.slice A3 a3.length c3) s1
  have hbe : Bel w ((((w3.setCell ⟨w.heap.size + 1 + 1, 2, none⟩ (.slice A3 a3.length c3)).setCell ⟨w.heap.size + 1, 0, none⟩ (.slice A1 a1.length c1)).setCell ⟨w.heap.size + 1, 1, none⟩ (.slice A2 a2.length c2)).setCell ⟨w.heap.size + 1, 2, none⟩ (.slice A3 a3.length c3)) := ((HS3.out.be.setCell (by simp) _).setCell (by simp) _).setCell (by simp) _
  have q1 : ∀ b, Value.ownBlock (.slice A1 a1.length c1) = some b → w.heap.size + 3 ≤ b ∧ b < w1.heap.size := fun b hb => by have := P1.out.lt b hb; simp at this; omega
  have g2 := G2.out.size
  have g3 := G3.out.size
  rw [set_size] at g2 g3
  have hs1 : w.heap.size + 3 ≤ w1.heap.size := by have := G1.out.size; simp at this; omega
  have q2 : ∀ b, Value.ownBlock (.slice A2 a2.length c2) = some b → w1.heap.size ≤ b ∧ b < w2.heap.size := fun b hb => by have := P2.out.lt b hb; rw [set_size] at this; omega
  have q3 : ∀ b, Value.ownBlock (.slice A3 a3.length c3) = some b → w2.heap.size ≤ b ∧ b < w3.heap.size := fun b hb => by have := P3.out.lt b hb; rw [set_size] at this; omega
  have fin : ∀ {v : Value} {a : List Int}, (w3.setCell ⟨w.heap.size + 1 + 1, 2, none⟩ (.slice A3 a3.length c3)).ownsRow w.heap.size 3 1 v a.length (fI a) → (∀ b, v.ownBlock = some b → w.heap.size + 3 ≤ b) →
      ((((w3.setCell ⟨w.heap.size + 1 + 1, 2, none⟩ (.slice A3 a3.length c3)).setCell ⟨w.heap.size + 1, 0, none⟩ (.slice A1 a1.length c1)).setCell ⟨w.heap.size + 1, 1, none⟩ (.slice A2 a2.length c2)).setCell ⟨w.heap.size + 1, 2, none⟩ (.slice A3 a3.length c3)).ownsRow w.heap.size 3 1 v a.length (fI a) := fun h hv =>
    own_set (own_set (own_set h fun b hb => by have := hv b hb; omega) fun b hb => by have := hv b hb; omega) fun b hb => by have := hv b hb; omega
  have r1 := fin (own_set (own_bel (own_set (own_bel (own_set (own_base P1.out (by simp; omega)) fun b hb => by have := q1 b hb; omega) G2.out) fun b hb => by have := q1 b hb; omega) G3.out) fun b hb => by have := q1 b hb; omega) (fun b hb => (q1 b hb).1)
  have r2 := fin (own_set (own_bel (own_set (own_base P2.out (by rw [set_size]; omega)) fun b hb => by have := q2 b hb; omega) G3.out) fun b hb => by have := q2 b hb; omega) (fun b hb => by have := q2 b hb; omega)
  have r3 := fin (own_set (own_base P3.out (by rw [set_size]; omega)) fun b hb => by have := q3 b hb; omega) (fun b hb => by have := q3 b hb; omega)
  generalize ((((w3.setCell ⟨w.heap.size + 1 + 1, 2, none⟩ (.slice A3 a3.length c3)).setCell ⟨w.heap.size + 1, 0, none⟩ (.slice A1 a1.length c1)).setCell ⟨w.heap.size + 1, 1, none⟩ (.slice A2 a2.length c2)).setCell ⟨w.heap.size + 1, 2, none⟩ (.slice A3 a3.length c3)) = Wf at s2 hbe r1 r2 r3 ⊢
  have e0 : Wf.cell? ⟨w.heap.size + 1, 0, none⟩ = some (.slice A1 a1.length c1) := cell_of_row _ _ 0 _ _ _ s2
  have e1 : Wf.cell? ⟨w.heap.size + 1, 1, none⟩ = some (.slice A2 a2.length c2) := cell_of_row _ _ 1 _ _ _ s2
  have e2 : Wf.cell? ⟨w.heap.size + 1, 2, none⟩ = some (.slice A3 a3.length c3) := cell_of_row _ _ 2 _ _ _ s2
  exact bodyPost_ret (v := .agg #[.slice A1 a1.length c1, .slice A2 a2.length c2, .slice A3 a3.length c3]) (by simp [results, Try.results30, go_sem, e0, e1, e2]) rfl ⟨_, _, _, rfl, ⟨r1, r2, r3, fun b hb hv => by have := q1 b hb; have := q2 b hv; omega, fun b hb hv => by have := q1 b hb; have := q3 b hv; omega, fun b hb hv => by have := q2 b hb; have := q3 b hv; omega⟩, hbe⟩
def s_laws_markIntS (l : List Int) (k : Int) : SgX := ⟨0 ≤ k ∧ k ≤ 10000000000000 ∧ ilen l ≤ 1000000000, [.ints, .int], (fun | [.ints m, .int q] => ilen m = ilen l ∧ mkdI m k (ilen l) ∧ q = k + ilen l | _ => False), (fun | [.ints m, .int q] => [.s (.int (q))] | _ => []), (fun | [.ints m, .int q] => .row 3 (.ints (m)) | _ => .box [])⟩
def g_laws_markIntS : Bx → List AV → Option SgX
  | .row 3 (.ints l), [.s (.int k)] => some (s_laws_markIntS l k)
  | _, _ => none
def sig_laws_markIntS : FuncId → List AV → Option Sg := sigL []
def xs_laws_markIntS : XS := ⟨xsigL [], ysigL []⟩
theorem sig_laws_markIntS_ok : SigOK sig_laws_markIntS := sigL_nil
theorem xs_laws_markIntS_ok : XSigOK xs_laws_markIntS := ⟨xsigL_nil, ysigL_nil⟩
def L_laws_markIntS_0 (l : List Int) (k : Int) (i1_1 : Int) (l1_2 : List Int) : Prop := ∃ m : List Int, ∃ q : Int, ((ilen m = ilen l ∧ mkdI m k (ilen l) ∧ q = k + ilen l) ∧ (((i1_1 : Int) = (q)) ∧ True) ∧ ((true = true) ∧ ((Cont.ints l1_2) = (Cont.ints (m)))))
theorem V_laws_markIntS (l : List Int) (k : Int) : ((true = true) ∧ ((True) ∧ True) ∧ (true = true) ∧ ((True) ∧ True) ∧ ∃ (I1 : List GV → Prop) (μ1 : List GV → Nat), (((true = true) ∧ (((k : Int) = k) ∧ (((0 : Int) : Int) = (0 : Int)) ∧ (((0 : Int) : Int) = (0 : Int)) ∧ (true = true) ∧ True) ∧ (((true = true) ∧ ((Cont.ints l) = (Cont.ints l))) ∧ True)) ∧ (([GK.int, GK.int, GK.ints] : List GK) = ([GK.int, GK.int, GK.ints] : List GK)) ∧ I1 [GV.int (0 : Int), GV.int k, GV.ints l]) ∧ (∀ i1_0 : Int, ∀ i1_1 : Int, ∀ l1_2 : List Int, I1 [GV.int i1_0, GV.int i1_1, GV.ints l1_2] → ((true = true) ∧ ((True) ∧ (True) ∧ (True) ∧ (True) ∧ True) ∧ ((ilt i1_0 (ilen l1_2)) = true → ((true = true) ∧ ((True) ∧ (True) ∧ (True) ∧ (NLe 0 i1_0 ∧ NLt i1_0 (ilen l1_2)) ∧ True) ∧ (NLt i1_0 (ilen l1_2)) ∧ (true = true) ∧ ((True) ∧ (True) ∧ (True) ∧ True) ∧ (true = true) ∧ ((True) ∧ (True) ∧ (True) ∧ True) ∧ ((true = true) ∧ ((((iadd i1_1 (1 : Int)) : Int) = (iadd i1_1 (1 : Int))) ∧ (((iadd i1_0 (1 : Int)) : Int) = (iadd i1_0 (1 : Int))) ∧ (((0 : Int) : Int) = (0 : Int)) ∧ (true = true) ∧ True) ∧ (((true = true) ∧ ((Cont.ints (seti l1_2 i1_0 i1_1)) = (Cont.ints (seti l1_2 i1_0 i1_1)))) ∧ True)) ∧ ((([GK.int, GK.int, GK.ints] : List GK) = ([GK.int, GK.int, GK.ints] : List GK)) ∧ I1 [GV.int (iadd i1_0 (1 : Int)), GV.int (iadd i1_1 (1 : Int)), GV.ints (seti l1_2 i1_0 i1_1)] ∧ μ1 [GV.int (iadd i1_0 (1 : Int)), GV.int (iadd i1_1 (1 : Int)), GV.ints (seti l1_2 i1_0 i1_1)] < μ1 [GV.int i1_0, GV.int i1_1, GV.ints l1_2]))) ∧ ((ilt i1_0 (ilen l1_2)) = false → ((true = true) ∧ ((True) ∧ (True) ∧ True) ∧ L_laws_markIntS_0 l k i1_1 l1_2))))) = (fun sg => ev sig_laws_markIntS xs_laws_markIntS Try.f35.ntmps (fun b => if b == 0 then [.v 5, .v 1, .b 0] else []) (codeOf Try.f35) 0 (initX (.row 3 (.ints l)) [.s (.int k)]) (retX Try.f35.results.toList sg.kinds sg.post sg.ret sg.out)) (s_laws_markIntS l k) := by kernel_rfl
set_option maxHeartbeats 400000 in
theorem F_laws_markIntS : FunX 35 g_laws_markIntS := by
  refine fun_X (by kernel_rfl) Try.func35 rfl (by kernel_rfl) sig_laws_markIntS_ok xs_laws_markIntS_ok ?_
  intro bx avs sg h hn hl hlb
  unfold g_laws_markIntS at h
  split at h
  · rename_i l k
    injection h with h; subst h
    refine ⟨by kernel_rfl, fun b => if b == 0 then [.v 5, .v 1, .b 0] else [], Eq.mp (V_laws_markIntS l k) ?_⟩
    simp only [true_and, and_true, implies_true, and_self, forall_const, true_implies, lenA, lenL, SV.lenOK, Cont.lenOK, lenB, s_laws_markIntS, L_laws_markIntS_0] at hn hl hlb ⊢
    have h0 := ilen_0 l
    obtain ⟨n1, n2, n3⟩ := hn
    simp only [ilt_t, ilt_f, ile_t, ile_f, ieq_t, ieq_f, bnot_e, band_e, bite_and, bite_or, NLt_e, NLe_e, NNe_e, NIs_e, imax_e, imin_e, irem_e, Bool.not_eq_true', Bool.not_eq_false', Bool.and_eq_true, Bool.or_eq_true, Bool.or_eq_false_iff, Bool.and_eq_false_iff, Cont.pts.injEq, Cont.ints.injEq, Cont.bools.injEq, Cont.ptss.injEq, Cont.intss.injEq, Cont.boolss.injEq, true_and, and_true, implies_true]
    refine ⟨fun | [.int i, .int k', .ints m] => 0 ≤ i ∧ i ≤ ilen l ∧ k' = k + i ∧ ilen m = ilen l ∧ ∀ j, 0 ≤ j → j < i → geti m j = k + j | _ => False, fun | .int i :: _ => (ilen l - i).toNat | _ => 0, ⟨Int.le_refl 0, h0, by omega, rfl, fun j h0 h1 => absurd h1 (by omega)⟩, ?_⟩
    rintro i k' m ⟨hi0, hi1, hk, hm, hmk⟩
    refine ⟨fun hc => ?_, fun hc => ⟨m, k', ⟨hm, fun j j0 j1 => hmk j j0 (by omega), by omega⟩, rfl, rfl⟩⟩
    have hi : i < ilen l := by omega
    rw [iadd_e (a := i) (by omega) (by omega), iadd_e (a := k') (by omega) (by omega)]
    refine ⟨⟨hi0, hc⟩, hc, ⟨by omega, by omega, by omega, by rw [ilen_seti]; exact hm, fun j j0 j1 => ?_⟩, by show (ilen l - (i + 1)).toNat < (ilen l - i).toNat; omega⟩
    rw [geti_seti hi0 hc j0]
    by_cases hj : j = i
    · rw [if_pos hj, hj, hk]; try (unfold mkB ieq; rfl)
    · rw [if_neg hj]; exact hmk j j0 (by omega)
  · cases h
theorem mark_Int_b {w : World} {base : Nat} {v : Value} {m : List Int} {k : Int} (hI : GInv w) (hng : NG ≤ base) (ho : w.ownsRow base 3 1 v m.length (fI m)) (k0 : 0 ≤ k) (k1 : k ≤ 10000000000000) (hm : ilen m ≤ 1000000000) :
    Calls Try.prog 35 #[v, .int .i64 k] w fun e w' => ∃ m', e = .returned (.int .i64 (k + 1 * ilen m)) ∧ ilen m' = ilen m ∧ mkdI m' k (ilen m') ∧ w'.ownsRow base 3 1 v m'.length (fI m') ∧ w.grownBy w' v.ownBlock := by
  have hbk : ∀ b, blk v = some b ↔ v.ownBlock = some b := fun b => by
    rcases ho.2 with ⟨rfl, _⟩ | ⟨g, cap, cur, rfl, _⟩
    · simp [blk, Value.ownBlock]
    · simp [blk, Value.ownBlock]
  have hob : blk v = v.ownBlock := by
    rcases ho.2 with ⟨rfl, _⟩ | ⟨g, cap, cur, rfl, _⟩ <;> rfl
  refine (F_laws_markIntS (.row 3 (.ints m)) [.s (.int k)] _ rfl ⟨k0, by omega, hm⟩ (fun b => v.ownBlock = some b) v [.int .i64 k] w ⟨fun b hb => ⟨Nat.le_trans hng (ho.lt b hb).1, (ho.lt b hb).2⟩, hI⟩ (fun b hb => (hbk b).1 hb) ⟨_, own_base ho (Nat.zero_le _), rfl⟩ ⟨rfl, trivial⟩).2.mono ?_
  rintro e w' ⟨r, gs, rfl, hk, hp, hr, ho', _, hgr⟩
  match gs, hk, hp, hr, ho' with
  | [.ints m', .int q], _, ⟨p1, p2, p3⟩, hr, ⟨xs, o1, o2⟩ =>
    have hr' : r = .int .i64 q := hr
    have o2' : xs = fI m' := o2
    subst o2' p3
    rw [hob] at hgr
    exact ⟨m', by rw [hr']; first | rfl | simp, p1, by rw [p1]; exact p2, own_rebase o1 (fun b hb => (ho.lt b hb).1), hgr⟩
set_option maxHeartbeats 1000000 in
theorem markArm_own {w : World} {base : Nat} {v1 v2 v3 : Value} {a1 a2 a3 : List Int} {k : Int} (hI : GInv w) (hng : NG ≤ base) (h : Arm3 base w v1 v2 v3 a1 a2 a3) (k0 : 0 ≤ k) (k1 : k ≤ 1000000) (n1 : ilen a1 ≤ 1048576) (n2 : ilen a2 ≤ 1048576) (n3 : ilen a3 ≤ 1048576) :
    Calls Try.prog 34 #[.agg #[v1, v2, v3], .int .i64 k] w fun e w' => ∃ k', e = .returned (.int .i64 k') ∧ (k ≤ k' ∧ k' ≤ k + 3145728) ∧ Mch [v1, v2, v3] w w' := by
  obtain ⟨h1, h2, h3, d12, d13, d23⟩ := h
  have p1 := ilen_0 a1
  have p2 := ilen_0 a2
  have p3 := ilen_0 a3
  obtain ⟨A1, c1, rfl⟩ := own_form h1
  obtain ⟨A2, c2, rfl⟩ := own_form h2
  obtain ⟨A3, c3, rfl⟩ := own_form h3
  obtain ⟨W, hW⟩ : ∃ W, W = w.alloc (.cells #[.slice A1 a1.length c1, .slice A2 a2.length c2, .slice A3 a3.length c3] 50) := ⟨_, rfl⟩
  have hbW : Bel w W := by rw [hW]; exact (Bel.refl w).alloc _
  have hIW := ginv_bel0 hI hbW
  have hgW : W.heap[w.heap.size]? = some (.cells #[.slice A1 a1.length c1, .slice A2 a2.length c2, .slice A3 a3.length c3] 50 (0, 0)) := by rw [hW]; exact heap_alloc_new w _
  have o1 := own_bel h1 hbW
  have o2 := own_bel h2 hbW
  have o3 := own_bel h3 hbW
  have l1 := fun b hb => (h1.lt b hb).2
  have l2 := fun b hb => (h2.lt b hb).2
  have l3 := fun b hb => (h3.lt b hb).2
  have HC1 := Lib.hid (mark_Int_b (k := k) hIW hng o1 k0 (by omega) (by omega))
  have HC2 := Lib.hid (fun (wa : World) (hg : W.grownBy wa (Value.ownBlock (.slice A1 a1.length c1))) (q : Int) (q0 : 0 ≤ q) (q1 : q ≤ 10000000000000) => mark_Int_b (k := q) (GInv.keep hIW hg (fun b e => Nat.le_trans hng (h1.lt b e).1)) hng (o2.kept hg (none_or fun b hb hv => d12 b hb hv)) q0 q1 (by omega))
  have HC3 := Lib.hid (fun (wa wb : World) (hg : W.grownBy wa (Value.ownBlock (.slice A1 a1.length c1))) (hg2 : wa.grownBy wb (Value.ownBlock (.slice A2 a2.length c2))) (q : Int) (q0 : 0 ≤ q) (q1 : q ≤ 10000000000000) => mark_Int_b (k := q) (GInv.keep (GInv.keep hIW hg (fun b e => Nat.le_trans hng (h1.lt b e).1)) hg2 (fun b e => Nat.le_trans hng (h2.lt b e).1)) hng ((o3.kept hg (none_or fun b hb hv => d13 b hb hv)).kept hg2 (none_or fun b hb hv => d23 b hb hv)) q0 q1 (by omega))
  have HB1 := Lib.hid (fun (wa : World) (hg : W.grownBy wa (Value.ownBlock (.slice A1 a1.length c1))) => (hg.block w.heap.size (heap_lt hgW) (fun e => by have := l1 _ e.symm; omega)).trans hgW)
  have HB2 := Lib.hid (fun (wa wb : World) (hg : W.grownBy wa (Value.ownBlock (.slice A1 a1.length c1))) (hg2 : wa.grownBy wb (Value.ownBlock (.slice A2 a2.length c2))) => (hg2.block w.heap.size (Nat.lt_of_lt_of_le (heap_lt hgW) hg.size) (fun e => by have := l2 _ e.symm; omega)).trans ((hg.block w.heap.size (heap_lt hgW) (fun e => by have := l1 _ e.symm; omega)).trans hgW))
  have HM := Lib.hid (fun (wa wb wc : World) (hg : W.grownBy wa (Value.ownBlock (.slice A1 a1.length c1))) (hg2 : wa.grownBy wb (Value.ownBlock (.slice A2 a2.length c2))) (hg3 : wb.grownBy wc (Value.ownBlock (.slice A3 a3.length c3))) => (((((Mch.refl [Value.slice A1 a1.length c1, .slice A2 a2.length c2, .slice A3 a3.length c3] w).grown (bel_grown hbW)).step (i := 0) rfl hg).step (i := 1) rfl hg2).step (i := 2) rfl hg3))
  clear h1 h2 h3 o1 o2 o3 d12 d13 d23 l1 l2 l3 hbW hIW hgW
  subst hW
  go_enter Try.func34, Try.ntmps34
  go_wp2_with (go_at_call 35; first
    | (refine (HC3.out _ _ g1 g2 _ (by omega) (by omega)).mono ?_; rintro e w3 ⟨m3, rfl, -, -, -, g3⟩; have hmm := HM.out _ _ _ g1 g2 g3)
    | (refine (HC2.out _ g1 _ (by omega) (by omega)).mono ?_; rintro e w2 ⟨m2, rfl, -, -, -, g2⟩; have b2 := HB2.out _ _ g1 g2; have cc2 := cell_of_row w2 w.heap.size 2 _ _ _ b2; clear b2)
    | (refine HC1.out.mono ?_; rintro e w1 ⟨m1, rfl, -, -, -, g1⟩; have b1 := HB1.out _ g1; have cc1 := cell_of_row w1 w.heap.size 1 _ _ _ b1; clear b1))
  go_ret
  exact ⟨_, rfl, by constructor <;> omega, hmm⟩
/-- Rows marked one after the other. -/
def MkInt : Int → List (List Int) → List (List Int) → Int → Prop
  | k, [], [], k' => k' = k
  | k, m :: ms, m' :: ms', k' => (ilen m' = ilen m ∧ mkdI m' k (ilen m')) ∧ MkInt (k + 1 * ilen m) ms ms' k'
  | _, _, _, _ => False
theorem MkInt.snoc : ∀ {a a' : List (List Int)} {k0 k k' : Int} {m m' : List Int}, MkInt k0 a a' k → ilen m' = ilen m ∧ mkdI m' k (ilen m') → k' = k + 1 * ilen m → MkInt k0 (a ++ [m]) (a' ++ [m']) k'
  | [], [], _, _, _, _, _, h, h1, h2 => by
    have h' : _ = _ := h
    subst h'
    exact ⟨h1, h2⟩
  | _ :: _, _ :: _, _, _, _, _, _, h, h1, h2 => ⟨h.1, MkInt.snoc h.2 h1 h2⟩
  | [], _ :: _, _, _, _, _, _, h, _, _ => h.elim
  | _ :: _, [], _, _, _, _, _, h, _, _ => h.elim
theorem MkInt.le : ∀ {a a' : List (List Int)} {k0 k : Int}, MkInt k0 a a' k → (∀ m ∈ a, ilen m ≤ 1048576) → k0 ≤ k ∧ k ≤ k0 + 2097152 * a.length
  | [], [], _, _, h, _ => by
    have h' : _ = _ := h
    subst h'; simp
  | m :: _, _ :: _, _, _, h, hm => by
    have h1 := MkInt.le h.2 fun x hx => hm x (List.mem_cons_of_mem _ hx)
    have h2 := hm m (List.mem_cons_self ..)
    have h3 := ilen_0 m
    rw [List.length_cons]
    omega
  | [], _ :: _, _, _, h, _ => h.elim
  | _ :: _, [], _, _, h, _ => h.elim
set_option maxHeartbeats 1000000 in
theorem markIntSS_own {w : World} {base : Nat} {u : Value} {xs : List Value} {rows : List (List Int)} {k : Int} (hI : GInv w) (hng : NG ≤ base) (hT : Tab base 45 3 1 fI w u xs rows) (k0 : 0 ≤ k) (k1 : k ≤ 1000000) (hn : ilen rows ≤ 1048576) (hm : ∀ m ∈ rows, ilen m ≤ 1048576) :
    Calls Try.prog 41 #[u, .int .i64 k] w fun e w' => ∃ rows' k', e = .returned (.int .i64 k') ∧ Tab base 45 3 1 fI w' u xs rows' ∧ MkInt k rows rows' k' ∧ Mch xs w w' := by
  obtain ⟨A, c, rfl⟩ := own_form hT.outer
  have hxl := hT.len
  unfold ilen at hn
  go_enter Try.func41, Try.ntmps41
  go_wp2
  go_loopw [1, 5] (fun kv iv wr => ∃ (i : Nat) (done : List (List Int)) (kk : Int), i ≤ rows.length ∧ iv = .int .i64 i ∧ kv = .int .i64 kk ∧ done.length = i ∧ Tab base 45 3 1 fI wr (.slice A rows.length c) xs (done ++ rows.drop i) ∧ MkInt k (rows.take i) done kk ∧ Mch xs w wr) (fun _ iv _ => rows.length - (intOf iv).toNat)
  case atStart => exact ⟨0, [], k, Nat.zero_le _, rfl, rfl, rfl, hT, rfl, Mch.refl _ _⟩
  case round =>
    obtain ⟨i, done, kk, hi, rfl, rfl, hd, hTr, hM, hC⟩ := hrel
    by_cases hlt : i < rows.length
    · obtain ⟨g, rfl, hg⟩ := own_some (hT.outer) (by omega)
      obtain ⟨x, hx⟩ : ∃ x, xs[i]? = some x := ⟨xs[i]'(by omega), List.getElem?_eq_getElem _⟩
      have hri : (done ++ rows.drop i)[i]? = some rows[i] := by
        rw [List.getElem?_append_right (by omega), hd, Nat.sub_self, List.getElem?_drop, Nat.add_zero]
        exact List.getElem?_eq_getElem hlt
      have hrow := hTr.row i x rows[i] hx hri
      obtain ⟨Ax, cx, rfl⟩ := own_form hrow
      have hlen : (done ++ rows.drop i).length = rows.length := by rw [List.length_append, List.length_drop]; omega
      have hout := hTr.outer
      rw [hlen] at hout
      have c1 : wr.cell? ⟨g, i, none⟩ = some (.slice Ax rows[i].length cx) := by rw [hout.cellAt i (by omega)]; exact hx
      have hle := hM.le (fun m hm' => hm m (List.mem_of_mem_take hm'))
      rw [List.length_take] at hle
      have hmi : ilen rows[i] ≤ 1048576 := hm _ (List.getElem_mem hlt)
      have hIr : GInv wr := hC.inv hI (fun j v b hv hb => Nat.le_trans hng (hT.lt b (.inr ⟨j, v, hv, hb⟩)).1)
      have HROW := Lib.hid (mark_Int_b (k := kk) hIr hng hrow (by omega) (by omega) (by omega))
      have HX := Lib.hid hx
      have HH := Lib.hid hTr
      clear hx hri hrow hlen hout hTr
      go_wp2_with (go_at_call 35; refine HROW.out.mono ?_; rintro e w1 ⟨m', rfl, hout1⟩; have HO1 := Lib.hid hout1; clear hout1; generalize hqq : kk + 1 * ilen rows[i] = q; have HQ := Lib.hid hqq; clear hqq)
      obtain ⟨p1, p2, ho1, hg1⟩ := HO1.out
      have hT1 := HH.out.write (i := i) (by decide) HX.out hg1 ho1
      have hset : (done ++ rows.drop i).set i m' = (done ++ [m']) ++ rows.drop (i + 1) := by
        rw [List.set_append_right i _ (by omega), hd, Nat.sub_self, List.drop_eq_getElem_cons hlt, List.set_cons_zero, List.append_assoc]; rfl
      rw [hset] at hT1
      go_roundw
      case rel => exact ⟨i + 1, done ++ [m'], q, by omega, by go_num, rfl, by simp [hd], hT1, by rw [List.take_succ_eq_append_getElem hlt]; exact hM.snoc ⟨p1, p2⟩ HQ.out.symm, hC.step HX.out hg1⟩
      case measure => simp [intOf]; omega
    · go_wp2
      go_ret
      have hk' : i = rows.length := by omega
      subst hk'
      rw [List.drop_length, List.append_nil] at hTr
      rw [List.take_length] at hM
      exact ⟨_, _, rfl, hTr, hM, hC⟩
def sig_oMJ : FuncId → List AV → Option Sg := sigL [(81, g_impl_JointsValid), (82, g_impl_limitsFit), (83, g_impl_MotionProfile), (84, g_slices_Clone_Sint_int)]
def xs_oMJ : XS := ⟨xsigL [], ysigL []⟩
theorem sig_oMJ_ok : SigOK sig_oMJ := sigL_cons F_impl_JointsValid (sigL_cons F_impl_limitsFit (sigL_cons F_impl_MotionProfile (sigL_cons F_slices_Clone_Sint_int sigL_nil)))
theorem xs_oMJ_ok : XSigOK xs_oMJ := ⟨xsigL_nil, ysigL_nil⟩
theorem VA_oMJ (a1 : List Int) (a2 : List Int) (a3 : List Int) (f : List Int) (t : List Int) (top : Int) (rise : Int) : ((true = true) ∧ ((True) ∧ (True) ∧ True) ∧ (true = true) ∧ ((True) ∧ (True) ∧ ((True)) ∧ (True) ∧ (True) ∧ (NIs (bnot (jvB a1 a2 a3 f)) false → True) ∧ (NIs (bnot (jvB a1 a2 a3 f)) false → True) ∧ (NIs (bnot (jvB a1 a2 a3 f)) false → (True)) ∧ (NIs (bnot (jvB a1 a2 a3 f)) false → True) ∧ (True) ∧ (True) ∧ (NIs (bite (bnot (jvB a1 a2 a3 f)) true (bnot (jvB a1 a2 a3 t))) false → True) ∧ (NIs (bite (bnot (jvB a1 a2 a3 f)) true (bnot (jvB a1 a2 a3 t))) false → True) ∧ (NIs (bite (bnot (jvB a1 a2 a3 f)) true (bnot (jvB a1 a2 a3 t))) false → (True)) ∧ (NIs (bite (bnot (jvB a1 a2 a3 f)) true (bnot (jvB a1 a2 a3 t))) false → True) ∧ (True) ∧ True) ∧ ((bite (bite (bnot (jvB a1 a2 a3 f)) true (bnot (jvB a1 a2 a3 t))) true (bnot (lfB top rise))) = true → ((true = true) ∧ ((True) ∧ True) ∧ (okM a1 a2 a3 f t top rise = false) ∧ ((true = true) ∧ ((Cont.intss []) = (Cont.intss []))) ∧ True)) ∧ ((bite (bite (bnot (jvB a1 a2 a3 f)) true (bnot (jvB a1 a2 a3 t))) true (bnot (lfB top rise))) = false → ((true = true) ∧ ((True) ∧ True) ∧ (true = true) ∧ ((True) ∧ (True) ∧ (True) ∧ True) ∧ ∃ (I1 : List GV → Prop) (μ1 : List GV → Nat), (((true = true) ∧ ((((0 : Int) : Int) = (0 : Int)) ∧ (((0 : Int) : Int) = (0 : Int)) ∧ ((Cont.ints f) = (Cont.ints f)) ∧ (((ilen f) : Int) = (ilen f)) ∧ (((Cont.ints a1) = (Cont.ints a1)) ∧ ((Cont.ints a2) = (Cont.ints a2)) ∧ ((Cont.ints a3) = (Cont.ints a3)) ∧ True) ∧ ((Cont.ints f) = (Cont.ints f)) ∧ (((jvB a1 a2 a3 f) : Bool) = (jvB a1 a2 a3 f)) ∧ (((bnot (jvB a1 a2 a3 f)) : Bool) = (bnot (jvB a1 a2 a3 f))) ∧ (((bnot (jvB a1 a2 a3 f)) : Bool) = (bnot (jvB a1 a2 a3 f))) ∧ (((bite (bnot (jvB a1 a2 a3 f)) true (bnot (jvB a1 a2 a3 t))) : Bool) = (bite (bnot (jvB a1 a2 a3 f)) true (bnot (jvB a1 a2 a3 t)))) ∧ (((bite (bnot (jvB a1 a2 a3 f)) true (bnot (jvB a1 a2 a3 t))) : Bool) = (bite (bnot (jvB a1 a2 a3 f)) true (bnot (jvB a1 a2 a3 t)))) ∧ (((bite (bite (bnot (jvB a1 a2 a3 f)) true (bnot (jvB a1 a2 a3 t))) true (bnot (lfB top rise))) : Bool) = (bite (bite (bnot (jvB a1 a2 a3 f)) true (bnot (jvB a1 a2 a3 t))) true (bnot (lfB top rise)))) ∧ (true = true) ∧ (true = true) ∧ (((Cont.ints a1) = (Cont.ints a1)) ∧ ((Cont.ints a2) = (Cont.ints a2)) ∧ ((Cont.ints a3) = (Cont.ints a3)) ∧ True) ∧ ((Cont.ints f) = (Cont.ints f)) ∧ ((Cont.ints t) = (Cont.ints t)) ∧ ((top : Int) = top) ∧ ((rise : Int) = rise) ∧ True) ∧ ((((Cont.ints a1) = (Cont.ints a1)) ∧ ((Cont.ints a2) = (Cont.ints a2)) ∧ ((Cont.ints a3) = (Cont.ints a3)) ∧ True) ∧ ((true = true) ∧ ((Cont.intss []) = (Cont.intss []))) ∧ True)) ∧ (([GK.int, GK.int] : List GK) = ([GK.int, GK.int] : List GK)) ∧ I1 [GV.int (0 : Int), GV.int (0 : Int)]) ∧ (∀ i1_0 : Int, ∀ i1_1 : Int, I1 [GV.int i1_0, GV.int i1_1] → ((true = true) ∧ ((True) ∧ True) ∧ ((ilt i1_0 (ilen f)) = true → ((true = true) ∧ ((True) ∧ (True) ∧ True) ∧ (true = true) ∧ ((True) ∧ (True) ∧ (True) ∧ (NLe 0 i1_0 ∧ NLt i1_0 (ilen t)) ∧ (True) ∧ (True) ∧ (True) ∧ (NLe 0 i1_0 ∧ NLt i1_0 (ilen f)) ∧ (True) ∧ (True) ∧ (True) ∧ (True) ∧ (NLe 0 i1_0 ∧ NLt i1_0 (ilen f)) ∧ (True) ∧ (True) ∧ (True) ∧ (NLe 0 i1_0 ∧ NLt i1_0 (ilen t)) ∧ (True) ∧ (True) ∧ (True) ∧ (True) ∧ True) ∧ (true = true) ∧ ((True) ∧ (True) ∧ True) ∧ ((true = true) ∧ ((((imax (imax i1_1 (isub (geti t i1_0) (geti f i1_0))) (isub (geti f i1_0) (geti t i1_0))) : Int) = (imax (imax i1_1 (isub (geti t i1_0) (geti f i1_0))) (isub (geti f i1_0) (geti t i1_0)))) ∧ (((iadd i1_0 (1 : Int)) : Int) = (iadd i1_0 (1 : Int))) ∧ ((Cont.ints f) = (Cont.ints f)) ∧ (((ilen f) : Int) = (ilen f)) ∧ (((Cont.ints a1) = (Cont.ints a1)) ∧ ((Cont.ints a2) = (Cont.ints a2)) ∧ ((Cont.ints a3) = (Cont.ints a3)) ∧ True) ∧ ((Cont.ints f) = (Cont.ints f)) ∧ (((jvB a1 a2 a3 f) : Bool) = (jvB a1 a2 a3 f)) ∧ (((bnot (jvB a1 a2 a3 f)) : Bool) = (bnot (jvB a1 a2 a3 f))) ∧ (((bnot (jvB a1 a2 a3 f)) : Bool) = (bnot (jvB a1 a2 a3 f))) ∧ (((bite (bnot (jvB a1 a2 a3 f)) true (bnot (jvB a1 a2 a3 t))) : Bool) = (bite (bnot (jvB a1 a2 a3 f)) true (bnot (jvB a1 a2 a3 t)))) ∧ (((bite (bnot (jvB a1 a2 a3 f)) true (bnot (jvB a1 a2 a3 t))) : Bool) = (bite (bnot (jvB a1 a2 a3 f)) true (bnot (jvB a1 a2 a3 t)))) ∧ (((bite (bite (bnot (jvB a1 a2 a3 f)) true (bnot (jvB a1 a2 a3 t))) true (bnot (lfB top rise))) : Bool) = (bite (bite (bnot (jvB a1 a2 a3 f)) true (bnot (jvB a1 a2 a3 t))) true (bnot (lfB top rise)))) ∧ (true = true) ∧ (true = true) ∧ (((Cont.ints a1) = (Cont.ints a1)) ∧ ((Cont.ints a2) = (Cont.ints a2)) ∧ ((Cont.ints a3) = (Cont.ints a3)) ∧ True) ∧ ((Cont.ints f) = (Cont.ints f)) ∧ ((Cont.ints t) = (Cont.ints t)) ∧ ((top : Int) = top) ∧ ((rise : Int) = rise) ∧ True) ∧ ((((Cont.ints a1) = (Cont.ints a1)) ∧ ((Cont.ints a2) = (Cont.ints a2)) ∧ ((Cont.ints a3) = (Cont.ints a3)) ∧ True) ∧ ((true = true) ∧ ((Cont.intss []) = (Cont.intss []))) ∧ True)) ∧ ((([GK.int, GK.int] : List GK) = ([GK.int, GK.int] : List GK)) ∧ I1 [GV.int (iadd i1_0 (1 : Int)), GV.int (imax (imax i1_1 (isub (geti t i1_0) (geti f i1_0))) (isub (geti f i1_0) (geti t i1_0)))] ∧ μ1 [GV.int (iadd i1_0 (1 : Int)), GV.int (imax (imax i1_1 (isub (geti t i1_0) (geti f i1_0))) (isub (geti f i1_0) (geti t i1_0)))] < μ1 [GV.int i1_0, GV.int i1_1]))) ∧ ((ilt i1_0 (ilen f)) = false → ((true = true) ∧ ((True) ∧ True) ∧ (true = true) ∧ ((True) ∧ True) ∧ (okM a1 a2 a3 f t top rise = true) ∧ (((i1_1 : Int) = mostL f t (ilen f))) ∧ (((true = true) ∧ ((Cont.intss []) = (Cont.intss [])))) ∧ ((((0 : Int) : Int) = 0)) ∧ True))))))) = ev sig_oMJ xs_oMJ Try.f39.ntmps (fun b => if b == 0 then [.v 37, .v 11] else []) (takeS 5 (dropS 0 (codeOf Try.f39))) 0 (initS [.agg [.view (.ints a1), .view (.ints a2), .view (.ints a3)], .s (.view (.ints f)), .s (.view (.ints t)), .s (.int top), .s (.int rise)]) (fragK2 (okM a1 a2 a3 f t top rise = false) (okM a1 a2 a3 f t top rise = true) [(11, .rv (.s (.int (mostL f t (ilen f))))), (13, .rv (.nrow 45 (.intss []))), (14, .rv (.s (.int 0)))] Try.f39.results.toList [.nrow 45 (.intss [])]) := by kernel_rfl
set_option maxHeartbeats 1000000 in
theorem PA_oMJ (a1 : List Int) (a2 : List Int) (a3 : List Int) (f : List Int) (t : List Int) (top : Int) (rise : Int)  : ev sig_oMJ xs_oMJ Try.f39.ntmps (fun b => if b == 0 then [.v 37, .v 11] else []) (takeS 5 (dropS 0 (codeOf Try.f39))) 0 (initS [.agg [.view (.ints a1), .view (.ints a2), .view (.ints a3)], .s (.view (.ints f)), .s (.view (.ints t)), .s (.int top), .s (.int rise)]) (fragK2 (okM a1 a2 a3 f t top rise = false) (okM a1 a2 a3 f t top rise = true) [(11, .rv (.s (.int (mostL f t (ilen f))))), (13, .rv (.nrow 45 (.intss []))), (14, .rv (.s (.int 0)))] Try.f39.results.toList [.nrow 45 (.intss [])]) := by
  refine Eq.mp (VA_oMJ a1 a2 a3 f t top rise) ?_
  simp only [true_and, and_true, implies_true, and_self, forall_const, true_implies, lenA, lenL, SV.lenOK, Cont.lenOK]
  simp only [ilt_t, ilt_f, ile_t, ile_f, ieq_t, ieq_f, bnot_e, band_e, bite_and, bite_or, NLt_e, NLe_e, NNe_e, NIs_e, imax_e, imin_e, irem_e, Bool.not_eq_true', Bool.not_eq_false', Bool.and_eq_true, Bool.or_eq_true, Bool.or_eq_false_iff, Bool.and_eq_false_iff, Cont.pts.injEq, Cont.ints.injEq, Cont.bools.injEq, Cont.ptss.injEq, Cont.intss.injEq, Cont.boolss.injEq, true_and, and_true, implies_true]
  refine ⟨fun h => by unfold okM; rcases h with (h | h) | h <;> simp [h], fun h => ?_⟩
  have h : okM a1 a2 a3 f t top rise = true := by unfold okM; rw [h.1.1, h.1.2, h.2]; rfl
  obtain ⟨j1, j2, lf, hf4, htl, hn', hm, hs, hv, hlen⟩ := ok_parts h
  have h0 := ilen_0 f
  refine ⟨fun | [.int k, .int m] => 0 ≤ k ∧ k ≤ ilen f ∧ m = mostL f t k | _ => False, fun | .int k :: _ => (ilen f - k).toNat | _ => 0, ⟨by omega, by omega, rfl⟩, ?_⟩
  rintro k m ⟨k0, k1, rfl⟩
  refine ⟨fun hc => ?_, fun hc => ?_⟩
  · have hk := hn' k k0 hc
    obtain ⟨m0, m1, _⟩ := mostL_in hn' k0 k1
    have e := mostL_1 (a := f) (b := t) k0
    rw [isub_e (by omega) (by omega), isub_e (by omega) (by omega), iadd_e (by omega) (by omega)]
    exact ⟨⟨⟨k0, by omega⟩, ⟨k0, hc⟩, ⟨k0, hc⟩, ⟨k0, by omega⟩⟩, ⟨by omega, by omega, by omega⟩, by show (ilen f - (k + 1)).toNat < (ilen f - k).toNat; omega⟩
  have ek : k = ilen f := by omega
  subst ek
  exact ⟨h, rfl⟩
theorem VB_oMJ (D : Int) (top : Int) (rise : Int) : ((true = true) ∧ ((True) ∧ (True) ∧ (True) ∧ ((True)) ∧ (True) ∧ (True) ∧ True) ∧ (True) ∧ (((true = true) ∧ ((Cont.ints (mpF D top rise)) = (Cont.ints (mpF D top rise))))) ∧ ((((ilen (mpF D top rise)) : Int) = ilen (mpF D top rise))) ∧ ((((0 : Int) : Int) = 0)) ∧ True) = ev sig_oMJ xs_oMJ Try.f39.ntmps (fun b => []) (lpA (dropS 6 (codeOf Try.f39))) 0 (⟨[(3, .s (.int top)), (4, .s (.int rise)), (11, .s (.int D))], [], 1⟩) (fragK2 (False) (True) [(64, .rv (.nrow 3 (.ints (mpF D top rise)))), (65, .rv (.s (.int (ilen (mpF D top rise))))), (66, .rv (.s (.int 0)))] Try.f39.results.toList [.nrow 45 (.intss [])]) := by kernel_rfl
set_option maxHeartbeats 1000000 in
theorem PB_oMJ (D : Int) (top : Int) (rise : Int)  : ev sig_oMJ xs_oMJ Try.f39.ntmps (fun b => []) (lpA (dropS 6 (codeOf Try.f39))) 0 (⟨[(3, .s (.int top)), (4, .s (.int rise)), (11, .s (.int D))], [], 1⟩) (fragK2 (False) (True) [(64, .rv (.nrow 3 (.ints (mpF D top rise)))), (65, .rv (.s (.int (ilen (mpF D top rise))))), (66, .rv (.s (.int 0)))] Try.f39.results.toList [.nrow 45 (.intss [])]) := by
  refine Eq.mp (VB_oMJ D top rise) ?_
  simp only [true_and, and_true, implies_true, and_self, forall_const, true_implies, lenA, lenL, SV.lenOK, Cont.lenOK]
  skip
theorem VT_oMJ (k : Int) (n : Int) : ((true = true) ∧ ((True) ∧ True) ∧ (True) ∧ ((((ilt k n) : Bool) = decide (k < n))) ∧ True) = ev sig_oMJ xs_oMJ Try.f39.ntmps (fun b => []) (lpT (dropS 6 (codeOf Try.f39))) 0 (⟨[(65, .s (.int n)), (66, .s (.int k))], [], 1⟩) (fragK2 (False) (True) [(67, .rv (.s (.bool (decide (k < n)))))] Try.f39.results.toList [.nrow 45 (.intss [])]) := by kernel_rfl
set_option maxHeartbeats 1000000 in
theorem PT_oMJ (k : Int) (n : Int)  : ev sig_oMJ xs_oMJ Try.f39.ntmps (fun b => []) (lpT (dropS 6 (codeOf Try.f39))) 0 (⟨[(65, .s (.int n)), (66, .s (.int k))], [], 1⟩) (fragK2 (False) (True) [(67, .rv (.s (.bool (decide (k < n)))))] Try.f39.results.toList [.nrow 45 (.intss [])]) := by
  refine Eq.mp (VT_oMJ k n) ?_
  simp only [true_and, and_true, implies_true, and_self, forall_const, true_implies, lenA, lenL, SV.lenOK, Cont.lenOK]
  unfold ilt; rfl
theorem VC_oMJ (f : List Int) (t : List Int) (P : List Int) (D : Int) (top : Int) (k : Int) : ((true = true) ∧ ((NLe 0 k ∧ NLt k (ilen P)) ∧ (True) ∧ (True) ∧ True) ∧ (true = true) ∧ ((True) ∧ (True) ∧ (True) ∧ (True) ∧ True) ∧ (true = true) ∧ ((True) ∧ ((ilen f ≤ 1000000000)) ∧ (True) ∧ True) ∧ (true = true) ∧ ((True) ∧ (True) ∧ (True) ∧ True) ∧ ∃ (I1 : List GV → Prop) (μ1 : List GV → Nat), (((true = true) ∧ ((((0 : Int) : Int) = (0 : Int)) ∧ (((ilen (f)) : Int) = (ilen (f))) ∧ ((Cont.ints f) = (Cont.ints f)) ∧ (true = true) ∧ ((pS P k : Int) = pS P k) ∧ (((geti P k) : Int) = (geti P k)) ∧ (((iadd (pS P k) (geti P k)) : Int) = (iadd (pS P k) (geti P k))) ∧ (((iadd (pS P k) (geti P k)) : Int) = (iadd (pS P k) (geti P k))) ∧ (((geti P k) : Int) = (geti P k)) ∧ (((geti P k) : Int) = (geti P k)) ∧ ((Cont.ints f) = (Cont.ints f)) ∧ ((Cont.ints t) = (Cont.ints t)) ∧ ((D : Int) = D) ∧ ((Cont.ints P) = (Cont.ints P)) ∧ ((k : Int) = k) ∧ True) ∧ (((true = true) ∧ ((Cont.ints (f)) = (Cont.ints (f)))) ∧ True)) ∧ (([GK.int, GK.ints] : List GK) = ([GK.int, GK.ints] : List GK)) ∧ I1 [GV.int (0 : Int), GV.ints (f)]) ∧ (∀ i1_0 : Int, ∀ l1_1 : List Int, I1 [GV.int i1_0, GV.ints l1_1] → ((true = true) ∧ ((True) ∧ True) ∧ ((ilt i1_0 (ilen (f))) = true → ((true = true) ∧ ((True) ∧ (True) ∧ True) ∧ (true = true) ∧ ((True) ∧ (True) ∧ (NLe 0 i1_0 ∧ NLt i1_0 (ilen l1_1)) ∧ (NLt i1_0 (ilen l1_1)) ∧ (True) ∧ (True) ∧ (NLe 0 i1_0 ∧ NLt i1_0 (ilen t)) ∧ (True) ∧ (True) ∧ (True) ∧ (NLe 0 i1_0 ∧ NLt i1_0 (ilen f)) ∧ (True) ∧ (True) ∧ (True) ∧ (True) ∧ (True) ∧ (NNe D 0) ∧ (True) ∧ (NLe 0 i1_0 ∧ NLt i1_0 (ilen l1_1)) ∧ True) ∧ (NLt i1_0 (ilen l1_1)) ∧ (true = true) ∧ ((True) ∧ (True) ∧ True) ∧ ((true = true) ∧ ((((iadd i1_0 (1 : Int)) : Int) = (iadd i1_0 (1 : Int))) ∧ (((ilen (f)) : Int) = (ilen (f))) ∧ ((Cont.ints f) = (Cont.ints f)) ∧ (true = true) ∧ ((pS P k : Int) = pS P k) ∧ (((geti P k) : Int) = (geti P k)) ∧ (((iadd (pS P k) (geti P k)) : Int) = (iadd (pS P k) (geti P k))) ∧ (((iadd (pS P k) (geti P k)) : Int) = (iadd (pS P k) (geti P k))) ∧ (((geti P k) : Int) = (geti P k)) ∧ (((geti P k) : Int) = (geti P k)) ∧ ((Cont.ints f) = (Cont.ints f)) ∧ ((Cont.ints t) = (Cont.ints t)) ∧ ((D : Int) = D) ∧ ((Cont.ints P) = (Cont.ints P)) ∧ ((k : Int) = k) ∧ True) ∧ (((true = true) ∧ ((Cont.ints (seti l1_1 i1_0 (iadd (geti l1_1 i1_0) (iquo (imul (isub (geti t i1_0) (geti f i1_0)) (iadd (pS P k) (geti P k))) D)))) = (Cont.ints (seti l1_1 i1_0 (iadd (geti l1_1 i1_0) (iquo (imul (isub (geti t i1_0) (geti f i1_0)) (iadd (pS P k) (geti P k))) D)))))) ∧ True)) ∧ ((([GK.int, GK.ints] : List GK) = ([GK.int, GK.ints] : List GK)) ∧ I1 [GV.int (iadd i1_0 (1 : Int)), GV.ints (seti l1_1 i1_0 (iadd (geti l1_1 i1_0) (iquo (imul (isub (geti t i1_0) (geti f i1_0)) (iadd (pS P k) (geti P k))) D)))] ∧ μ1 [GV.int (iadd i1_0 (1 : Int)), GV.ints (seti l1_1 i1_0 (iadd (geti l1_1 i1_0) (iquo (imul (isub (geti t i1_0) (geti f i1_0)) (iadd (pS P k) (geti P k))) D)))] < μ1 [GV.int i1_0, GV.ints l1_1]))) ∧ ((ilt i1_0 (ilen (f))) = false → ((True) ∧ ((((iadd (pS P k) (geti P k)) : Int) = pS P (k + 1))) ∧ (((true = true) ∧ ((Cont.ints l1_1) = (Cont.ints (rowL f t (pS P (k + 1)) D))))) ∧ True))))) = ev sig_oMJ xs_oMJ Try.f39.ntmps (fun b => if b == 4 then [.v 77, .b 17] else []) (takeS 3 (lpX (dropS 6 (codeOf Try.f39)))) 0 (⟨[(1, .s (.view (.ints f))), (2, .s (.view (.ints t))), (11, .s (.int D)), (14, .s (.int (pS P k))), (64, .s (.view (.ints P))), (66, .s (.int k))], [], 1⟩) (fragK2 (False) (True) [(14, .rv (.s (.int (pS P (k + 1))))), (17, .rv (.nrow 3 (.ints (rowL f t (pS P (k + 1)) D))))] Try.f39.results.toList [.nrow 45 (.intss [])]) := by kernel_rfl
set_option maxHeartbeats 1000000 in
theorem PC_oMJ (f : List Int) (t : List Int) (P : List Int) (D : Int) (top : Int) (k : Int) (hf4 : 1 ≤ ilen f ∧ ilen f ≤ 4) (htl : ilen t = ilen f) (hn' : nearL f t (ilen f)) (hd : ∀ j : Int, 0 ≤ j → j < ilen f → geti t j - geti f j ≤ D ∧ geti f j - geti t j ≤ D) (hm : 0 ≤ D ∧ D ≤ 360) (hs : sumI P = D) (hv : ∀ v ∈ P, 1 ≤ v ∧ v ≤ top) (ht : top ≤ 200) (k0 : 0 ≤ k) (hc : k < ilen P) : ev sig_oMJ xs_oMJ Try.f39.ntmps (fun b => if b == 4 then [.v 77, .b 17] else []) (takeS 3 (lpX (dropS 6 (codeOf Try.f39)))) 0 (⟨[(1, .s (.view (.ints f))), (2, .s (.view (.ints t))), (11, .s (.int D)), (14, .s (.int (pS P k))), (64, .s (.view (.ints P))), (66, .s (.int k))], [], 1⟩) (fragK2 (False) (True) [(14, .rv (.s (.int (pS P (k + 1))))), (17, .rv (.nrow 3 (.ints (rowL f t (pS P (k + 1)) D))))] Try.f39.results.toList [.nrow 45 (.intss [])]) := by
  refine Eq.mp (VC_oMJ f t P D top k) ?_
  simp only [true_and, and_true, implies_true, and_self, forall_const, true_implies, lenA, lenL, SV.lenOK, Cont.lenOK]
  have h0 := ilen_0 f
  simp only [ilt_t, ilt_f, ile_t, ile_f, ieq_t, ieq_f, bnot_e, band_e, bite_and, bite_or, NLt_e, NLe_e, NNe_e, NIs_e, imax_e, imin_e, irem_e, Bool.not_eq_true', Bool.not_eq_false', Bool.and_eq_true, Bool.or_eq_true, Bool.or_eq_false_iff, Bool.and_eq_false_iff, Cont.pts.injEq, Cont.ints.injEq, Cont.bools.injEq, Cont.ptss.injEq, Cont.intss.injEq, Cont.boolss.injEq, true_and, and_true, implies_true]
  have hv0 : ∀ v ∈ P, 0 ≤ v := fun v hm => by have := (hv v hm).1; omega
  have hP0 := ilen_0 P
  have hg := hv _ (geti_mem k0 hc)
  have hb1 := pS_bd hv0 k
  have hb2 := pS_bd hv0 (k + 1)
  have hps := pS_s k0 hc
  have e1 : iadd (pS P k) (geti P k) = pS P (k + 1) := by rw [iadd_e (by omega) (by omega)]; omega
  rw [e1]
  refine ⟨⟨k0, hc⟩, by omega, fun | [.int j, .ints r] => 0 ≤ j ∧ j ≤ ilen f ∧ ilen r = ilen f ∧ (∀ i, 0 ≤ i → i < ilen f → geti r i = if i < j then rowE f t (pS P (k + 1)) D i else geti f i) | _ => False, fun | .int j :: _ => (ilen f - j).toNat | _ => 0, ⟨by omega, by omega, rfl, fun i i0 i1 => by rw [if_neg (by omega)]⟩, ?_⟩
  rintro j r ⟨j0, jn, hrl, hr⟩
  refine ⟨fun hj => ?_, fun hj => ⟨rfl, ?_⟩⟩
  · have hnj := hn' j j0 hj
    have e2 : isub (geti t j) (geti f j) = geti t j - geti f j := isub_e (by omega) (by omega)
    have hdj := hd j j0 hj
    have hbt := shr_between (x := geti f j) (y := geti t j) (p := pS P (k + 1)) (D := D) (by omega) (by omega) (by omega)
    have hb : -3600000 ≤ (geti t j - geti f j) * pS P (k + 1) ∧ (geti t j - geti f j) * pS P (k + 1) ≤ 3600000 := by
      have h := mul_box (show -360 ≤ geti t j - geti f j by omega) (show geti t j - geti f j ≤ 360 by omega) (show 0 ≤ pS P (k + 1) by omega) (show pS P (k + 1) ≤ 10000 by omega)
      omega
    have e5 : imul (geti t j - geti f j) (pS P (k + 1)) = (geti t j - geti f j) * pS P (k + 1) := imul_e (by omega) (by omega)
    have hq := (tdiv_bd (a := (geti t j - geti f j) * pS P (k + 1)) (b := D) (by omega) (by omega) (by omega)).1
    have e6 : ((geti t j - geti f j) * pS P (k + 1)).tdiv D = shr (geti t j - geti f j) (pS P (k + 1)) D := rfl
    have hrj := hr j j0 hj
    rw [if_neg (by omega)] at hrj
    have e3 : iadd (geti f j) (shr (geti t j - geti f j) (pS P (k + 1)) D) = rowE f t (pS P (k + 1)) D j := by
      rw [iadd_e (by omega) (by omega)]; rfl
    rw [e2, e5, hq, e6, hrj, e3, iadd_e (by omega) (by omega)]
    refine ⟨⟨⟨j0, by omega⟩, by omega, ⟨j0, by omega⟩, ⟨j0, hj⟩, by omega, j0, by omega⟩, by omega, ⟨by omega, by omega, by rw [ilen_seti]; exact hrl, fun i i0 i1 => ?_⟩, by show (ilen f - (j + 1)).toNat < (ilen f - j).toNat; omega⟩
    rw [geti_seti j0 (by omega) i0]
    by_cases hij : i = j
    · subst hij; rw [if_pos rfl, if_pos (by omega)]
    · rw [if_neg hij, hr i i0 i1]
      by_cases hlt : i < j
      · rw [if_pos hlt, if_pos (by omega)]
      · rw [if_neg hlt, if_neg (by omega)]
  · refine ints_ext (by rw [rowL_len, hrl]) fun i i0 i1 => ?_
    rw [rowL_get i0 (by omega), hr i i0 (by omega), if_pos (by omega)]
theorem VS_oMJ (k : Int) : ((true = true) ∧ ((True) ∧ (True) ∧ True) ∧ (True) ∧ ((((iadd k (1 : Int)) : Int) = k + 1)) ∧ True) = ev sig_oMJ xs_oMJ Try.f39.ntmps (fun b => []) (lpS (dropS 6 (codeOf Try.f39))) 0 (⟨[(66, .s (.int k))], [], 1⟩) (fragK2 (False) (True) [(66, .rv (.s (.int (k + 1))))] Try.f39.results.toList [.nrow 45 (.intss [])]) := by kernel_rfl
set_option maxHeartbeats 1000000 in
theorem PS_oMJ (k : Int) (hk : 0 ≤ k ∧ k ≤ 1000000) : ev sig_oMJ xs_oMJ Try.f39.ntmps (fun b => []) (lpS (dropS 6 (codeOf Try.f39))) 0 (⟨[(66, .s (.int k))], [], 1⟩) (fragK2 (False) (True) [(66, .rv (.s (.int (k + 1))))] Try.f39.results.toList [.nrow 45 (.intss [])]) := by
  refine Eq.mp (VS_oMJ k) ?_
  simp only [true_and, and_true, implies_true, and_self, forall_const, true_implies, lenA, lenL, SV.lenOK, Cont.lenOK]
  exact iadd_e (by omega) (by omega)
theorem tab_none {α : Type} {base : Nat} {e e' : TypeId} {sz : Nat} {fl : List α → List Value} {w : World} {v : Value} {ys : List Value} (h : w.ownsRow base e 1 v 0 ys) : Tab base e e' sz fl w v [] ([] : List (List α)) := by
  have hl : ys = [] := List.eq_nil_of_length_eq_zero (by have := h.1; omega)
  subst hl
  exact ⟨h, fun i u m h => by simp at h, fun i j u u' b h => by simp at h⟩
theorem info_oMJ : (Try.prog.info? 45).map (fun i => (i.zero, i.size, i.bytes)) = some (some (.slice none 0 0), 1, 24) := by kernel_rfl
set_option maxHeartbeats 1000000 in
theorem MoveJoints_own {w : World} {v0 v1 v2 v3 v4 : Value} {a1 a2 a3 f t : List Int} {top rise : Int} (hI : GInv w) (hA : hasA (EL fun _ => False) w [v0, v1, v2, v3, v4] [.agg [.view (.ints a1), .view (.ints a2), .view (.ints a3)], .s (.view (.ints f)), .s (.view (.ints t)), .s (.int top), .s (.int rise)]) :
    Calls Try.prog 39 #[v0, v1, v2, v3, v4] w fun e w' => ∃ u xs, e = .returned u ∧ Tab w.heap.size 45 3 1 fI w' u xs (mvF a1 a2 a3 f t top rise) ∧ Bel w w' := by
  refine calls_of_wp Try.func39 (c := dropS 0 (codeOf Try.f39)) rfl ?_
  have h1 : Reads (fun _ => False) w v1 (.ints f) := hA.2.1
  have h2 : Reads (fun _ => False) w v2 (.ints t) := hA.2.2.1
  have h3 : v3 = .int .i64 top := hA.2.2.2.1
  have h4 : v4 = .int .i64 rise := hA.2.2.2.2.1
  refine frag_wpL (ds := inS (wrL (takeS 5 (dropS 0 (codeOf Try.f39))))) sig_oMJ_ok xs_oMJ_ok (by kernel_rfl) 5 _ 0 _ _ _ _ _ _ (by kernel_rfl) (init_rel0 hI hA (by kernel_rfl)) (PA_oMJ a1 a2 a3 f t top rise) ?_
  intro e σ1 E1 b1 w1 hR1 hk hs1
  cases e with
  | exit i => exact hk.elim
  | ret =>
    obtain ⟨hf, hk⟩ := hk
    obtain ⟨hd, v, hv1, ys, hv2, -⟩ := frag_retV hR1 hk (by kernel_rfl)
    refine ⟨hd, v, hv1, v, [], rfl, ?_, rel_bel hR1⟩
    unfold mvF
    rw [if_neg (by rw [hf]; simp)]
    exact tab_none hv2
  | normal =>
    obtain ⟨hok, hend⟩ := hk
    have hB1 : Bel w w1 := rel_bel hR1
    have e11 : b1.tmps.getD 11 undef = .int .i64 (mostL f t (ilen f)) := mEnd_ok hR1 hend 11 (.rv (.s (.int (mostL f t (ilen f))))) (by simp)
    have e14 : b1.tmps.getD 14 undef = .int .i64 0 := mEnd_ok hR1 hend 14 (.rv (.s (.int 0))) (by simp)
    obtain ⟨ys, e13, -⟩ : Owned w.heap.size (fun b => False ∨ blk (b1.tmps.getD 13 undef) = some b) w1 (b1.tmps.getD 13 undef) 45 (.intss []) := mEnd_ok hR1 hend 13 (.rv (.nrow 45 (.intss []))) (by simp)
    have t0 : Tab w.heap.size 45 3 1 fI w1 (b1.tmps.getD 13 undef) [] ([] : List (List Int)) := tab_none e13
    obtain ⟨j1, j2, lf, hf4, htl, hn', hm, hs, hv, hlen⟩ := ok_parts hok
    have htop := (lf_parts lf).1
    have hd := (mostL_in hn' (ilen_0 f) (Int.le_refl _)).2.2
    have hF : mvF a1 a2 a3 f t top rise = mvK f t (mvP f t top rise) (mostL f t (ilen f)) (ilen (mvP f t top rise)) := by unfold mvF; rw [if_pos hok]
    rw [hF]
    have eP : mpF (mostL f t (ilen f)) top rise = mvP f t top rise := rfl
    have hN1 := hR1.size
    have hd1 := hR1.defers
    have s1 := (hs1 1 (by kernel_rfl)).trans (init_get rfl)
    have s2 := (hs1 2 (by kernel_rfl)).trans (init_get rfl)
    have s3 := ((hs1 3 (by kernel_rfl)).trans (init_get rfl)).trans h3
    have s4 := ((hs1 4 (by kernel_rfl)).trans (init_get rfl)).trans h4
    clear hs1 hR1 hend hF hok
    have hPB := PB_oMJ (mostL f t (ilen f)) top rise
    rw [eP] at hPB
    generalize mvP f t top rise = P at *
    generalize mostL f t (ilen f) = D at *
    have hv0 : ∀ v ∈ P, 0 ≤ v := fun v hm => by have := (hv v hm).1; omega
    have hP0 := ilen_0 P
    refine loop_item (c := dropS 6 (codeOf Try.f39)) (q := 67) (by kernel_rfl) (fun n a w' => ∃ (k : Int) (v : Value) (xs : List Value), n = (ilen P - k).toNat ∧ 0 ≤ k ∧ k ≤ ilen P ∧ a.tmps.size = Try.f39.ntmps ∧ a.defers = [] ∧ Bel w w' ∧ a.tmps.getD 1 undef = v1 ∧ a.tmps.getD 2 undef = v2 ∧ a.tmps.getD 11 undef = .int .i64 D ∧ a.tmps.getD 13 undef = v ∧ a.tmps.getD 14 undef = .int .i64 (pS P k) ∧ w'.ownsRow w.heap.size 3 1 (a.tmps.getD 64 undef) P.length (fI P) ∧ a.tmps.getD 65 undef = .int .i64 (ilen P) ∧ a.tmps.getD 66 undef = .int .i64 k ∧ Tab w.heap.size 45 3 1 fI w' v xs (mvK f t P D k)) (ilen P).toNat ?_ ?_
    · refine ev_okL (ds := inS (wrL (lpA (dropS 6 (codeOf Try.f39))))) sig_oMJ_ok xs_oMJ_ok (by kernel_rfl) _ 0 _ _ _ _ _ _ (fun s hs => inS_iff.2 hs) (rel_part (S := [(3, .s (.int top)), (4, .s (.int rise)), (11, .s (.int D))]) (ginv_bel hI hB1) hN1 hd1 (by kernel_rfl) ⟨s3, s4, e11, trivial⟩) hPB ?_
      intro e σ2 E2 b2 w2 hR2 hk hs2
      cases e with
      | exit i => exact hk.elim
      | ret => exact hk.1.elim
      | normal =>
        obtain ⟨-, hend⟩ := hk
        have hb2 : Bel w1 w2 := rel_bel hR2
        obtain ⟨y64, e64, hy64⟩ : Owned w1.heap.size (fun b => False ∨ blk (b2.tmps.getD 64 undef) = some b) w2 (b2.tmps.getD 64 undef) 3 (.ints P) := mEnd_ok hR2 hend 64 (.rv (.nrow 3 (.ints P))) (by simp)
        have hy64' : y64 = fI P := hy64
        subst hy64'
        have e65 : b2.tmps.getD 65 undef = .int .i64 (ilen P) := mEnd_ok hR2 hend 65 (.rv (.s (.int (ilen P)))) (by simp)
        have e66 : b2.tmps.getD 66 undef = .int .i64 0 := mEnd_ok hR2 hend 66 (.rv (.s (.int 0))) (by simp)
        refine ⟨rfl, 0, _, [], by rw [Int.sub_zero], by omega, hP0, hR2.size, hR2.defers, hB1.trans hb2, (hs2 1 (by kernel_rfl)).trans s1, (hs2 2 (by kernel_rfl)).trans s2, (hs2 11 (by kernel_rfl)).trans e11, hs2 13 (by kernel_rfl), ((hs2 14 (by kernel_rfl)).trans e14).trans (by rw [pS_0]), own_base e64 hB1.size, e65, e66, t0.bel hb2⟩
    · rintro n a w' ⟨k, v, xs, rfl, k0, k1, hN, hdf, hB, g1, g2, g11, g13, g14, g64, g65, g66, hT⟩
      have hI' := ginv_bel hI hB
      refine ev_okL (ds := inS (wrL (lpT (dropS 6 (codeOf Try.f39))))) sig_oMJ_ok xs_oMJ_ok (by kernel_rfl) _ 0 _ _ _ _ _ _ (fun s hs => inS_iff.2 hs) (rel_part (S := [(65, .s (.int (ilen P))), (66, .s (.int k))]) hI' hN hdf (by kernel_rfl) ⟨g65, g66, trivial⟩) (PT_oMJ k (ilen P)) ?_
      intro e σ2 E2 b2 w2 hR2 hk hs2
      cases e with
      | exit i => exact hk.elim
      | ret => exact hk.1.elim
      | normal =>
        obtain ⟨-, hend⟩ := hk
        have hb2 : Bel w' w2 := rel_bel hR2
        have e67 : b2.tmps.getD 67 undef = .bool (decide (k < ilen P)) := mEnd_ok hR2 hend 67 (.rv (.s (.bool (decide (k < ilen P))))) (by simp)
        have hN := hR2.size
        have hdf := hR2.defers
        have g1 := (hs2 1 (by kernel_rfl)).trans g1
        have g2 := (hs2 2 (by kernel_rfl)).trans g2
        have g11 := (hs2 11 (by kernel_rfl)).trans g11
        have g13 := (hs2 13 (by kernel_rfl)).trans g13
        have g14 := (hs2 14 (by kernel_rfl)).trans g14
        have g64 := own_bel g64 hb2
        rw [← hs2 64 (by kernel_rfl)] at g64
        have r64 : Reads (fun _ => False) w2 (b2.tmps.getD 64 undef) (.ints P) := ⟨_, Owned.flat g64 (fun _ _ h => h), rfl⟩
        have g65 := (hs2 65 (by kernel_rfl)).trans g65
        have g66 := (hs2 66 (by kernel_rfl)).trans g66
        have hT := hT.bel hb2
        have hB := hB.trans hb2
        have hI' := ginv_bel hI hB
        clear hs2 hend hR2 hb2
        refine ⟨rfl, _, e67, fun hlt => ?_, fun hge => ?_⟩
        · have hc : k < ilen P := by simpa using hlt
          refine frag_wpL (ds := inS (wrL (takeS 3 (lpX (dropS 6 (codeOf Try.f39)))))) sig_oMJ_ok xs_oMJ_ok (by kernel_rfl) 3 _ 0 _ _ _ _ _ _ (by kernel_rfl) (rel_part (S := [(1, .s (.view (.ints f))), (2, .s (.view (.ints t))), (11, .s (.int D)), (14, .s (.int (pS P k))), (64, .s (.view (.ints P))), (66, .s (.int k))]) hI' hN hdf (by kernel_rfl) ⟨(by rw [g1]; exact reads_old h1 hB), (by rw [g2]; exact reads_old h2 hB), g11, g14, r64, g66, trivial⟩) (PC_oMJ f t P D top k hf4 htl hn' hd hm hs hv htop.2 k0 hc) ?_
          intro e σ3 E3 b3 w3 hR3 hk hs3
          cases e with
          | exit i => exact hk.elim
          | ret => exact hk.1.elim
          | normal =>
            obtain ⟨-, hend⟩ := hk
            have hb3 : Bel w2 w3 := rel_bel hR3
            have e14 : b3.tmps.getD 14 undef = .int .i64 (pS P (k + 1)) := mEnd_ok hR3 hend 14 (.rv (.s (.int (pS P (k + 1))))) (by simp)
            obtain ⟨ys, e17, hys⟩ : Owned w2.heap.size (fun b => False ∨ blk (b3.tmps.getD 17 undef) = some b) w3 (b3.tmps.getD 17 undef) 3 (.ints (rowL f t (pS P (k + 1)) D)) := mEnd_ok hR3 hend 17 (.rv (.nrow 3 (.ints (rowL f t (pS P (k + 1)) D)))) (by simp)
            have hys' : ys = fI (rowL f t (pS P (k + 1)) D) := hys
            subst hys'
            have hT3 := hT.bel hb3
            refine push_item (tt := 57) (e := 45) (e' := 3) (ct := .intss []) (p := 13) (q := 17) (N := Try.f39.ntmps) (by kernel_rfl) hR3.size (by rfl) (by rfl) (by decide) info_oMJ ((hs3 13 (by kernel_rfl)).trans g13) rfl hT3 (own_base e17 hB.size) (fun b hb ht => (by have := (hT.lt b ht).2; have := (e17.lt b hb).1; omega)) (Nat.le_trans hB.size hb3.size) (by have h := mvK_len (f := f) (t := t) (P := P) (D := D) k0; have h2 : k ≤ 360 := (by omega); unfold ilen at h; omega) ?_
            intro b4 w4 v4' hN4 hd4 hs4 q13 hT4 hg4
            refine ⟨rfl, ?_⟩
            have hB4 : Bel w w4 := bel_step (hB.trans hb3) hg4 (fun b hb => (hT3.lt b (.inl hb)).1)
            have hI4 := ginv_bel hI hB4
            have q64 : b4.tmps.getD 64 undef = b2.tmps.getD 64 undef := (hs4 64 (by kernel_rfl)).trans (hs3 64 (by kernel_rfl))
            have e64' := (own_bel g64 hb3).kept hg4 (none_or fun b hb hv => own_apart (by decide) hT3.outer (own_bel g64 hb3) b hb hv)
            rw [← q64] at e64'
            refine ev_okL (ds := inS (wrL (lpS (dropS 6 (codeOf Try.f39))))) sig_oMJ_ok xs_oMJ_ok (by kernel_rfl) _ 0 _ _ _ _ _ _ (fun s hs => inS_iff.2 hs) (rel_part (S := [(66, .s (.int k))]) hI4 hN4 (hd4.trans hR3.defers) (by kernel_rfl) ⟨((hs4 66 (by kernel_rfl)).trans (hs3 66 (by kernel_rfl))).trans g66, trivial⟩) (PS_oMJ k ⟨k0, by omega⟩) ?_
            intro e σ5 E5 b5 w5 hR5 hk hs5
            cases e with
            | exit i => exact hk.elim
            | ret => exact hk.1.elim
            | normal =>
              obtain ⟨-, hend5⟩ := hk
              have hb5 : Bel w4 w5 := rel_bel hR5
              have e66 : b5.tmps.getD 66 undef = .int .i64 (k + 1) := mEnd_ok hR5 hend5 66 (.rv (.s (.int (k + 1)))) (by simp)
              have hms := mvK_s (f := f) (t := t) (P := P) (D := D) k0
              unfold iapp at hms
              rw [hms] at hT4
              refine ⟨rfl, _, (by omega : (ilen P - (k + 1)).toNat < (ilen P - k).toNat), k + 1, v4', _, rfl, by omega, by omega, hR5.size, hR5.defers, hB4.trans hb5, ?_, ?_, ?_, (hs5 13 (by kernel_rfl)).trans q13, ?_, ?_, ?_, e66, hT4.bel hb5⟩
              · exact ((hs5 1 (by kernel_rfl)).trans ((hs4 1 (by kernel_rfl)).trans (hs3 1 (by kernel_rfl)))).trans g1
              · exact ((hs5 2 (by kernel_rfl)).trans ((hs4 2 (by kernel_rfl)).trans (hs3 2 (by kernel_rfl)))).trans g2
              · exact ((hs5 11 (by kernel_rfl)).trans ((hs4 11 (by kernel_rfl)).trans (hs3 11 (by kernel_rfl)))).trans g11
              · exact ((hs5 14 (by kernel_rfl)).trans (hs4 14 (by kernel_rfl))).trans e14
              · rw [hs5 64 (by kernel_rfl)]; exact own_bel e64' hb5
              · exact ((hs5 65 (by kernel_rfl)).trans ((hs4 65 (by kernel_rfl)).trans (hs3 65 (by kernel_rfl)))).trans g65
        · have ek : k = ilen P := by have : ¬ k < ilen P := by simpa using hge
                                     omega
          subst ek
          refine item_wp (by kernel_rfl) ?_
          refine mv2_item (p := 13) (e := 10) (N := Try.f39.ntmps) (by kernel_rfl) hN g13 ?_
          intro b3 hN3 hd3 hs3 q10
          exact wp_ret ⟨hd3.trans hdf, v, ret_one rfl q10, v, xs, rfl, hT, hB⟩
theorem hsI_e : ∀ {a a' : List (List Int)} {k k' : Int}, MkInt k a a' k' → 0 ≤ k → hsI a' k = k'
  | [], [], k, k', h, _ => by
    have h' : k' = k := h
    subst h'; rfl
  | m :: ms, m' :: ms', k, k', h, k0 => by
    obtain ⟨⟨h1, h2⟩, h3⟩ := h
    have hh : heldIF m' k = k + 1 * ilen m := by rw [heldIF_e h2, h1]; omega
    have h0 := ilen_0 m
    show (if heldIF m' k < 0 then -1 else hsI ms' (heldIF m' k)) = k'
    rw [hh, if_neg (by omega)]
    exact hsI_e h3 (by omega)
  | [], _ :: _, _, _, h, _ => h.elim
  | _ :: _, [], _, _, h, _ => h.elim
theorem MkInt.sz : ∀ {a a' : List (List Int)} {k k' M : Int}, MkInt k a a' k' → (∀ m ∈ a, ilen m ≤ M) → a'.length = a.length ∧ ∀ m' ∈ a', ilen m' ≤ M
  | [], [], _, _, _, _, _ => ⟨rfl, fun m h => by cases h⟩
  | m :: ms, m' :: ms', _, _, _, h, hm => by
    obtain ⟨⟨h1, h2⟩, h3⟩ := h
    obtain ⟨q1, q2⟩ := h3.sz fun x hx => hm x (List.mem_cons_of_mem _ hx)
    refine ⟨by simp [q1], fun x hx => ?_⟩
    rcases List.mem_cons.1 hx with rfl | hx
    · rw [h1]; exact hm m (List.mem_cons_self ..)
    · exact q2 x hx
  | [], _ :: _, _, _, _, h, _ => h.elim
  | _ :: _, [], _, _, _, h, _ => h.elim
theorem bdI {l : List (List Int)} {M : Int} (h : ∀ m ∈ l, ilen m ≤ M) : ∀ i, 0 ≤ i → i < ilen l → ilen (getl l i) ≤ M := fun i i0 i1 => by
  unfold ilen at i1
  have hn : i.toNat < l.length := by omega
  have g : getl l i = l[i.toNat] := by unfold getl; simp [List.getD_eq_getElem?_getD, hn]
  rw [g]; exact h _ (List.getElem_mem hn)
theorem VA_laws_FnExactMoveJoints (a1 : List Int) (a2 : List Int) (a3 : List Int) (f : List Int) (t : List Int) (top : Int) (rise : Int) : ((true = true) ∧ ((True) ∧ (True) ∧ True) ∧ (true = true) ∧ ((True) ∧ (True) ∧ (True) ∧ True) ∧ ((ilt (1048576 : Int) (ilen f)) = true → ((true = true) ∧ ((True) ∧ True) ∧ ((true : Bool) = true) ∧ True)) ∧ ((ilt (1048576 : Int) (ilen f)) = false → ((true = true) ∧ ((True) ∧ (True) ∧ (True) ∧ True) ∧ ((ilt (1048576 : Int) (ilen t)) = true → ((true = true) ∧ ((True) ∧ True) ∧ ((true : Bool) = true) ∧ True)) ∧ ((ilt (1048576 : Int) (ilen t)) = false → ((true = true) ∧ ((True) ∧ True) ∧ (true = true) ∧ ((True) ∧ (True) ∧ True) ∧ (true = true) ∧ ((0 ≤ (1048576 : Int) ∧ (1048576 : Int) ≤ 1048576)) ∧ (∀ k_1 : Int, ((k_1 < 0 ∨ (0 ≤ k_1 ∧ k_1 ≤ (1048576 : Int) ∧ ilen a1 ≤ (1048576 : Int) ∧ ilen a2 ≤ (1048576 : Int) ∧ ilen a3 ≤ (1048576 : Int))) → ((True) ∧ (true = true) ∧ ((True) ∧ (True) ∧ True) ∧ ((ilt (k_1) (0 : Int)) = true → ((true = true) ∧ ((True) ∧ True) ∧ ((true : Bool) = true) ∧ True)) ∧ ((ilt (k_1) (0 : Int)) = false → ((true = true) ∧ ((True) ∧ ((ilen a1 ≤ 100000000 ∧ ilen a2 ≤ 100000000 ∧ ilen a3 ≤ 100000000)) ∧ (True) ∧ ((ilen f ≤ 100000000)) ∧ (True) ∧ ((ilen t ≤ 100000000)) ∧ (True) ∧ (True) ∧ ((True)) ∧ (True) ∧ True) ∧ (ilen f ≤ 1048576 ∧ ilen t ≤ 1048576 ∧ ilen a1 ≤ 1048576 ∧ ilen a2 ≤ 1048576 ∧ ilen a3 ≤ 1048576) ∧ ((true = true) ∧ ((Cont.ints a1) = (Cont.ints a1)) ∧ ((Cont.ints a2) = (Cont.ints a2)) ∧ ((Cont.ints a3) = (Cont.ints a3)) ∧ True) ∧ (((true = true) ∧ ((Cont.intss (mvF (a1) (a2) (a3) (f) (t) top rise)) = (Cont.intss (mvF a1 a2 a3 f t top rise))))) ∧ True)))))))))) = ev sig_laws_FnExactMoveJoints xs_laws_FnExactMoveJoints Try.f8.ntmps (fun b => []) (takeS 6 (dropS 0 (codeOf Try.f8))) 0 (initS [.agg [.view (.ints a1), .view (.ints a2), .view (.ints a3)], .s (.view (.ints f)), .s (.view (.ints t)), .s (.int top), .s (.int rise)]) (fragK (ilen f ≤ 1048576 ∧ ilen t ≤ 1048576 ∧ ilen a1 ≤ 1048576 ∧ ilen a2 ≤ 1048576 ∧ ilen a3 ≤ 1048576) [(5, .bx [.view (.ints a1), .view (.ints a2), .view (.ints a3)]), (12, .rv (.s (.view (.intss (mvF a1 a2 a3 f t top rise)))))] Try.f8.results.toList [.s (.bool true)]) := by kernel_rfl
set_option maxHeartbeats 1000000 in
theorem PA_laws_FnExactMoveJoints (a1 : List Int) (a2 : List Int) (a3 : List Int) (f : List Int) (t : List Int) (top : Int) (rise : Int)  : ev sig_laws_FnExactMoveJoints xs_laws_FnExactMoveJoints Try.f8.ntmps (fun b => []) (takeS 6 (dropS 0 (codeOf Try.f8))) 0 (initS [.agg [.view (.ints a1), .view (.ints a2), .view (.ints a3)], .s (.view (.ints f)), .s (.view (.ints t)), .s (.int top), .s (.int rise)]) (fragK (ilen f ≤ 1048576 ∧ ilen t ≤ 1048576 ∧ ilen a1 ≤ 1048576 ∧ ilen a2 ≤ 1048576 ∧ ilen a3 ≤ 1048576) [(5, .bx [.view (.ints a1), .view (.ints a2), .view (.ints a3)]), (12, .rv (.s (.view (.intss (mvF a1 a2 a3 f t top rise)))))] Try.f8.results.toList [.s (.bool true)]) := by
  refine Eq.mp (VA_laws_FnExactMoveJoints a1 a2 a3 f t top rise) ?_
  simp only [true_and, and_true, implies_true, and_self, forall_const, true_implies, lenA, lenL, SV.lenOK, Cont.lenOK]
  simp only [ilt_t, ilt_f, ile_t, ile_f, ieq_t, ieq_f, bnot_e, band_e, bite_and, bite_or, NLt_e, NLe_e, NNe_e, NIs_e, imax_e, imin_e, irem_e, Bool.not_eq_true', Bool.not_eq_false', Bool.and_eq_true, Bool.or_eq_true, Bool.or_eq_false_iff, Bool.and_eq_false_iff, Cont.pts.injEq, Cont.ints.injEq, Cont.bools.injEq, Cont.ptss.injEq, Cont.intss.injEq, Cont.boolss.injEq, true_and, and_true, implies_true]
  refine fun hf ht => ⟨by omega, fun k hk h0 => ?_⟩
  rcases hk with hk | ⟨k0, k1, k2, k3, k4⟩
  · omega
  · exact ⟨⟨⟨by omega, by omega, by omega⟩, by omega, by omega⟩, by omega, by omega, by omega, by omega, by omega⟩
theorem VB_laws_FnExactMoveJoints (a1 : List Int) (a2 : List Int) (a3 : List Int) (f : List Int) (t : List Int) (top : Int) (rise : Int) : ((true = true) ∧ ((True) ∧ (True) ∧ ((True)) ∧ (True) ∧ True) ∧ ((bnot (eqII (mvF a1 a2 a3 f t top rise) (mvF a1 a2 a3 f t top rise))) = true → ((true = true) ∧ ((True) ∧ True) ∧ ((false : Bool) = true) ∧ True)) ∧ ((bnot (eqII (mvF a1 a2 a3 f t top rise) (mvF a1 a2 a3 f t top rise))) = false → ((true = true) ∧ ((True) ∧ (True) ∧ ((ilen a1 ≤ 100000000 ∧ ilen a2 ≤ 100000000 ∧ ilen a3 ≤ 100000000)) ∧ ((True)) ∧ (True) ∧ True) ∧ ((bnot (eqI a1 (a1) && eqI a2 (a2) && eqI a3 (a3))) = true → ((true = true) ∧ ((True) ∧ True) ∧ ((false : Bool) = true) ∧ True)) ∧ ((bnot (eqI a1 (a1) && eqI a2 (a2) && eqI a3 (a3))) = false → ((true = true) ∧ ((True) ∧ (True) ∧ ((ilen f ≤ 100000000)) ∧ ((True)) ∧ (True) ∧ True) ∧ ((bnot (eqI f (f))) = true → ((true = true) ∧ ((True) ∧ True) ∧ ((false : Bool) = true) ∧ True)) ∧ ((bnot (eqI f (f))) = false → ((true = true) ∧ ((True) ∧ (True) ∧ ((ilen t ≤ 100000000)) ∧ ((True)) ∧ (True) ∧ True) ∧ ((bnot (eqI t (t))) = true → ((true = true) ∧ ((True) ∧ True) ∧ ((false : Bool) = true) ∧ True)) ∧ ((bnot (eqI t (t))) = false → ((true = true) ∧ ((True) ∧ True) ∧ (True) ∧ ((((1 : Int) : Int) = 1)) ∧ True))))))))) = ev sig_laws_FnExactMoveJoints xs_laws_FnExactMoveJoints Try.f8.ntmps (fun b => []) (takeS 4 (dropS 11 (codeOf Try.f8))) 0 (⟨[(1, .s (.view (.ints f))), (2, .s (.view (.ints t))), (5, .s (.vptr (.intss [a1, a2, a3]) (0 : Int) 0)), (12, .s (.view (.intss (mvF a1 a2 a3 f t top rise)))), (13, .s (.vptr (.intss [a1, a2, a3]) (0 : Int) 0)), (14, .s (.view (.ints f))), (15, .s (.view (.ints t))), (16, .s (.view (.intss (mvF a1 a2 a3 f t top rise))))], [], 1⟩) (fragK (True) [(17, .rv (.s (.int 1)))] Try.f8.results.toList [.s (.bool true)]) := by kernel_rfl
set_option maxHeartbeats 1000000 in
theorem PB_laws_FnExactMoveJoints (a1 : List Int) (a2 : List Int) (a3 : List Int) (f : List Int) (t : List Int) (top : Int) (rise : Int) (hl : ilen f ≤ 1048576 ∧ ilen t ≤ 1048576 ∧ ilen a1 ≤ 1048576 ∧ ilen a2 ≤ 1048576 ∧ ilen a3 ≤ 1048576) : ev sig_laws_FnExactMoveJoints xs_laws_FnExactMoveJoints Try.f8.ntmps (fun b => []) (takeS 4 (dropS 11 (codeOf Try.f8))) 0 (⟨[(1, .s (.view (.ints f))), (2, .s (.view (.ints t))), (5, .s (.vptr (.intss [a1, a2, a3]) (0 : Int) 0)), (12, .s (.view (.intss (mvF a1 a2 a3 f t top rise)))), (13, .s (.vptr (.intss [a1, a2, a3]) (0 : Int) 0)), (14, .s (.view (.ints f))), (15, .s (.view (.ints t))), (16, .s (.view (.intss (mvF a1 a2 a3 f t top rise))))], [], 1⟩) (fragK (True) [(17, .rv (.s (.int 1)))] Try.f8.results.toList [.s (.bool true)]) := by
  refine Eq.mp (VB_laws_FnExactMoveJoints a1 a2 a3 f t top rise) ?_
  simp only [true_and, and_true, implies_true, and_self, forall_const, true_implies, lenA, lenL, SV.lenOK, Cont.lenOK]
  simp only [ilt_t, ilt_f, ile_t, ile_f, ieq_t, ieq_f, bnot_e, band_e, bite_and, bite_or, NLt_e, NLe_e, NNe_e, NIs_e, imax_e, imin_e, irem_e, Bool.not_eq_true', Bool.not_eq_false', Bool.and_eq_true, Bool.or_eq_true, Bool.or_eq_false_iff, Bool.and_eq_false_iff, Cont.pts.injEq, Cont.ints.injEq, Cont.bools.injEq, Cont.ptss.injEq, Cont.intss.injEq, Cont.boolss.injEq, true_and, and_true, implies_true, eqII_same, eqI_same]
  exact ⟨fun h => by simp at h, fun _ => ⟨⟨by omega, by omega, by omega⟩, fun h => by simp at h, fun _ => ⟨by omega, fun h => by simp at h, fun _ => ⟨by omega, fun h => by simp at h⟩⟩⟩⟩
theorem VD_laws_FnExactMoveJoints (a1 : List Int) (a2 : List Int) (a3 : List Int) (f : List Int) (t : List Int) (top : Int) (rise : Int) (k : Int) : ((true = true) ∧ ((True) ∧ (True) ∧ (True) ∧ (NIs (ilt k (0 : Int)) false → True) ∧ (NIs (ilt k (0 : Int)) false → True) ∧ (NIs (ilt k (0 : Int)) false → (True)) ∧ (NIs (ilt k (0 : Int)) false → True) ∧ (True) ∧ True) ∧ ((bite (ilt k (0 : Int)) true (bnot (eqII (mvF a1 a2 a3 f t top rise) (mvF a1 a2 a3 f t top rise)))) = true → ((true = true) ∧ ((True) ∧ True) ∧ ((false : Bool) = true) ∧ True)) ∧ ((bite (ilt k (0 : Int)) true (bnot (eqII (mvF a1 a2 a3 f t top rise) (mvF a1 a2 a3 f t top rise)))) = false → ((true = true) ∧ ((True) ∧ True) ∧ (True) ∧ ((((1 : Int) : Int) = 1)) ∧ True))) = ev sig_laws_FnExactMoveJoints xs_laws_FnExactMoveJoints Try.f8.ntmps (fun b => []) (takeS 1 (dropS 19 (codeOf Try.f8))) 0 (⟨[(12, .s (.view (.intss (mvF a1 a2 a3 f t top rise)))), (16, .s (.view (.intss (mvF a1 a2 a3 f t top rise)))), (17, .s (.int k))], [], 1⟩) (fragK (True) [(18, .rv (.s (.int 1)))] Try.f8.results.toList [.s (.bool true)]) := by kernel_rfl
set_option maxHeartbeats 1000000 in
theorem PD_laws_FnExactMoveJoints (a1 : List Int) (a2 : List Int) (a3 : List Int) (f : List Int) (t : List Int) (top : Int) (rise : Int) (k : Int) (hl : ilen f ≤ 1048576 ∧ ilen t ≤ 1048576 ∧ ilen a1 ≤ 1048576 ∧ ilen a2 ≤ 1048576 ∧ ilen a3 ≤ 1048576) (hk : 0 ≤ k ∧ k ≤ 10000000000) : ev sig_laws_FnExactMoveJoints xs_laws_FnExactMoveJoints Try.f8.ntmps (fun b => []) (takeS 1 (dropS 19 (codeOf Try.f8))) 0 (⟨[(12, .s (.view (.intss (mvF a1 a2 a3 f t top rise)))), (16, .s (.view (.intss (mvF a1 a2 a3 f t top rise)))), (17, .s (.int k))], [], 1⟩) (fragK (True) [(18, .rv (.s (.int 1)))] Try.f8.results.toList [.s (.bool true)]) := by
  refine Eq.mp (VD_laws_FnExactMoveJoints a1 a2 a3 f t top rise k) ?_
  simp only [true_and, and_true, implies_true, and_self, forall_const, true_implies, lenA, lenL, SV.lenOK, Cont.lenOK]
  simp only [ilt_t, ilt_f, ile_t, ile_f, ieq_t, ieq_f, bnot_e, band_e, bite_and, bite_or, NLt_e, NLe_e, NNe_e, NIs_e, imax_e, imin_e, irem_e, Bool.not_eq_true', Bool.not_eq_false', Bool.and_eq_true, Bool.or_eq_true, Bool.or_eq_false_iff, Bool.and_eq_false_iff, Cont.pts.injEq, Cont.ints.injEq, Cont.bools.injEq, Cont.ptss.injEq, Cont.intss.injEq, Cont.boolss.injEq, true_and, and_true, implies_true, eqII_same]
  exact fun h => (by rcases h with h | h; omega; simp at h)
theorem VE_laws_FnExactMoveJoints (a1 : List Int) (a2 : List Int) (a3 : List Int) (f : List Int) (t : List Int) (top : Int) (rise : Int) (R : List (List Int)) (q : Int) : ((true = true) ∧ ((True) ∧ True) ∧ (true = true) ∧ ((True) ∧ (True) ∧ ((0 ≤ (1 : Int) ∧ (1 : Int) ≤ 1000000 ∧ ilen R ≤ 1048576 ∧ ∀ i, 0 ≤ i → i < ilen R → ilen (getl R i) ≤ 1048576)) ∧ (True) ∧ True) ∧ (true = true) ∧ ((True) ∧ (True) ∧ True) ∧ ((ilt (hsI R (1 : Int)) (0 : Int)) = true → ((true = true) ∧ ((True) ∧ True) ∧ ((false : Bool) = true) ∧ True)) ∧ ((ilt (hsI R (1 : Int)) (0 : Int)) = false → ((true = true) ∧ ((True) ∧ (True) ∧ (True) ∧ True) ∧ ((bnot (ieq (hsI R (1 : Int)) q)) = true → ((true = true) ∧ ((True) ∧ True) ∧ ((false : Bool) = true) ∧ True)) ∧ ((bnot (ieq (hsI R (1 : Int)) q)) = false → ((true = true) ∧ ((True) ∧ ((ilen a1 ≤ 100000000 ∧ ilen a2 ≤ 100000000 ∧ ilen a3 ≤ 100000000)) ∧ (True) ∧ ((ilen f ≤ 100000000)) ∧ (True) ∧ ((ilen t ≤ 100000000)) ∧ (True) ∧ (True) ∧ ((True)) ∧ (True) ∧ True) ∧ (true = true) ∧ ((True) ∧ (True) ∧ ((True)) ∧ (True) ∧ True) ∧ ((bnot (eqII (mvF (a1) (a2) (a3) (f) (t) top rise) (mvF a1 a2 a3 f t top rise))) = true → ((true = true) ∧ ((True) ∧ True) ∧ ((false : Bool) = true) ∧ True)) ∧ ((bnot (eqII (mvF (a1) (a2) (a3) (f) (t) top rise) (mvF a1 a2 a3 f t top rise))) = false → ((true = true) ∧ ((True) ∧ True) ∧ (true = true) ∧ ((True) ∧ (True) ∧ ((0 ≤ (1 : Int) ∧ (1 : Int) ≤ 1000000 ∧ ilen R ≤ 1048576 ∧ ∀ i, 0 ≤ i → i < ilen R → ilen (getl R i) ≤ 1048576)) ∧ (True) ∧ True) ∧ (true = true) ∧ ((True) ∧ (True) ∧ True) ∧ ((ilt (hsI R (1 : Int)) (0 : Int)) = true → ((true = true) ∧ ((True) ∧ True) ∧ ((false : Bool) = true) ∧ True)) ∧ ((ilt (hsI R (1 : Int)) (0 : Int)) = false → ((true = true) ∧ ((True) ∧ (True) ∧ (True) ∧ True) ∧ ((bnot (ieq (hsI R (1 : Int)) q)) = true → ((true = true) ∧ ((True) ∧ True) ∧ ((false : Bool) = true) ∧ True)) ∧ ((bnot (ieq (hsI R (1 : Int)) q)) = false → ((true = true) ∧ ((True) ∧ True) ∧ ((true : Bool) = true) ∧ True))))))))))) = ev sig_laws_FnExactMoveJoints xs_laws_FnExactMoveJoints Try.f8.ntmps (fun b => []) (dropS 22 (codeOf Try.f8)) 0 (⟨[(1, .s (.view (.ints f))), (2, .s (.view (.ints t))), (3, .s (.int top)), (4, .s (.int rise)), (5, .s (.vptr (.intss [a1, a2, a3]) (0 : Int) 0)), (12, .s (.view (.intss (mvF a1 a2 a3 f t top rise)))), (16, .s (.view (.intss R))), (18, .s (.int q))], [], 1⟩) (retK Try.f8.results.toList [.s (.bool true)]) := by kernel_rfl
set_option maxHeartbeats 1000000 in
theorem PE_laws_FnExactMoveJoints (a1 : List Int) (a2 : List Int) (a3 : List Int) (f : List Int) (t : List Int) (top : Int) (rise : Int) (R : List (List Int)) (q : Int) (hl : ilen f ≤ 1048576 ∧ ilen t ≤ 1048576 ∧ ilen a1 ≤ 1048576 ∧ ilen a2 ≤ 1048576 ∧ ilen a3 ≤ 1048576) (hq : hsI R 1 = q) (hq1 : 0 ≤ q ∧ q ≤ 10000000000) (hR : ilen R ≤ 1000 ∧ ∀ i, 0 ≤ i → i < ilen R → ilen (getl R i) ≤ 1000) : ev sig_laws_FnExactMoveJoints xs_laws_FnExactMoveJoints Try.f8.ntmps (fun b => []) (dropS 22 (codeOf Try.f8)) 0 (⟨[(1, .s (.view (.ints f))), (2, .s (.view (.ints t))), (3, .s (.int top)), (4, .s (.int rise)), (5, .s (.vptr (.intss [a1, a2, a3]) (0 : Int) 0)), (12, .s (.view (.intss (mvF a1 a2 a3 f t top rise)))), (16, .s (.view (.intss R))), (18, .s (.int q))], [], 1⟩) (retK Try.f8.results.toList [.s (.bool true)]) := by
  refine Eq.mp (VE_laws_FnExactMoveJoints a1 a2 a3 f t top rise R q) ?_
  simp only [true_and, and_true, implies_true, and_self, forall_const, true_implies, lenA, lenL, SV.lenOK, Cont.lenOK]
  simp only [ilt_t, ilt_f, ile_t, ile_f, ieq_t, ieq_f, bnot_e, band_e, bite_and, bite_or, NLt_e, NLe_e, NNe_e, NIs_e, imax_e, imin_e, irem_e, Bool.not_eq_true', Bool.not_eq_false', Bool.and_eq_true, Bool.or_eq_true, Bool.or_eq_false_iff, Bool.and_eq_false_iff, Cont.pts.injEq, Cont.ints.injEq, Cont.bools.injEq, Cont.ptss.injEq, Cont.intss.injEq, Cont.boolss.injEq, true_and, and_true, implies_true, eqII_same]
  rw [hq]
  have hR2 : ∀ i, 0 ≤ i → i < ilen R → ilen (getl R i) ≤ 1048576 := fun i i0 i1 => by have := hR.2 i i0 i1; omega
  have hR1 := hR.1
  exact ⟨⟨by omega, by omega, by omega, hR2⟩, fun h => by omega, fun _ => ⟨fun h => absurd rfl h, fun _ => ⟨⟨⟨by omega, by omega, by omega⟩, by omega, by omega⟩, fun h => by simp at h, fun _ => ⟨⟨by omega, by omega, by omega, hR2⟩, fun h => by omega, fun _ h => absurd rfl h⟩⟩⟩⟩
theorem mvF_bd {a1 a2 a3 f t : List Int} {top rise : Int} : ilen (mvF a1 a2 a3 f t top rise) ≤ 1000 ∧ ∀ m ∈ mvF a1 a2 a3 f t top rise, ilen m ≤ 1000 := by
  by_cases h : okM a1 a2 a3 f t top rise = true
  · obtain ⟨j1, j2, lf, hf4, htl, hn', hm, hs, hv, hlen⟩ := ok_parts h
    have e : mvF a1 a2 a3 f t top rise = mvK f t (mvP f t top rise) (mostL f t (ilen f)) (ilen (mvP f t top rise)) := by unfold mvF; rw [if_pos h]
    rw [e, mvK_len (ilen_0 _)]
    refine ⟨by omega, fun m hm' => ?_⟩
    unfold mvK at hm'
    obtain ⟨j, -, rfl⟩ := List.mem_map.1 hm'
    rw [rowL_len]; omega
  · have e : mvF a1 a2 a3 f t top rise = [] := by unfold mvF; rw [if_neg h]
    rw [e]
    exact ⟨by rw [ilen_nil]; omega, fun m hm => by cases hm⟩
set_option maxHeartbeats 2000000 in
theorem femj_x {w : World} {v0 v1 v2 v3 v4 : Value} {a1 a2 a3 f t : List Int} {top rise : Int} (hI : GInv w) (hA : hasA (EL fun _ => False) w [v0, v1, v2, v3, v4] [.agg [.view (.ints a1), .view (.ints a2), .view (.ints a3)], .s (.view (.ints f)), .s (.view (.ints t)), .s (.int top), .s (.int rise)]) :
    Calls Try.prog 8 #[v0, v1, v2, v3, v4] w fun e w' => e = .returned (.bool true) ∧ Bel w w' := by
  have r1 : Reads (fun _ => False) w v1 (.ints f) := hA.2.1
  have r2 : Reads (fun _ => False) w v2 (.ints t) := hA.2.2.1
  have h3 : v3 = .int .i64 top := hA.2.2.2.1
  have h4 : v4 = .int .i64 rise := hA.2.2.2.2.1
  refine calls_of_wp Try.func8 (c := dropS 0 (codeOf Try.f8)) rfl ?_
  refine frag_wpK (ds := inS (wrS (takeS 6 (dropS 0 (codeOf Try.f8))))) sig_laws_FnExactMoveJoints_ok xs_laws_FnExactMoveJoints_ok (by kernel_rfl) 6 _ 0 _ _ _ _ _ _ (by kernel_rfl) (init_rel0 hI hA (by kernel_rfl)) (PA_laws_FnExactMoveJoints a1 a2 a3 f t top rise) ?_
  intro e σ1 E1 b1 w1 hR1 hk hs1
  cases e with
  | exit i => exact hk.elim
  | ret => exact frag_ret hR1 hk (Bel.refl w) (by kernel_rfl)
  | normal =>
    obtain ⟨hl, hend⟩ := hk
    have hB1 : Bel w w1 := rel_bel hR1
    have hI1 := ginv_bel hI hB1
    obtain ⟨g5, ⟨l5⟩, t5, p5, -, q5, r5⟩ := mEnd_ok hR1 hend 5 (.bx [.view (.ints a1), .view (.ints a2), .view (.ints a3)]) (by simp)
    have e12 : Reads (fun _ => False) w1 (b1.tmps.getD 12 undef) (.intss (mvF a1 a2 a3 f t top rise)) := mEnd_ok hR1 hend 12 (.rv (.s (.view (.intss (mvF a1 a2 a3 f t top rise))))) (by simp)
    match l5, r5 with
    | [x1, x2, x3], r5 =>
    have s1 : b1.tmps.getD 1 undef = v1 := (hs1 rfl 1 (by kernel_rfl)).trans (init_get rfl)
    have s2 : b1.tmps.getD 2 undef = v2 := (hs1 rfl 2 (by kernel_rfl)).trans (init_get rfl)
    have s3 : b1.tmps.getD 3 undef = .int .i64 top := ((hs1 rfl 3 (by kernel_rfl)).trans (init_get rfl)).trans h3
    have s4 : b1.tmps.getD 4 undef = .int .i64 rise := ((hs1 rfl 4 (by kernel_rfl)).trans (init_get rfl)).trans h4
    obtain ⟨v12, s12⟩ : ∃ v, b1.tmps.getD 12 undef = v := ⟨_, rfl⟩
    rw [s12] at e12
    have r1 := reads_old r1 hB1
    have r2 := reads_old r2 hB1
    have hd1 := hR1.defers
    refine item_wp (by kernel_rfl) ?_
    refine arm_item (tl := 47) (ti := 50) (f := 30) (p := 5) (e := 13) (N := Try.f8.ntmps) (by kernel_rfl) hR1.size (enters_of Try.func30 (by kernel_rfl) rfl) rfl rfl p5 q5 ?_
    clear hR1 hend hs1
    refine (toArm_own hI1 r5.1 r5.2.1 r5.2.2.1 (by omega) (by omega) (by omega)).mono ?_
    rintro en w2' ⟨y1, y2, y3, rfl, hT', hb2'⟩
    refine ⟨y1, y2, y3, rfl, ⟨own_one hT'.o1, own_one hT'.o2, own_one hT'.o3⟩, fun b2 w2 g9 hN2 hd2 hs2 s13 hg9 q9 hb2'' => ?_⟩
    have hb2 := hb2'.trans hb2''
    have hT := hT'.bel hb2''
    have hI2 := ginv_bel hI1 hb2
    have s1 := (hs2 1 (by kernel_rfl)).trans s1
    have s2 := (hs2 2 (by kernel_rfl)).trans s2
    have s3 := (hs2 3 (by kernel_rfl)).trans s3
    have s4 := (hs2 4 (by kernel_rfl)).trans s4
    have s5 := (hs2 5 (by kernel_rfl)).trans p5
    have s12 := (hs2 12 (by kernel_rfl)).trans s12
    have hd2 := hd2.trans hd1
    clear hs2 hT' hb2' hb2''
    -- x1
    refine item_wp (by kernel_rfl) ?_
    refine call_item (f := 38) (srcs := [1]) (e := 14) (N := Try.f8.ntmps) (by kernel_rfl) hN2 (enters_of Try.func38 (by kernel_rfl) rfl) ?_
    simp only [List.map_cons, List.map_nil, s1]
    refine (to_Int_b hI2 (reads_old r1 hb2) (by omega)).mono ?_
    rintro en w3 ⟨u14, rfl, o14, hb3⟩
    refine ⟨_, rfl, fun b3 hN3 hd3 hs3 s14 => ?_⟩
    have l14 : ∀ b, u14.ownBlock = some b → w2.heap.size ≤ b ∧ b < w3.heap.size := fun b hb => o14.lt b hb
    have hb13 := hb2.trans hb3
    have hI3 := ginv_bel hI1 hb13
    have s1 := (hs3 1 (by kernel_rfl)).trans s1
    have s2 := (hs3 2 (by kernel_rfl)).trans s2
    have s3 := (hs3 3 (by kernel_rfl)).trans s3
    have s4 := (hs3 4 (by kernel_rfl)).trans s4
    have s5 := (hs3 5 (by kernel_rfl)).trans s5
    have s12 := (hs3 12 (by kernel_rfl)).trans s12
    have s13 := (hs3 13 (by kernel_rfl)).trans s13
    have hd3 := hd3.trans hd2
    clear hs3
    -- x2
    refine item_wp (by kernel_rfl) ?_
    refine call_item (f := 38) (srcs := [2]) (e := 15) (N := Try.f8.ntmps) (by kernel_rfl) hN3 (enters_of Try.func38 (by kernel_rfl) rfl) ?_
    simp only [List.map_cons, List.map_nil, s2]
    refine (to_Int_b hI3 (reads_old r2 hb13) (by omega)).mono ?_
    rintro en w4 ⟨u15, rfl, o15, hb4⟩
    refine ⟨_, rfl, fun b4 hN4 hd4 hs4 s15 => ?_⟩
    have l15 : ∀ b, u15.ownBlock = some b → w3.heap.size ≤ b ∧ b < w4.heap.size := fun b hb => o15.lt b hb
    have hb14 := hb13.trans hb4
    have hI4 := ginv_bel hI1 hb14
    have s1 := (hs4 1 (by kernel_rfl)).trans s1
    have s2 := (hs4 2 (by kernel_rfl)).trans s2
    have s3 := (hs4 3 (by kernel_rfl)).trans s3
    have s4 := (hs4 4 (by kernel_rfl)).trans s4
    have s5 := (hs4 5 (by kernel_rfl)).trans s5
    have s12 := (hs4 12 (by kernel_rfl)).trans s12
    have s13 := (hs4 13 (by kernel_rfl)).trans s13
    have s14 := (hs4 14 (by kernel_rfl)).trans s14
    have hd4 := hd4.trans hd3
    clear hs4
    -- g0
    have hT4 := hT.bel (hb3.trans hb4)
    have q9 := ((hb3.trans hb4).block g9 (heap_lt q9)).trans q9
    have o14 := own_bel o14 hb4
    have rf : ∀ {w' : World} {base : Nat} {v : Value} {m : List Int}, w'.ownsRow base 3 1 v m.length (fI m) → Reads (fun _ => False) w' v (.ints m) := fun h => ⟨_, Owned.flat h (fun _ _ h => h), rfl⟩
    refine item_wp (by kernel_rfl) ?_
    refine armcall_item (ti := 50) (f := 39) (p := 13) (srcs := [14, 15, 3, 4]) (e := 16) (N := Try.f8.ntmps) (by kernel_rfl) hN4 (enters_of Try.func39 (by kernel_rfl) rfl) rfl s13 q9 ?_
    simp only [List.map_cons, List.map_nil, s14, s15, s3, s4]
    refine (MoveJoints_own (top := top) (rise := rise) hI4 ⟨⟨#[y1, y2, y3], rfl, rf hT4.o1, rf hT4.o2, rf hT4.o3, trivial⟩, rf o14, rf o15, rfl, rfl, trivial⟩).mono ?_
    rintro en w5 ⟨u16, xs, rfl, hTab, hb5⟩
    refine ⟨_, rfl, fun b5 hN5 hd5 hs5 s16 => ?_⟩
    have hb15 := hb14.trans hb5
    have hI5 := ginv_bel hI1 hb15
    have s1 := (hs5 1 (by kernel_rfl)).trans s1
    have s2 := (hs5 2 (by kernel_rfl)).trans s2
    have s3 := (hs5 3 (by kernel_rfl)).trans s3
    have s4 := (hs5 4 (by kernel_rfl)).trans s4
    have s5 := (hs5 5 (by kernel_rfl)).trans s5
    have s12 := (hs5 12 (by kernel_rfl)).trans s12
    have s13 := (hs5 13 (by kernel_rfl)).trans s13
    have s14 := (hs5 14 (by kernel_rfl)).trans s14
    have s15 := (hs5 15 (by kernel_rfl)).trans s15
    have hd5 := hd5.trans hd4
    clear hs5
    have hT5 := hT4.bel hb5
    have q9 := (hb5.block g9 (heap_lt q9)).trans q9
    have o14 := own_bel o14 hb5
    have o15 := own_bel o15 hb5
    have z12 := hb2.size
    have z23 := hb3.size
    have z34 := hb4.size
    have z45 := hb5.size
    -- compare
    have rT : hasL (EL fun _ => False) w5 [y1, y2, y3] [.view (.ints a1), .view (.ints a2), .view (.ints a3)] := ⟨rf hT5.o1, rf hT5.o2, rf hT5.o3, trivial⟩
    have v5 : ∀ {w' : World}, Bel w1 w' → SV.has (EL fun _ => False) w' (.pointer (some ⟨g5, 0, none⟩)) (.vptr (.intss [a1, a2, a3]) 0 0) := fun hb => vptr3_of rfl ((hb.block g5 (heap_lt q5)).trans q5) r5 hb (fun h => h) (fun _ h => h.elim)
    refine frag_wpK (ds := inS (wrS (takeS 4 (dropS 11 (codeOf Try.f8))))) sig_laws_FnExactMoveJoints_ok xs_laws_FnExactMoveJoints_ok (by kernel_rfl) 4 (dropS 11 (codeOf Try.f8)) 0 _ _ _ _ _ _ (by kernel_rfl)
      (rel_part (S := [(1, .s (.view (.ints f))), (2, .s (.view (.ints t))), (5, .s (.vptr (.intss [a1, a2, a3]) 0 0)), (12, .s (.view (.intss (mvF a1 a2 a3 f t top rise)))), (13, .s (.vptr (.intss [a1, a2, a3]) 0 0)), (14, .s (.view (.ints f))), (15, .s (.view (.ints t))), (16, .s (.view (.intss (mvF a1 a2 a3 f t top rise))))]) hI5 hN5 hd5 (by kernel_rfl)
        ⟨(by rw [s1]; exact reads_old r1 hb15), (by rw [s2]; exact reads_old r2 hb15), (by rw [s5]; exact v5 hb15), (by rw [s12]; exact reads_old e12 hb15), vptr3_of s13 q9 rT (Bel.refl _) (fun h => h) (fun _ h => h.elim), (by rw [s14]; exact rf o14), (by rw [s15]; exact rf o15), (by rw [s16]; exact hTab.readsI (fun _ _ h => h)), trivial⟩) (PB_laws_FnExactMoveJoints a1 a2 a3 f t top rise hl) ?_
    intro e σ6 E6 b6 w6 hR6 hk hs6
    cases e with
    | exit i => exact hk.elim
    | ret => exact frag_ret hR6 hk (hB1.trans hb15) (by kernel_rfl)
    | normal =>
      obtain ⟨-, hend6⟩ := hk
      have hb6 : Bel w5 w6 := rel_bel hR6
      have s17 : b6.tmps.getD 17 undef = .int .i64 1 := mEnd_ok hR6 hend6 17 (.rv (.s (.int 1))) (by simp)
      have hb16 := hb15.trans hb6
      have hI6 := ginv_bel hI1 hb16
      have s1 := (hs6 rfl 1 (by kernel_rfl)).trans s1
      have s2 := (hs6 rfl 2 (by kernel_rfl)).trans s2
      have s3 := (hs6 rfl 3 (by kernel_rfl)).trans s3
      have s4 := (hs6 rfl 4 (by kernel_rfl)).trans s4
      have s5 := (hs6 rfl 5 (by kernel_rfl)).trans s5
      have s12 := (hs6 rfl 12 (by kernel_rfl)).trans s12
      have s13 := (hs6 rfl 13 (by kernel_rfl)).trans s13
      have s14 := (hs6 rfl 14 (by kernel_rfl)).trans s14
      have s15 := (hs6 rfl 15 (by kernel_rfl)).trans s15
      have s16 := (hs6 rfl 16 (by kernel_rfl)).trans s16
      have hN6 := hR6.size
      have hd6 := hR6.defers
      clear hs6 hR6 hend6 rT
      have hT6 := hT5.bel hb6
      have q9 := (hb6.block g9 (heap_lt q9)).trans q9
      have o14 := own_bel o14 hb6
      have o15 := own_bel o15 hb6
      have hTab := hTab.bel hb6
      have z56 := hb6.size
      -- k = markArm(x0, k)
      refine item_wp (by kernel_rfl) ?_
      refine mark_item (ti := 50) (f := 34) (p := 13) (q := 17) (e := 17) (N := Try.f8.ntmps) (by kernel_rfl) hN6 (enters_of Try.func34 (by kernel_rfl) rfl) rfl s13 q9 s17 ?_
      refine (markArm_own hI6 hI1.ng hT6 (by omega) (by omega) (by omega) (by omega) (by omega)).mono ?_
      rintro en w7 ⟨k', rfl, hk1, hC⟩
      have hxb : ∀ (i : Nat) (x : Value) b, [y1, y2, y3][i]? = some x → x.ownBlock = some b → w1.heap.size ≤ b ∧ b < w2.heap.size := fun i x b hx hb => by
        match i, hx with
        | 0, hx => injection hx with hx; subst hx; exact hT.o1.lt b hb
        | 1, hx => injection hx with hx; subst hx; exact hT.o2.lt b hb
        | 2, hx => injection hx with hx; subst hx; exact hT.o3.lt b hb
        | i + 3, hx => simp at hx
      have hb17 : Bel w1 w7 := hC.bel hb16 (fun i x b hx hb => (hxb i x b hx hb).1)
      have hI7 := ginv_bel hI1 hb17
      refine ⟨_, rfl, fun b7 hN7 hd7 hs7 s17 => ?_⟩
      have s1 := (hs7 1 (by kernel_rfl)).trans s1
      have s2 := (hs7 2 (by kernel_rfl)).trans s2
      have s3 := (hs7 3 (by kernel_rfl)).trans s3
      have s4 := (hs7 4 (by kernel_rfl)).trans s4
      have s5 := (hs7 5 (by kernel_rfl)).trans s5
      have s12 := (hs7 12 (by kernel_rfl)).trans s12
      have s14 := (hs7 14 (by kernel_rfl)).trans s14
      have s15 := (hs7 15 (by kernel_rfl)).trans s15
      have s16 := (hs7 16 (by kernel_rfl)).trans s16
      have hd7 := hd7.trans hd6
      clear hs7 s13 q9
      have o14 := Mch.own o14 hC (fun i x b hx hb hv => by have := (hxb i x b hx hb).2; have := (o14.lt b hv).1; omega)
      have o15 := Mch.own o15 hC (fun i x b hx hb hv => by have := (hxb i x b hx hb).2; have := (o15.lt b hv).1; omega)
      have hTab := hTab.mch hC (fun i x b hx hb hv => by have := (hxb i x b hx hb).2; have := (hTab.lt b hv).1; omega)
      -- k = markIntS(x1, k)
      have p1 := ilen_0 f
      have p2 := ilen_0 t
      refine item_wp (by kernel_rfl) ?_
      refine call_item (f := 35) (srcs := [14, 17]) (e := 17) (N := Try.f8.ntmps) (by kernel_rfl) hN7 (enters_of Try.func35 (by kernel_rfl) rfl) ?_
      simp only [List.map_cons, List.map_nil, s14, s17]
      refine (mark_Int_b (k := k') hI7 (Nat.le_trans hI1.ng z12) o14 (by omega) (by omega) (by omega)).mono ?_
      rintro en w8 ⟨m14, rfl, -, -, -, hg8⟩
      refine ⟨_, rfl, fun b8 hN8 hd8 hs8 s17 => ?_⟩
      have s1 := (hs8 1 (by kernel_rfl)).trans s1
      have s2 := (hs8 2 (by kernel_rfl)).trans s2
      have s3 := (hs8 3 (by kernel_rfl)).trans s3
      have s4 := (hs8 4 (by kernel_rfl)).trans s4
      have s5 := (hs8 5 (by kernel_rfl)).trans s5
      have s12 := (hs8 12 (by kernel_rfl)).trans s12
      have s15 := (hs8 15 (by kernel_rfl)).trans s15
      have s16 := (hs8 16 (by kernel_rfl)).trans s16
      have hd8 := hd8.trans hd7
      clear hs8
      have hb18 : Bel w1 w8 := bel_step hb17 hg8 (fun b hb => by have := l14 b hb; omega)
      have hI8 := ginv_bel hI1 hb18
      have o15 := o15.kept hg8 (none_or fun b hb hv => by have := (l15 b hv).1; have := (l14 b hb).2; omega)
      have hTab := hTab.kept hg8 (fun b hb hv => by have := (hTab.lt b hv).1; have := (l14 b hb).2; omega)
      -- k = markIntS(x2, k)
      refine item_wp (by kernel_rfl) ?_
      refine call_item (f := 35) (srcs := [15, 17]) (e := 17) (N := Try.f8.ntmps) (by kernel_rfl) hN8 (enters_of Try.func35 (by kernel_rfl) rfl) ?_
      simp only [List.map_cons, List.map_nil, s15, s17]
      refine (mark_Int_b (k := k' + 1 * ilen f) hI8 (Nat.le_trans hI1.ng (Nat.le_trans z12 z23)) o15 (by omega) (by omega) (by omega)).mono ?_
      rintro en w9 ⟨m15, rfl, -, -, -, hg9'⟩
      refine ⟨_, rfl, fun b9 hN9 hd9 hs9 s17 => ?_⟩
      have s1 := (hs9 1 (by kernel_rfl)).trans s1
      have s2 := (hs9 2 (by kernel_rfl)).trans s2
      have s3 := (hs9 3 (by kernel_rfl)).trans s3
      have s4 := (hs9 4 (by kernel_rfl)).trans s4
      have s5 := (hs9 5 (by kernel_rfl)).trans s5
      have s12 := (hs9 12 (by kernel_rfl)).trans s12
      have s16 := (hs9 16 (by kernel_rfl)).trans s16
      have hd9 := hd9.trans hd8
      clear hs9
      have hb19 : Bel w1 w9 := bel_step hb18 hg9' (fun b hb => by have := l15 b hb; omega)
      have hI9 := ginv_bel hI1 hb19
      have hTab := hTab.kept hg9' (fun b hb hv => by have := (hTab.lt b hv).1; have := (l15 b hb).2; omega)
      obtain ⟨kk, hkk⟩ : ∃ kk, k' + 1 * ilen f + 1 * ilen t = kk := ⟨_, rfl⟩
      rw [hkk] at s17
      refine frag_wpK (ds := inS (wrS (takeS 1 (dropS 19 (codeOf Try.f8))))) sig_laws_FnExactMoveJoints_ok xs_laws_FnExactMoveJoints_ok (by kernel_rfl) 1 (dropS 19 (codeOf Try.f8)) 0 _ _ _ _ _ _ (by kernel_rfl)
        (rel_part (S := [(12, .s (.view (.intss (mvF a1 a2 a3 f t top rise)))), (16, .s (.view (.intss (mvF a1 a2 a3 f t top rise)))), (17, .s (.int kk))]) hI9 hN9 hd9 (by kernel_rfl)
          ⟨(by rw [s12]; exact reads_old e12 hb19), (by rw [s16]; exact hTab.readsI (fun _ _ h => h)), s17, trivial⟩) (PD_laws_FnExactMoveJoints a1 a2 a3 f t top rise kk hl ⟨by omega, by omega⟩) ?_
      intro e σ10 E10 b10 w10 hR10 hk hs10
      cases e with
      | exit i => exact hk.elim
      | ret => exact frag_ret hR10 hk (hB1.trans hb19) (by kernel_rfl)
      | normal =>
        obtain ⟨-, hend10⟩ := hk
        have hb10 : Bel w9 w10 := rel_bel hR10
        have s18 : b10.tmps.getD 18 undef = .int .i64 1 := mEnd_ok hR10 hend10 18 (.rv (.s (.int 1))) (by simp)
        have hb1a := hb19.trans hb10
        have hI10 := ginv_bel hI1 hb1a
        have s1 := (hs10 rfl 1 (by kernel_rfl)).trans s1
        have s2 := (hs10 rfl 2 (by kernel_rfl)).trans s2
        have s3 := (hs10 rfl 3 (by kernel_rfl)).trans s3
        have s4 := (hs10 rfl 4 (by kernel_rfl)).trans s4
        have s5 := (hs10 rfl 5 (by kernel_rfl)).trans s5
        have s12 := (hs10 rfl 12 (by kernel_rfl)).trans s12
        have s16 := (hs10 rfl 16 (by kernel_rfl)).trans s16
        have hN10 := hR10.size
        have hd10 := hR10.defers
        clear hs10 hR10 hend10
        have hTab := hTab.bel hb10
        have hbd := mvF_bd (a1 := a1) (a2 := a2) (a3 := a3) (f := f) (t := t) (top := top) (rise := rise)
        -- m = markIntSS(g0, m)
        refine item_wp (by kernel_rfl) ?_
        refine call_item (f := 41) (srcs := [16, 18]) (e := 18) (N := Try.f8.ntmps) (by kernel_rfl) hN10 (enters_of Try.func41 (by kernel_rfl) rfl) ?_
        simp only [List.map_cons, List.map_nil, s16, s18]
        refine (markIntSS_own hI10 (Nat.le_trans hI1.ng (Nat.le_trans z12 (Nat.le_trans z23 z34))) hTab (by omega) (by omega) (by omega) (fun m hm => by have := hbd.2 m hm; omega)).mono ?_
        rintro en w11 ⟨R, q, rfl, hTR, hM, hCR⟩
        refine ⟨_, rfl, fun b11 hN11 hd11 hs11 s18 => ?_⟩
        have s1 := (hs11 1 (by kernel_rfl)).trans s1
        have s2 := (hs11 2 (by kernel_rfl)).trans s2
        have s3 := (hs11 3 (by kernel_rfl)).trans s3
        have s4 := (hs11 4 (by kernel_rfl)).trans s4
        have s5 := (hs11 5 (by kernel_rfl)).trans s5
        have s12 := (hs11 12 (by kernel_rfl)).trans s12
        have s16 := (hs11 16 (by kernel_rfl)).trans s16
        have hd11 := hd11.trans hd10
        clear hs11
        have hb1b : Bel w1 w11 := hCR.bel hb1a (fun i x b hx hb => by have := (hTab.lt b (.inr ⟨i, x, hx, hb⟩)).1; omega)
        have hI11 := ginv_bel hI1 hb1b
        have hq := hsI_e hM (by omega)
        have hle := hM.le (fun m hm => by have := hbd.2 m hm; omega)
        obtain ⟨z1, z2⟩ := hM.sz hbd.2
        have hln : ilen (mvF a1 a2 a3 f t top rise) ≤ 1000 := hbd.1
        have hRl : ilen R ≤ 1000 := by unfold ilen at hln ⊢; omega
        have hq1 : 0 ≤ q ∧ q ≤ 10000000000 := by unfold ilen at hln; omega
        refine ev_ok sig_laws_FnExactMoveJoints_ok xs_laws_FnExactMoveJoints_ok (by kernel_rfl) (dropS 22 (codeOf Try.f8)) 0 _ _ _ _ _ _
          (rel_part (S := [(1, .s (.view (.ints f))), (2, .s (.view (.ints t))), (3, .s (.int top)), (4, .s (.int rise)), (5, .s (.vptr (.intss [a1, a2, a3]) 0 0)), (12, .s (.view (.intss (mvF a1 a2 a3 f t top rise)))), (16, .s (.view (.intss R))), (18, .s (.int q))]) hI11 hN11 hd11 (by kernel_rfl)
            ⟨(by rw [s1]; exact reads_old r1 hb1b), (by rw [s2]; exact reads_old r2 hb1b), s3, s4, (by rw [s5]; exact v5 hb1b), (by rw [s12]; exact reads_old e12 hb1b), (by rw [s16]; exact hTR.readsI (fun _ _ h => h)), s18, trivial⟩) (PE_laws_FnExactMoveJoints a1 a2 a3 f t top rise R q hl hq hq1 ⟨hRl, bdI z2⟩) ?_
        intro e σ12 E12 b12 w12 hR12 hk
        cases e with
        | exit i => exact hk.elim
        | ret => exact frag_ret hR12 hk (hB1.trans hb1b) (by kernel_rfl)
        | normal => exact frag_ret hR12 hk (hB1.trans hb1b) (by kernel_rfl)
theorem F_laws_FnExactMoveJoints : FunOK 8 g_laws_FnExactMoveJoints := by
  intro avs sg hg hn L0 args w hL hA
  refine ⟨callFunc_enter Try.func8 (by kernel_rfl) (by kernel_rfl) _ w, ?_⟩
  unfold g_laws_FnExactMoveJoints at hg
  split at hg
  · rename_i a1 a2 a3 f t top rise
    injection hg with hg; subst hg
    have hA2 := hasA_less (L' := fun _ => False) (fun _ h => h.elim) (by rfl) hA
    obtain ⟨al⟩ := args
    match al, hA2 with
    | [v0, v1, v2, v3, v4], hA2 =>
      refine (femj_x hL.inv hA2).mono ?_
      rintro e w' ⟨rfl, hb⟩
      exact ⟨_, rfl, rfl, hb⟩
  · cases hg
theorem fnExactMoveJoints_walk (w : World) (v0 : Value) (x0 : List Int × List Int × List Int) (w0 : ArmArg w v0 x0) (v1 : Value) (x1 : List Int) (w1 : IntsArg w v1 x1) (v2 : Value) (x2 : List Int) (w2 : IntsArg w v2 x2) (v3 : Value) (x3 : Int) (w3 : IntArg v3 x3) (v4 : Value) (x4 : Int) (w4 : IntArg v4 x4) : Calls Try.prog 8 #[v0, v1, v2, v3, v4] w fun e w' => e = .returned (.bool true) ∧ Bel w w' :=
  walk_of F_laws_FnExactMoveJoints (avs := [.agg [.view (.ints x0.1), .view (.ints x0.2.1), .view (.ints x0.2.2)], .s (.view (.ints x1)), .s (.view (.ints x2)), .s (.int x3), .s (.int x4)]) rfl trivial ⟨arm_reads w0, w1.1, w2.1, w3.1, w4.1, trivial⟩
set_option maxRecDepth 100000 in
theorem fnExactMoveJoints_lifted (os : Os) (started : os.Started) (H : Type) (enc : TypeId × Value → H) :
    ReturnsInHanded {} Try.checked os 8 .any (Rows.fnExactMoveJointsSpec.pre6 enc Try.prog Try.f8 Rows.fnExactMoveJointsRow.domain false) (Rows.fnExactMoveJointsSpec.post enc Try.prog Try.f8 false true false false) := by
  have own : ownKnob Try.prog.godebug = none := by kernel_rfl
  have laidOut : laidOutB Try.prog = true := by kernel_rfl
  refine returnsInHanded_of_change (C := Try.checked) own started (by kernel_rfl) Try.func8
    (ChangeSpec.witness6 (enc := enc) (C := Try.checked) false ⟨#[], #[.agg #[.slice none 0 0, .slice none 0 0, .slice none 0 0], .slice none 0 0, .slice none 0 0, .int .i64 0, .int .i64 0], []⟩ 8 (by kernel_rfl) (by kernel_rfl) (by kernel_rfl) (by kernel_rfl)) ?_
  intro W base args ds gs before hval0 hW hcnd _
  have hval : ∀ (j : Nat) t v, Try.f8.params[j]? = some t → args[j]? = some v → Value.okWide Try.prog W .any base t v := hval0
  have hW' := hW
  obtain ⟨p, q, hA0, hV, rfl, hfz, hnd⟩ := hW
  have hA : DataW.TrodAll enc Try.prog W 0 (fun _ => true) true Try.f8.params.toList args.toList ds p := hA0
  rw [Try.params8] at hA hval
  obtain ⟨v0, vs0, d0, ds0, p0, q0, hargs, rfl, rfl, h0, r0⟩ := trodAll_cons hA
  obtain ⟨v1, vs1, d1, ds1, p1, q1, rfl, rfl, rfl, h1, r1⟩ := trodAll_cons r0
  obtain ⟨v2, vs2, d2, ds2, p2, q2, rfl, rfl, rfl, h2, r2⟩ := trodAll_cons r1
  obtain ⟨v3, vs3, d3, ds3, p3, q3, rfl, rfl, rfl, h3, r3⟩ := trodAll_cons r2
  obtain ⟨v4, vs4, d4, ds4, p4, q4, rfl, rfl, rfl, h4, r4⟩ := trodAll_cons r3
  obtain ⟨rfl, rfl, rfl⟩ := trodAll_nil r4
  obtain rfl : args = #[v0, v1, v2, v3, v4] := by cases args; simp_all
  obtain ⟨rfl, rfl⟩ := trodVars_none hV
  have k0 := h0
  have lt0 : ∀ x ∈ p0, x.block < W.heap.size := by obtain ⟨m, hm⟩ := k0; exact DataW.trod_lt m _ _ _ hm
  have k1 := h1
  have lt1 : ∀ x ∈ p1, x.block < W.heap.size := by obtain ⟨m, hm⟩ := k1; exact DataW.trod_lt m _ _ _ hm
  have k2 := h2
  have lt2 : ∀ x ∈ p2, x.block < W.heap.size := by obtain ⟨m, hm⟩ := k2; exact DataW.trod_lt m _ _ _ hm
  have k3 := h3
  have lt3 : ∀ x ∈ p3, x.block < W.heap.size := by obtain ⟨m, hm⟩ := k3; exact DataW.trod_lt m _ _ _ hm
  have k4 := h4
  have lt4 : ∀ x ∈ p4, x.block < W.heap.size := by obtain ⟨m, hm⟩ := k4; exact DataW.trod_lt m _ _ _ hm
  obtain ⟨x0, w0⟩ := opn_Arm (hval 0 47 v0 rfl rfl) h0
  obtain ⟨x1, w1⟩ := opn_Ints (hval 1 45 v1 rfl rfl) h1
  obtain ⟨x2, w2⟩ := opn_Ints (hval 2 45 v2 rfl rfl) h2
  obtain ⟨x3, w3⟩ := opn_int (hval 3 3 v3 rfl rfl) h3
  obtain ⟨x4, w4⟩ := opn_int (hval 4 3 v4 rfl rfl) h4
  clear hA0 hval0
  refine (fnExactMoveJoints_walk W v0 x0 w0 v1 x1 w1 v2 x2 w2 v3 x3 w3 v4 x4 w4).mono fun e W' ⟨he, bel⟩ => ?_
  subst he
  exact ⟨_, rfl, _, _, _, [], _, [], hW', trodAll_mk1 (shut_bool Try.underlying4 _), (trodAll_cons_mk (Below.trod laidOut (by kernel_rfl) (of_decide_eq_true (by kernel_rfl)) k0 bel lt0) (trodAll_cons_mk (Below.trod laidOut (by kernel_rfl) (of_decide_eq_true (by kernel_rfl)) k1 bel lt1) (trodAll_cons_mk (Below.trod laidOut (by kernel_rfl) (of_decide_eq_true (by kernel_rfl)) k2 bel lt2) (trodAll_cons_mk (Below.trod laidOut (by kernel_rfl) (of_decide_eq_true (by kernel_rfl)) k3 bel lt3) (trodAll_cons_mk (Below.trod laidOut (by kernel_rfl) (of_decide_eq_true (by kernel_rfl)) k4 bel lt4) trodAll_mk0))))), rfl, Below.frame bel _, fun h => by cases h⟩
theorem fnExactMoveJoints_over : Rows.fnExactMoveJointsRow.holds Try.pinned (OpenSpec.ofChange Rows.fnExactMoveJointsSpec) :=
  OpenClaim.holds_of_wide 8 Try.f8 rfl rfl rfl rfl rfl rfl rfl ⟨rfl, rfl, rfl, rfl, rfl⟩ rfl rfl rfl rfl rfl (by kernel_rfl) Try.func8 (by kernel_rfl)
    (of_decide_eq_true (by kernel_rfl)) (by unfold Func.isWrapper; first | (rw [if_pos (by decide +kernel)]; kernel_rfl) | (rw [if_neg (by decide +kernel)]; exact ⟨rfl, rfl⟩))
    (fun os started H enc _ => fnExactMoveJoints_lifted os started H enc)
theorem fnExactMoveJoints_proved : Rows.FnExactMoveJointsSaid := fnExactMoveJoints_over
#print axioms fnExactMoveJoints_proved
end Go.Proofs.Ytdpokkegkedlfaa

/- Contracts by evaluation, part 2. -/
import Derived.Test.YtejiomhoflnboaaDoorFnExactFreeCellsP1
namespace Go.Proofs.YtejiomhoflnboaaDoor
open Go.ChangeShapes Go.WideShapes Go.ChangeAt Go.RowKit
set_option maxRecDepth 100000
set_option linter.unusedSimpArgs false
set_option linter.unusedVariables false
def g_impl_ArmValid : List AV → Option Sg
  | [.agg [.view (.ints a1), .view (.ints a2), .view (.ints a3)]] => some ⟨True, [.s (.bool (armB a1 a2 a3))]⟩
  | _ => none
def sig_impl_ArmValid : FuncId → List AV → Option Sg := sigL [(54, g_impl_within)]
def xs_impl_ArmValid : XS := ⟨xsigL [], ysigL []⟩
theorem sig_impl_ArmValid_ok : SigOK sig_impl_ArmValid := sigL_cons F_impl_within sigL_nil
theorem xs_impl_ArmValid_ok : XSigOK xs_impl_ArmValid := ⟨xsigL_nil, ysigL_nil⟩
theorem V_impl_ArmValid (a1 : List Int) (a2 : List Int) (a3 : List Int) : ((true = true) ∧ ((True) ∧ (True) ∧ True) ∧ (true = true) ∧ ((True) ∧ (True) ∧ (True) ∧ (True) ∧ True) ∧ (true = true) ∧ ((True) ∧ ((True)) ∧ (True) ∧ (True) ∧ (NIs (bnot (inB (ilen a1) (1 : Int) (4 : Int))) false → True) ∧ (NIs (bnot (inB (ilen a1) (1 : Int) (4 : Int))) false → True) ∧ (NIs (bnot (inB (ilen a1) (1 : Int) (4 : Int))) false → True) ∧ (NIs (bnot (inB (ilen a1) (1 : Int) (4 : Int))) false → True) ∧ (NIs (bnot (inB (ilen a1) (1 : Int) (4 : Int))) false → True) ∧ (True) ∧ (True) ∧ (NIs (bite (bnot (inB (ilen a1) (1 : Int) (4 : Int))) true (bnot (ieq (ilen a2) (ilen a1)))) false → True) ∧ (NIs (bite (bnot (inB (ilen a1) (1 : Int) (4 : Int))) true (bnot (ieq (ilen a2) (ilen a1)))) false → True) ∧ (NIs (bite (bnot (inB (ilen a1) (1 : Int) (4 : Int))) true (bnot (ieq (ilen a2) (ilen a1)))) false → True) ∧ (NIs (bite (bnot (inB (ilen a1) (1 : Int) (4 : Int))) true (bnot (ieq (ilen a2) (ilen a1)))) false → True) ∧ (NIs (bite (bnot (inB (ilen a1) (1 : Int) (4 : Int))) true (bnot (ieq (ilen a2) (ilen a1)))) false → True) ∧ (True) ∧ True) ∧ ((bite (bite (bnot (inB (ilen a1) (1 : Int) (4 : Int))) true (bnot (ieq (ilen a2) (ilen a1)))) true (bnot (ieq (ilen a3) (ilen a1)))) = true → ((true = true) ∧ ((True) ∧ True) ∧ ((false : Bool) = (armB a1 a2 a3)) ∧ True)) ∧ ((bite (bite (bnot (inB (ilen a1) (1 : Int) (4 : Int))) true (bnot (ieq (ilen a2) (ilen a1)))) true (bnot (ieq (ilen a3) (ilen a1)))) = false → ((true = true) ∧ ((True) ∧ (True) ∧ True) ∧ ∃ (I1 : List GV → Prop) (μ1 : List GV → Nat), (((true = true) ∧ (((false : Bool) = false) ∧ (((0 : Int) : Int) = (0 : Int)) ∧ (((ilen a1) : Int) = (ilen a1)) ∧ (((ilen a1) : Int) = (ilen a1)) ∧ (((inB (ilen a1) (1 : Int) (4 : Int)) : Bool) = (inB (ilen a1) (1 : Int) (4 : Int))) ∧ (((bnot (inB (ilen a1) (1 : Int) (4 : Int))) : Bool) = (bnot (inB (ilen a1) (1 : Int) (4 : Int)))) ∧ (((bnot (inB (ilen a1) (1 : Int) (4 : Int))) : Bool) = (bnot (inB (ilen a1) (1 : Int) (4 : Int)))) ∧ (((bite (bnot (inB (ilen a1) (1 : Int) (4 : Int))) true (bnot (ieq (ilen a2) (ilen a1)))) : Bool) = (bite (bnot (inB (ilen a1) (1 : Int) (4 : Int))) true (bnot (ieq (ilen a2) (ilen a1))))) ∧ (((bite (bnot (inB (ilen a1) (1 : Int) (4 : Int))) true (bnot (ieq (ilen a2) (ilen a1)))) : Bool) = (bite (bnot (inB (ilen a1) (1 : Int) (4 : Int))) true (bnot (ieq (ilen a2) (ilen a1))))) ∧ (((bite (bite (bnot (inB (ilen a1) (1 : Int) (4 : Int))) true (bnot (ieq (ilen a2) (ilen a1)))) true (bnot (ieq (ilen a3) (ilen a1)))) : Bool) = (bite (bite (bnot (inB (ilen a1) (1 : Int) (4 : Int))) true (bnot (ieq (ilen a2) (ilen a1)))) true (bnot (ieq (ilen a3) (ilen a1))))) ∧ (true = true) ∧ ((Cont.ints a1) = (Cont.ints a1)) ∧ (((ilen a1) : Int) = (ilen a1)) ∧ (((ilen a1) : Int) = (ilen a1)) ∧ (true = true) ∧ (((Cont.ints a1) = (Cont.ints a1)) ∧ ((Cont.ints a2) = (Cont.ints a2)) ∧ ((Cont.ints a3) = (Cont.ints a3)) ∧ True) ∧ True) ∧ ((((Cont.ints a1) = (Cont.ints a1)) ∧ ((Cont.ints a2) = (Cont.ints a2)) ∧ ((Cont.ints a3) = (Cont.ints a3)) ∧ True) ∧ True)) ∧ (([GK.int, GK.bool] : List GK) = ([GK.int, GK.bool] : List GK)) ∧ I1 [GV.int (0 : Int), GV.bool false]) ∧ (∀ i1_0 : Int, ∀ b1_1 : Bool, I1 [GV.int i1_0, GV.bool b1_1] → ((true = true) ∧ ((True) ∧ True) ∧ ((ilt i1_0 (ilen a1)) = true → ((true = true) ∧ ((True) ∧ (True) ∧ True) ∧ (true = true) ∧ ((True) ∧ (True) ∧ (True) ∧ (NLe 0 i1_0 ∧ NLt i1_0 (ilen a1)) ∧ (True) ∧ ((True)) ∧ (True) ∧ (True) ∧ (NIs (bnot (inB (geti a1 i1_0) (1 : Int) (500 : Int))) false → True) ∧ (NIs (bnot (inB (geti a1 i1_0) (1 : Int) (500 : Int))) false → True) ∧ (NIs (bnot (inB (geti a1 i1_0) (1 : Int) (500 : Int))) false → True) ∧ (NIs (bnot (inB (geti a1 i1_0) (1 : Int) (500 : Int))) false → (NLe 0 i1_0 ∧ NLt i1_0 (ilen a2))) ∧ (NIs (bnot (inB (geti a1 i1_0) (1 : Int) (500 : Int))) false → True) ∧ (NIs (bnot (inB (geti a1 i1_0) (1 : Int) (500 : Int))) false → (True)) ∧ (NIs (bnot (inB (geti a1 i1_0) (1 : Int) (500 : Int))) false → True) ∧ (True) ∧ (True) ∧ (NIs (bite (bnot (inB (geti a1 i1_0) (1 : Int) (500 : Int))) true (bnot (inB (geti a2 i1_0) (-180 : Int) (180 : Int)))) false → True) ∧ (NIs (bite (bnot (inB (geti a1 i1_0) (1 : Int) (500 : Int))) true (bnot (inB (geti a2 i1_0) (-180 : Int) (180 : Int)))) false → True) ∧ (NIs (bite (bnot (inB (geti a1 i1_0) (1 : Int) (500 : Int))) true (bnot (inB (geti a2 i1_0) (-180 : Int) (180 : Int)))) false → True) ∧ (NIs (bite (bnot (inB (geti a1 i1_0) (1 : Int) (500 : Int))) true (bnot (inB (geti a2 i1_0) (-180 : Int) (180 : Int)))) false → (NLe 0 i1_0 ∧ NLt i1_0 (ilen a3))) ∧ (NIs (bite (bnot (inB (geti a1 i1_0) (1 : Int) (500 : Int))) true (bnot (inB (geti a2 i1_0) (-180 : Int) (180 : Int)))) false → True) ∧ (NIs (bite (bnot (inB (geti a1 i1_0) (1 : Int) (500 : Int))) true (bnot (inB (geti a2 i1_0) (-180 : Int) (180 : Int)))) false → True) ∧ (NIs (bite (bnot (inB (geti a1 i1_0) (1 : Int) (500 : Int))) true (bnot (inB (geti a2 i1_0) (-180 : Int) (180 : Int)))) false → True) ∧ (NIs (bite (bnot (inB (geti a1 i1_0) (1 : Int) (500 : Int))) true (bnot (inB (geti a2 i1_0) (-180 : Int) (180 : Int)))) false → True) ∧ (NIs (bite (bnot (inB (geti a1 i1_0) (1 : Int) (500 : Int))) true (bnot (inB (geti a2 i1_0) (-180 : Int) (180 : Int)))) false → (NLe 0 i1_0 ∧ NLt i1_0 (ilen a2))) ∧ (NIs (bite (bnot (inB (geti a1 i1_0) (1 : Int) (500 : Int))) true (bnot (inB (geti a2 i1_0) (-180 : Int) (180 : Int)))) false → True) ∧ (NIs (bite (bnot (inB (geti a1 i1_0) (1 : Int) (500 : Int))) true (bnot (inB (geti a2 i1_0) (-180 : Int) (180 : Int)))) false → (True)) ∧ (NIs (bite (bnot (inB (geti a1 i1_0) (1 : Int) (500 : Int))) true (bnot (inB (geti a2 i1_0) (-180 : Int) (180 : Int)))) false → True) ∧ (True) ∧ True) ∧ ((bite (bite (bnot (inB (geti a1 i1_0) (1 : Int) (500 : Int))) true (bnot (inB (geti a2 i1_0) (-180 : Int) (180 : Int)))) true (bnot (inB (geti a3 i1_0) (geti a2 i1_0) (180 : Int)))) = true → ((true = true) ∧ ((True) ∧ True) ∧ ((false : Bool) = (armB a1 a2 a3)) ∧ True)) ∧ ((bite (bite (bnot (inB (geti a1 i1_0) (1 : Int) (500 : Int))) true (bnot (inB (geti a2 i1_0) (-180 : Int) (180 : Int)))) true (bnot (inB (geti a3 i1_0) (geti a2 i1_0) (180 : Int)))) = false → ((true = true) ∧ ((True) ∧ (True) ∧ True) ∧ ((true = true) ∧ (((b1_1 : Bool) = b1_1) ∧ (((iadd i1_0 (1 : Int)) : Int) = (iadd i1_0 (1 : Int))) ∧ (((ilen a1) : Int) = (ilen a1)) ∧ (((ilen a1) : Int) = (ilen a1)) ∧ (((inB (ilen a1) (1 : Int) (4 : Int)) : Bool) = (inB (ilen a1) (1 : Int) (4 : Int))) ∧ (((bnot (inB (ilen a1) (1 : Int) (4 : Int))) : Bool) = (bnot (inB (ilen a1) (1 : Int) (4 : Int)))) ∧ (((bnot (inB (ilen a1) (1 : Int) (4 : Int))) : Bool) = (bnot (inB (ilen a1) (1 : Int) (4 : Int)))) ∧ (((bite (bnot (inB (ilen a1) (1 : Int) (4 : Int))) true (bnot (ieq (ilen a2) (ilen a1)))) : Bool) = (bite (bnot (inB (ilen a1) (1 : Int) (4 : Int))) true (bnot (ieq (ilen a2) (ilen a1))))) ∧ (((bite (bnot (inB (ilen a1) (1 : Int) (4 : Int))) true (bnot (ieq (ilen a2) (ilen a1)))) : Bool) = (bite (bnot (inB (ilen a1) (1 : Int) (4 : Int))) true (bnot (ieq (ilen a2) (ilen a1))))) ∧ (((bite (bite (bnot (inB (ilen a1) (1 : Int) (4 : Int))) true (bnot (ieq (ilen a2) (ilen a1)))) true (bnot (ieq (ilen a3) (ilen a1)))) : Bool) = (bite (bite (bnot (inB (ilen a1) (1 : Int) (4 : Int))) true (bnot (ieq (ilen a2) (ilen a1)))) true (bnot (ieq (ilen a3) (ilen a1))))) ∧ (true = true) ∧ ((Cont.ints a1) = (Cont.ints a1)) ∧ (((ilen a1) : Int) = (ilen a1)) ∧ (((ilen a1) : Int) = (ilen a1)) ∧ (true = true) ∧ (((Cont.ints a1) = (Cont.ints a1)) ∧ ((Cont.ints a2) = (Cont.ints a2)) ∧ ((Cont.ints a3) = (Cont.ints a3)) ∧ True) ∧ True) ∧ ((((Cont.ints a1) = (Cont.ints a1)) ∧ ((Cont.ints a2) = (Cont.ints a2)) ∧ ((Cont.ints a3) = (Cont.ints a3)) ∧ True) ∧ True)) ∧ ((([GK.int, GK.bool] : List GK) = ([GK.int, GK.bool] : List GK)) ∧ I1 [GV.int (iadd i1_0 (1 : Int)), GV.bool b1_1] ∧ μ1 [GV.int (iadd i1_0 (1 : Int)), GV.bool b1_1] < μ1 [GV.int i1_0, GV.bool b1_1]))))) ∧ ((ilt i1_0 (ilen a1)) = false → ((true = true) ∧ ((True) ∧ True) ∧ ((true : Bool) = (armB a1 a2 a3)) ∧ True))))))) = ev sig_impl_ArmValid xs_impl_ArmValid Tryd.f53.ntmps (fun b => if b == 0 then [.v 26, .v 2] else []) (codeOf Tryd.f53) 0 (initS [.agg [.view (.ints a1), .view (.ints a2), .view (.ints a3)]]) (retK Tryd.f53.results.toList [.s (.bool (armB a1 a2 a3))]) := by kernel_rfl
set_option maxHeartbeats 400000 in
theorem F_impl_ArmValid : FunOK 53 g_impl_ArmValid := by
  refine fun_F (by kernel_rfl) Tryd.func53 rfl (by kernel_rfl) sig_impl_ArmValid_ok xs_impl_ArmValid_ok ?_
  intro avs sg h hn hl
  unfold g_impl_ArmValid at h
  split at h
  · rename_i a1 a2 a3
    injection h with h; subst h
    refine ⟨by kernel_rfl, fun b => if b == 0 then [.v 26, .v 2] else [], Eq.mp (V_impl_ArmValid a1 a2 a3) ?_⟩
    simp only [true_and, and_true, implies_true, and_self, forall_const, true_implies, lenA, lenL, SV.lenOK, Cont.lenOK] at hn hl ⊢
    have h0 := ilen_0 a1
    simp only [ilt_t, ilt_f, ile_t, ile_f, ieq_t, ieq_f, bnot_e, band_e, bite_and, bite_or, NLt_e, NLe_e, NNe_e, NIs_e, imax_e, imin_e, irem_e, Bool.not_eq_true', Bool.not_eq_false', Bool.and_eq_true, Bool.or_eq_true, Bool.or_eq_false_iff, Bool.and_eq_false_iff, Cont.pts.injEq, Cont.ints.injEq, Cont.bools.injEq, Cont.ptss.injEq, Cont.intss.injEq, Cont.boolss.injEq, true_and, and_true, implies_true]
    refine ⟨fun h => ?_, fun h => ?_⟩
    · unfold armB
      rcases h with (h | h) | h <;> simp [h]
    · obtain ⟨⟨c1, c2⟩, c3⟩ := h
      refine ⟨fun | .int k :: _ => 0 ≤ k ∧ k ≤ ilen a1 ∧ (∀ j, 0 ≤ j → j < k → armE a1 a2 a3 j = true) | _ => False, fun | .int k :: _ => (ilen a1 - k).toNat | _ => 0, ?_, ?_⟩
      · exact ⟨Int.le_refl 0, h0, fun j h0 h1 => absurd h1 (by omega)⟩
      · rintro k _ ⟨hk0, hk1, hk⟩
        simp only [ilt_t, ilt_f, ile_t, ile_f, ieq_t, ieq_f, bnot_e, band_e, bite_and, bite_or, NLt_e, NLe_e, NNe_e, NIs_e, imax_e, imin_e, irem_e, Bool.not_eq_true', Bool.not_eq_false', Bool.and_eq_true, Bool.or_eq_true, Bool.or_eq_false_iff, Bool.and_eq_false_iff, Cont.pts.injEq, Cont.ints.injEq, Cont.bools.injEq, Cont.ptss.injEq, Cont.intss.injEq, Cont.boolss.injEq, true_and, and_true, implies_true]
        refine ⟨fun hc => ⟨⟨⟨hk0, hc⟩, fun _ => ⟨hk0, by omega⟩, fun _ => ⟨hk0, by omega⟩, fun _ => ⟨hk0, by omega⟩⟩, fun hv => ?_, fun hv => ?_⟩, fun hc => ?_⟩
        · have hE : armE a1 a2 a3 k = false := by unfold armE; rcases hv with (hv | hv) | hv <;> simp [hv]
          unfold armB; rw [allN_no k hk0 hc hE]; simp
        · have hE : armE a1 a2 a3 k = true := by unfold armE; rw [hv.1.1, hv.1.2, hv.2]; rfl
          rw [iadd_1 hk0 hc hl.1]
          exact ⟨⟨by omega, by omega, upTo hk hE⟩, by omega⟩
        · unfold armB; rw [allN_mk fun j h0 h1 => hk j h0 (by omega), c1]; simp [c2, c3]
  · cases h
def g_impl_GridSize : List AV → Option Sg
  | [.agg [.view (.ints a1), .view (.ints a2), .view (.ints a3)], .s (.int s)] => some ⟨True, [.s (.int (gsK a1 a2 a3 s 0)), .s (.int (gsK a1 a2 a3 s 1))]⟩
  | _ => none
def sig_impl_GridSize : FuncId → List AV → Option Sg := sigL [(53, g_impl_ArmValid), (54, g_impl_within)]
def xs_impl_GridSize : XS := ⟨xsigL [], ysigL []⟩
theorem sig_impl_GridSize_ok : SigOK sig_impl_GridSize := sigL_cons F_impl_ArmValid (sigL_cons F_impl_within sigL_nil)
theorem xs_impl_GridSize_ok : XSigOK xs_impl_GridSize := ⟨xsigL_nil, ysigL_nil⟩
theorem V_impl_GridSize (a1 : List Int) (a2 : List Int) (a3 : List Int) (s : Int) : ((true = true) ∧ ((True) ∧ (True) ∧ (True) ∧ True) ∧ (true = true) ∧ ((True) ∧ ((True)) ∧ (True) ∧ (True) ∧ (NIs (bnot (armB a1 a2 a3)) false → True) ∧ (NIs (bnot (armB a1 a2 a3)) false → True) ∧ (NIs (bnot (armB a1 a2 a3)) false → True) ∧ (NIs (bnot (armB a1 a2 a3)) false → True) ∧ (True) ∧ (True) ∧ (NIs (bite (bnot (armB a1 a2 a3)) true (bnot (ieq (ilen a1) (2 : Int)))) false → True) ∧ (NIs (bite (bnot (armB a1 a2 a3)) true (bnot (ieq (ilen a1) (2 : Int)))) false → (True)) ∧ (NIs (bite (bnot (armB a1 a2 a3)) true (bnot (ieq (ilen a1) (2 : Int)))) false → True) ∧ (True) ∧ True) ∧ ((bite (bite (bnot (armB a1 a2 a3)) true (bnot (ieq (ilen a1) (2 : Int)))) true (bnot (inB s (1 : Int) (360 : Int)))) = true → ((true = true) ∧ ((True) ∧ (True) ∧ True) ∧ (((0 : Int) : Int) = (gsK a1 a2 a3 s 0)) ∧ (((0 : Int) : Int) = (gsK a1 a2 a3 s 1)) ∧ True)) ∧ ((bite (bite (bnot (armB a1 a2 a3)) true (bnot (ieq (ilen a1) (2 : Int)))) true (bnot (inB s (1 : Int) (360 : Int)))) = false → ((true = true) ∧ ((True) ∧ (True) ∧ (NLe 0 (0 : Int) ∧ NLt (0 : Int) (ilen a3)) ∧ (True) ∧ (True) ∧ (True) ∧ (NLe 0 (0 : Int) ∧ NLt (0 : Int) (ilen a2)) ∧ (True) ∧ (True) ∧ (True) ∧ (NNe s 0) ∧ (True) ∧ (True) ∧ True) ∧ (true = true) ∧ ((True) ∧ (True) ∧ (NLe 0 (1 : Int) ∧ NLt (1 : Int) (ilen a3)) ∧ (True) ∧ (True) ∧ (True) ∧ (NLe 0 (1 : Int) ∧ NLt (1 : Int) (ilen a2)) ∧ (True) ∧ (True) ∧ (True) ∧ (NNe s 0) ∧ (True) ∧ (True) ∧ True) ∧ (true = true) ∧ ((True) ∧ (True) ∧ (True) ∧ (NIs (ilt (20 : Int) (iadd (iquo (isub (geti a3 (0 : Int)) (geti a2 (0 : Int))) s) (1 : Int))) false → True) ∧ (NIs (ilt (20 : Int) (iadd (iquo (isub (geti a3 (0 : Int)) (geti a2 (0 : Int))) s) (1 : Int))) false → True) ∧ (True) ∧ True) ∧ ((bite (ilt (20 : Int) (iadd (iquo (isub (geti a3 (0 : Int)) (geti a2 (0 : Int))) s) (1 : Int))) true (ilt (20 : Int) (iadd (iquo (isub (geti a3 (1 : Int)) (geti a2 (1 : Int))) s) (1 : Int)))) = true → ((true = true) ∧ ((True) ∧ (True) ∧ True) ∧ (((0 : Int) : Int) = (gsK a1 a2 a3 s 0)) ∧ (((0 : Int) : Int) = (gsK a1 a2 a3 s 1)) ∧ True)) ∧ ((bite (ilt (20 : Int) (iadd (iquo (isub (geti a3 (0 : Int)) (geti a2 (0 : Int))) s) (1 : Int))) true (ilt (20 : Int) (iadd (iquo (isub (geti a3 (1 : Int)) (geti a2 (1 : Int))) s) (1 : Int)))) = false → ((true = true) ∧ ((True) ∧ (True) ∧ (True) ∧ (True) ∧ True) ∧ (((iadd (iquo (isub (geti a3 (0 : Int)) (geti a2 (0 : Int))) s) (1 : Int)) : Int) = (gsK a1 a2 a3 s 0)) ∧ (((iadd (iquo (isub (geti a3 (1 : Int)) (geti a2 (1 : Int))) s) (1 : Int)) : Int) = (gsK a1 a2 a3 s 1)) ∧ True))))) = ev sig_impl_GridSize xs_impl_GridSize Tryd.f31.ntmps (fun b => []) (codeOf Tryd.f31) 0 (initS [.agg [.view (.ints a1), .view (.ints a2), .view (.ints a3)], .s (.int s)]) (retK Tryd.f31.results.toList [.s (.int (gsK a1 a2 a3 s 0)), .s (.int (gsK a1 a2 a3 s 1))]) := by kernel_rfl
set_option maxHeartbeats 400000 in
theorem F_impl_GridSize : FunOK 31 g_impl_GridSize := by
  refine fun_F (by kernel_rfl) Tryd.func31 rfl (by kernel_rfl) sig_impl_GridSize_ok xs_impl_GridSize_ok ?_
  intro avs sg h hn hl
  unfold g_impl_GridSize at h
  split at h
  · rename_i a1 a2 a3 s
    injection h with h; subst h
    refine ⟨by kernel_rfl, fun b => [], Eq.mp (V_impl_GridSize a1 a2 a3 s) ?_⟩
    simp only [true_and, and_true, implies_true, and_self, forall_const, true_implies, lenA, lenL, SV.lenOK, Cont.lenOK] at hn hl ⊢
    simp only [ilt_t, ilt_f, ile_t, ile_f, ieq_t, ieq_f, bnot_e, band_e, bite_and, bite_or, NLt_e, NLe_e, NNe_e, NIs_e, imax_e, imin_e, irem_e, Bool.not_eq_true', Bool.not_eq_false', Bool.and_eq_true, Bool.or_eq_true, Bool.or_eq_false_iff, Bool.and_eq_false_iff, Cont.pts.injEq, Cont.ints.injEq, Cont.bools.injEq, Cont.ptss.injEq, Cont.intss.injEq, Cont.boolss.injEq, true_and, and_true, implies_true]
    refine ⟨fun h => ?_, fun h => ?_⟩
    · have hB : gsB a1 a2 a3 s = false := by unfold gsB; rcases h with (h | h) | h <;> simp [h]
      unfold gsK; simp [hB]
    · obtain ⟨⟨h1, h2⟩, h3⟩ := h
      obtain ⟨e1, e2⟩ := armB_len h1
      have hB : gsB a1 a2 a3 s = true := by unfold gsB; rw [h1, h3]; simp [h2]
      have hs := inB_true h3
      refine ⟨by omega, by omega, fun h => ?_, fun h => ?_⟩
      · have : ¬ (gsB a1 a2 a3 s = true ∧ gsN a2 a3 s 0 ≤ 20 ∧ gsN a2 a3 s 1 ≤ 20) := by rintro ⟨_, g1, g2⟩; unfold gsN at g1 g2; omega
        unfold gsK; rw [if_neg this, if_neg this]; exact ⟨rfl, rfl⟩
      · have : gsB a1 a2 a3 s = true ∧ gsN a2 a3 s 0 ≤ 20 ∧ gsN a2 a3 s 1 ≤ 20 := ⟨hB, h.1, h.2⟩
        unfold gsK; rw [if_pos this, if_pos this]; exact ⟨rfl, rfl⟩
  · cases h
def g_impl_PointValid : List AV → Option Sg
  | [.agg [.int p1, .int p2]] => some ⟨True, [.s (.bool (vB p1 p2))]⟩
  | _ => none
def sig_impl_PointValid : FuncId → List AV → Option Sg := sigL [(54, g_impl_within)]
def xs_impl_PointValid : XS := ⟨xsigL [], ysigL []⟩
theorem sig_impl_PointValid_ok : SigOK sig_impl_PointValid := sigL_cons F_impl_within sigL_nil
theorem xs_impl_PointValid_ok : XSigOK xs_impl_PointValid := ⟨xsigL_nil, ysigL_nil⟩
theorem V_impl_PointValid (p1 : Int) (p2 : Int) : ((true = true) ∧ ((True) ∧ (True) ∧ True) ∧ (true = true) ∧ ((True) ∧ (True) ∧ ((True)) ∧ (True) ∧ (NIs (inB p1 (-10000 : Int) (10000 : Int)) true → True) ∧ (NIs (inB p1 (-10000 : Int) (10000 : Int)) true → True) ∧ (NIs (inB p1 (-10000 : Int) (10000 : Int)) true → (True)) ∧ (True) ∧ (True) ∧ True) ∧ (((bite (inB p1 (-10000 : Int) (10000 : Int)) (inB p2 (-10000 : Int) (10000 : Int)) false) : Bool) = (vB p1 p2)) ∧ True) = ev sig_impl_PointValid xs_impl_PointValid Tryd.f77.ntmps (fun b => []) (codeOf Tryd.f77) 0 (initS [.agg [.int p1, .int p2]]) (retK Tryd.f77.results.toList [.s (.bool (vB p1 p2))]) := by kernel_rfl
set_option maxHeartbeats 400000 in
theorem F_impl_PointValid : FunOK 77 g_impl_PointValid := by
  refine fun_F (by kernel_rfl) Tryd.func77 rfl (by kernel_rfl) sig_impl_PointValid_ok xs_impl_PointValid_ok ?_
  intro avs sg h hn hl
  unfold g_impl_PointValid at h
  split at h
  · rename_i p1 p2
    injection h with h; subst h
    refine ⟨by kernel_rfl, fun b => [], Eq.mp (V_impl_PointValid p1 p2) ?_⟩
    simp only [true_and, and_true, implies_true, and_self, forall_const, true_implies, lenA, lenL, SV.lenOK, Cont.lenOK] at hn hl ⊢
    simp only [bite_and, vB]
  · cases h
def g_impl_allPoints : List AV → Option Sg
  | [.s (.view (.pts l))] => some ⟨True, [.s (.bool (allB l))]⟩
  | _ => none
def sig_impl_allPoints : FuncId → List AV → Option Sg := sigL [(77, g_impl_PointValid)]
def xs_impl_allPoints : XS := ⟨xsigL [], ysigL []⟩
theorem sig_impl_allPoints_ok : SigOK sig_impl_allPoints := sigL_cons F_impl_PointValid sigL_nil
theorem xs_impl_allPoints_ok : XSigOK xs_impl_allPoints := ⟨xsigL_nil, ysigL_nil⟩
theorem V_impl_allPoints (l : List Pt) : ((true = true) ∧ ((True) ∧ True) ∧ (true = true) ∧ ((True) ∧ (True) ∧ (True) ∧ True) ∧ ∃ (I1 : List GV → Prop) (μ1 : List GV → Nat), (((true = true) ∧ (((false : Bool) = false) ∧ (((0 : Int) : Int) = (0 : Int)) ∧ ((Cont.pts l) = (Cont.pts l)) ∧ (((ilen l) : Int) = (ilen l)) ∧ ((Cont.pts l) = (Cont.pts l)) ∧ True) ∧ (True)) ∧ (([GK.int, GK.bool] : List GK) = ([GK.int, GK.bool] : List GK)) ∧ I1 [GV.int (0 : Int), GV.bool false]) ∧ (∀ i1_0 : Int, ∀ b1_1 : Bool, I1 [GV.int i1_0, GV.bool b1_1] → ((true = true) ∧ ((True) ∧ True) ∧ ((ilt i1_0 (ilen l)) = true → ((true = true) ∧ ((NLe 0 i1_0 ∧ NLt i1_0 (ilen l)) ∧ (True) ∧ (True) ∧ True) ∧ (True) ∧ (true = true) ∧ ((True) ∧ ((True)) ∧ (True) ∧ True) ∧ ((bnot (vB (getx l i1_0) (gety l i1_0))) = true → ((true = true) ∧ ((True) ∧ True) ∧ ((false : Bool) = (allB l)) ∧ True)) ∧ ((bnot (vB (getx l i1_0) (gety l i1_0))) = false → ((true = true) ∧ ((True) ∧ (True) ∧ True) ∧ ((true = true) ∧ (((b1_1 : Bool) = b1_1) ∧ (((iadd i1_0 (1 : Int)) : Int) = (iadd i1_0 (1 : Int))) ∧ ((Cont.pts l) = (Cont.pts l)) ∧ (((ilen l) : Int) = (ilen l)) ∧ ((Cont.pts l) = (Cont.pts l)) ∧ True) ∧ (True)) ∧ ((([GK.int, GK.bool] : List GK) = ([GK.int, GK.bool] : List GK)) ∧ I1 [GV.int (iadd i1_0 (1 : Int)), GV.bool b1_1] ∧ μ1 [GV.int (iadd i1_0 (1 : Int)), GV.bool b1_1] < μ1 [GV.int i1_0, GV.bool b1_1]))))) ∧ ((ilt i1_0 (ilen l)) = false → ((true = true) ∧ ((True) ∧ True) ∧ ((true : Bool) = (allB l)) ∧ True))))) = ev sig_impl_allPoints xs_impl_allPoints Tryd.f75.ntmps (fun b => if b == 0 then [.v 7, .v 2] else []) (codeOf Tryd.f75) 0 (initS [.s (.view (.pts l))]) (retK Tryd.f75.results.toList [.s (.bool (allB l))]) := by kernel_rfl
set_option maxHeartbeats 400000 in
theorem F_impl_allPoints : FunOK 75 g_impl_allPoints := by
  refine fun_F (by kernel_rfl) Tryd.func75 rfl (by kernel_rfl) sig_impl_allPoints_ok xs_impl_allPoints_ok ?_
  intro avs sg h hn hl
  unfold g_impl_allPoints at h
  split at h
  · rename_i l
    injection h with h; subst h
    refine ⟨by kernel_rfl, fun b => if b == 0 then [.v 7, .v 2] else [], Eq.mp (V_impl_allPoints l) ?_⟩
    simp only [true_and, and_true, implies_true, and_self, forall_const, true_implies, lenA, lenL, SV.lenOK, Cont.lenOK] at hn hl ⊢
    have h0 := ilen_0 l
    simp only [ilt_t, ilt_f, ile_t, ile_f, ieq_t, ieq_f, bnot_e, band_e, bite_and, bite_or, NLt_e, NLe_e, NNe_e, NIs_e, imax_e, imin_e, irem_e, Bool.not_eq_true', Bool.not_eq_false', Bool.and_eq_true, Bool.or_eq_true, Bool.or_eq_false_iff, Bool.and_eq_false_iff, Cont.pts.injEq, Cont.ints.injEq, Cont.bools.injEq, Cont.ptss.injEq, Cont.intss.injEq, Cont.boolss.injEq, true_and, and_true, implies_true]
    refine ⟨fun | .int k :: _ => 0 ≤ k ∧ k ≤ ilen l ∧ (∀ j, 0 ≤ j → j < k → vB (getx l j) (gety l j) = true) | _ => False, fun | .int k :: _ => (ilen l - k).toNat | _ => 0, ?_, ?_⟩
    · exact ⟨Int.le_refl 0, h0, fun j h0 h1 => absurd h1 (by omega)⟩
    · rintro k _ ⟨hk0, hk1, hk⟩
      simp only [ilt_t, ilt_f, ile_t, ile_f, ieq_t, ieq_f, bnot_e, band_e, bite_and, bite_or, NLt_e, NLe_e, NNe_e, NIs_e, imax_e, imin_e, irem_e, Bool.not_eq_true', Bool.not_eq_false', Bool.and_eq_true, Bool.or_eq_true, Bool.or_eq_false_iff, Bool.and_eq_false_iff, Cont.pts.injEq, Cont.ints.injEq, Cont.bools.injEq, Cont.ptss.injEq, Cont.intss.injEq, Cont.boolss.injEq, true_and, and_true, implies_true]
      refine ⟨fun hc => ⟨⟨hk0, hc⟩, fun hv => ?_, fun hv => ?_⟩, fun hc => ?_⟩
      · rw [allB_N, allN_no k hk0 hc hv]
      · rw [iadd_1 hk0 hc hl]
        exact ⟨⟨by omega, by omega, allN_up hk hv⟩, by omega⟩
      · rw [allB_N, allN_mk fun j h0 h1 => hk j h0 (by omega)]
  · cases h
def g_impl_cross : List AV → Option Sg
  | [.agg [.int a1, .int a2], .agg [.int b1, .int b2], .agg [.int c1, .int c2]] => some ⟨True, [.s (.int (crW a1 a2 b1 b2 c1 c2))]⟩
  | _ => none
def sig_impl_cross : FuncId → List AV → Option Sg := sigL []
def xs_impl_cross : XS := ⟨xsigL [], ysigL []⟩
theorem sig_impl_cross_ok : SigOK sig_impl_cross := sigL_nil
theorem xs_impl_cross_ok : XSigOK xs_impl_cross := ⟨xsigL_nil, ysigL_nil⟩
theorem V_impl_cross (a1 : Int) (a2 : Int) (b1 : Int) (b2 : Int) (c1 : Int) (c2 : Int) : ((true = true) ∧ ((True) ∧ (True) ∧ (True) ∧ (True) ∧ True) ∧ (true = true) ∧ ((True) ∧ (True) ∧ (True) ∧ (True) ∧ (True) ∧ (True) ∧ (True) ∧ (True) ∧ (True) ∧ (True) ∧ (True) ∧ (True) ∧ (True) ∧ (True) ∧ (True) ∧ (True) ∧ (True) ∧ (True) ∧ (True) ∧ (True) ∧ (True) ∧ (True) ∧ (True) ∧ (True) ∧ True) ∧ (((isub (imul (isub b1 a1) (isub c2 a2)) (imul (isub b2 a2) (isub c1 a1))) : Int) = (crW a1 a2 b1 b2 c1 c2)) ∧ True) = ev sig_impl_cross xs_impl_cross Tryd.f66.ntmps (fun b => []) (codeOf Tryd.f66) 0 (initS [.agg [.int a1, .int a2], .agg [.int b1, .int b2], .agg [.int c1, .int c2]]) (retK Tryd.f66.results.toList [.s (.int (crW a1 a2 b1 b2 c1 c2))]) := by kernel_rfl
set_option maxHeartbeats 400000 in
theorem F_impl_cross : FunOK 66 g_impl_cross := by
  refine fun_F (by kernel_rfl) Tryd.func66 rfl (by kernel_rfl) sig_impl_cross_ok xs_impl_cross_ok ?_
  intro avs sg h hn hl
  unfold g_impl_cross at h
  split at h
  · rename_i a1 a2 b1 b2 c1 c2
    injection h with h; subst h
    refine ⟨by kernel_rfl, fun b => [], Eq.mp (V_impl_cross a1 a2 b1 b2 c1 c2) ?_⟩
    simp only [true_and, and_true, implies_true, and_self, forall_const, true_implies, lenA, lenL, SV.lenOK, Cont.lenOK] at hn hl ⊢
    simp only [crW]
  · cases h
def g_impl_ConvexValid : List AV → Option Sg
  | [.s (.view (.pts l))] => some ⟨True, [.s (.bool (convB l))]⟩
  | _ => none
def sig_impl_ConvexValid : FuncId → List AV → Option Sg := sigL [(54, g_impl_within), (75, g_impl_allPoints), (66, g_impl_cross)]
def xs_impl_ConvexValid : XS := ⟨xsigL [], ysigL []⟩
theorem sig_impl_ConvexValid_ok : SigOK sig_impl_ConvexValid := sigL_cons F_impl_within (sigL_cons F_impl_allPoints (sigL_cons F_impl_cross sigL_nil))
theorem xs_impl_ConvexValid_ok : XSigOK xs_impl_ConvexValid := ⟨xsigL_nil, ysigL_nil⟩
theorem V_impl_ConvexValid (l : List Pt) : ((true = true) ∧ ((True) ∧ True) ∧ (true = true) ∧ ((True) ∧ (True) ∧ ((True)) ∧ (True) ∧ (True) ∧ (NIs (bnot (inB (ilen l) (3 : Int) (8 : Int))) false → True) ∧ (NIs (bnot (inB (ilen l) (3 : Int) (8 : Int))) false → (True)) ∧ (NIs (bnot (inB (ilen l) (3 : Int) (8 : Int))) false → True) ∧ (True) ∧ True) ∧ ((bite (bnot (inB (ilen l) (3 : Int) (8 : Int))) true (bnot (allB l))) = true → ((true = true) ∧ ((True) ∧ True) ∧ ((false : Bool) = (convB l)) ∧ True)) ∧ ((bite (bnot (inB (ilen l) (3 : Int) (8 : Int))) true (bnot (allB l))) = false → ((true = true) ∧ ((True) ∧ (True) ∧ (True) ∧ True) ∧ ∃ (I1 : List GV → Prop) (μ1 : List GV → Nat), (((true = true) ∧ (((false : Bool) = false) ∧ (((0 : Int) : Int) = (0 : Int)) ∧ ((Cont.pts l) = (Cont.pts l)) ∧ (((ilen l) : Int) = (ilen l)) ∧ ((Cont.pts l) = (Cont.pts l)) ∧ (((ilen l) : Int) = (ilen l)) ∧ (((inB (ilen l) (3 : Int) (8 : Int)) : Bool) = (inB (ilen l) (3 : Int) (8 : Int))) ∧ (((bnot (inB (ilen l) (3 : Int) (8 : Int))) : Bool) = (bnot (inB (ilen l) (3 : Int) (8 : Int)))) ∧ (((bnot (inB (ilen l) (3 : Int) (8 : Int))) : Bool) = (bnot (inB (ilen l) (3 : Int) (8 : Int)))) ∧ (((bite (bnot (inB (ilen l) (3 : Int) (8 : Int))) true (bnot (allB l))) : Bool) = (bite (bnot (inB (ilen l) (3 : Int) (8 : Int))) true (bnot (allB l)))) ∧ ((Cont.pts l) = (Cont.pts l)) ∧ True) ∧ (True)) ∧ (([GK.int, GK.bool] : List GK) = ([GK.int, GK.bool] : List GK)) ∧ I1 [GV.int (0 : Int), GV.bool false]) ∧ (∀ i1_0 : Int, ∀ b1_1 : Bool, I1 [GV.int i1_0, GV.bool b1_1] → ((true = true) ∧ ((True) ∧ True) ∧ ((ilt i1_0 (ilen l)) = true → ((true = true) ∧ ((True) ∧ (NLe 0 i1_0 ∧ NLt i1_0 (ilen l)) ∧ (True) ∧ (True) ∧ (True) ∧ True) ∧ (True) ∧ (true = true) ∧ ((True) ∧ (True) ∧ (True) ∧ (True) ∧ (NNe (ilen l) 0) ∧ (True) ∧ True) ∧ (true = true) ∧ ((True) ∧ (True) ∧ (True) ∧ True) ∧ ∃ (I2 : List GV → Prop) (μ2 : List GV → Nat), (((true = true) ∧ (((b1_1 : Bool) = b1_1) ∧ (((0 : Int) : Int) = (0 : Int)) ∧ ((Cont.pts l) = (Cont.pts l)) ∧ (((ilen l) : Int) = (ilen l)) ∧ ((i1_0 : Int) = i1_0) ∧ (((iadd i1_0 (1 : Int)) : Int) = (iadd i1_0 (1 : Int))) ∧ ((Cont.pts l) = (Cont.pts l)) ∧ (((ilen l) : Int) = (ilen l)) ∧ (((irem (iadd i1_0 (1 : Int)) (ilen l)) : Int) = (irem (iadd i1_0 (1 : Int)) (ilen l))) ∧ (((irem (iadd i1_0 (1 : Int)) (ilen l)) : Int) = (irem (iadd i1_0 (1 : Int)) (ilen l))) ∧ ((i1_0 : Int) = i1_0) ∧ ((((getx l i1_0) : Int) = (getx l i1_0)) ∧ (((gety l i1_0) : Int) = (gety l i1_0)) ∧ True) ∧ (true = true) ∧ ((i1_0 : Int) = i1_0) ∧ (((ilt i1_0 (ilen l)) : Bool) = (ilt i1_0 (ilen l))) ∧ ((i1_0 : Int) = i1_0) ∧ ((Cont.pts l) = (Cont.pts l)) ∧ (((ilen l) : Int) = (ilen l)) ∧ ((Cont.pts l) = (Cont.pts l)) ∧ (((ilen l) : Int) = (ilen l)) ∧ (((inB (ilen l) (3 : Int) (8 : Int)) : Bool) = (inB (ilen l) (3 : Int) (8 : Int))) ∧ (((bnot (inB (ilen l) (3 : Int) (8 : Int))) : Bool) = (bnot (inB (ilen l) (3 : Int) (8 : Int)))) ∧ (((bnot (inB (ilen l) (3 : Int) (8 : Int))) : Bool) = (bnot (inB (ilen l) (3 : Int) (8 : Int)))) ∧ (((bite (bnot (inB (ilen l) (3 : Int) (8 : Int))) true (bnot (allB l))) : Bool) = (bite (bnot (inB (ilen l) (3 : Int) (8 : Int))) true (bnot (allB l)))) ∧ ((Cont.pts l) = (Cont.pts l)) ∧ True) ∧ (((((getx l i1_0) : Int) = (getx l i1_0)) ∧ (((gety l i1_0) : Int) = (gety l i1_0)) ∧ True) ∧ True)) ∧ (([GK.int, GK.bool] : List GK) = ([GK.int, GK.bool] : List GK)) ∧ I2 [GV.int (0 : Int), GV.bool b1_1]) ∧ (∀ i2_0 : Int, ∀ b2_1 : Bool, I2 [GV.int i2_0, GV.bool b2_1] → ((true = true) ∧ ((True) ∧ True) ∧ ((ilt i2_0 (ilen l)) = true → ((true = true) ∧ ((True) ∧ (NLe 0 i2_0 ∧ NLt i2_0 (ilen l)) ∧ (True) ∧ (True) ∧ (True) ∧ True) ∧ (True) ∧ (true = true) ∧ ((True) ∧ (True) ∧ (True) ∧ (True) ∧ (NIs (bnot (ieq i2_0 i1_0)) true → True) ∧ (NIs (bnot (ieq i2_0 i1_0)) true → True) ∧ (NIs (bnot (ieq i2_0 i1_0)) true → True) ∧ (True) ∧ (True) ∧ (NIs (bite (bnot (ieq i2_0 i1_0)) (bnot (ieq i2_0 (irem (iadd i1_0 (1 : Int)) (ilen l)))) false) true → True) ∧ (NIs (bite (bnot (ieq i2_0 i1_0)) (bnot (ieq i2_0 (irem (iadd i1_0 (1 : Int)) (ilen l)))) false) true → True) ∧ (NIs (bite (bnot (ieq i2_0 i1_0)) (bnot (ieq i2_0 (irem (iadd i1_0 (1 : Int)) (ilen l)))) false) true → True) ∧ (NIs (bite (bnot (ieq i2_0 i1_0)) (bnot (ieq i2_0 (irem (iadd i1_0 (1 : Int)) (ilen l)))) false) true → (NLe 0 (irem (iadd i1_0 (1 : Int)) (ilen l)) ∧ NLt (irem (iadd i1_0 (1 : Int)) (ilen l)) (ilen l))) ∧ (NIs (bite (bnot (ieq i2_0 i1_0)) (bnot (ieq i2_0 (irem (iadd i1_0 (1 : Int)) (ilen l)))) false) true → True) ∧ (NIs (bite (bnot (ieq i2_0 i1_0)) (bnot (ieq i2_0 (irem (iadd i1_0 (1 : Int)) (ilen l)))) false) true → True) ∧ (NIs (bite (bnot (ieq i2_0 i1_0)) (bnot (ieq i2_0 (irem (iadd i1_0 (1 : Int)) (ilen l)))) false) true → (True)) ∧ (NIs (bite (bnot (ieq i2_0 i1_0)) (bnot (ieq i2_0 (irem (iadd i1_0 (1 : Int)) (ilen l)))) false) true → True) ∧ (True) ∧ True) ∧ ((bite (bite (bnot (ieq i2_0 i1_0)) (bnot (ieq i2_0 (irem (iadd i1_0 (1 : Int)) (ilen l)))) false) (ile (crW (getx l i1_0) (gety l i1_0) (getx l (irem (iadd i1_0 (1 : Int)) (ilen l))) (gety l (irem (iadd i1_0 (1 : Int)) (ilen l))) (getx l i2_0) (gety l i2_0)) (0 : Int)) false) = true → ((true = true) ∧ ((True) ∧ True) ∧ ((false : Bool) = (convB l)) ∧ True)) ∧ ((bite (bite (bnot (ieq i2_0 i1_0)) (bnot (ieq i2_0 (irem (iadd i1_0 (1 : Int)) (ilen l)))) false) (ile (crW (getx l i1_0) (gety l i1_0) (getx l (irem (iadd i1_0 (1 : Int)) (ilen l))) (gety l (irem (iadd i1_0 (1 : Int)) (ilen l))) (getx l i2_0) (gety l i2_0)) (0 : Int)) false) = false → ((true = true) ∧ ((True) ∧ (True) ∧ True) ∧ ((true = true) ∧ (((b2_1 : Bool) = b2_1) ∧ (((iadd i2_0 (1 : Int)) : Int) = (iadd i2_0 (1 : Int))) ∧ ((Cont.pts l) = (Cont.pts l)) ∧ (((ilen l) : Int) = (ilen l)) ∧ ((i1_0 : Int) = i1_0) ∧ (((iadd i1_0 (1 : Int)) : Int) = (iadd i1_0 (1 : Int))) ∧ ((Cont.pts l) = (Cont.pts l)) ∧ (((ilen l) : Int) = (ilen l)) ∧ (((irem (iadd i1_0 (1 : Int)) (ilen l)) : Int) = (irem (iadd i1_0 (1 : Int)) (ilen l))) ∧ (((irem (iadd i1_0 (1 : Int)) (ilen l)) : Int) = (irem (iadd i1_0 (1 : Int)) (ilen l))) ∧ ((i1_0 : Int) = i1_0) ∧ ((((getx l i1_0) : Int) = (getx l i1_0)) ∧ (((gety l i1_0) : Int) = (gety l i1_0)) ∧ True) ∧ (true = true) ∧ ((i1_0 : Int) = i1_0) ∧ (((ilt i1_0 (ilen l)) : Bool) = (ilt i1_0 (ilen l))) ∧ ((i1_0 : Int) = i1_0) ∧ ((Cont.pts l) = (Cont.pts l)) ∧ (((ilen l) : Int) = (ilen l)) ∧ ((Cont.pts l) = (Cont.pts l)) ∧ (((ilen l) : Int) = (ilen l)) ∧ (((inB (ilen l) (3 : Int) (8 : Int)) : Bool) = (inB (ilen l) (3 : Int) (8 : Int))) ∧ (((bnot (inB (ilen l) (3 : Int) (8 : Int))) : Bool) = (bnot (inB (ilen l) (3 : Int) (8 : Int)))) ∧ (((bnot (inB (ilen l) (3 : Int) (8 : Int))) : Bool) = (bnot (inB (ilen l) (3 : Int) (8 : Int)))) ∧ (((bite (bnot (inB (ilen l) (3 : Int) (8 : Int))) true (bnot (allB l))) : Bool) = (bite (bnot (inB (ilen l) (3 : Int) (8 : Int))) true (bnot (allB l)))) ∧ ((Cont.pts l) = (Cont.pts l)) ∧ True) ∧ (((((getx l i1_0) : Int) = (getx l i1_0)) ∧ (((gety l i1_0) : Int) = (gety l i1_0)) ∧ True) ∧ True)) ∧ ((([GK.int, GK.bool] : List GK) = ([GK.int, GK.bool] : List GK)) ∧ I2 [GV.int (iadd i2_0 (1 : Int)), GV.bool b2_1] ∧ μ2 [GV.int (iadd i2_0 (1 : Int)), GV.bool b2_1] < μ2 [GV.int i2_0, GV.bool b2_1]))))) ∧ ((ilt i2_0 (ilen l)) = false → ((true = true) ∧ ((True) ∧ (True) ∧ True) ∧ ((true = true) ∧ (((b2_1 : Bool) = b2_1) ∧ (((iadd i1_0 (1 : Int)) : Int) = (iadd i1_0 (1 : Int))) ∧ ((Cont.pts l) = (Cont.pts l)) ∧ (((ilen l) : Int) = (ilen l)) ∧ ((Cont.pts l) = (Cont.pts l)) ∧ (((ilen l) : Int) = (ilen l)) ∧ (((inB (ilen l) (3 : Int) (8 : Int)) : Bool) = (inB (ilen l) (3 : Int) (8 : Int))) ∧ (((bnot (inB (ilen l) (3 : Int) (8 : Int))) : Bool) = (bnot (inB (ilen l) (3 : Int) (8 : Int)))) ∧ (((bnot (inB (ilen l) (3 : Int) (8 : Int))) : Bool) = (bnot (inB (ilen l) (3 : Int) (8 : Int)))) ∧ (((bite (bnot (inB (ilen l) (3 : Int) (8 : Int))) true (bnot (allB l))) : Bool) = (bite (bnot (inB (ilen l) (3 : Int) (8 : Int))) true (bnot (allB l)))) ∧ ((Cont.pts l) = (Cont.pts l)) ∧ True) ∧ (True)) ∧ ((([GK.int, GK.bool] : List GK) = ([GK.int, GK.bool] : List GK)) ∧ I1 [GV.int (iadd i1_0 (1 : Int)), GV.bool b2_1] ∧ μ1 [GV.int (iadd i1_0 (1 : Int)), GV.bool b2_1] < μ1 [GV.int i1_0, GV.bool b1_1]))))))) ∧ ((ilt i1_0 (ilen l)) = false → ((true = true) ∧ ((True) ∧ True) ∧ ((true : Bool) = (convB l)) ∧ True))))))) = ev sig_impl_ConvexValid xs_impl_ConvexValid Tryd.f60.ntmps (fun b => if b == 0 then [.v 19, .v 2] else if b == 2 then [.v 31, .v 2] else []) (codeOf Tryd.f60) 0 (initS [.s (.view (.pts l))]) (retK Tryd.f60.results.toList [.s (.bool (convB l))]) := by kernel_rfl
set_option maxHeartbeats 400000 in
theorem F_impl_ConvexValid : FunOK 60 g_impl_ConvexValid := by
  refine fun_F (by kernel_rfl) Tryd.func60 rfl (by kernel_rfl) sig_impl_ConvexValid_ok xs_impl_ConvexValid_ok ?_
  intro avs sg h hn hl
  unfold g_impl_ConvexValid at h
  split at h
  · rename_i l
    injection h with h; subst h
    refine ⟨by kernel_rfl, fun b => if b == 0 then [.v 19, .v 2] else if b == 2 then [.v 31, .v 2] else [], Eq.mp (V_impl_ConvexValid l) ?_⟩
    simp only [true_and, and_true, implies_true, and_self, forall_const, true_implies, lenA, lenL, SV.lenOK, Cont.lenOK] at hn hl ⊢
    have h0 := ilen_0 l
    simp only [ilt_t, ilt_f, ile_t, ile_f, ieq_t, ieq_f, bnot_e, band_e, bite_and, bite_or, NLt_e, NLe_e, NNe_e, NIs_e, imax_e, imin_e, irem_e, Bool.not_eq_true', Bool.not_eq_false', Bool.and_eq_true, Bool.or_eq_true, Bool.or_eq_false_iff, Bool.and_eq_false_iff, Cont.pts.injEq, Cont.ints.injEq, Cont.bools.injEq, Cont.ptss.injEq, Cont.intss.injEq, Cont.boolss.injEq, true_and, and_true, implies_true]
    refine ⟨?_, fun hc => ?_⟩
    · rintro (h | h) <;> simp [convB, h]
    · obtain ⟨hv1, hv2⟩ : inB (ilen l) 3 8 = true ∧ allB l = true := by simpa using hc
      have hlen := inB_true hv1
      refine ⟨fun | [.int k, .bool _] => 0 ≤ k ∧ k ≤ ilen l ∧ (∀ i, 0 ≤ i → i < k → allN (ilen l) (convE l i) = true) | _ => False, fun | [.int k, .bool _] => (ilen l - k).toNat | _ => 0, ?_, ?_⟩
      · exact ⟨Int.le_refl 0, h0, fun j h0 h1 => absurd h1 (by omega)⟩
      · rintro k b ⟨hk0, hk1, hk⟩
        simp only [ilt_t, ilt_f, ile_t, ile_f, ieq_t, ieq_f, bnot_e, band_e, bite_and, bite_or, NLt_e, NLe_e, NNe_e, NIs_e, imax_e, imin_e, irem_e, Bool.not_eq_true', Bool.not_eq_false', Bool.and_eq_true, Bool.or_eq_true, Bool.or_eq_false_iff, Bool.and_eq_false_iff, Cont.pts.injEq, Cont.ints.injEq, Cont.bools.injEq, Cont.ptss.injEq, Cont.intss.injEq, Cont.boolss.injEq, true_and, and_true, implies_true]
        refine ⟨fun hkn => ⟨⟨hk0, hkn⟩, by omega, ?_⟩, fun hkn => ?_⟩
        · have e1 := iadd_1 hk0 hkn hl
          obtain ⟨n0, n1, _⟩ := nx_in hk0 hkn
          have e2 : (k + 1).tmod (ilen l) = nx l k := rfl
          simp only [e1, e2]
          refine ⟨fun | [.int j, .bool _] => 0 ≤ j ∧ j ≤ ilen l ∧ (∀ i, 0 ≤ i → i < j → convE l k i = true) | _ => False, fun | [.int j, .bool _] => (ilen l - j).toNat | _ => 0, ?_, ?_⟩
          · exact ⟨Int.le_refl 0, h0, fun j h0 h1 => absurd h1 (by omega)⟩
          · rintro j b ⟨hj0, hj1, hj⟩
            simp only [ilt_t, ilt_f, ile_t, ile_f, ieq_t, ieq_f, bnot_e, band_e, bite_and, bite_or, NLt_e, NLe_e, NNe_e, NIs_e, imax_e, imin_e, irem_e, Bool.not_eq_true', Bool.not_eq_false', Bool.and_eq_true, Bool.or_eq_true, Bool.or_eq_false_iff, Bool.and_eq_false_iff, Cont.pts.injEq, Cont.ints.injEq, Cont.bools.injEq, Cont.ptss.injEq, Cont.intss.injEq, Cont.boolss.injEq, true_and, and_true, implies_true]
            refine ⟨fun hjn => ⟨⟨hj0, hjn⟩, fun _ => ⟨n0, n1⟩, fun hx => ?_, fun hx => ?_⟩, fun hjn => ?_⟩
            · have hE : convE l k j = false := by
                unfold convE cr
                simp only [decide_eq_false_iff_not]
                omega
              unfold convB
              rw [allN_no k hk0 hkn (allN_no j hj0 hjn hE)]
              simp
            · have hE : convE l k j = true := by
                unfold convE cr
                simp only [decide_eq_true_eq]
                omega
              rw [iadd_1 hj0 hjn hl]
              exact ⟨⟨by omega, by omega, allN_up hj hE⟩, by omega⟩
            · exact ⟨⟨by omega, by omega, allN_up hk (allN_mk fun i h0 h1 => hj i h0 (by omega))⟩, by omega⟩
        · unfold convB
          rw [hv1, hv2, allN_mk fun i h0 h1 => hk i h0 (by omega)]
          rfl
  · cases h
def g_impl_SceneValid_1 : List AV → Option Sg
  | [.s (.view (.pts l))] => some ⟨True, [.s (.bool (!convB l))]⟩
  | _ => none
def sig_impl_SceneValid_1 : FuncId → List AV → Option Sg := sigL [(60, g_impl_ConvexValid)]
def xs_impl_SceneValid_1 : XS := ⟨xsigL [], ysigL []⟩
theorem sig_impl_SceneValid_1_ok : SigOK sig_impl_SceneValid_1 := sigL_cons F_impl_ConvexValid sigL_nil
theorem xs_impl_SceneValid_1_ok : XSigOK xs_impl_SceneValid_1 := ⟨xsigL_nil, ysigL_nil⟩
theorem V_impl_SceneValid_1 (l : List Pt) : ((true = true) ∧ ((True) ∧ True) ∧ (true = true) ∧ ((True) ∧ ((True)) ∧ (True) ∧ (True) ∧ True) ∧ (((bnot (convB l)) : Bool) = (!convB l)) ∧ True) = ev sig_impl_SceneValid_1 xs_impl_SceneValid_1 Tryd.f59.ntmps (fun b => []) (codeOf Tryd.f59) 0 (initS [.s (.view (.pts l))]) (retK Tryd.f59.results.toList [.s (.bool (!convB l))]) := by kernel_rfl
set_option maxHeartbeats 400000 in
theorem F_impl_SceneValid_1 : FunOK 59 g_impl_SceneValid_1 := by
  refine fun_F (by kernel_rfl) Tryd.func59 rfl (by kernel_rfl) sig_impl_SceneValid_1_ok xs_impl_SceneValid_1_ok ?_
  intro avs sg h hn hl
  unfold g_impl_SceneValid_1 at h
  split at h
  · rename_i l
    injection h with h; subst h
    refine ⟨by kernel_rfl, fun b => [], Eq.mp (V_impl_SceneValid_1 l) ?_⟩
    simp only [true_and, and_true, implies_true, and_self, forall_const, true_implies, lenA, lenL, SV.lenOK, Cont.lenOK] at hn hl ⊢
    simp only [ilt_t, ilt_f, ile_t, ile_f, ieq_t, ieq_f, bnot_e, band_e, bite_and, bite_or, NLt_e, NLe_e, NNe_e, NIs_e, imax_e, imin_e, irem_e, Bool.not_eq_true', Bool.not_eq_false', Bool.and_eq_true, Bool.or_eq_true, Bool.or_eq_false_iff, Bool.and_eq_false_iff, Cont.pts.injEq, Cont.ints.injEq, Cont.bools.injEq, Cont.ptss.injEq, Cont.intss.injEq, Cont.boolss.injEq, true_and, and_true, implies_true]
  · cases h
def g_slices_IndexFunc_SSimpl_Point_Simpl_Point : List AV → Option Sg
  | [.s (.view (.ptss l)), .s (.x (.func (.func 59) ⟨[]⟩ ⟨[]⟩))] => some ⟨True, [.s (.int (idxN (ilen l) fun i => !convB (getl l i)))]⟩
  | _ => none
def sig_slices_IndexFunc_SSimpl_Point_Simpl_Point : FuncId → List AV → Option Sg := sigL [(59, g_impl_SceneValid_1)]
def xs_slices_IndexFunc_SSimpl_Point_Simpl_Point : XS := ⟨xsigL [], ysigL []⟩
theorem sig_slices_IndexFunc_SSimpl_Point_Simpl_Point_ok : SigOK sig_slices_IndexFunc_SSimpl_Point_Simpl_Point := sigL_cons F_impl_SceneValid_1 sigL_nil
theorem xs_slices_IndexFunc_SSimpl_Point_Simpl_Point_ok : XSigOK xs_slices_IndexFunc_SSimpl_Point_Simpl_Point := ⟨xsigL_nil, ysigL_nil⟩
theorem V_slices_IndexFunc_SSimpl_Point_Simpl_Point (l : List (List Pt)) : ((true = true) ∧ ((True) ∧ True) ∧ (true = true) ∧ ((True) ∧ (True) ∧ (True) ∧ True) ∧ ∃ (I1 : List GV → Prop) (μ1 : List GV → Nat), (((true = true) ∧ ((((0 : Int) : Int) = (0 : Int)) ∧ (((0 : Int) : Int) = (0 : Int)) ∧ ((Cont.ptss l) = (Cont.ptss l)) ∧ (((ilen l) : Int) = (ilen l)) ∧ ((Cont.ptss l) = (Cont.ptss l)) ∧ (((.func (.func 59) #[] #[]) : Value) = (.func (.func 59) #[] #[])) ∧ True) ∧ (True)) ∧ (([GK.int, GK.int] : List GK) = ([GK.int, GK.int] : List GK)) ∧ I1 [GV.int (0 : Int), GV.int (0 : Int)]) ∧ (∀ i1_0 : Int, ∀ i1_1 : Int, I1 [GV.int i1_0, GV.int i1_1] → ((true = true) ∧ ((True) ∧ True) ∧ ((ilt i1_0 (ilen l)) = true → ((true = true) ∧ ((True) ∧ (True) ∧ True) ∧ (true = true) ∧ ((True) ∧ (True) ∧ (True) ∧ (NLe 0 i1_0 ∧ NLt i1_0 (ilen l)) ∧ (True) ∧ ((True)) ∧ True) ∧ ((!convB (getl l i1_0)) = true → ((true = true) ∧ ((True) ∧ (True) ∧ True) ∧ ((i1_0 : Int) = (idxN (ilen l) fun i => !convB (getl l i))) ∧ True)) ∧ ((!convB (getl l i1_0)) = false → ((true = true) ∧ ((True) ∧ (True) ∧ True) ∧ ((true = true) ∧ (((i1_1 : Int) = i1_1) ∧ (((iadd i1_0 (1 : Int)) : Int) = (iadd i1_0 (1 : Int))) ∧ ((Cont.ptss l) = (Cont.ptss l)) ∧ (((ilen l) : Int) = (ilen l)) ∧ ((Cont.ptss l) = (Cont.ptss l)) ∧ (((.func (.func 59) #[] #[]) : Value) = (.func (.func 59) #[] #[])) ∧ True) ∧ (True)) ∧ ((([GK.int, GK.int] : List GK) = ([GK.int, GK.int] : List GK)) ∧ I1 [GV.int (iadd i1_0 (1 : Int)), GV.int i1_1] ∧ μ1 [GV.int (iadd i1_0 (1 : Int)), GV.int i1_1] < μ1 [GV.int i1_0, GV.int i1_1]))))) ∧ ((ilt i1_0 (ilen l)) = false → ((true = true) ∧ ((True) ∧ True) ∧ (((-1 : Int) : Int) = (idxN (ilen l) fun i => !convB (getl l i))) ∧ True))))) = ev sig_slices_IndexFunc_SSimpl_Point_Simpl_Point xs_slices_IndexFunc_SSimpl_Point_Simpl_Point Tryd.f74.ntmps (fun b => if b == 0 then [.v 8, .v 4] else []) (codeOf Tryd.f74) 0 (initS [.s (.view (.ptss l)), .s (.x (.func (.func 59) ⟨[]⟩ ⟨[]⟩))]) (retK Tryd.f74.results.toList [.s (.int (idxN (ilen l) fun i => !convB (getl l i)))]) := by kernel_rfl
set_option maxHeartbeats 400000 in
theorem F_slices_IndexFunc_SSimpl_Point_Simpl_Point : FunOK 74 g_slices_IndexFunc_SSimpl_Point_Simpl_Point := by
  refine fun_F (by kernel_rfl) Tryd.func74 rfl (by kernel_rfl) sig_slices_IndexFunc_SSimpl_Point_Simpl_Point_ok xs_slices_IndexFunc_SSimpl_Point_Simpl_Point_ok ?_
  intro avs sg h hn hl
  unfold g_slices_IndexFunc_SSimpl_Point_Simpl_Point at h
  split at h
  · rename_i l
    injection h with h; subst h
    refine ⟨by kernel_rfl, fun b => if b == 0 then [.v 8, .v 4] else [], Eq.mp (V_slices_IndexFunc_SSimpl_Point_Simpl_Point l) ?_⟩
    simp only [true_and, and_true, implies_true, and_self, forall_const, true_implies, lenA, lenL, SV.lenOK, Cont.lenOK] at hn hl ⊢
    have h0 := ilen_0 l
    simp only [ilt_t, ilt_f, ile_t, ile_f, ieq_t, ieq_f, bnot_e, band_e, bite_and, bite_or, NLt_e, NLe_e, NNe_e, NIs_e, imax_e, imin_e, irem_e, Bool.not_eq_true', Bool.not_eq_false', Bool.and_eq_true, Bool.or_eq_true, Bool.or_eq_false_iff, Bool.and_eq_false_iff, Cont.pts.injEq, Cont.ints.injEq, Cont.bools.injEq, Cont.ptss.injEq, Cont.intss.injEq, Cont.boolss.injEq, true_and, and_true, implies_true]
    refine ⟨fun | .int k :: _ => 0 ≤ k ∧ k ≤ ilen l ∧ (∀ i, 0 ≤ i → i < k → convB (getl l i) = true) | _ => False, fun | .int k :: _ => (ilen l - k).toNat | _ => 0, ?_, ?_⟩
    · exact ⟨Int.le_refl 0, h0, fun j h0 h1 => absurd h1 (by omega)⟩
    · rintro k _ ⟨hk0, hk1, hk⟩
      simp only [ilt_t, ilt_f, ile_t, ile_f, ieq_t, ieq_f, bnot_e, band_e, bite_and, bite_or, NLt_e, NLe_e, NNe_e, NIs_e, imax_e, imin_e, irem_e, Bool.not_eq_true', Bool.not_eq_false', Bool.and_eq_true, Bool.or_eq_true, Bool.or_eq_false_iff, Bool.and_eq_false_iff, Cont.pts.injEq, Cont.ints.injEq, Cont.bools.injEq, Cont.ptss.injEq, Cont.intss.injEq, Cont.boolss.injEq, true_and, and_true, implies_true]
      refine ⟨fun hkn => ⟨⟨hk0, hkn⟩, fun hx => ?_, fun hx => ?_⟩, fun hkn => ?_⟩
      · rw [idxN_at hk0 hkn (fun j j0 j1 => by simp [hk j j0 j1]) (by simp [hx])]
      · rw [iadd_1 hk0 hkn hl.1]
        exact ⟨⟨by omega, by omega, upTo hk hx⟩, by omega⟩
      · have e : k = ilen l := by omega
        subst e
        obtain ⟨a, ha⟩ := Int.eq_ofNat_of_zero_le h0
        rw [ha] at hk ⊢
        rw [idxN_no fun j j0 j1 => by simp [hk j j0 j1]]
  · cases h
def g_slices_ContainsFunc_SSimpl_Point_Simpl_Point : List AV → Option Sg
  | [.s (.view (.ptss l)), .s (.x (.func (.func 59) ⟨[]⟩ ⟨[]⟩))] => some ⟨True, [.s (.bool (anyN (ilen l) fun i => !convB (getl l i)))]⟩
  | _ => none
def sig_slices_ContainsFunc_SSimpl_Point_Simpl_Point : FuncId → List AV → Option Sg := sigL [(74, g_slices_IndexFunc_SSimpl_Point_Simpl_Point)]
def xs_slices_ContainsFunc_SSimpl_Point_Simpl_Point : XS := ⟨xsigL [], ysigL []⟩
theorem sig_slices_ContainsFunc_SSimpl_Point_Simpl_Point_ok : SigOK sig_slices_ContainsFunc_SSimpl_Point_Simpl_Point := sigL_cons F_slices_IndexFunc_SSimpl_Point_Simpl_Point sigL_nil
theorem xs_slices_ContainsFunc_SSimpl_Point_Simpl_Point_ok : XSigOK xs_slices_ContainsFunc_SSimpl_Point_Simpl_Point := ⟨xsigL_nil, ysigL_nil⟩
theorem V_slices_ContainsFunc_SSimpl_Point_Simpl_Point (l : List (List Pt)) : ((true = true) ∧ ((True) ∧ True) ∧ (true = true) ∧ ((True) ∧ (True) ∧ ((True)) ∧ (True) ∧ (True) ∧ True) ∧ (((ile (0 : Int) (idxN (ilen l) fun i => !convB (getl l i))) : Bool) = (anyN (ilen l) fun i => !convB (getl l i))) ∧ True) = ev sig_slices_ContainsFunc_SSimpl_Point_Simpl_Point xs_slices_ContainsFunc_SSimpl_Point_Simpl_Point Tryd.f58.ntmps (fun b => []) (codeOf Tryd.f58) 0 (initS [.s (.view (.ptss l)), .s (.x (.func (.func 59) ⟨[]⟩ ⟨[]⟩))]) (retK Tryd.f58.results.toList [.s (.bool (anyN (ilen l) fun i => !convB (getl l i)))]) := by kernel_rfl
set_option maxHeartbeats 400000 in
theorem F_slices_ContainsFunc_SSimpl_Point_Simpl_Point : FunOK 58 g_slices_ContainsFunc_SSimpl_Point_Simpl_Point := by
  refine fun_F (by kernel_rfl) Tryd.func58 rfl (by kernel_rfl) sig_slices_ContainsFunc_SSimpl_Point_Simpl_Point_ok xs_slices_ContainsFunc_SSimpl_Point_Simpl_Point_ok ?_
  intro avs sg h hn hl
  unfold g_slices_ContainsFunc_SSimpl_Point_Simpl_Point at h
  split at h
  · rename_i l
    injection h with h; subst h
    refine ⟨by kernel_rfl, fun b => [], Eq.mp (V_slices_ContainsFunc_SSimpl_Point_Simpl_Point l) ?_⟩
    simp only [true_and, and_true, implies_true, and_self, forall_const, true_implies, lenA, lenL, SV.lenOK, Cont.lenOK] at hn hl ⊢
    rw [idxN_any (ilen_0 l)]
  · cases h
def g_impl_SceneValid : List AV → Option Sg
  | [.s (.view (.ptss l))] => some ⟨True, [.s (.bool (sceneB l))]⟩
  | _ => none
def sig_impl_SceneValid : FuncId → List AV → Option Sg := sigL [(58, g_slices_ContainsFunc_SSimpl_Point_Simpl_Point)]
def xs_impl_SceneValid : XS := ⟨xsigL [], ysigL []⟩
theorem sig_impl_SceneValid_ok : SigOK sig_impl_SceneValid := sigL_cons F_slices_ContainsFunc_SSimpl_Point_Simpl_Point sigL_nil
theorem xs_impl_SceneValid_ok : XSigOK xs_impl_SceneValid := ⟨xsigL_nil, ysigL_nil⟩
theorem V_impl_SceneValid (l : List (List Pt)) : ((true = true) ∧ ((True) ∧ True) ∧ (true = true) ∧ ((True) ∧ (True) ∧ (True) ∧ (True) ∧ (NIs (ile (ilen l) (6 : Int)) true → True) ∧ (NIs (ile (ilen l) (6 : Int)) true → (True)) ∧ (NIs (ile (ilen l) (6 : Int)) true → True) ∧ (True) ∧ (True) ∧ True) ∧ (((bite (ile (ilen l) (6 : Int)) (bnot (anyN (ilen l) fun i => !convB (getl l i))) false) : Bool) = (sceneB l)) ∧ True) = ev sig_impl_SceneValid xs_impl_SceneValid Tryd.f32.ntmps (fun b => []) (codeOf Tryd.f32) 0 (initS [.s (.view (.ptss l))]) (retK Tryd.f32.results.toList [.s (.bool (sceneB l))]) := by kernel_rfl
set_option maxHeartbeats 400000 in
theorem F_impl_SceneValid : FunOK 32 g_impl_SceneValid := by
  refine fun_F (by kernel_rfl) Tryd.func32 rfl (by kernel_rfl) sig_impl_SceneValid_ok xs_impl_SceneValid_ok ?_
  intro avs sg h hn hl
  unfold g_impl_SceneValid at h
  split at h
  · rename_i l
    injection h with h; subst h
    refine ⟨by kernel_rfl, fun b => [], Eq.mp (V_impl_SceneValid l) ?_⟩
    simp only [true_and, and_true, implies_true, and_self, forall_const, true_implies, lenA, lenL, SV.lenOK, Cont.lenOK] at hn hl ⊢
    simp only [ilt_t, ilt_f, ile_t, ile_f, ieq_t, ieq_f, bnot_e, band_e, bite_and, bite_or, NLt_e, NLe_e, NNe_e, NIs_e, imax_e, imin_e, irem_e, Bool.not_eq_true', Bool.not_eq_false', Bool.and_eq_true, Bool.or_eq_true, Bool.or_eq_false_iff, Bool.and_eq_false_iff, Cont.pts.injEq, Cont.ints.injEq, Cont.bools.injEq, Cont.ptss.injEq, Cont.intss.injEq, Cont.boolss.injEq, true_and, and_true, implies_true, anyN_not, Bool.not_not]
    unfold sceneB
    rfl
  · cases h
def g_impl_CellJoints : List AV → Option Sg
  | [.agg [.view (.ints a1), .view (.ints a2), .view (.ints a3)], .s (.int s), .agg [.int c1, .int c2]] => some ⟨True, [.nrow 3 (.ints (cjL a1 a2 a3 s c1 c2))]⟩
  | _ => none
def sig_impl_CellJoints : FuncId → List AV → Option Sg := sigL [(31, g_impl_GridSize), (54, g_impl_within)]
def xs_impl_CellJoints : XS := ⟨xsigL [], ysigL []⟩
theorem sig_impl_CellJoints_ok : SigOK sig_impl_CellJoints := sigL_cons F_impl_GridSize (sigL_cons F_impl_within sigL_nil)
theorem xs_impl_CellJoints_ok : XSigOK xs_impl_CellJoints := ⟨xsigL_nil, ysigL_nil⟩
theorem V_impl_CellJoints (a1 : List Int) (a2 : List Int) (a3 : List Int) (s : Int) (c1 : Int) (c2 : Int) : ((true = true) ∧ ((True) ∧ (True) ∧ (True) ∧ True) ∧ (true = true) ∧ ((True) ∧ (True) ∧ ((True)) ∧ (True) ∧ (True) ∧ (True) ∧ (True) ∧ (True) ∧ True) ∧ (true = true) ∧ ((True) ∧ (True) ∧ (True) ∧ (True) ∧ ((True)) ∧ (True) ∧ (True) ∧ (NIs (bnot (inB c1 (0 : Int) (isub (gsK a1 a2 a3 s 0) (1 : Int)))) false → True) ∧ (NIs (bnot (inB c1 (0 : Int) (isub (gsK a1 a2 a3 s 0) (1 : Int)))) false → True) ∧ (NIs (bnot (inB c1 (0 : Int) (isub (gsK a1 a2 a3 s 0) (1 : Int)))) false → True) ∧ (NIs (bnot (inB c1 (0 : Int) (isub (gsK a1 a2 a3 s 0) (1 : Int)))) false → True) ∧ (NIs (bnot (inB c1 (0 : Int) (isub (gsK a1 a2 a3 s 0) (1 : Int)))) false → (True)) ∧ (NIs (bnot (inB c1 (0 : Int) (isub (gsK a1 a2 a3 s 0) (1 : Int)))) false → True) ∧ (True) ∧ True) ∧ ((bite (bnot (inB c1 (0 : Int) (isub (gsK a1 a2 a3 s 0) (1 : Int)))) true (bnot (inB c2 (0 : Int) (isub (gsK a1 a2 a3 s 1) (1 : Int))))) = true → ((true = true) ∧ ((True) ∧ True) ∧ ((true = true) ∧ ((Cont.ints []) = (Cont.ints (cjL a1 a2 a3 s c1 c2)))) ∧ True)) ∧ ((bite (bnot (inB c1 (0 : Int) (isub (gsK a1 a2 a3 s 0) (1 : Int)))) true (bnot (inB c2 (0 : Int) (isub (gsK a1 a2 a3 s 1) (1 : Int))))) = false → ((true = true) ∧ ((True) ∧ (True) ∧ (NLe 0 (0 : Int) ∧ NLt (0 : Int) (ilen a2)) ∧ (True) ∧ (True) ∧ (True) ∧ (True) ∧ (True) ∧ (True) ∧ (True) ∧ (True) ∧ (NLe 0 (1 : Int) ∧ NLt (1 : Int) (ilen a2)) ∧ (True) ∧ (True) ∧ (True) ∧ (True) ∧ (True) ∧ (True) ∧ (True) ∧ (True) ∧ True) ∧ ((true = true) ∧ ((Cont.ints [(iadd (geti a2 (0 : Int)) (imul c1 s)), (iadd (geti a2 (1 : Int)) (imul c2 s))]) = (Cont.ints (cjL a1 a2 a3 s c1 c2)))) ∧ True))) = ev sig_impl_CellJoints xs_impl_CellJoints Tryd.f34.ntmps (fun b => []) (codeOf Tryd.f34) 0 (initS [.agg [.view (.ints a1), .view (.ints a2), .view (.ints a3)], .s (.int s), .agg [.int c1, .int c2]]) (retK Tryd.f34.results.toList [.nrow 3 (.ints (cjL a1 a2 a3 s c1 c2))]) := by kernel_rfl
set_option maxHeartbeats 400000 in
theorem F_impl_CellJoints : FunOK 34 g_impl_CellJoints := by
  refine fun_F (by kernel_rfl) Tryd.func34 rfl (by kernel_rfl) sig_impl_CellJoints_ok xs_impl_CellJoints_ok ?_
  intro avs sg h hn hl
  unfold g_impl_CellJoints at h
  split at h
  · rename_i a1 a2 a3 s c1 c2
    injection h with h; subst h
    refine ⟨by kernel_rfl, fun b => [], Eq.mp (V_impl_CellJoints a1 a2 a3 s c1 c2) ?_⟩
    simp only [true_and, and_true, implies_true, and_self, forall_const, true_implies, lenA, lenL, SV.lenOK, Cont.lenOK] at hn hl ⊢
    simp only [ilt_t, ilt_f, ile_t, ile_f, ieq_t, ieq_f, bnot_e, band_e, bite_and, bite_or, NLt_e, NLe_e, NNe_e, NIs_e, imax_e, imin_e, irem_e, Bool.not_eq_true', Bool.not_eq_false', Bool.and_eq_true, Bool.or_eq_true, Bool.or_eq_false_iff, Bool.and_eq_false_iff, Cont.pts.injEq, Cont.ints.injEq, Cont.bools.injEq, Cont.ptss.injEq, Cont.intss.injEq, Cont.boolss.injEq, true_and, and_true, implies_true]
    refine ⟨fun h => ?_, fun h => ?_⟩
    · have : cjB a1 a2 a3 s c1 c2 = false := by unfold cjB; rcases h with h | h <;> simp [h]
      unfold cjL; simp [this]
    · have hB : cjB a1 a2 a3 s c1 c2 = true := by unfold cjB; rw [h.1, h.2]; rfl
      obtain ⟨_, l2, _⟩ := cj_parts hB
      refine ⟨⟨⟨by omega, by omega⟩, by omega, by omega⟩, ?_⟩
      unfold cjL; rw [if_pos hB]
  · cases h
def g_impl_Degrees : List AV → Option Sg
  | [.s (.int d)] => some ⟨True, [.s (.int (degW d))]⟩
  | _ => none
def sig_impl_Degrees : FuncId → List AV → Option Sg := sigL []
def xs_impl_Degrees : XS := ⟨xsigL [], ysigL []⟩
theorem sig_impl_Degrees_ok : SigOK sig_impl_Degrees := sigL_nil
theorem xs_impl_Degrees_ok : XSigOK xs_impl_Degrees := ⟨xsigL_nil, ysigL_nil⟩
theorem V_impl_Degrees (d : Int) : ((true = true) ∧ ((True) ∧ True) ∧ (true = true) ∧ ((True) ∧ (NNe (360 : Int) 0) ∧ (True) ∧ (NNe (360 : Int) 0) ∧ (True) ∧ True) ∧ (((irem (iadd (irem d (360 : Int)) (360 : Int)) (360 : Int)) : Int) = (degW d)) ∧ True) = ev sig_impl_Degrees xs_impl_Degrees Tryd.f52.ntmps (fun b => []) (codeOf Tryd.f52) 0 (initS [.s (.int d)]) (retK Tryd.f52.results.toList [.s (.int (degW d))]) := by kernel_rfl
set_option maxHeartbeats 400000 in
theorem F_impl_Degrees : FunOK 52 g_impl_Degrees := by
  refine fun_F (by kernel_rfl) Tryd.func52 rfl (by kernel_rfl) sig_impl_Degrees_ok xs_impl_Degrees_ok ?_
  intro avs sg h hn hl
  unfold g_impl_Degrees at h
  split at h
  · rename_i d
    injection h with h; subst h
    refine ⟨by kernel_rfl, fun b => [], Eq.mp (V_impl_Degrees d) ?_⟩
    simp only [true_and, and_true, implies_true, and_self, forall_const, true_implies, lenA, lenL, SV.lenOK, Cont.lenOK] at hn hl ⊢
    simp only [ilt_t, ilt_f, ile_t, ile_f, ieq_t, ieq_f, bnot_e, band_e, bite_and, bite_or, NLt_e, NLe_e, NNe_e, NIs_e, imax_e, imin_e, irem_e, Bool.not_eq_true', Bool.not_eq_false', Bool.and_eq_true, Bool.or_eq_true, Bool.or_eq_false_iff, Bool.and_eq_false_iff, Cont.pts.injEq, Cont.ints.injEq, Cont.bools.injEq, Cont.ptss.injEq, Cont.intss.injEq, Cont.boolss.injEq, true_and, and_true, implies_true]
    exact ⟨by decide, by simp [degW, irem_e]⟩
  · cases h
def g_impl_Cosine : List AV → Option Sg
  | [.s (.int d)] => some ⟨True, [.s (.int (cosF d))]⟩
  | _ => none
def sig_impl_Cosine : FuncId → List AV → Option Sg := sigL [(52, g_impl_Degrees), (78, g_impl_Sine)]
def xs_impl_Cosine : XS := ⟨xsigL [], ysigL []⟩
theorem sig_impl_Cosine_ok : SigOK sig_impl_Cosine := sigL_cons F_impl_Degrees (sigL_cons F_impl_Sine sigL_nil)
theorem xs_impl_Cosine_ok : XSigOK xs_impl_Cosine := ⟨xsigL_nil, ysigL_nil⟩
theorem V_impl_Cosine (d : Int) : ((true = true) ∧ ((True) ∧ True) ∧ (true = true) ∧ ((True) ∧ ((True)) ∧ (True) ∧ ((True)) ∧ (True) ∧ True) ∧ (((sinF (iadd (degW d) (90 : Int))) : Int) = (cosF d)) ∧ True) = ev sig_impl_Cosine xs_impl_Cosine Tryd.f79.ntmps (fun b => []) (codeOf Tryd.f79) 0 (initS [.s (.int d)]) (retK Tryd.f79.results.toList [.s (.int (cosF d))]) := by kernel_rfl
set_option maxHeartbeats 400000 in
theorem F_impl_Cosine : FunOK 79 g_impl_Cosine := by
  refine fun_F (by kernel_rfl) Tryd.func79 rfl (by kernel_rfl) sig_impl_Cosine_ok xs_impl_Cosine_ok ?_
  intro avs sg h hn hl
  unfold g_impl_Cosine at h
  split at h
  · rename_i d
    injection h with h; subst h
    refine ⟨by kernel_rfl, fun b => [], Eq.mp (V_impl_Cosine d) ?_⟩
    simp only [true_and, and_true, implies_true, and_self, forall_const, true_implies, lenA, lenL, SV.lenOK, Cont.lenOK] at hn hl ⊢
    try simp only [ilt_t, ilt_f, ile_t, ile_f, ieq_t, ieq_f, bnot_e, band_e, bite_and, bite_or, NLt_e, NLe_e, NNe_e, NIs_e, imax_e, imin_e, irem_e, Bool.not_eq_true', Bool.not_eq_false', Bool.and_eq_true, Bool.or_eq_true, Bool.or_eq_false_iff, Bool.and_eq_false_iff, Cont.pts.injEq, Cont.ints.injEq, Cont.bools.injEq, Cont.ptss.injEq, Cont.intss.injEq, Cont.boolss.injEq, true_and, and_true, implies_true]
    rw [degW_e]
    unfold cosF
    rw [iadd_e (by omega) (by omega)]
  · cases h
def g_impl_floor : List AV → Option Sg
  | [.s (.int a), .s (.int b)] => some ⟨1 ≤ b ∧ -9223372036854775807 ≤ a ∧ a ≤ 9223372036854775807, [.s (.int (a / b))]⟩
  | _ => none
def sig_impl_floor : FuncId → List AV → Option Sg := sigL []
def xs_impl_floor : XS := ⟨xsigL [], ysigL []⟩
theorem sig_impl_floor_ok : SigOK sig_impl_floor := sigL_nil
theorem xs_impl_floor_ok : XSigOK xs_impl_floor := ⟨xsigL_nil, ysigL_nil⟩
theorem V_impl_floor (a : Int) (b : Int) : ((true = true) ∧ ((True) ∧ True) ∧ (true = true) ∧ ((True) ∧ (True) ∧ (NNe b 0) ∧ (True) ∧ True) ∧ (true = true) ∧ ((True) ∧ (True) ∧ (NNe b 0) ∧ (True) ∧ True) ∧ ((ilt (irem a b) (0 : Int)) = true → ((true = true) ∧ ((True) ∧ (True) ∧ (True) ∧ True) ∧ (true = true) ∧ ((True) ∧ (True) ∧ True) ∧ (((isub (iquo a b) (1 : Int)) : Int) = (a / b)) ∧ True)) ∧ ((ilt (irem a b) (0 : Int)) = false → ((true = true) ∧ ((True) ∧ (True) ∧ True) ∧ (((iquo a b) : Int) = (a / b)) ∧ True))) = ev sig_impl_floor xs_impl_floor Tryd.f88.ntmps (fun b => []) (codeOf Tryd.f88) 0 (initS [.s (.int a), .s (.int b)]) (retK Tryd.f88.results.toList [.s (.int (a / b))]) := by kernel_rfl
set_option maxHeartbeats 400000 in
theorem F_impl_floor : FunOK 88 g_impl_floor := by
  refine fun_F (by kernel_rfl) Tryd.func88 rfl (by kernel_rfl) sig_impl_floor_ok xs_impl_floor_ok ?_
  intro avs sg h hn hl
  unfold g_impl_floor at h
  split at h
  · rename_i a b
    injection h with h; subst h
    refine ⟨by kernel_rfl, fun b => [], Eq.mp (V_impl_floor a b) ?_⟩
    simp only [true_and, and_true, implies_true, and_self, forall_const, true_implies, lenA, lenL, SV.lenOK, Cont.lenOK] at hn hl ⊢
    obtain ⟨n1, n2, n3⟩ := hn
    obtain ⟨q1, q2⟩ := tdiv_bd n1 n2 n3
    obtain ⟨f1, f2⟩ := floor_e (a := a) n1
    simp only [ilt_t, ilt_f, ile_t, ile_f, ieq_t, ieq_f, bnot_e, band_e, bite_and, bite_or, NLt_e, NLe_e, NNe_e, NIs_e, imax_e, imin_e, irem_e, Bool.not_eq_true', Bool.not_eq_false', Bool.and_eq_true, Bool.or_eq_true, Bool.or_eq_false_iff, Bool.and_eq_false_iff, Cont.pts.injEq, Cont.ints.injEq, Cont.bools.injEq, Cont.ptss.injEq, Cont.intss.injEq, Cont.boolss.injEq, true_and, and_true, implies_true]
    refine ⟨by omega, by omega, fun h => ?_, fun h => ?_⟩
    · rw [q1, q2 h, f1 h]
    · rw [q1, f2 h]
  · cases h
def g_impl_nearest : List AV → Option Sg
  | [.s (.int a), .s (.int b)] => some ⟨1 ≤ b ∧ b ≤ 1000000 ∧ -1000000000000 ≤ a ∧ a ≤ 1000000000000, [.s (.int (rnd a b))]⟩
  | _ => none
def sig_impl_nearest : FuncId → List AV → Option Sg := sigL [(88, g_impl_floor)]
def xs_impl_nearest : XS := ⟨xsigL [], ysigL []⟩
theorem sig_impl_nearest_ok : SigOK sig_impl_nearest := sigL_cons F_impl_floor sigL_nil
theorem xs_impl_nearest_ok : XSigOK xs_impl_nearest := ⟨xsigL_nil, ysigL_nil⟩
theorem V_impl_nearest (a : Int) (b : Int) : ((true = true) ∧ ((True) ∧ True) ∧ (true = true) ∧ ((True) ∧ (True) ∧ (True) ∧ (True) ∧ (True) ∧ (True) ∧ ((1 ≤ (imul (2 : Int) b) ∧ -9223372036854775807 ≤ (iadd (imul (2 : Int) a) b) ∧ (iadd (imul (2 : Int) a) b) ≤ 9223372036854775807)) ∧ (True) ∧ True) ∧ ((((iadd (imul (2 : Int) a) b) / (imul (2 : Int) b)) : Int) = (rnd a b)) ∧ True) = ev sig_impl_nearest xs_impl_nearest Tryd.f80.ntmps (fun b => []) (codeOf Tryd.f80) 0 (initS [.s (.int a), .s (.int b)]) (retK Tryd.f80.results.toList [.s (.int (rnd a b))]) := by kernel_rfl
set_option maxHeartbeats 400000 in
theorem F_impl_nearest : FunOK 80 g_impl_nearest := by
  refine fun_F (by kernel_rfl) Tryd.func80 rfl (by kernel_rfl) sig_impl_nearest_ok xs_impl_nearest_ok ?_
  intro avs sg h hn hl
  unfold g_impl_nearest at h
  split at h
  · rename_i a b
    injection h with h; subst h
    refine ⟨by kernel_rfl, fun b => [], Eq.mp (V_impl_nearest a b) ?_⟩
    simp only [true_and, and_true, implies_true, and_self, forall_const, true_implies, lenA, lenL, SV.lenOK, Cont.lenOK] at hn hl ⊢
    rw [imul_e (by omega) (by omega), imul_e (by omega) (by omega), iadd_e (by omega) (by omega)]
    exact ⟨by omega, rfl⟩
  · cases h
def g_impl_RotatePoint : List AV → Option Sg
  | [.agg [.int p1, .int p2], .s (.int d)] => some ⟨vB p1 p2 = true, [.agg [.int (rotX p1 p2 d), .int (rotY p1 p2 d)]]⟩
  | _ => none
def sig_impl_RotatePoint : FuncId → List AV → Option Sg := sigL [(77, g_impl_PointValid), (78, g_impl_Sine), (79, g_impl_Cosine), (80, g_impl_nearest)]
def xs_impl_RotatePoint : XS := ⟨xsigL [], ysigL []⟩
theorem sig_impl_RotatePoint_ok : SigOK sig_impl_RotatePoint := sigL_cons F_impl_PointValid (sigL_cons F_impl_Sine (sigL_cons F_impl_Cosine (sigL_cons F_impl_nearest sigL_nil)))
theorem xs_impl_RotatePoint_ok : XSigOK xs_impl_RotatePoint := ⟨xsigL_nil, ysigL_nil⟩
theorem V_impl_RotatePoint (p1 : Int) (p2 : Int) (d : Int) : ((true = true) ∧ ((True) ∧ (True) ∧ True) ∧ (true = true) ∧ ((True) ∧ ((True)) ∧ (True) ∧ True) ∧ ((bnot (vB p1 p2)) = true → ((true = true) ∧ ((True) ∧ True) ∧ (True) ∧ ((((0 : Int) : Int) = (rotX p1 p2 d)) ∧ (((0 : Int) : Int) = (rotY p1 p2 d)) ∧ True) ∧ True)) ∧ ((bnot (vB p1 p2)) = false → ((true = true) ∧ ((True) ∧ ((True)) ∧ (True) ∧ ((True)) ∧ (True) ∧ (True) ∧ True) ∧ (true = true) ∧ ((True) ∧ (True) ∧ (True) ∧ (True) ∧ (True) ∧ (True) ∧ (True) ∧ (True) ∧ (True) ∧ ((1 ≤ (4096 : Int) ∧ (4096 : Int) ≤ 1000000 ∧ -1000000000000 ≤ (isub (imul p1 (cosF d)) (imul p2 (sinF d))) ∧ (isub (imul p1 (cosF d)) (imul p2 (sinF d))) ≤ 1000000000000)) ∧ (True) ∧ (True) ∧ (True) ∧ (True) ∧ (True) ∧ (True) ∧ (True) ∧ (True) ∧ (True) ∧ ((1 ≤ (4096 : Int) ∧ (4096 : Int) ≤ 1000000 ∧ -1000000000000 ≤ (iadd (imul p1 (sinF d)) (imul p2 (cosF d))) ∧ (iadd (imul p1 (sinF d)) (imul p2 (cosF d))) ≤ 1000000000000)) ∧ (True) ∧ True) ∧ (True) ∧ ((((rnd (isub (imul p1 (cosF d)) (imul p2 (sinF d))) (4096 : Int)) : Int) = (rotX p1 p2 d)) ∧ (((rnd (iadd (imul p1 (sinF d)) (imul p2 (cosF d))) (4096 : Int)) : Int) = (rotY p1 p2 d)) ∧ True) ∧ True))) = ev sig_impl_RotatePoint xs_impl_RotatePoint Tryd.f64.ntmps (fun b => []) (codeOf Tryd.f64) 0 (initS [.agg [.int p1, .int p2], .s (.int d)]) (retK Tryd.f64.results.toList [.agg [.int (rotX p1 p2 d), .int (rotY p1 p2 d)]]) := by kernel_rfl
set_option maxHeartbeats 400000 in
theorem F_impl_RotatePoint : FunOK 64 g_impl_RotatePoint := by
  refine fun_F (by kernel_rfl) Tryd.func64 rfl (by kernel_rfl) sig_impl_RotatePoint_ok xs_impl_RotatePoint_ok ?_
  intro avs sg h hn hl
  unfold g_impl_RotatePoint at h
  split at h
  · rename_i p1 p2 d
    injection h with h; subst h
    refine ⟨by kernel_rfl, fun b => [], Eq.mp (V_impl_RotatePoint p1 p2 d) ?_⟩
    simp only [true_and, and_true, implies_true, and_self, forall_const, true_implies, lenA, lenL, SV.lenOK, Cont.lenOK] at hn hl ⊢
    have c := cosF_bd d; have s := sinF_bd d
    have hv := vB_bd hn
    have q1 := mul40 (x := p1) (y := cosF d) (a := 10000) (by omega) (by omega) c
    have q2 := mul40 (x := p2) (y := sinF d) (a := 10000) (by omega) (by omega) s
    have q3 := mul40 (x := p1) (y := sinF d) (a := 10000) (by omega) (by omega) s
    have q4 := mul40 (x := p2) (y := cosF d) (a := 10000) (by omega) (by omega) c
    simp only [ilt_t, ilt_f, ile_t, ile_f, ieq_t, ieq_f, bnot_e, band_e, bite_and, bite_or, NLt_e, NLe_e, NNe_e, NIs_e, imax_e, imin_e, irem_e, Bool.not_eq_true', Bool.not_eq_false', Bool.and_eq_true, Bool.or_eq_true, Bool.or_eq_false_iff, Bool.and_eq_false_iff, Cont.pts.injEq, Cont.ints.injEq, Cont.bools.injEq, Cont.ptss.injEq, Cont.intss.injEq, Cont.boolss.injEq, true_and, and_true, implies_true]
    refine ⟨fun h => (by rw [hn] at h; cases h), fun _ => ?_⟩
    rw [imul_e (a := p1) (b := cosF d) (by omega) (by omega), imul_e (a := p2) (b := sinF d) (by omega) (by omega), imul_e (a := p1) (b := sinF d) (by omega) (by omega), imul_e (a := p2) (b := cosF d) (by omega) (by omega), isub_e (by omega) (by omega), iadd_e (by omega) (by omega)]
    exact ⟨⟨⟨by omega, by omega, by omega, by omega⟩, by omega, by omega, by omega, by omega⟩, by rw [rnd_4]; rfl, by rw [rnd_4]; rfl⟩
  · cases h
def g_impl_armPoints : List AV → Option Sg
  | [.agg [.view (.ints a1), .view (.ints a2), .view (.ints a3)], .s (.view (.ints j))] => some ⟨jvB a1 a2 a3 j = true, [.nrow 75 (.pts (apL a1 j (ilen a1 + 1)))]⟩
  | _ => none
def sig_impl_armPoints : FuncId → List AV → Option Sg := sigL [(64, g_impl_RotatePoint)]
def xs_impl_armPoints : XS := ⟨xsigL [], ysigL []⟩
theorem sig_impl_armPoints_ok : SigOK sig_impl_armPoints := sigL_cons F_impl_RotatePoint sigL_nil
theorem xs_impl_armPoints_ok : XSigOK xs_impl_armPoints := ⟨xsigL_nil, ysigL_nil⟩
theorem V_impl_armPoints (a1 : List Int) (a2 : List Int) (a3 : List Int) (j : List Int) : ((true = true) ∧ ((True) ∧ (True) ∧ True) ∧ (true = true) ∧ ((True) ∧ (True) ∧ (True) ∧ True) ∧ (true = true) ∧ ((True) ∧ (True) ∧ True) ∧ (True) ∧ (True) ∧ (true = true) ∧ ((True) ∧ (True) ∧ (True) ∧ (True) ∧ True) ∧ ∃ (I1 : List GV → Prop) (μ1 : List GV → Nat), (((true = true) ∧ ((((0 : Int) : Int) = (0 : Int)) ∧ (((0 : Int) : Int) = (0 : Int)) ∧ (true = true) ∧ ((Cont.ints a1) = (Cont.ints a1)) ∧ (((ilen a1) : Int) = (ilen a1)) ∧ ((((0 : Int) : Int) = (0 : Int)) ∧ (((0 : Int) : Int) = (0 : Int)) ∧ True) ∧ (true = true) ∧ ((((0 : Int) : Int) = (0 : Int)) ∧ (((0 : Int) : Int) = (0 : Int)) ∧ True) ∧ (true = true) ∧ (true = true) ∧ (true = true) ∧ (((Cont.ints a1) = (Cont.ints a1)) ∧ ((Cont.ints a2) = (Cont.ints a2)) ∧ ((Cont.ints a3) = (Cont.ints a3)) ∧ True) ∧ ((Cont.ints j) = (Cont.ints j)) ∧ True) ∧ (((((0 : Int) : Int) = (0 : Int)) ∧ (((0 : Int) : Int) = (0 : Int)) ∧ True) ∧ ((true = true) ∧ ((Cont.pts [((0 : Int), (0 : Int))]) = (Cont.pts [((0 : Int), (0 : Int))]))) ∧ (((Cont.ints a1) = (Cont.ints a1)) ∧ ((Cont.ints a2) = (Cont.ints a2)) ∧ ((Cont.ints a3) = (Cont.ints a3)) ∧ True) ∧ ((true = true) ∧ ((Cont.pts []) = (Cont.pts []))) ∧ True)) ∧ (([GK.int, GK.int, GK.pts, GK.int, GK.int] : List GK) = ([GK.int, GK.int, GK.pts, GK.int, GK.int] : List GK)) ∧ I1 [GV.int (0 : Int), GV.int (0 : Int), GV.pts [((0 : Int), (0 : Int))], GV.int (0 : Int), GV.int (0 : Int)]) ∧ (∀ i1_0 : Int, ∀ i1_1 : Int, ∀ l1_2 : List Pt, ∀ i1_3 : Int, ∀ i1_4 : Int, I1 [GV.int i1_0, GV.int i1_1, GV.pts l1_2, GV.int i1_3, GV.int i1_4] → ((true = true) ∧ ((True) ∧ True) ∧ ((ilt i1_0 (ilen a1)) = true → ((true = true) ∧ ((True) ∧ (NLe 0 i1_0 ∧ NLt i1_0 (ilen a1)) ∧ (True) ∧ (True) ∧ (True) ∧ True) ∧ (true = true) ∧ ((True) ∧ (True) ∧ (True) ∧ (NLe 0 i1_0 ∧ NLt i1_0 (ilen j)) ∧ (True) ∧ (True) ∧ (True) ∧ True) ∧ (true = true) ∧ ((True) ∧ (True) ∧ (True) ∧ ((vB (geti a1 i1_0) (0 : Int) = true)) ∧ (True) ∧ True) ∧ (True) ∧ (true = true) ∧ ((True) ∧ (True) ∧ (True) ∧ (True) ∧ (True) ∧ (True) ∧ (True) ∧ (True) ∧ (True) ∧ (True) ∧ (True) ∧ True) ∧ (True) ∧ (true = true) ∧ ((True) ∧ (True) ∧ (True) ∧ True) ∧ (NLe (ilen l1_2) 1000000000 ∧ NLe (ilen [((iadd i1_3 (rotX (geti a1 i1_0) (0 : Int) (iadd i1_1 (geti j i1_0)))), (iadd i1_4 (rotY (geti a1 i1_0) (0 : Int) (iadd i1_1 (geti j i1_0)))))]) 1000000000) ∧ (True) ∧ (true = true) ∧ ((True) ∧ (True) ∧ True) ∧ ((true = true) ∧ ((((iadd i1_1 (geti j i1_0)) : Int) = (iadd i1_1 (geti j i1_0))) ∧ (((iadd i1_0 (1 : Int)) : Int) = (iadd i1_0 (1 : Int))) ∧ (true = true) ∧ ((Cont.ints a1) = (Cont.ints a1)) ∧ (((ilen a1) : Int) = (ilen a1)) ∧ ((((0 : Int) : Int) = (0 : Int)) ∧ (((0 : Int) : Int) = (0 : Int)) ∧ True) ∧ (true = true) ∧ ((((0 : Int) : Int) = (0 : Int)) ∧ (((0 : Int) : Int) = (0 : Int)) ∧ True) ∧ (true = true) ∧ (true = true) ∧ (true = true) ∧ (((Cont.ints a1) = (Cont.ints a1)) ∧ ((Cont.ints a2) = (Cont.ints a2)) ∧ ((Cont.ints a3) = (Cont.ints a3)) ∧ True) ∧ ((Cont.ints j) = (Cont.ints j)) ∧ True) ∧ (((((iadd i1_3 (rotX (geti a1 i1_0) (0 : Int) (iadd i1_1 (geti j i1_0)))) : Int) = (iadd i1_3 (rotX (geti a1 i1_0) (0 : Int) (iadd i1_1 (geti j i1_0))))) ∧ (((iadd i1_4 (rotY (geti a1 i1_0) (0 : Int) (iadd i1_1 (geti j i1_0)))) : Int) = (iadd i1_4 (rotY (geti a1 i1_0) (0 : Int) (iadd i1_1 (geti j i1_0))))) ∧ True) ∧ ((true = true) ∧ ((Cont.pts (iapp l1_2 [((iadd i1_3 (rotX (geti a1 i1_0) (0 : Int) (iadd i1_1 (geti j i1_0)))), (iadd i1_4 (rotY (geti a1 i1_0) (0 : Int) (iadd i1_1 (geti j i1_0)))))])) = (Cont.pts (iapp l1_2 [((iadd i1_3 (rotX (geti a1 i1_0) (0 : Int) (iadd i1_1 (geti j i1_0)))), (iadd i1_4 (rotY (geti a1 i1_0) (0 : Int) (iadd i1_1 (geti j i1_0)))))])))) ∧ (((Cont.ints a1) = (Cont.ints a1)) ∧ ((Cont.ints a2) = (Cont.ints a2)) ∧ ((Cont.ints a3) = (Cont.ints a3)) ∧ True) ∧ ((true = true) ∧ ((Cont.pts []) = (Cont.pts []))) ∧ True)) ∧ ((([GK.int, GK.int, GK.pts, GK.int, GK.int] : List GK) = ([GK.int, GK.int, GK.pts, GK.int, GK.int] : List GK)) ∧ I1 [GV.int (iadd i1_0 (1 : Int)), GV.int (iadd i1_1 (geti j i1_0)), GV.pts (iapp l1_2 [((iadd i1_3 (rotX (geti a1 i1_0) (0 : Int) (iadd i1_1 (geti j i1_0)))), (iadd i1_4 (rotY (geti a1 i1_0) (0 : Int) (iadd i1_1 (geti j i1_0)))))]), GV.int (iadd i1_3 (rotX (geti a1 i1_0) (0 : Int) (iadd i1_1 (geti j i1_0)))), GV.int (iadd i1_4 (rotY (geti a1 i1_0) (0 : Int) (iadd i1_1 (geti j i1_0))))] ∧ μ1 [GV.int (iadd i1_0 (1 : Int)), GV.int (iadd i1_1 (geti j i1_0)), GV.pts (iapp l1_2 [((iadd i1_3 (rotX (geti a1 i1_0) (0 : Int) (iadd i1_1 (geti j i1_0)))), (iadd i1_4 (rotY (geti a1 i1_0) (0 : Int) (iadd i1_1 (geti j i1_0)))))]), GV.int (iadd i1_3 (rotX (geti a1 i1_0) (0 : Int) (iadd i1_1 (geti j i1_0)))), GV.int (iadd i1_4 (rotY (geti a1 i1_0) (0 : Int) (iadd i1_1 (geti j i1_0))))] < μ1 [GV.int i1_0, GV.int i1_1, GV.pts l1_2, GV.int i1_3, GV.int i1_4]))) ∧ ((ilt i1_0 (ilen a1)) = false → ((true = true) ∧ ((True) ∧ (True) ∧ True) ∧ ((true = true) ∧ ((Cont.pts l1_2) = (Cont.pts (apL a1 j (ilen a1 + 1))))) ∧ True))))) = ev sig_impl_armPoints xs_impl_armPoints Tryd.f47.ntmps (fun b => if b == 0 then [.v 17, .v 7, .b 5, .b 6] else []) (codeOf Tryd.f47) 0 (initS [.agg [.view (.ints a1), .view (.ints a2), .view (.ints a3)], .s (.view (.ints j))]) (retK Tryd.f47.results.toList [.nrow 75 (.pts (apL a1 j (ilen a1 + 1)))]) := by kernel_rfl
set_option maxHeartbeats 400000 in
theorem F_impl_armPoints : FunOK 47 g_impl_armPoints := by
  refine fun_F (by kernel_rfl) Tryd.func47 rfl (by kernel_rfl) sig_impl_armPoints_ok xs_impl_armPoints_ok ?_
  intro avs sg h hn hl
  unfold g_impl_armPoints at h
  split at h
  · rename_i a1 a2 a3 j
    injection h with h; subst h
    refine ⟨by kernel_rfl, fun b => if b == 0 then [.v 17, .v 7, .b 5, .b 6] else [], Eq.mp (V_impl_armPoints a1 a2 a3 j) ?_⟩
    simp only [true_and, and_true, implies_true, and_self, forall_const, true_implies, lenA, lenL, SV.lenOK, Cont.lenOK] at hn hl ⊢
    obtain ⟨ha, hjl, hl4, hlk, hjk⟩ := jv_p hn
    simp only [ilt_t, ilt_f, ile_t, ile_f, ieq_t, ieq_f, bnot_e, band_e, bite_and, bite_or, NLt_e, NLe_e, NNe_e, NIs_e, imax_e, imin_e, irem_e, Bool.not_eq_true', Bool.not_eq_false', Bool.and_eq_true, Bool.or_eq_true, Bool.or_eq_false_iff, Bool.and_eq_false_iff, Cont.pts.injEq, Cont.ints.injEq, Cont.bools.injEq, Cont.ptss.injEq, Cont.intss.injEq, Cont.boolss.injEq, true_and, and_true, implies_true]
    refine ⟨fun | [.int k, .int d, .pts o, .int x, .int y] => 0 ≤ k ∧ k ≤ ilen a1 ∧ o = apL a1 j (k + 1) ∧ d = dirK j k ∧ x = apX a1 j k ∧ y = apY a1 j k | _ => False, fun | .int k :: _ => (ilen a1 - k).toNat | _ => 0, ⟨by omega, by omega, rfl, rfl, rfl, rfl⟩, ?_⟩
    rintro k d o x y ⟨k0, k1, rfl, rfl, rfl, rfl⟩
    refine ⟨fun hc => ?_, fun hc => ?_⟩
    · have hk : k < ilen a1 := by omega
      have b1 := jv_bd hn k0 k1
      have b2 := jv_bd hn (k := k + 1) (by omega) (by omega)
      have hL := hlk k k0 hk
      have hJ := hjk k k0 hk
      have hd := dirK_1 (J := j) k0
      have hx := apX_1 (L := a1) (J := j) k0
      have hy := apY_1 (L := a1) (J := j) k0
      have e1 : iadd (dirK j k) (geti j k) = dirK j (k + 1) := by rw [iadd_e (by omega) (by omega), hd]
      rw [e1]
      have e2 : iadd (apX a1 j k) (rotX (geti a1 k) 0 (dirK j (k + 1))) = apX a1 j (k + 1) := by rw [iadd_e (by omega) (by omega), hx]
      have e3 : iadd (apY a1 j k) (rotY (geti a1 k) 0 (dirK j (k + 1))) = apY a1 j (k + 1) := by rw [iadd_e (by omega) (by omega), hy]
      rw [e2, e3, apL_len (by omega), iadd_e (by omega) (by omega)]
      exact ⟨⟨k0, by omega⟩, ⟨k0, by omega⟩, vB_mk (by omega), ⟨by omega, by rw [ilen_one]; omega⟩, ⟨by omega, by omega, apL_s (by omega), rfl, rfl, rfl⟩, by show (ilen a1 - (k + 1)).toNat < (ilen a1 - k).toNat; omega⟩
    · rw [show k = ilen a1 by omega]
  · cases h
def g_impl_inside : List AV → Option Sg
  | [.s (.view (.pts l)), .agg [.int p1, .int p2]] => some ⟨True, [.s (.bool (insB l p1 p2))]⟩
  | _ => none
def sig_impl_inside : FuncId → List AV → Option Sg := sigL [(66, g_impl_cross)]
def xs_impl_inside : XS := ⟨xsigL [], ysigL []⟩
theorem sig_impl_inside_ok : SigOK sig_impl_inside := sigL_cons F_impl_cross sigL_nil
theorem xs_impl_inside_ok : XSigOK xs_impl_inside := ⟨xsigL_nil, ysigL_nil⟩
theorem V_impl_inside (l : List Pt) (p1 : Int) (p2 : Int) : ((true = true) ∧ ((True) ∧ (True) ∧ True) ∧ (true = true) ∧ ((True) ∧ (True) ∧ (True) ∧ True) ∧ ∃ (I1 : List GV → Prop) (μ1 : List GV → Nat), (((true = true) ∧ (((false : Bool) = false) ∧ (((0 : Int) : Int) = (0 : Int)) ∧ ((Cont.pts l) = (Cont.pts l)) ∧ (((ilen l) : Int) = (ilen l)) ∧ (true = true) ∧ ((Cont.pts l) = (Cont.pts l)) ∧ (((p1 : Int) = p1) ∧ ((p2 : Int) = p2) ∧ True) ∧ True) ∧ ((((p1 : Int) = p1) ∧ ((p2 : Int) = p2) ∧ True) ∧ True)) ∧ (([GK.int, GK.bool] : List GK) = ([GK.int, GK.bool] : List GK)) ∧ I1 [GV.int (0 : Int), GV.bool false]) ∧ (∀ i1_0 : Int, ∀ b1_1 : Bool, I1 [GV.int i1_0, GV.bool b1_1] → ((true = true) ∧ ((True) ∧ True) ∧ ((ilt i1_0 (ilen l)) = true → ((true = true) ∧ ((True) ∧ (NLe 0 i1_0 ∧ NLt i1_0 (ilen l)) ∧ (True) ∧ (True) ∧ (True) ∧ True) ∧ (True) ∧ (true = true) ∧ ((True) ∧ (True) ∧ (True) ∧ (True) ∧ (True) ∧ (True) ∧ (NNe (ilen l) 0) ∧ (NLe 0 (irem (iadd i1_0 (1 : Int)) (ilen l)) ∧ NLt (irem (iadd i1_0 (1 : Int)) (ilen l)) (ilen l)) ∧ (True) ∧ (True) ∧ ((True)) ∧ (True) ∧ True) ∧ ((ilt (crW (getx l i1_0) (gety l i1_0) (getx l (irem (iadd i1_0 (1 : Int)) (ilen l))) (gety l (irem (iadd i1_0 (1 : Int)) (ilen l))) p1 p2) (0 : Int)) = true → ((true = true) ∧ ((True) ∧ True) ∧ ((false : Bool) = (insB l p1 p2)) ∧ True)) ∧ ((ilt (crW (getx l i1_0) (gety l i1_0) (getx l (irem (iadd i1_0 (1 : Int)) (ilen l))) (gety l (irem (iadd i1_0 (1 : Int)) (ilen l))) p1 p2) (0 : Int)) = false → ((true = true) ∧ ((True) ∧ (True) ∧ True) ∧ ((true = true) ∧ (((b1_1 : Bool) = b1_1) ∧ (((iadd i1_0 (1 : Int)) : Int) = (iadd i1_0 (1 : Int))) ∧ ((Cont.pts l) = (Cont.pts l)) ∧ (((ilen l) : Int) = (ilen l)) ∧ (true = true) ∧ ((Cont.pts l) = (Cont.pts l)) ∧ (((p1 : Int) = p1) ∧ ((p2 : Int) = p2) ∧ True) ∧ True) ∧ ((((p1 : Int) = p1) ∧ ((p2 : Int) = p2) ∧ True) ∧ True)) ∧ ((([GK.int, GK.bool] : List GK) = ([GK.int, GK.bool] : List GK)) ∧ I1 [GV.int (iadd i1_0 (1 : Int)), GV.bool b1_1] ∧ μ1 [GV.int (iadd i1_0 (1 : Int)), GV.bool b1_1] < μ1 [GV.int i1_0, GV.bool b1_1]))))) ∧ ((ilt i1_0 (ilen l)) = false → ((true = true) ∧ ((True) ∧ True) ∧ ((true : Bool) = (insB l p1 p2)) ∧ True))))) = ev sig_impl_inside xs_impl_inside Tryd.f76.ntmps (fun b => if b == 0 then [.v 9, .v 4] else []) (codeOf Tryd.f76) 0 (initS [.s (.view (.pts l)), .agg [.int p1, .int p2]]) (retK Tryd.f76.results.toList [.s (.bool (insB l p1 p2))]) := by kernel_rfl
set_option maxHeartbeats 400000 in
theorem F_impl_inside : FunOK 76 g_impl_inside := by
  refine fun_F (by kernel_rfl) Tryd.func76 rfl (by kernel_rfl) sig_impl_inside_ok xs_impl_inside_ok ?_
  intro avs sg h hn hl
  unfold g_impl_inside at h
  split at h
  · rename_i l p1 p2
    injection h with h; subst h
    refine ⟨by kernel_rfl, fun b => if b == 0 then [.v 9, .v 4] else [], Eq.mp (V_impl_inside l p1 p2) ?_⟩
    simp only [true_and, and_true, implies_true, and_self, forall_const, true_implies, lenA, lenL, SV.lenOK, Cont.lenOK] at hn hl ⊢
    have h0 := ilen_0 l
    simp only [ilt_t, ilt_f, ile_t, ile_f, ieq_t, ieq_f, bnot_e, band_e, bite_and, bite_or, NLt_e, NLe_e, NNe_e, NIs_e, imax_e, imin_e, irem_e, Bool.not_eq_true', Bool.not_eq_false', Bool.and_eq_true, Bool.or_eq_true, Bool.or_eq_false_iff, Bool.and_eq_false_iff, Cont.pts.injEq, Cont.ints.injEq, Cont.bools.injEq, Cont.ptss.injEq, Cont.intss.injEq, Cont.boolss.injEq, true_and, and_true, implies_true]
    refine ⟨fun | .int k :: _ => 0 ≤ k ∧ k ≤ ilen l ∧ (∀ i, 0 ≤ i → i < k → insE l p1 p2 i = true) | _ => False, fun | .int k :: _ => (ilen l - k).toNat | _ => 0, ?_, ?_⟩
    · exact ⟨Int.le_refl 0, h0, fun j h0 h1 => absurd h1 (by omega)⟩
    · rintro k _ ⟨hk0, hk1, hk⟩
      simp only [ilt_t, ilt_f, ile_t, ile_f, ieq_t, ieq_f, bnot_e, band_e, bite_and, bite_or, NLt_e, NLe_e, NNe_e, NIs_e, imax_e, imin_e, irem_e, Bool.not_eq_true', Bool.not_eq_false', Bool.and_eq_true, Bool.or_eq_true, Bool.or_eq_false_iff, Bool.and_eq_false_iff, Cont.pts.injEq, Cont.ints.injEq, Cont.bools.injEq, Cont.ptss.injEq, Cont.intss.injEq, Cont.boolss.injEq, true_and, and_true, implies_true]
      refine ⟨fun hkn => ?_, fun hkn => ?_⟩
      · have e1 := iadd_1 hk0 hkn hl
        obtain ⟨n0, n1, _⟩ := nx_in hk0 hkn
        have e2 : (k + 1).tmod (ilen l) = nx l k := rfl
        simp only [e1, e2]
        have hne : ilen l ≠ 0 := by omega
        refine ⟨⟨hk0, hkn⟩, ⟨hne, ⟨n0, n1⟩⟩, fun hx => ?_, fun hx => ?_⟩
        · have hE : insE l p1 p2 k = false := by
            unfold insE
            simp only [decide_eq_false_iff_not]
            omega
          unfold insB
          rw [allN_no k hk0 hkn hE]
        · have hE : insE l p1 p2 k = true := by
            unfold insE
            simp only [decide_eq_true_eq]
            omega
          exact ⟨⟨by omega, by omega, allN_up hk hE⟩, by omega⟩
      · unfold insB
        rw [allN_mk fun i h0 h1 => hk i h0 (by omega)]
  · cases h
def g_cmp_isNaN_int : List AV → Option Sg
  | [.s (.int n)] => some ⟨True, [.s (.bool (false))]⟩
  | _ => none
def sig_cmp_isNaN_int : FuncId → List AV → Option Sg := sigL []
def xs_cmp_isNaN_int : XS := ⟨xsigL [], ysigL []⟩
theorem sig_cmp_isNaN_int_ok : SigOK sig_cmp_isNaN_int := sigL_nil
theorem xs_cmp_isNaN_int_ok : XSigOK xs_cmp_isNaN_int := ⟨xsigL_nil, ysigL_nil⟩
theorem V_cmp_isNaN_int (n : Int) : ((true = true) ∧ ((True) ∧ True) ∧ (true = true) ∧ ((True) ∧ (True) ∧ (True) ∧ (True) ∧ True) ∧ (((bnot (ieq n n)) : Bool) = (false)) ∧ True) = ev sig_cmp_isNaN_int xs_cmp_isNaN_int Tryd.f81.ntmps (fun b => []) (codeOf Tryd.f81) 0 (initS [.s (.int n)]) (retK Tryd.f81.results.toList [.s (.bool (false))]) := by kernel_rfl
set_option maxHeartbeats 400000 in
theorem F_cmp_isNaN_int : FunOK 81 g_cmp_isNaN_int := by
  refine fun_F (by kernel_rfl) Tryd.func81 rfl (by kernel_rfl) sig_cmp_isNaN_int_ok xs_cmp_isNaN_int_ok ?_
  intro avs sg h hn hl
  unfold g_cmp_isNaN_int at h
  split at h
  · rename_i n
    injection h with h; subst h
    refine ⟨by kernel_rfl, fun b => [], Eq.mp (V_cmp_isNaN_int n) ?_⟩
    simp only [true_and, and_true, implies_true, and_self, forall_const, true_implies, lenA, lenL, SV.lenOK, Cont.lenOK] at hn hl ⊢
    simp [bnot, ieq]
  · cases h
def g_cmp_Compare_int : List AV → Option Sg
  | [.s (.int a), .s (.int b)] => some ⟨True, [.s (.int (sgn (a - b)))]⟩
  | _ => none
def sig_cmp_Compare_int : FuncId → List AV → Option Sg := sigL [(81, g_cmp_isNaN_int)]
def xs_cmp_Compare_int : XS := ⟨xsigL [], ysigL []⟩
theorem sig_cmp_Compare_int_ok : SigOK sig_cmp_Compare_int := sigL_cons F_cmp_isNaN_int sigL_nil
theorem xs_cmp_Compare_int_ok : XSigOK xs_cmp_Compare_int := ⟨xsigL_nil, ysigL_nil⟩
theorem V_cmp_Compare_int (a : Int) (b : Int) : ((true = true) ∧ ((True) ∧ True) ∧ (true = true) ∧ ((True) ∧ ((True)) ∧ (True) ∧ True) ∧ (true = true) ∧ ((True) ∧ ((True)) ∧ (True) ∧ True) ∧ (true = true) ∧ ((True) ∧ True) ∧ ((false) = true → ((true = true) ∧ ((True) ∧ True) ∧ ((false) = true → ((true = true) ∧ ((True) ∧ True) ∧ (((0 : Int) : Int) = (sgn (a - b))) ∧ True)) ∧ ((false) = false → ((true = true) ∧ ((True) ∧ True) ∧ (((-1 : Int) : Int) = (sgn (a - b))) ∧ True)))) ∧ ((false) = false → ((true = true) ∧ ((True) ∧ True) ∧ ((false) = true → ((true = true) ∧ ((True) ∧ True) ∧ (((1 : Int) : Int) = (sgn (a - b))) ∧ True)) ∧ ((false) = false → ((true = true) ∧ ((True) ∧ (True) ∧ (True) ∧ True) ∧ ((ilt a b) = true → ((true = true) ∧ ((True) ∧ True) ∧ (((-1 : Int) : Int) = (sgn (a - b))) ∧ True)) ∧ ((ilt a b) = false → ((true = true) ∧ ((True) ∧ (True) ∧ (True) ∧ True) ∧ ((ilt b a) = true → ((true = true) ∧ ((True) ∧ True) ∧ (((1 : Int) : Int) = (sgn (a - b))) ∧ True)) ∧ ((ilt b a) = false → ((true = true) ∧ ((True) ∧ True) ∧ (((0 : Int) : Int) = (sgn (a - b))) ∧ True))))))))) = ev sig_cmp_Compare_int xs_cmp_Compare_int Tryd.f65.ntmps (fun b => []) (codeOf Tryd.f65) 0 (initS [.s (.int a), .s (.int b)]) (retK Tryd.f65.results.toList [.s (.int (sgn (a - b)))]) := by kernel_rfl
set_option maxHeartbeats 400000 in
theorem F_cmp_Compare_int : FunOK 65 g_cmp_Compare_int := by
  refine fun_F (by kernel_rfl) Tryd.func65 rfl (by kernel_rfl) sig_cmp_Compare_int_ok xs_cmp_Compare_int_ok ?_
  intro avs sg h hn hl
  unfold g_cmp_Compare_int at h
  split at h
  · rename_i a b
    injection h with h; subst h
    refine ⟨by kernel_rfl, fun b => [], Eq.mp (V_cmp_Compare_int a b) ?_⟩
    simp only [true_and, and_true, implies_true, and_self, forall_const, true_implies, lenA, lenL, SV.lenOK, Cont.lenOK] at hn hl ⊢
    simp only [ilt_t, ilt_f, ile_t, ile_f, ieq_t, ieq_f, bnot_e, band_e, bite_and, bite_or, NLt_e, NLe_e, NNe_e, NIs_e, imax_e, imin_e, irem_e, Bool.not_eq_true', Bool.not_eq_false', Bool.and_eq_true, Bool.or_eq_true, Bool.or_eq_false_iff, Bool.and_eq_false_iff, Cont.pts.injEq, Cont.ints.injEq, Cont.bools.injEq, Cont.ptss.injEq, Cont.intss.injEq, Cont.boolss.injEq, true_and, and_true, implies_true, Bool.false_eq_true, false_implies, true_implies, true_and, forall_const]
    unfold sgn
    by_cases h1 : a < b
    · rw [if_neg (show ¬ 0 < a - b by omega), if_pos (show a - b < 0 by omega)]
      simp [h1]; try omega
    · by_cases h2 : b < a
      · rw [if_pos (show 0 < a - b by omega)]
        simp [h1, h2]; try omega
      · rw [if_neg (show ¬ 0 < a - b by omega), if_neg (show ¬ a - b < 0 by omega)]
        simp [h1, h2]; try omega
  · cases h
def g_impl_between : List AV → Option Sg
  | [.agg [.int a1, .int a2], .agg [.int b1, .int b2], .agg [.int p1, .int p2]] => some ⟨True, [.s (.bool (btW a1 a2 b1 b2 p1 p2))]⟩
  | _ => none
def sig_impl_between : FuncId → List AV → Option Sg := sigL [(54, g_impl_within)]
def xs_impl_between : XS := ⟨xsigL [], ysigL []⟩
theorem sig_impl_between_ok : SigOK sig_impl_between := sigL_cons F_impl_within sigL_nil
theorem xs_impl_between_ok : XSigOK xs_impl_between := ⟨xsigL_nil, ysigL_nil⟩
theorem V_impl_between (a1 : Int) (a2 : Int) (b1 : Int) (b2 : Int) (p1 : Int) (p2 : Int) : ((true = true) ∧ ((True) ∧ (True) ∧ (True) ∧ (True) ∧ True) ∧ (true = true) ∧ ((True) ∧ (True) ∧ (True) ∧ (True) ∧ (True) ∧ (True) ∧ (True) ∧ (True) ∧ (True) ∧ (True) ∧ (True) ∧ (True) ∧ ((True)) ∧ (True) ∧ (NIs (inB p1 (imin a1 b1) (imax a1 b1)) true → True) ∧ (NIs (inB p1 (imin a1 b1) (imax a1 b1)) true → True) ∧ (NIs (inB p1 (imin a1 b1) (imax a1 b1)) true → True) ∧ (NIs (inB p1 (imin a1 b1) (imax a1 b1)) true → True) ∧ (NIs (inB p1 (imin a1 b1) (imax a1 b1)) true → True) ∧ (NIs (inB p1 (imin a1 b1) (imax a1 b1)) true → True) ∧ (NIs (inB p1 (imin a1 b1) (imax a1 b1)) true → True) ∧ (NIs (inB p1 (imin a1 b1) (imax a1 b1)) true → True) ∧ (NIs (inB p1 (imin a1 b1) (imax a1 b1)) true → True) ∧ (NIs (inB p1 (imin a1 b1) (imax a1 b1)) true → True) ∧ (NIs (inB p1 (imin a1 b1) (imax a1 b1)) true → True) ∧ (NIs (inB p1 (imin a1 b1) (imax a1 b1)) true → True) ∧ (NIs (inB p1 (imin a1 b1) (imax a1 b1)) true → (True)) ∧ (True) ∧ (True) ∧ True) ∧ (((bite (inB p1 (imin a1 b1) (imax a1 b1)) (inB p2 (imin a2 b2) (imax a2 b2)) false) : Bool) = (btW a1 a2 b1 b2 p1 p2)) ∧ True) = ev sig_impl_between xs_impl_between Tryd.f67.ntmps (fun b => []) (codeOf Tryd.f67) 0 (initS [.agg [.int a1, .int a2], .agg [.int b1, .int b2], .agg [.int p1, .int p2]]) (retK Tryd.f67.results.toList [.s (.bool (btW a1 a2 b1 b2 p1 p2))]) := by kernel_rfl
set_option maxHeartbeats 400000 in
theorem F_impl_between : FunOK 67 g_impl_between := by
  refine fun_F (by kernel_rfl) Tryd.func67 rfl (by kernel_rfl) sig_impl_between_ok xs_impl_between_ok ?_
  intro avs sg h hn hl
  unfold g_impl_between at h
  split at h
  · rename_i a1 a2 b1 b2 p1 p2
    injection h with h; subst h
    refine ⟨by kernel_rfl, fun b => [], Eq.mp (V_impl_between a1 a2 b1 b2 p1 p2) ?_⟩
    simp only [true_and, and_true, implies_true, and_self, forall_const, true_implies, lenA, lenL, SV.lenOK, Cont.lenOK] at hn hl ⊢
    simp only [ilt_t, ilt_f, ile_t, ile_f, ieq_t, ieq_f, bnot_e, band_e, bite_and, bite_or, NLt_e, NLe_e, NNe_e, NIs_e, imax_e, imin_e, irem_e, Bool.not_eq_true', Bool.not_eq_false', Bool.and_eq_true, Bool.or_eq_true, Bool.or_eq_false_iff, Bool.and_eq_false_iff, Cont.pts.injEq, Cont.ints.injEq, Cont.bools.injEq, Cont.ptss.injEq, Cont.intss.injEq, Cont.boolss.injEq, true_and, and_true, implies_true]
    rfl
  · cases h
def g_impl_meet : List AV → Option Sg
  | [.agg [.int a1, .int a2], .agg [.int b1, .int b2], .agg [.int c1, .int c2], .agg [.int d1, .int d2]] => some ⟨vB a1 a2 = true ∧ vB b1 b2 = true ∧ vB c1 c2 = true ∧ vB d1 d2 = true, [.s (.bool (meetB (a1, a2) (b1, b2) (c1, c2) (d1, d2)))]⟩
  | _ => none
def sig_impl_meet : FuncId → List AV → Option Sg := sigL [(66, g_impl_cross), (65, g_cmp_Compare_int), (67, g_impl_between)]
def xs_impl_meet : XS := ⟨xsigL [], ysigL []⟩
theorem sig_impl_meet_ok : SigOK sig_impl_meet := sigL_cons F_impl_cross (sigL_cons F_cmp_Compare_int (sigL_cons F_impl_between sigL_nil))
theorem xs_impl_meet_ok : XSigOK xs_impl_meet := ⟨xsigL_nil, ysigL_nil⟩
theorem V_impl_meet (a1 : Int) (a2 : Int) (b1 : Int) (b2 : Int) (c1 : Int) (c2 : Int) (d1 : Int) (d2 : Int) : ((true = true) ∧ ((True) ∧ (True) ∧ (True) ∧ (True) ∧ (True) ∧ True) ∧ (true = true) ∧ ((True) ∧ (True) ∧ (True) ∧ ((True)) ∧ ((True)) ∧ (True) ∧ (True) ∧ (True) ∧ ((True)) ∧ ((True)) ∧ (True) ∧ (True) ∧ True) ∧ (true = true) ∧ ((True) ∧ (True) ∧ (True) ∧ ((True)) ∧ ((True)) ∧ (True) ∧ (True) ∧ (True) ∧ ((True)) ∧ ((True)) ∧ (True) ∧ (True) ∧ True) ∧ (true = true) ∧ ((True) ∧ (True) ∧ (True) ∧ (True) ∧ (True) ∧ (NIs (ilt (imul (sgn ((crW a1 a2 b1 b2 c1 c2) - (0 : Int))) (sgn ((crW a1 a2 b1 b2 d1 d2) - (0 : Int)))) (0 : Int)) true → True) ∧ (NIs (ilt (imul (sgn ((crW a1 a2 b1 b2 c1 c2) - (0 : Int))) (sgn ((crW a1 a2 b1 b2 d1 d2) - (0 : Int)))) (0 : Int)) true → True) ∧ (NIs (ilt (imul (sgn ((crW a1 a2 b1 b2 c1 c2) - (0 : Int))) (sgn ((crW a1 a2 b1 b2 d1 d2) - (0 : Int)))) (0 : Int)) true → True) ∧ (NIs (ilt (imul (sgn ((crW a1 a2 b1 b2 c1 c2) - (0 : Int))) (sgn ((crW a1 a2 b1 b2 d1 d2) - (0 : Int)))) (0 : Int)) true → True) ∧ (True) ∧ True) ∧ ((bite (ilt (imul (sgn ((crW a1 a2 b1 b2 c1 c2) - (0 : Int))) (sgn ((crW a1 a2 b1 b2 d1 d2) - (0 : Int)))) (0 : Int)) (ilt (imul (sgn ((crW c1 c2 d1 d2 a1 a2) - (0 : Int))) (sgn ((crW c1 c2 d1 d2 b1 b2) - (0 : Int)))) (0 : Int)) false) = true → ((true = true) ∧ ((True) ∧ True) ∧ ((true : Bool) = (meetB (a1, a2) (b1, b2) (c1, c2) (d1, d2))) ∧ True)) ∧ ((bite (ilt (imul (sgn ((crW a1 a2 b1 b2 c1 c2) - (0 : Int))) (sgn ((crW a1 a2 b1 b2 d1 d2) - (0 : Int)))) (0 : Int)) (ilt (imul (sgn ((crW c1 c2 d1 d2 a1 a2) - (0 : Int))) (sgn ((crW c1 c2 d1 d2 b1 b2) - (0 : Int)))) (0 : Int)) false) = false → ((true = true) ∧ ((True) ∧ (True) ∧ (True) ∧ (NIs (ieq (sgn ((crW a1 a2 b1 b2 c1 c2) - (0 : Int))) (0 : Int)) true → True) ∧ (NIs (ieq (sgn ((crW a1 a2 b1 b2 c1 c2) - (0 : Int))) (0 : Int)) true → True) ∧ (NIs (ieq (sgn ((crW a1 a2 b1 b2 c1 c2) - (0 : Int))) (0 : Int)) true → True) ∧ (NIs (ieq (sgn ((crW a1 a2 b1 b2 c1 c2) - (0 : Int))) (0 : Int)) true → (True)) ∧ (True) ∧ (True) ∧ (NIs (bite (ieq (sgn ((crW a1 a2 b1 b2 c1 c2) - (0 : Int))) (0 : Int)) (btW a1 a2 b1 b2 c1 c2) false) false → True) ∧ (NIs (bite (ieq (sgn ((crW a1 a2 b1 b2 c1 c2) - (0 : Int))) (0 : Int)) (btW a1 a2 b1 b2 c1 c2) false) false → True) ∧ (NIs (bite (ieq (sgn ((crW a1 a2 b1 b2 c1 c2) - (0 : Int))) (0 : Int)) (btW a1 a2 b1 b2 c1 c2) false) false → True) ∧ (NIs (bite (ieq (sgn ((crW a1 a2 b1 b2 c1 c2) - (0 : Int))) (0 : Int)) (btW a1 a2 b1 b2 c1 c2) false) false → (NIs (ieq (sgn ((crW a1 a2 b1 b2 d1 d2) - (0 : Int))) (0 : Int)) true → True)) ∧ (NIs (bite (ieq (sgn ((crW a1 a2 b1 b2 c1 c2) - (0 : Int))) (0 : Int)) (btW a1 a2 b1 b2 c1 c2) false) false → (NIs (ieq (sgn ((crW a1 a2 b1 b2 d1 d2) - (0 : Int))) (0 : Int)) true → True)) ∧ (NIs (bite (ieq (sgn ((crW a1 a2 b1 b2 c1 c2) - (0 : Int))) (0 : Int)) (btW a1 a2 b1 b2 c1 c2) false) false → (NIs (ieq (sgn ((crW a1 a2 b1 b2 d1 d2) - (0 : Int))) (0 : Int)) true → True)) ∧ (NIs (bite (ieq (sgn ((crW a1 a2 b1 b2 c1 c2) - (0 : Int))) (0 : Int)) (btW a1 a2 b1 b2 c1 c2) false) false → (NIs (ieq (sgn ((crW a1 a2 b1 b2 d1 d2) - (0 : Int))) (0 : Int)) true → (True))) ∧ (NIs (bite (ieq (sgn ((crW a1 a2 b1 b2 c1 c2) - (0 : Int))) (0 : Int)) (btW a1 a2 b1 b2 c1 c2) false) false → True) ∧ (True) ∧ (True) ∧ (NIs (bite (bite (ieq (sgn ((crW a1 a2 b1 b2 c1 c2) - (0 : Int))) (0 : Int)) (btW a1 a2 b1 b2 c1 c2) false) true (bite (ieq (sgn ((crW a1 a2 b1 b2 d1 d2) - (0 : Int))) (0 : Int)) (btW a1 a2 b1 b2 d1 d2) false)) false → True) ∧ (NIs (bite (bite (ieq (sgn ((crW a1 a2 b1 b2 c1 c2) - (0 : Int))) (0 : Int)) (btW a1 a2 b1 b2 c1 c2) false) true (bite (ieq (sgn ((crW a1 a2 b1 b2 d1 d2) - (0 : Int))) (0 : Int)) (btW a1 a2 b1 b2 d1 d2) false)) false → True) ∧ (NIs (bite (bite (ieq (sgn ((crW a1 a2 b1 b2 c1 c2) - (0 : Int))) (0 : Int)) (btW a1 a2 b1 b2 c1 c2) false) true (bite (ieq (sgn ((crW a1 a2 b1 b2 d1 d2) - (0 : Int))) (0 : Int)) (btW a1 a2 b1 b2 d1 d2) false)) false → True) ∧ (NIs (bite (bite (ieq (sgn ((crW a1 a2 b1 b2 c1 c2) - (0 : Int))) (0 : Int)) (btW a1 a2 b1 b2 c1 c2) false) true (bite (ieq (sgn ((crW a1 a2 b1 b2 d1 d2) - (0 : Int))) (0 : Int)) (btW a1 a2 b1 b2 d1 d2) false)) false → (NIs (ieq (sgn ((crW c1 c2 d1 d2 a1 a2) - (0 : Int))) (0 : Int)) true → True)) ∧ (NIs (bite (bite (ieq (sgn ((crW a1 a2 b1 b2 c1 c2) - (0 : Int))) (0 : Int)) (btW a1 a2 b1 b2 c1 c2) false) true (bite (ieq (sgn ((crW a1 a2 b1 b2 d1 d2) - (0 : Int))) (0 : Int)) (btW a1 a2 b1 b2 d1 d2) false)) false → (NIs (ieq (sgn ((crW c1 c2 d1 d2 a1 a2) - (0 : Int))) (0 : Int)) true → True)) ∧ (NIs (bite (bite (ieq (sgn ((crW a1 a2 b1 b2 c1 c2) - (0 : Int))) (0 : Int)) (btW a1 a2 b1 b2 c1 c2) false) true (bite (ieq (sgn ((crW a1 a2 b1 b2 d1 d2) - (0 : Int))) (0 : Int)) (btW a1 a2 b1 b2 d1 d2) false)) false → (NIs (ieq (sgn ((crW c1 c2 d1 d2 a1 a2) - (0 : Int))) (0 : Int)) true → True)) ∧ (NIs (bite (bite (ieq (sgn ((crW a1 a2 b1 b2 c1 c2) - (0 : Int))) (0 : Int)) (btW a1 a2 b1 b2 c1 c2) false) true (bite (ieq (sgn ((crW a1 a2 b1 b2 d1 d2) - (0 : Int))) (0 : Int)) (btW a1 a2 b1 b2 d1 d2) false)) false → (NIs (ieq (sgn ((crW c1 c2 d1 d2 a1 a2) - (0 : Int))) (0 : Int)) true → (True))) ∧ (NIs (bite (bite (ieq (sgn ((crW a1 a2 b1 b2 c1 c2) - (0 : Int))) (0 : Int)) (btW a1 a2 b1 b2 c1 c2) false) true (bite (ieq (sgn ((crW a1 a2 b1 b2 d1 d2) - (0 : Int))) (0 : Int)) (btW a1 a2 b1 b2 d1 d2) false)) false → True) ∧ (True) ∧ (True) ∧ (NIs (bite (bite (bite (ieq (sgn ((crW a1 a2 b1 b2 c1 c2) - (0 : Int))) (0 : Int)) (btW a1 a2 b1 b2 c1 c2) false) true (bite (ieq (sgn ((crW a1 a2 b1 b2 d1 d2) - (0 : Int))) (0 : Int)) (btW a1 a2 b1 b2 d1 d2) false)) true (bite (ieq (sgn ((crW c1 c2 d1 d2 a1 a2) - (0 : Int))) (0 : Int)) (btW c1 c2 d1 d2 a1 a2) false)) false → True) ∧ (NIs (bite (bite (bite (ieq (sgn ((crW a1 a2 b1 b2 c1 c2) - (0 : Int))) (0 : Int)) (btW a1 a2 b1 b2 c1 c2) false) true (bite (ieq (sgn ((crW a1 a2 b1 b2 d1 d2) - (0 : Int))) (0 : Int)) (btW a1 a2 b1 b2 d1 d2) false)) true (bite (ieq (sgn ((crW c1 c2 d1 d2 a1 a2) - (0 : Int))) (0 : Int)) (btW c1 c2 d1 d2 a1 a2) false)) false → True) ∧ (NIs (bite (bite (bite (ieq (sgn ((crW a1 a2 b1 b2 c1 c2) - (0 : Int))) (0 : Int)) (btW a1 a2 b1 b2 c1 c2) false) true (bite (ieq (sgn ((crW a1 a2 b1 b2 d1 d2) - (0 : Int))) (0 : Int)) (btW a1 a2 b1 b2 d1 d2) false)) true (bite (ieq (sgn ((crW c1 c2 d1 d2 a1 a2) - (0 : Int))) (0 : Int)) (btW c1 c2 d1 d2 a1 a2) false)) false → True) ∧ (NIs (bite (bite (bite (ieq (sgn ((crW a1 a2 b1 b2 c1 c2) - (0 : Int))) (0 : Int)) (btW a1 a2 b1 b2 c1 c2) false) true (bite (ieq (sgn ((crW a1 a2 b1 b2 d1 d2) - (0 : Int))) (0 : Int)) (btW a1 a2 b1 b2 d1 d2) false)) true (bite (ieq (sgn ((crW c1 c2 d1 d2 a1 a2) - (0 : Int))) (0 : Int)) (btW c1 c2 d1 d2 a1 a2) false)) false → (NIs (ieq (sgn ((crW c1 c2 d1 d2 b1 b2) - (0 : Int))) (0 : Int)) true → True)) ∧ (NIs (bite (bite (bite (ieq (sgn ((crW a1 a2 b1 b2 c1 c2) - (0 : Int))) (0 : Int)) (btW a1 a2 b1 b2 c1 c2) false) true (bite (ieq (sgn ((crW a1 a2 b1 b2 d1 d2) - (0 : Int))) (0 : Int)) (btW a1 a2 b1 b2 d1 d2) false)) true (bite (ieq (sgn ((crW c1 c2 d1 d2 a1 a2) - (0 : Int))) (0 : Int)) (btW c1 c2 d1 d2 a1 a2) false)) false → (NIs (ieq (sgn ((crW c1 c2 d1 d2 b1 b2) - (0 : Int))) (0 : Int)) true → True)) ∧ (NIs (bite (bite (bite (ieq (sgn ((crW a1 a2 b1 b2 c1 c2) - (0 : Int))) (0 : Int)) (btW a1 a2 b1 b2 c1 c2) false) true (bite (ieq (sgn ((crW a1 a2 b1 b2 d1 d2) - (0 : Int))) (0 : Int)) (btW a1 a2 b1 b2 d1 d2) false)) true (bite (ieq (sgn ((crW c1 c2 d1 d2 a1 a2) - (0 : Int))) (0 : Int)) (btW c1 c2 d1 d2 a1 a2) false)) false → (NIs (ieq (sgn ((crW c1 c2 d1 d2 b1 b2) - (0 : Int))) (0 : Int)) true → True)) ∧ (NIs (bite (bite (bite (ieq (sgn ((crW a1 a2 b1 b2 c1 c2) - (0 : Int))) (0 : Int)) (btW a1 a2 b1 b2 c1 c2) false) true (bite (ieq (sgn ((crW a1 a2 b1 b2 d1 d2) - (0 : Int))) (0 : Int)) (btW a1 a2 b1 b2 d1 d2) false)) true (bite (ieq (sgn ((crW c1 c2 d1 d2 a1 a2) - (0 : Int))) (0 : Int)) (btW c1 c2 d1 d2 a1 a2) false)) false → (NIs (ieq (sgn ((crW c1 c2 d1 d2 b1 b2) - (0 : Int))) (0 : Int)) true → (True))) ∧ (NIs (bite (bite (bite (ieq (sgn ((crW a1 a2 b1 b2 c1 c2) - (0 : Int))) (0 : Int)) (btW a1 a2 b1 b2 c1 c2) false) true (bite (ieq (sgn ((crW a1 a2 b1 b2 d1 d2) - (0 : Int))) (0 : Int)) (btW a1 a2 b1 b2 d1 d2) false)) true (bite (ieq (sgn ((crW c1 c2 d1 d2 a1 a2) - (0 : Int))) (0 : Int)) (btW c1 c2 d1 d2 a1 a2) false)) false → True) ∧ (True) ∧ (True) ∧ True) ∧ (((bite (bite (bite (bite (ieq (sgn ((crW a1 a2 b1 b2 c1 c2) - (0 : Int))) (0 : Int)) (btW a1 a2 b1 b2 c1 c2) false) true (bite (ieq (sgn ((crW a1 a2 b1 b2 d1 d2) - (0 : Int))) (0 : Int)) (btW a1 a2 b1 b2 d1 d2) false)) true (bite (ieq (sgn ((crW c1 c2 d1 d2 a1 a2) - (0 : Int))) (0 : Int)) (btW c1 c2 d1 d2 a1 a2) false)) true (bite (ieq (sgn ((crW c1 c2 d1 d2 b1 b2) - (0 : Int))) (0 : Int)) (btW c1 c2 d1 d2 b1 b2) false)) : Bool) = (meetB (a1, a2) (b1, b2) (c1, c2) (d1, d2))) ∧ True))) = ev sig_impl_meet xs_impl_meet Tryd.f48.ntmps (fun b => []) (codeOf Tryd.f48) 0 (initS [.agg [.int a1, .int a2], .agg [.int b1, .int b2], .agg [.int c1, .int c2], .agg [.int d1, .int d2]]) (retK Tryd.f48.results.toList [.s (.bool (meetB (a1, a2) (b1, b2) (c1, c2) (d1, d2)))]) := by kernel_rfl
set_option maxHeartbeats 400000 in
theorem F_impl_meet : FunOK 48 g_impl_meet := by
  refine fun_F (by kernel_rfl) Tryd.func48 rfl (by kernel_rfl) sig_impl_meet_ok xs_impl_meet_ok ?_
  intro avs sg h hn hl
  unfold g_impl_meet at h
  split at h
  · rename_i a1 a2 b1 b2 c1 c2 d1 d2
    injection h with h; subst h
    refine ⟨by kernel_rfl, fun b => [], Eq.mp (V_impl_meet a1 a2 b1 b2 c1 c2 d1 d2) ?_⟩
    simp only [true_and, and_true, implies_true, and_self, forall_const, true_implies, lenA, lenL, SV.lenOK, Cont.lenOK] at hn hl ⊢
    obtain ⟨va, vb, vc, vd⟩ := hn
    simp only [ilt_t, ilt_f, ile_t, ile_f, ieq_t, ieq_f, bnot_e, band_e, bite_and, bite_or, NLt_e, NLe_e, NNe_e, NIs_e, imax_e, imin_e, irem_e, Bool.not_eq_true', Bool.not_eq_false', Bool.and_eq_true, Bool.or_eq_true, Bool.or_eq_false_iff, Bool.and_eq_false_iff, Cont.pts.injEq, Cont.ints.injEq, Cont.bools.injEq, Cont.ptss.injEq, Cont.intss.injEq, Cont.boolss.injEq, true_and, and_true, implies_true, crW_e va vb vc, crW_e va vb vd, crW_e vc vd va, crW_e vc vd vb, btW_e, Int.sub_zero, imul_sgn, ieq_sgn]
    unfold meetB
    generalize crs (a1, a2) (b1, b2) (c1, c2) = x1 at *
    generalize crs (a1, a2) (b1, b2) (d1, d2) = x2 at *
    generalize crs (c1, c2) (d1, d2) (a1, a2) = x3 at *
    generalize crs (c1, c2) (d1, d2) (b1, b2) = x4 at *
    refine ⟨fun h => by simp [h.1, h.2], fun h => ?_⟩
    have e : (decide (sgn x1 * sgn x2 < 0) && decide (sgn x3 * sgn x4 < 0)) = false := by
      rcases h with h | h <;> simp [h] <;> omega
    rw [e, Bool.false_or]
  · cases h
def g_impl_hits : List AV → Option Sg
  | [.s (.view (.pts l)), .agg [.int a1, .int a2], .agg [.int b1, .int b2]] => some ⟨allB l = true ∧ vB a1 a2 = true ∧ vB b1 b2 = true, [.s (.bool (hitB l a1 a2 b1 b2))]⟩
  | _ => none
def sig_impl_hits : FuncId → List AV → Option Sg := sigL [(76, g_impl_inside), (48, g_impl_meet)]
def xs_impl_hits : XS := ⟨xsigL [], ysigL []⟩
theorem sig_impl_hits_ok : SigOK sig_impl_hits := sigL_cons F_impl_inside (sigL_cons F_impl_meet sigL_nil)
theorem xs_impl_hits_ok : XSigOK xs_impl_hits := ⟨xsigL_nil, ysigL_nil⟩
theorem V_impl_hits (l : List Pt) (a1 : Int) (a2 : Int) (b1 : Int) (b2 : Int) : ((true = true) ∧ ((True) ∧ (True) ∧ (True) ∧ True) ∧ (true = true) ∧ ((True) ∧ (True) ∧ ((True)) ∧ (True) ∧ (NIs (insB l a1 a2) false → True) ∧ (NIs (insB l a1 a2) false → True) ∧ (NIs (insB l a1 a2) false → (True)) ∧ (True) ∧ True) ∧ ((bite (insB l a1 a2) true (insB l b1 b2)) = true → ((true = true) ∧ ((True) ∧ True) ∧ ((true : Bool) = (hitB l a1 a2 b1 b2)) ∧ True)) ∧ ((bite (insB l a1 a2) true (insB l b1 b2)) = false → ((true = true) ∧ ((True) ∧ (True) ∧ (True) ∧ True) ∧ ∃ (I1 : List GV → Prop) (μ1 : List GV → Nat), (((true = true) ∧ (((false : Bool) = false) ∧ (((0 : Int) : Int) = (0 : Int)) ∧ ((Cont.pts l) = (Cont.pts l)) ∧ (((ilen l) : Int) = (ilen l)) ∧ ((Cont.pts l) = (Cont.pts l)) ∧ (((a1 : Int) = a1) ∧ ((a2 : Int) = a2) ∧ True) ∧ (((insB l a1 a2) : Bool) = (insB l a1 a2)) ∧ (((insB l a1 a2) : Bool) = (insB l a1 a2)) ∧ (((bite (insB l a1 a2) true (insB l b1 b2)) : Bool) = (bite (insB l a1 a2) true (insB l b1 b2))) ∧ (true = true) ∧ (true = true) ∧ ((Cont.pts l) = (Cont.pts l)) ∧ (((a1 : Int) = a1) ∧ ((a2 : Int) = a2) ∧ True) ∧ (((b1 : Int) = b1) ∧ ((b2 : Int) = b2) ∧ True) ∧ True) ∧ ((((a1 : Int) = a1) ∧ ((a2 : Int) = a2) ∧ True) ∧ (((b1 : Int) = b1) ∧ ((b2 : Int) = b2) ∧ True) ∧ True)) ∧ (([GK.int, GK.bool] : List GK) = ([GK.int, GK.bool] : List GK)) ∧ I1 [GV.int (0 : Int), GV.bool false]) ∧ (∀ i1_0 : Int, ∀ b1_1 : Bool, I1 [GV.int i1_0, GV.bool b1_1] → ((true = true) ∧ ((True) ∧ True) ∧ ((ilt i1_0 (ilen l)) = true → ((true = true) ∧ ((True) ∧ (NLe 0 i1_0 ∧ NLt i1_0 (ilen l)) ∧ (True) ∧ (True) ∧ (True) ∧ True) ∧ (True) ∧ (true = true) ∧ ((True) ∧ (True) ∧ (True) ∧ (True) ∧ (True) ∧ (True) ∧ (True) ∧ (True) ∧ (NNe (ilen l) 0) ∧ (NLe 0 (irem (iadd i1_0 (1 : Int)) (ilen l)) ∧ NLt (irem (iadd i1_0 (1 : Int)) (ilen l)) (ilen l)) ∧ (True) ∧ ((vB a1 a2 = true ∧ vB b1 b2 = true ∧ vB (getx l i1_0) (gety l i1_0) = true ∧ vB (getx l (irem (iadd i1_0 (1 : Int)) (ilen l))) (gety l (irem (iadd i1_0 (1 : Int)) (ilen l))) = true)) ∧ True) ∧ ((meetB (a1, a2) (b1, b2) ((getx l i1_0), (gety l i1_0)) ((getx l (irem (iadd i1_0 (1 : Int)) (ilen l))), (gety l (irem (iadd i1_0 (1 : Int)) (ilen l))))) = true → ((true = true) ∧ ((True) ∧ True) ∧ ((true : Bool) = (hitB l a1 a2 b1 b2)) ∧ True)) ∧ ((meetB (a1, a2) (b1, b2) ((getx l i1_0), (gety l i1_0)) ((getx l (irem (iadd i1_0 (1 : Int)) (ilen l))), (gety l (irem (iadd i1_0 (1 : Int)) (ilen l))))) = false → ((true = true) ∧ ((True) ∧ (True) ∧ True) ∧ ((true = true) ∧ (((b1_1 : Bool) = b1_1) ∧ (((iadd i1_0 (1 : Int)) : Int) = (iadd i1_0 (1 : Int))) ∧ ((Cont.pts l) = (Cont.pts l)) ∧ (((ilen l) : Int) = (ilen l)) ∧ ((Cont.pts l) = (Cont.pts l)) ∧ (((a1 : Int) = a1) ∧ ((a2 : Int) = a2) ∧ True) ∧ (((insB l a1 a2) : Bool) = (insB l a1 a2)) ∧ (((insB l a1 a2) : Bool) = (insB l a1 a2)) ∧ (((bite (insB l a1 a2) true (insB l b1 b2)) : Bool) = (bite (insB l a1 a2) true (insB l b1 b2))) ∧ (true = true) ∧ (true = true) ∧ ((Cont.pts l) = (Cont.pts l)) ∧ (((a1 : Int) = a1) ∧ ((a2 : Int) = a2) ∧ True) ∧ (((b1 : Int) = b1) ∧ ((b2 : Int) = b2) ∧ True) ∧ True) ∧ ((((a1 : Int) = a1) ∧ ((a2 : Int) = a2) ∧ True) ∧ (((b1 : Int) = b1) ∧ ((b2 : Int) = b2) ∧ True) ∧ True)) ∧ ((([GK.int, GK.bool] : List GK) = ([GK.int, GK.bool] : List GK)) ∧ I1 [GV.int (iadd i1_0 (1 : Int)), GV.bool b1_1] ∧ μ1 [GV.int (iadd i1_0 (1 : Int)), GV.bool b1_1] < μ1 [GV.int i1_0, GV.bool b1_1]))))) ∧ ((ilt i1_0 (ilen l)) = false → ((true = true) ∧ ((True) ∧ True) ∧ ((false : Bool) = (hitB l a1 a2 b1 b2)) ∧ True))))))) = ev sig_impl_hits xs_impl_hits Tryd.f61.ntmps (fun b => if b == 0 then [.v 19, .v 6] else []) (codeOf Tryd.f61) 0 (initS [.s (.view (.pts l)), .agg [.int a1, .int a2], .agg [.int b1, .int b2]]) (retK Tryd.f61.results.toList [.s (.bool (hitB l a1 a2 b1 b2))]) := by kernel_rfl
set_option maxHeartbeats 400000 in
theorem F_impl_hits : FunOK 61 g_impl_hits := by
  refine fun_F (by kernel_rfl) Tryd.func61 rfl (by kernel_rfl) sig_impl_hits_ok xs_impl_hits_ok ?_
  intro avs sg h hn hl
  unfold g_impl_hits at h
  split at h
  · rename_i l a1 a2 b1 b2
    injection h with h; subst h
    refine ⟨by kernel_rfl, fun b => if b == 0 then [.v 19, .v 6] else [], Eq.mp (V_impl_hits l a1 a2 b1 b2) ?_⟩
    simp only [true_and, and_true, implies_true, and_self, forall_const, true_implies, lenA, lenL, SV.lenOK, Cont.lenOK] at hn hl ⊢
    have h0 := ilen_0 l
    obtain ⟨ha, va, vb⟩ := hn
    simp only [ilt_t, ilt_f, ile_t, ile_f, ieq_t, ieq_f, bnot_e, band_e, bite_and, bite_or, NLt_e, NLe_e, NNe_e, NIs_e, imax_e, imin_e, irem_e, Bool.not_eq_true', Bool.not_eq_false', Bool.and_eq_true, Bool.or_eq_true, Bool.or_eq_false_iff, Bool.and_eq_false_iff, Cont.pts.injEq, Cont.ints.injEq, Cont.bools.injEq, Cont.ptss.injEq, Cont.intss.injEq, Cont.boolss.injEq, true_and, and_true, implies_true]
    refine ⟨?_, fun hi => ?_⟩
    · rintro (h | h) <;> simp [hitB, h]
    · refine ⟨fun | .int k :: _ => 0 ≤ k ∧ k ≤ ilen l ∧ (∀ i, 0 ≤ i → i < k → hitE l a1 a2 b1 b2 i = false) | _ => False, fun | .int k :: _ => (ilen l - k).toNat | _ => 0, ?_, ?_⟩
      · exact ⟨Int.le_refl 0, h0, fun j h0 h1 => absurd h1 (by omega)⟩
      · rintro k _ ⟨hk0, hk1, hk⟩
        simp only [ilt_t, ilt_f, ile_t, ile_f, ieq_t, ieq_f, bnot_e, band_e, bite_and, bite_or, NLt_e, NLe_e, NNe_e, NIs_e, imax_e, imin_e, irem_e, Bool.not_eq_true', Bool.not_eq_false', Bool.and_eq_true, Bool.or_eq_true, Bool.or_eq_false_iff, Bool.and_eq_false_iff, Cont.pts.injEq, Cont.ints.injEq, Cont.bools.injEq, Cont.ptss.injEq, Cont.intss.injEq, Cont.boolss.injEq, true_and, and_true, implies_true]
        refine ⟨fun hkn => ?_, fun hkn => ?_⟩
        · have e1 := iadd_1 hk0 hkn hl
          obtain ⟨n0, n1, _⟩ := nx_in hk0 hkn
          have e2 : (k + 1).tmod (ilen l) = nx l k := rfl
          simp only [e1, e2]
          have hne : ilen l ≠ 0 := by omega
          have v1 := allB_at ha hk0 hkn
          have v2 := allB_at ha n0 n1
          refine ⟨⟨hk0, hkn⟩, ⟨hne, ⟨n0, n1⟩, va, vb, v1, v2⟩, fun hx => ?_, fun hx => ?_⟩
          · have hE : hitE l a1 a2 b1 b2 k = true := hx
            simp [hitB, anyN_mk k hk0 hkn hE]
          · have hE : hitE l a1 a2 b1 b2 k = false := hx
            exact ⟨⟨by omega, by omega, upTo hk hE⟩, by omega⟩
        · have : anyN (ilen l) (hitE l a1 a2 b1 b2) = false := anyN_no fun j j0 j1 => hk j j0 (by omega)
          simp [hitB, hi.1, hi.2, this]
  · cases h
def g_impl_armClear : List AV → Option Sg
  | [.agg [.view (.ints a1), .view (.ints a2), .view (.ints a3)], .s (.view (.ints j)), .s (.view (.ptss l))] => some ⟨jvB a1 a2 a3 j = true ∧ sceneB l = true, [.s (.bool (acB a1 j l))]⟩
  | _ => none
def sig_impl_armClear : FuncId → List AV → Option Sg := sigL [(47, g_impl_armPoints), (61, g_impl_hits)]
def xs_impl_armClear : XS := ⟨xsigL [], ysigL []⟩
theorem sig_impl_armClear_ok : SigOK sig_impl_armClear := sigL_cons F_impl_armPoints (sigL_cons F_impl_hits sigL_nil)
theorem xs_impl_armClear_ok : XSigOK xs_impl_armClear := ⟨xsigL_nil, ysigL_nil⟩
theorem V_impl_armClear (a1 : List Int) (a2 : List Int) (a3 : List Int) (j : List Int) (l : List (List Pt)) : ((true = true) ∧ ((True) ∧ (True) ∧ True) ∧ (true = true) ∧ ((True) ∧ (True) ∧ ((jvB a1 a2 a3 j = true)) ∧ (True) ∧ True) ∧ (true = true) ∧ ((True) ∧ (True) ∧ (True) ∧ (True) ∧ True) ∧ ∃ (I1 : List GV → Prop) (μ1 : List GV → Nat), (((true = true) ∧ (((false : Bool) = false) ∧ (((0 : Int) : Int) = (0 : Int)) ∧ (true = true) ∧ (((ilen (apL a1 j (ilen a1 + 1))) : Int) = (ilen (apL a1 j (ilen a1 + 1)))) ∧ (((isub (ilen (apL a1 j (ilen a1 + 1))) (1 : Int)) : Int) = (isub (ilen (apL a1 j (ilen a1 + 1))) (1 : Int))) ∧ (((Cont.ints a1) = (Cont.ints a1)) ∧ ((Cont.ints a2) = (Cont.ints a2)) ∧ ((Cont.ints a3) = (Cont.ints a3)) ∧ True) ∧ ((Cont.ints j) = (Cont.ints j)) ∧ (true = true) ∧ (true = true) ∧ (true = true) ∧ (((Cont.ints a1) = (Cont.ints a1)) ∧ ((Cont.ints a2) = (Cont.ints a2)) ∧ ((Cont.ints a3) = (Cont.ints a3)) ∧ True) ∧ ((Cont.ints j) = (Cont.ints j)) ∧ ((Cont.ptss l) = (Cont.ptss l)) ∧ True) ∧ (((true = true) ∧ ((Cont.pts (apL a1 j (ilen a1 + 1))) = (Cont.pts (apL a1 j (ilen a1 + 1))))) ∧ (((Cont.ints a1) = (Cont.ints a1)) ∧ ((Cont.ints a2) = (Cont.ints a2)) ∧ ((Cont.ints a3) = (Cont.ints a3)) ∧ True) ∧ True)) ∧ (([GK.int, GK.bool] : List GK) = ([GK.int, GK.bool] : List GK)) ∧ I1 [GV.int (0 : Int), GV.bool false]) ∧ (∀ i1_0 : Int, ∀ b1_1 : Bool, I1 [GV.int i1_0, GV.bool b1_1] → ((true = true) ∧ ((True) ∧ True) ∧ ((ilt i1_0 (isub (ilen (apL a1 j (ilen a1 + 1))) (1 : Int))) = true → ((true = true) ∧ ((True) ∧ (True) ∧ True) ∧ (true = true) ∧ ((True) ∧ (True) ∧ (True) ∧ True) ∧ ∃ (I2 : List GV → Prop) (μ2 : List GV → Nat), (((true = true) ∧ (((b1_1 : Bool) = b1_1) ∧ (((0 : Int) : Int) = (0 : Int)) ∧ ((Cont.ptss l) = (Cont.ptss l)) ∧ (((ilen l) : Int) = (ilen l)) ∧ ((i1_0 : Int) = i1_0) ∧ ((i1_0 : Int) = i1_0) ∧ (((ilt i1_0 (isub (ilen (apL a1 j (ilen a1 + 1))) (1 : Int))) : Bool) = (ilt i1_0 (isub (ilen (apL a1 j (ilen a1 + 1))) (1 : Int)))) ∧ ((i1_0 : Int) = i1_0) ∧ (true = true) ∧ (((ilen (apL a1 j (ilen a1 + 1))) : Int) = (ilen (apL a1 j (ilen a1 + 1)))) ∧ (((isub (ilen (apL a1 j (ilen a1 + 1))) (1 : Int)) : Int) = (isub (ilen (apL a1 j (ilen a1 + 1))) (1 : Int))) ∧ (((Cont.ints a1) = (Cont.ints a1)) ∧ ((Cont.ints a2) = (Cont.ints a2)) ∧ ((Cont.ints a3) = (Cont.ints a3)) ∧ True) ∧ ((Cont.ints j) = (Cont.ints j)) ∧ (true = true) ∧ (true = true) ∧ (true = true) ∧ (((Cont.ints a1) = (Cont.ints a1)) ∧ ((Cont.ints a2) = (Cont.ints a2)) ∧ ((Cont.ints a3) = (Cont.ints a3)) ∧ True) ∧ ((Cont.ints j) = (Cont.ints j)) ∧ ((Cont.ptss l) = (Cont.ptss l)) ∧ True) ∧ (((true = true) ∧ ((Cont.pts (apL a1 j (ilen a1 + 1))) = (Cont.pts (apL a1 j (ilen a1 + 1))))) ∧ (((Cont.ints a1) = (Cont.ints a1)) ∧ ((Cont.ints a2) = (Cont.ints a2)) ∧ ((Cont.ints a3) = (Cont.ints a3)) ∧ True) ∧ True)) ∧ (([GK.int, GK.bool] : List GK) = ([GK.int, GK.bool] : List GK)) ∧ I2 [GV.int (0 : Int), GV.bool b1_1]) ∧ (∀ i2_0 : Int, ∀ b2_1 : Bool, I2 [GV.int i2_0, GV.bool b2_1] → ((true = true) ∧ ((True) ∧ True) ∧ ((ilt i2_0 (ilen l)) = true → ((true = true) ∧ ((NLe 0 i2_0 ∧ NLt i2_0 (ilen l)) ∧ (True) ∧ (True) ∧ True) ∧ (true = true) ∧ ((True) ∧ (True) ∧ (True) ∧ (NLe 0 i1_0 ∧ NLt i1_0 (ilen (apL a1 j (ilen a1 + 1)))) ∧ (NLt i1_0 (ilen (apL a1 j (ilen a1 + 1)))) ∧ (True) ∧ (True) ∧ (True) ∧ (NLe 0 (iadd i1_0 (1 : Int)) ∧ NLt (iadd i1_0 (1 : Int)) (ilen (apL a1 j (ilen a1 + 1)))) ∧ (NLt (iadd i1_0 (1 : Int)) (ilen (apL a1 j (ilen a1 + 1)))) ∧ ((allB (getl l i2_0) = true ∧ vB (getx (apL a1 j (ilen a1 + 1)) i1_0) (gety (apL a1 j (ilen a1 + 1)) i1_0) = true ∧ vB (getx (apL a1 j (ilen a1 + 1)) (iadd i1_0 (1 : Int))) (gety (apL a1 j (ilen a1 + 1)) (iadd i1_0 (1 : Int))) = true)) ∧ True) ∧ ((hitB (getl l i2_0) (getx (apL a1 j (ilen a1 + 1)) i1_0) (gety (apL a1 j (ilen a1 + 1)) i1_0) (getx (apL a1 j (ilen a1 + 1)) (iadd i1_0 (1 : Int))) (gety (apL a1 j (ilen a1 + 1)) (iadd i1_0 (1 : Int)))) = true → ((true = true) ∧ ((True) ∧ True) ∧ ((false : Bool) = (acB a1 j l)) ∧ True)) ∧ ((hitB (getl l i2_0) (getx (apL a1 j (ilen a1 + 1)) i1_0) (gety (apL a1 j (ilen a1 + 1)) i1_0) (getx (apL a1 j (ilen a1 + 1)) (iadd i1_0 (1 : Int))) (gety (apL a1 j (ilen a1 + 1)) (iadd i1_0 (1 : Int)))) = false → ((true = true) ∧ ((True) ∧ (True) ∧ True) ∧ ((true = true) ∧ (((b2_1 : Bool) = b2_1) ∧ (((iadd i2_0 (1 : Int)) : Int) = (iadd i2_0 (1 : Int))) ∧ ((Cont.ptss l) = (Cont.ptss l)) ∧ (((ilen l) : Int) = (ilen l)) ∧ ((i1_0 : Int) = i1_0) ∧ ((i1_0 : Int) = i1_0) ∧ (((ilt i1_0 (isub (ilen (apL a1 j (ilen a1 + 1))) (1 : Int))) : Bool) = (ilt i1_0 (isub (ilen (apL a1 j (ilen a1 + 1))) (1 : Int)))) ∧ ((i1_0 : Int) = i1_0) ∧ (true = true) ∧ (((ilen (apL a1 j (ilen a1 + 1))) : Int) = (ilen (apL a1 j (ilen a1 + 1)))) ∧ (((isub (ilen (apL a1 j (ilen a1 + 1))) (1 : Int)) : Int) = (isub (ilen (apL a1 j (ilen a1 + 1))) (1 : Int))) ∧ (((Cont.ints a1) = (Cont.ints a1)) ∧ ((Cont.ints a2) = (Cont.ints a2)) ∧ ((Cont.ints a3) = (Cont.ints a3)) ∧ True) ∧ ((Cont.ints j) = (Cont.ints j)) ∧ (true = true) ∧ (true = true) ∧ (true = true) ∧ (((Cont.ints a1) = (Cont.ints a1)) ∧ ((Cont.ints a2) = (Cont.ints a2)) ∧ ((Cont.ints a3) = (Cont.ints a3)) ∧ True) ∧ ((Cont.ints j) = (Cont.ints j)) ∧ ((Cont.ptss l) = (Cont.ptss l)) ∧ True) ∧ (((true = true) ∧ ((Cont.pts (apL a1 j (ilen a1 + 1))) = (Cont.pts (apL a1 j (ilen a1 + 1))))) ∧ (((Cont.ints a1) = (Cont.ints a1)) ∧ ((Cont.ints a2) = (Cont.ints a2)) ∧ ((Cont.ints a3) = (Cont.ints a3)) ∧ True) ∧ True)) ∧ ((([GK.int, GK.bool] : List GK) = ([GK.int, GK.bool] : List GK)) ∧ I2 [GV.int (iadd i2_0 (1 : Int)), GV.bool b2_1] ∧ μ2 [GV.int (iadd i2_0 (1 : Int)), GV.bool b2_1] < μ2 [GV.int i2_0, GV.bool b2_1]))))) ∧ ((ilt i2_0 (ilen l)) = false → ((true = true) ∧ ((True) ∧ (True) ∧ True) ∧ ((true = true) ∧ (((b2_1 : Bool) = b2_1) ∧ (((iadd i1_0 (1 : Int)) : Int) = (iadd i1_0 (1 : Int))) ∧ (true = true) ∧ (((ilen (apL a1 j (ilen a1 + 1))) : Int) = (ilen (apL a1 j (ilen a1 + 1)))) ∧ (((isub (ilen (apL a1 j (ilen a1 + 1))) (1 : Int)) : Int) = (isub (ilen (apL a1 j (ilen a1 + 1))) (1 : Int))) ∧ (((Cont.ints a1) = (Cont.ints a1)) ∧ ((Cont.ints a2) = (Cont.ints a2)) ∧ ((Cont.ints a3) = (Cont.ints a3)) ∧ True) ∧ ((Cont.ints j) = (Cont.ints j)) ∧ (true = true) ∧ (true = true) ∧ (true = true) ∧ (((Cont.ints a1) = (Cont.ints a1)) ∧ ((Cont.ints a2) = (Cont.ints a2)) ∧ ((Cont.ints a3) = (Cont.ints a3)) ∧ True) ∧ ((Cont.ints j) = (Cont.ints j)) ∧ ((Cont.ptss l) = (Cont.ptss l)) ∧ True) ∧ (((true = true) ∧ ((Cont.pts (apL a1 j (ilen a1 + 1))) = (Cont.pts (apL a1 j (ilen a1 + 1))))) ∧ (((Cont.ints a1) = (Cont.ints a1)) ∧ ((Cont.ints a2) = (Cont.ints a2)) ∧ ((Cont.ints a3) = (Cont.ints a3)) ∧ True) ∧ True)) ∧ ((([GK.int, GK.bool] : List GK) = ([GK.int, GK.bool] : List GK)) ∧ I1 [GV.int (iadd i1_0 (1 : Int)), GV.bool b2_1] ∧ μ1 [GV.int (iadd i1_0 (1 : Int)), GV.bool b2_1] < μ1 [GV.int i1_0, GV.bool b1_1]))))))) ∧ ((ilt i1_0 (isub (ilen (apL a1 j (ilen a1 + 1))) (1 : Int))) = false → ((true = true) ∧ ((True) ∧ True) ∧ ((true : Bool) = (acB a1 j l)) ∧ True))))) = ev sig_impl_armClear xs_impl_armClear Tryd.f33.ntmps (fun b => if b == 0 then [.v 17, .v 6] else if b == 2 then [.v 22, .v 6] else []) (codeOf Tryd.f33) 0 (initS [.agg [.view (.ints a1), .view (.ints a2), .view (.ints a3)], .s (.view (.ints j)), .s (.view (.ptss l))]) (retK Tryd.f33.results.toList [.s (.bool (acB a1 j l))]) := by kernel_rfl
set_option maxHeartbeats 400000 in
theorem F_impl_armClear : FunOK 33 g_impl_armClear := by
  refine fun_F (by kernel_rfl) Tryd.func33 rfl (by kernel_rfl) sig_impl_armClear_ok xs_impl_armClear_ok ?_
  intro avs sg h hn hl
  unfold g_impl_armClear at h
  split at h
  · rename_i a1 a2 a3 j l
    injection h with h; subst h
    refine ⟨by kernel_rfl, fun b => if b == 0 then [.v 17, .v 6] else if b == 2 then [.v 22, .v 6] else [], Eq.mp (V_impl_armClear a1 a2 a3 j l) ?_⟩
    simp only [true_and, and_true, implies_true, and_self, forall_const, true_implies, lenA, lenL, SV.lenOK, Cont.lenOK] at hn hl ⊢
    obtain ⟨hj, hs⟩ := hn
    simp only [ilt_t, ilt_f, ile_t, ile_f, ieq_t, ieq_f, bnot_e, band_e, bite_and, bite_or, NLt_e, NLe_e, NNe_e, NIs_e, imax_e, imin_e, irem_e, Bool.not_eq_true', Bool.not_eq_false', Bool.and_eq_true, Bool.or_eq_true, Bool.or_eq_false_iff, Bool.and_eq_false_iff, Cont.pts.injEq, Cont.ints.injEq, Cont.bools.injEq, Cont.ptss.injEq, Cont.intss.injEq, Cont.boolss.injEq, true_and, and_true, implies_true]
    refine ⟨hj, ?_⟩
    obtain ⟨ha, hjl, hl4, hlk, hjk⟩ := jv_p hj
    obtain ⟨s6, sat⟩ := scene_at hs
    have hl0 := ilen_0 l
    have hv := fun (k : Int) (h0 : 0 ≤ k) (h1 : k ≤ ilen a1) => jv_vB hj h0 h1
    have hlen : ilen (apL a1 j (ilen a1 + 1)) = ilen a1 + 1 := apL_len (by omega)
    have hg : ∀ i, 0 ≤ i → i ≤ ilen a1 → getx (apL a1 j (ilen a1 + 1)) i = apX a1 j i ∧ gety (apL a1 j (ilen a1 + 1)) i = apY a1 j i := fun i h0 h1 => apL_get h0 (by omega)
    rw [hlen]
    generalize apL a1 j (ilen a1 + 1) = P at *
    have es : isub (ilen a1 + 1) 1 = ilen a1 := by rw [isub_e (by omega) (by omega)]; omega
    rw [es]
    refine ⟨fun | [.int i, .bool _] => 0 ≤ i ∧ i ≤ ilen a1 ∧ (∀ a, 0 ≤ a → a < i → acN a1 j l a = true) | _ => False, fun | .int i :: _ => (ilen a1 - i).toNat | _ => 0, ⟨by omega, by omega, fun a h0 h1 => by omega⟩, ?_⟩
    rintro i b ⟨i0, i1, hi⟩
    have e1 : iadd i 1 = i + 1 := iadd_e (by omega) (by omega)
    rw [e1]
    refine ⟨fun hc => ?_, fun hc => ?_⟩
    · refine ⟨fun | [.int k, .bool _] => 0 ≤ k ∧ k ≤ ilen l ∧ (∀ m, 0 ≤ m → m < k → acE a1 j (getl l m) i = true) | _ => False, fun | .int k :: _ => (ilen l - k).toNat | _ => 0, ⟨by omega, by omega, fun m h0 h1 => by omega⟩, ?_⟩
      rintro k b2 ⟨k0, k1, hk⟩
      refine ⟨fun hc2 => ?_, fun hc2 => ?_⟩
      · obtain ⟨x1, y1⟩ := hg i (by omega) (by omega)
        obtain ⟨x2, y2⟩ := hg (i + 1) (by omega) (by omega)
        have e3 : iadd k 1 = k + 1 := iadd_e (by omega) (by omega)
        have hcv := (sat k k0 hc2).2
        rw [x1, y1, x2, y2, e3]
        refine ⟨⟨k0, hc2⟩, ⟨⟨by omega, by omega⟩, by omega, ⟨by omega, by omega⟩, by omega, hcv, hv _ (by omega) (by omega), hv _ (by omega) (by omega)⟩, fun hm => ?_, fun hm => ?_⟩
        · have hE : acE a1 j (getl l k) i = false := by unfold acE; rw [hm]; rfl
          have hN : acN a1 j l i = false := by unfold acN; exact allN_no (f := fun o => acE a1 j (getl l o) i) k k0 hc2 hE
          unfold acB
          rw [allN_no (f := acN a1 j l) i i0 (by omega) hN]
        · have hE : acE a1 j (getl l k) i = true := by unfold acE; rw [hm]; rfl
          exact ⟨⟨by omega, by omega, fun m m0 m1 => by
            by_cases h : m = k
            · rw [h]; exact hE
            · exact hk m m0 (by omega)⟩, by show (ilen l - (k + 1)).toNat < (ilen l - k).toNat; omega⟩
      · exact ⟨⟨by omega, by omega, fun a h0 h1 => by
          by_cases h : a = i
          · rw [h]; unfold acN; exact allN_mk fun m m0 m1 => hk m m0 (by omega)
          · exact hi a h0 (by omega)⟩, by show (ilen a1 - (i + 1)).toNat < (ilen a1 - i).toNat; omega⟩
    · unfold acB
      rw [allN_mk fun a h0 h1 => hi a h0 (by omega)]
  · cases h
def g_impl_FreeCells : List AV → Option Sg
  | [.agg [.view (.ints a1), .view (.ints a2), .view (.ints a3)], .s (.int s), .s (.view (.ptss l))] => some ⟨True, [.nrow 53 (.boolss (fcL a1 a2 a3 s l))]⟩
  | _ => none
def sig_impl_FreeCells : FuncId → List AV → Option Sg := sigL [(31, g_impl_GridSize), (32, g_impl_SceneValid), (34, g_impl_CellJoints), (33, g_impl_armClear)]
def xs_impl_FreeCells : XS := ⟨xsigL [], ysigL []⟩
theorem sig_impl_FreeCells_ok : SigOK sig_impl_FreeCells := sigL_cons F_impl_GridSize (sigL_cons F_impl_SceneValid (sigL_cons F_impl_CellJoints (sigL_cons F_impl_armClear sigL_nil)))
theorem xs_impl_FreeCells_ok : XSigOK xs_impl_FreeCells := ⟨xsigL_nil, ysigL_nil⟩
theorem V_impl_FreeCells (a1 : List Int) (a2 : List Int) (a3 : List Int) (s : Int) (l : List (List Pt)) : ((true = true) ∧ ((True) ∧ (True) ∧ True) ∧ (true = true) ∧ ((True) ∧ (True) ∧ ((True)) ∧ (True) ∧ (True) ∧ (True) ∧ (True) ∧ (True) ∧ True) ∧ (true = true) ∧ ((True) ∧ (True) ∧ (True) ∧ (NIs (ieq (gsK a1 a2 a3 s 0) (0 : Int)) false → True) ∧ (NIs (ieq (gsK a1 a2 a3 s 0) (0 : Int)) false → (True)) ∧ (NIs (ieq (gsK a1 a2 a3 s 0) (0 : Int)) false → True) ∧ (True) ∧ True) ∧ ((bite (ieq (gsK a1 a2 a3 s 0) (0 : Int)) true (bnot (sceneB l))) = true → ((true = true) ∧ ((True) ∧ True) ∧ ((true = true) ∧ ((Cont.boolss []) = (Cont.boolss (fcL a1 a2 a3 s l)))) ∧ True)) ∧ ((bite (ieq (gsK a1 a2 a3 s 0) (0 : Int)) true (bnot (sceneB l))) = false → ((true = true) ∧ ((True) ∧ True) ∧ (true = true) ∧ ((True) ∧ (True) ∧ True) ∧ ∃ (I1 : List GV → Prop) (μ1 : List GV → Nat), (((true = true) ∧ ((((0 : Int) : Int) = (0 : Int)) ∧ (((gsK a1 a2 a3 s 0) : Int) = (gsK a1 a2 a3 s 0)) ∧ (true = true) ∧ (((gsK a1 a2 a3 s 0) : Int) = (gsK a1 a2 a3 s 0)) ∧ (((ieq (gsK a1 a2 a3 s 0) (0 : Int)) : Bool) = (ieq (gsK a1 a2 a3 s 0) (0 : Int))) ∧ (((ieq (gsK a1 a2 a3 s 0) (0 : Int)) : Bool) = (ieq (gsK a1 a2 a3 s 0) (0 : Int))) ∧ (((bite (ieq (gsK a1 a2 a3 s 0) (0 : Int)) true (bnot (sceneB l))) : Bool) = (bite (ieq (gsK a1 a2 a3 s 0) (0 : Int)) true (bnot (sceneB l)))) ∧ (((Cont.ints a1) = (Cont.ints a1)) ∧ ((Cont.ints a2) = (Cont.ints a2)) ∧ ((Cont.ints a3) = (Cont.ints a3)) ∧ True) ∧ ((s : Int) = s) ∧ (((gsK a1 a2 a3 s 0) : Int) = (gsK a1 a2 a3 s 0)) ∧ (((gsK a1 a2 a3 s 1) : Int) = (gsK a1 a2 a3 s 1)) ∧ (((gsK a1 a2 a3 s 0) : Int) = (gsK a1 a2 a3 s 0)) ∧ (((gsK a1 a2 a3 s 1) : Int) = (gsK a1 a2 a3 s 1)) ∧ (true = true) ∧ (true = true) ∧ (((Cont.ints a1) = (Cont.ints a1)) ∧ ((Cont.ints a2) = (Cont.ints a2)) ∧ ((Cont.ints a3) = (Cont.ints a3)) ∧ True) ∧ ((s : Int) = s) ∧ ((Cont.ptss l) = (Cont.ptss l)) ∧ True) ∧ (((true = true) ∧ ((Cont.boolss []) = (Cont.boolss []))) ∧ (((Cont.ints a1) = (Cont.ints a1)) ∧ ((Cont.ints a2) = (Cont.ints a2)) ∧ ((Cont.ints a3) = (Cont.ints a3)) ∧ True) ∧ ((true = true) ∧ ((Cont.boolss []) = (Cont.boolss []))) ∧ True)) ∧ (([GK.int, GK.boolss] : List GK) = ([GK.int, GK.boolss] : List GK)) ∧ I1 [GV.int (0 : Int), GV.boolss []]) ∧ (∀ i1_0 : Int, ∀ l1_1 : List (List Bool), I1 [GV.int i1_0, GV.boolss l1_1] → ((true = true) ∧ ((True) ∧ True) ∧ ((ilt i1_0 (gsK a1 a2 a3 s 0)) = true → ((true = true) ∧ ((True) ∧ (True) ∧ True) ∧ (true = true) ∧ ((True) ∧ True) ∧ (true = true) ∧ ((True) ∧ (True) ∧ True) ∧ ∃ (I2 : List GV → Prop) (μ2 : List GV → Nat), (((true = true) ∧ ((((0 : Int) : Int) = (0 : Int)) ∧ (((gsK a1 a2 a3 s 1) : Int) = (gsK a1 a2 a3 s 1)) ∧ (true = true) ∧ ((i1_0 : Int) = i1_0) ∧ ((i1_0 : Int) = i1_0) ∧ (((ilt i1_0 (gsK a1 a2 a3 s 0)) : Bool) = (ilt i1_0 (gsK a1 a2 a3 s 0))) ∧ ((i1_0 : Int) = i1_0) ∧ (((gsK a1 a2 a3 s 0) : Int) = (gsK a1 a2 a3 s 0)) ∧ (true = true) ∧ (((gsK a1 a2 a3 s 0) : Int) = (gsK a1 a2 a3 s 0)) ∧ (((ieq (gsK a1 a2 a3 s 0) (0 : Int)) : Bool) = (ieq (gsK a1 a2 a3 s 0) (0 : Int))) ∧ (((ieq (gsK a1 a2 a3 s 0) (0 : Int)) : Bool) = (ieq (gsK a1 a2 a3 s 0) (0 : Int))) ∧ (((bite (ieq (gsK a1 a2 a3 s 0) (0 : Int)) true (bnot (sceneB l))) : Bool) = (bite (ieq (gsK a1 a2 a3 s 0) (0 : Int)) true (bnot (sceneB l)))) ∧ (((Cont.ints a1) = (Cont.ints a1)) ∧ ((Cont.ints a2) = (Cont.ints a2)) ∧ ((Cont.ints a3) = (Cont.ints a3)) ∧ True) ∧ ((s : Int) = s) ∧ (((gsK a1 a2 a3 s 0) : Int) = (gsK a1 a2 a3 s 0)) ∧ (((gsK a1 a2 a3 s 1) : Int) = (gsK a1 a2 a3 s 1)) ∧ (((gsK a1 a2 a3 s 0) : Int) = (gsK a1 a2 a3 s 0)) ∧ (((gsK a1 a2 a3 s 1) : Int) = (gsK a1 a2 a3 s 1)) ∧ (true = true) ∧ (true = true) ∧ (((Cont.ints a1) = (Cont.ints a1)) ∧ ((Cont.ints a2) = (Cont.ints a2)) ∧ ((Cont.ints a3) = (Cont.ints a3)) ∧ True) ∧ ((s : Int) = s) ∧ ((Cont.ptss l) = (Cont.ptss l)) ∧ True) ∧ (((true = true) ∧ ((Cont.bools []) = (Cont.bools []))) ∧ ((true = true) ∧ ((Cont.boolss l1_1) = (Cont.boolss l1_1))) ∧ (((Cont.ints a1) = (Cont.ints a1)) ∧ ((Cont.ints a2) = (Cont.ints a2)) ∧ ((Cont.ints a3) = (Cont.ints a3)) ∧ True) ∧ ((true = true) ∧ ((Cont.boolss []) = (Cont.boolss []))) ∧ True)) ∧ (([GK.int, GK.bools] : List GK) = ([GK.int, GK.bools] : List GK)) ∧ I2 [GV.int (0 : Int), GV.bools []]) ∧ (∀ i2_0 : Int, ∀ l2_1 : List Bool, I2 [GV.int i2_0, GV.bools l2_1] → ((true = true) ∧ ((True) ∧ True) ∧ ((ilt i2_0 (gsK a1 a2 a3 s 1)) = true → ((true = true) ∧ ((True) ∧ (True) ∧ True) ∧ (true = true) ∧ ((True) ∧ (True) ∧ (True) ∧ (True) ∧ (True) ∧ (True) ∧ (True) ∧ ((True)) ∧ (True) ∧ ((jvB a1 a2 a3 (cjL a1 a2 a3 s i1_0 i2_0) = true ∧ sceneB l = true)) ∧ (True) ∧ True) ∧ (NLe (ilen l2_1) 1000000000 ∧ NLe (ilen [(acB a1 (cjL a1 a2 a3 s i1_0 i2_0) l)]) 1000000000) ∧ (True) ∧ (true = true) ∧ ((True) ∧ (True) ∧ True) ∧ ((true = true) ∧ ((((iadd i2_0 (1 : Int)) : Int) = (iadd i2_0 (1 : Int))) ∧ (((gsK a1 a2 a3 s 1) : Int) = (gsK a1 a2 a3 s 1)) ∧ (true = true) ∧ ((i1_0 : Int) = i1_0) ∧ ((i1_0 : Int) = i1_0) ∧ (((ilt i1_0 (gsK a1 a2 a3 s 0)) : Bool) = (ilt i1_0 (gsK a1 a2 a3 s 0))) ∧ ((i1_0 : Int) = i1_0) ∧ (((gsK a1 a2 a3 s 0) : Int) = (gsK a1 a2 a3 s 0)) ∧ (true = true) ∧ (((gsK a1 a2 a3 s 0) : Int) = (gsK a1 a2 a3 s 0)) ∧ (((ieq (gsK a1 a2 a3 s 0) (0 : Int)) : Bool) = (ieq (gsK a1 a2 a3 s 0) (0 : Int))) ∧ (((ieq (gsK a1 a2 a3 s 0) (0 : Int)) : Bool) = (ieq (gsK a1 a2 a3 s 0) (0 : Int))) ∧ (((bite (ieq (gsK a1 a2 a3 s 0) (0 : Int)) true (bnot (sceneB l))) : Bool) = (bite (ieq (gsK a1 a2 a3 s 0) (0 : Int)) true (bnot (sceneB l)))) ∧ (((Cont.ints a1) = (Cont.ints a1)) ∧ ((Cont.ints a2) = (Cont.ints a2)) ∧ ((Cont.ints a3) = (Cont.ints a3)) ∧ True) ∧ ((s : Int) = s) ∧ (((gsK a1 a2 a3 s 0) : Int) = (gsK a1 a2 a3 s 0)) ∧ (((gsK a1 a2 a3 s 1) : Int) = (gsK a1 a2 a3 s 1)) ∧ (((gsK a1 a2 a3 s 0) : Int) = (gsK a1 a2 a3 s 0)) ∧ (((gsK a1 a2 a3 s 1) : Int) = (gsK a1 a2 a3 s 1)) ∧ (true = true) ∧ (true = true) ∧ (((Cont.ints a1) = (Cont.ints a1)) ∧ ((Cont.ints a2) = (Cont.ints a2)) ∧ ((Cont.ints a3) = (Cont.ints a3)) ∧ True) ∧ ((s : Int) = s) ∧ ((Cont.ptss l) = (Cont.ptss l)) ∧ True) ∧ (((true = true) ∧ ((Cont.bools (iapp l2_1 [(acB a1 (cjL a1 a2 a3 s i1_0 i2_0) l)])) = (Cont.bools (iapp l2_1 [(acB a1 (cjL a1 a2 a3 s i1_0 i2_0) l)])))) ∧ ((true = true) ∧ ((Cont.boolss l1_1) = (Cont.boolss l1_1))) ∧ (((Cont.ints a1) = (Cont.ints a1)) ∧ ((Cont.ints a2) = (Cont.ints a2)) ∧ ((Cont.ints a3) = (Cont.ints a3)) ∧ True) ∧ ((true = true) ∧ ((Cont.boolss []) = (Cont.boolss []))) ∧ True)) ∧ ((([GK.int, GK.bools] : List GK) = ([GK.int, GK.bools] : List GK)) ∧ I2 [GV.int (iadd i2_0 (1 : Int)), GV.bools (iapp l2_1 [(acB a1 (cjL a1 a2 a3 s i1_0 i2_0) l)])] ∧ μ2 [GV.int (iadd i2_0 (1 : Int)), GV.bools (iapp l2_1 [(acB a1 (cjL a1 a2 a3 s i1_0 i2_0) l)])] < μ2 [GV.int i2_0, GV.bools l2_1]))) ∧ ((ilt i2_0 (gsK a1 a2 a3 s 1)) = false → ((true = true) ∧ ((True) ∧ (True) ∧ True) ∧ (True) ∧ (NLe (ilen l1_1) 1000000000 ∧ NLe (ilen [l2_1]) 1000000000) ∧ (True) ∧ (true = true) ∧ ((True) ∧ (True) ∧ True) ∧ ((true = true) ∧ ((((iadd i1_0 (1 : Int)) : Int) = (iadd i1_0 (1 : Int))) ∧ (((gsK a1 a2 a3 s 0) : Int) = (gsK a1 a2 a3 s 0)) ∧ (true = true) ∧ (((gsK a1 a2 a3 s 0) : Int) = (gsK a1 a2 a3 s 0)) ∧ (((ieq (gsK a1 a2 a3 s 0) (0 : Int)) : Bool) = (ieq (gsK a1 a2 a3 s 0) (0 : Int))) ∧ (((ieq (gsK a1 a2 a3 s 0) (0 : Int)) : Bool) = (ieq (gsK a1 a2 a3 s 0) (0 : Int))) ∧ (((bite (ieq (gsK a1 a2 a3 s 0) (0 : Int)) true (bnot (sceneB l))) : Bool) = (bite (ieq (gsK a1 a2 a3 s 0) (0 : Int)) true (bnot (sceneB l)))) ∧ (((Cont.ints a1) = (Cont.ints a1)) ∧ ((Cont.ints a2) = (Cont.ints a2)) ∧ ((Cont.ints a3) = (Cont.ints a3)) ∧ True) ∧ ((s : Int) = s) ∧ (((gsK a1 a2 a3 s 0) : Int) = (gsK a1 a2 a3 s 0)) ∧ (((gsK a1 a2 a3 s 1) : Int) = (gsK a1 a2 a3 s 1)) ∧ (((gsK a1 a2 a3 s 0) : Int) = (gsK a1 a2 a3 s 0)) ∧ (((gsK a1 a2 a3 s 1) : Int) = (gsK a1 a2 a3 s 1)) ∧ (true = true) ∧ (true = true) ∧ (((Cont.ints a1) = (Cont.ints a1)) ∧ ((Cont.ints a2) = (Cont.ints a2)) ∧ ((Cont.ints a3) = (Cont.ints a3)) ∧ True) ∧ ((s : Int) = s) ∧ ((Cont.ptss l) = (Cont.ptss l)) ∧ True) ∧ (((true = true) ∧ ((Cont.boolss (iapp l1_1 [l2_1])) = (Cont.boolss (iapp l1_1 [l2_1])))) ∧ (((Cont.ints a1) = (Cont.ints a1)) ∧ ((Cont.ints a2) = (Cont.ints a2)) ∧ ((Cont.ints a3) = (Cont.ints a3)) ∧ True) ∧ ((true = true) ∧ ((Cont.boolss []) = (Cont.boolss []))) ∧ True)) ∧ ((([GK.int, GK.boolss] : List GK) = ([GK.int, GK.boolss] : List GK)) ∧ I1 [GV.int (iadd i1_0 (1 : Int)), GV.boolss (iapp l1_1 [l2_1])] ∧ μ1 [GV.int (iadd i1_0 (1 : Int)), GV.boolss (iapp l1_1 [l2_1])] < μ1 [GV.int i1_0, GV.boolss l1_1]))))))) ∧ ((ilt i1_0 (gsK a1 a2 a3 s 0)) = false → ((true = true) ∧ ((True) ∧ (True) ∧ True) ∧ ((true = true) ∧ ((Cont.boolss l1_1) = (Cont.boolss (fcL a1 a2 a3 s l)))) ∧ True))))))) = ev sig_impl_FreeCells xs_impl_FreeCells Tryd.f10.ntmps (fun b => if b == 0 then [.v 27, .b 9] else if b == 2 then [.v 31, .b 11] else []) (codeOf Tryd.f10) 0 (initS [.agg [.view (.ints a1), .view (.ints a2), .view (.ints a3)], .s (.int s), .s (.view (.ptss l))]) (retK Tryd.f10.results.toList [.nrow 53 (.boolss (fcL a1 a2 a3 s l))]) := by kernel_rfl
set_option maxHeartbeats 400000 in
theorem F_impl_FreeCells : FunOK 10 g_impl_FreeCells := by
  refine fun_F (by kernel_rfl) Tryd.func10 rfl (by kernel_rfl) sig_impl_FreeCells_ok xs_impl_FreeCells_ok ?_
  intro avs sg h hn hl
  unfold g_impl_FreeCells at h
  split at h
  · rename_i a1 a2 a3 s l
    injection h with h; subst h
    refine ⟨by kernel_rfl, fun b => if b == 0 then [.v 27, .b 9] else if b == 2 then [.v 31, .b 11] else [], Eq.mp (V_impl_FreeCells a1 a2 a3 s l) ?_⟩
    simp only [true_and, and_true, implies_true, and_self, forall_const, true_implies, lenA, lenL, SV.lenOK, Cont.lenOK] at hn hl ⊢
    simp only [ilt_t, ilt_f, ile_t, ile_f, ieq_t, ieq_f, bnot_e, band_e, bite_and, bite_or, NLt_e, NLe_e, NNe_e, NIs_e, imax_e, imin_e, irem_e, Bool.not_eq_true', Bool.not_eq_false', Bool.and_eq_true, Bool.or_eq_true, Bool.or_eq_false_iff, Bool.and_eq_false_iff, Cont.pts.injEq, Cont.ints.injEq, Cont.bools.injEq, Cont.ptss.injEq, Cont.intss.injEq, Cont.boolss.injEq, true_and, and_true, implies_true]
    refine ⟨fun h => by
      unfold fcL
      rcases h with h | h
      · rw [h]; split <;> rfl
      · rw [h]; rfl, fun hs => ?_⟩
    have hs := hs.2
    have hL : fcL a1 a2 a3 s l = fcT a1 a2 l s (gsK a1 a2 a3 s 1) (gsK a1 a2 a3 s 0) := by unfold fcL; rw [if_pos hs]
    have hc20 : (0 ≤ gsK a1 a2 a3 s 0 ∧ gsK a1 a2 a3 s 0 ≤ 20) ∧ (0 ≤ gsK a1 a2 a3 s 1 ∧ gsK a1 a2 a3 s 1 ≤ 20) := by
      rcases gsK_cases a1 a2 a3 s with ⟨h0, h1⟩ | ⟨hB, g0, g1, e0, e1, m0, m1⟩ <;> omega
    rw [hL]
    refine ⟨fun | [.int i, .boolss o] => 0 ≤ i ∧ i ≤ gsK a1 a2 a3 s 0 ∧ o = fcT a1 a2 l s (gsK a1 a2 a3 s 1) i | _ => False, fun | .int i :: _ => (gsK a1 a2 a3 s 0 - i).toNat | _ => 0, ⟨by omega, by omega, rfl⟩, ?_⟩
    rintro i o ⟨i0, i1, rfl⟩
    refine ⟨fun hi => ?_, fun hi => ?_⟩
    · refine ⟨fun | [.int k, .bools r] => 0 ≤ k ∧ k ≤ gsK a1 a2 a3 s 1 ∧ r = fcR a1 a2 l s i k | _ => False, fun | .int k :: _ => (gsK a1 a2 a3 s 1 - k).toNat | _ => 0, ⟨by omega, by omega, rfl⟩, ?_⟩
      rintro k r ⟨k0, k1, rfl⟩
      refine ⟨fun hk => ?_, fun hk => ?_⟩
      · obtain ⟨hb, he, _⟩ := cj_in (a1 := a1) (a2 := a2) (a3 := a3) (s := s) i0 hi k0 hk
        have hj := cj_jv hb
        rw [he] at hj
        rw [he]
        rw [fcR_len k0, iadd_e (by omega) (by omega)]
        exact ⟨⟨hj, hs⟩, ⟨by omega, by rw [ilen_one]; omega⟩, ⟨by omega, by omega, fcR_s k0⟩, by show (gsK a1 a2 a3 s 1 - (k + 1)).toNat < (gsK a1 a2 a3 s 1 - k).toNat; omega⟩
      · have ek : k = gsK a1 a2 a3 s 1 := by omega
        subst ek
        rw [fcT_len i0, iadd_e (by omega) (by omega)]
        exact ⟨⟨by omega, by rw [ilen_one]; omega⟩, ⟨by omega, by omega, fcT_s i0⟩, by show (gsK a1 a2 a3 s 0 - (i + 1)).toNat < (gsK a1 a2 a3 s 0 - i).toNat; omega⟩
    · rw [show i = gsK a1 a2 a3 s 0 by omega]
  · cases h
def g_laws_eqBoolS : List AV → Option Sg
  | [.s (.view (.bools l)), .s (.view (.bools m))] => some ⟨True, [.s (.bool (eqBo l m))]⟩
  | _ => none
def sig_laws_eqBoolS : FuncId → List AV → Option Sg := sigL []
def xs_laws_eqBoolS : XS := ⟨xsigL [], ysigL []⟩
theorem sig_laws_eqBoolS_ok : SigOK sig_laws_eqBoolS := sigL_nil
theorem xs_laws_eqBoolS_ok : XSigOK xs_laws_eqBoolS := ⟨xsigL_nil, ysigL_nil⟩
theorem V_laws_eqBoolS (l : List Bool) (m : List Bool) : ((true = true) ∧ ((True) ∧ True) ∧ (true = true) ∧ ((True) ∧ (True) ∧ (True) ∧ (True) ∧ (True) ∧ True) ∧ ((bnot (ieq (ilen l) (ilen m))) = true → ((true = true) ∧ ((True) ∧ True) ∧ ((false : Bool) = (eqBo l m)) ∧ True)) ∧ ((bnot (ieq (ilen l) (ilen m))) = false → ((true = true) ∧ ((True) ∧ True) ∧ ∃ (I1 : List GV → Prop) (μ1 : List GV → Nat), (((true = true) ∧ (((false : Bool) = false) ∧ (((0 : Int) : Int) = (0 : Int)) ∧ ((Cont.bools l) = (Cont.bools l)) ∧ (((ilen l) : Int) = (ilen l)) ∧ ((Cont.bools m) = (Cont.bools m)) ∧ (((ilen m) : Int) = (ilen m)) ∧ (((bnot (ieq (ilen l) (ilen m))) : Bool) = (bnot (ieq (ilen l) (ilen m)))) ∧ ((Cont.bools l) = (Cont.bools l)) ∧ ((Cont.bools m) = (Cont.bools m)) ∧ True) ∧ (True)) ∧ (([GK.int, GK.bool] : List GK) = ([GK.int, GK.bool] : List GK)) ∧ I1 [GV.int (0 : Int), GV.bool false]) ∧ (∀ i1_0 : Int, ∀ b1_1 : Bool, I1 [GV.int i1_0, GV.bool b1_1] → ((true = true) ∧ ((True) ∧ (True) ∧ (True) ∧ (True) ∧ True) ∧ ((ilt i1_0 (ilen l)) = true → ((true = true) ∧ ((True) ∧ (True) ∧ (NLe 0 i1_0 ∧ NLt i1_0 (ilen l)) ∧ (True) ∧ (True) ∧ (True) ∧ (NLe 0 i1_0 ∧ NLt i1_0 (ilen m)) ∧ (True) ∧ (True) ∧ True) ∧ ((bxor (getb l i1_0) (getb m i1_0)) = true → ((true = true) ∧ ((True) ∧ True) ∧ ((false : Bool) = (eqBo l m)) ∧ True)) ∧ ((bxor (getb l i1_0) (getb m i1_0)) = false → ((true = true) ∧ ((True) ∧ (True) ∧ (True) ∧ True) ∧ ((true = true) ∧ (((b1_1 : Bool) = b1_1) ∧ (((iadd i1_0 (1 : Int)) : Int) = (iadd i1_0 (1 : Int))) ∧ ((Cont.bools l) = (Cont.bools l)) ∧ (((ilen l) : Int) = (ilen l)) ∧ ((Cont.bools m) = (Cont.bools m)) ∧ (((ilen m) : Int) = (ilen m)) ∧ (((bnot (ieq (ilen l) (ilen m))) : Bool) = (bnot (ieq (ilen l) (ilen m)))) ∧ ((Cont.bools l) = (Cont.bools l)) ∧ ((Cont.bools m) = (Cont.bools m)) ∧ True) ∧ (True)) ∧ ((([GK.int, GK.bool] : List GK) = ([GK.int, GK.bool] : List GK)) ∧ I1 [GV.int (iadd i1_0 (1 : Int)), GV.bool b1_1] ∧ μ1 [GV.int (iadd i1_0 (1 : Int)), GV.bool b1_1] < μ1 [GV.int i1_0, GV.bool b1_1]))))) ∧ ((ilt i1_0 (ilen l)) = false → ((true = true) ∧ ((True) ∧ True) ∧ ((true : Bool) = (eqBo l m)) ∧ True))))))) = ev sig_laws_eqBoolS xs_laws_eqBoolS Tryd.f35.ntmps (fun b => if b == 0 then [.v 5, .v 4] else []) (codeOf Tryd.f35) 0 (initS [.s (.view (.bools l)), .s (.view (.bools m))]) (retK Tryd.f35.results.toList [.s (.bool (eqBo l m))]) := by kernel_rfl
set_option maxHeartbeats 400000 in
theorem F_laws_eqBoolS : FunOK 35 g_laws_eqBoolS := by
  refine fun_F (by kernel_rfl) Tryd.func35 rfl (by kernel_rfl) sig_laws_eqBoolS_ok xs_laws_eqBoolS_ok ?_
  intro avs sg h hn hl
  unfold g_laws_eqBoolS at h
  split at h
  · rename_i l m
    injection h with h; subst h
    refine ⟨by kernel_rfl, fun b => if b == 0 then [.v 5, .v 4] else [], Eq.mp (V_laws_eqBoolS l m) ?_⟩
    simp only [true_and, and_true, implies_true, and_self, forall_const, true_implies, lenA, lenL, SV.lenOK, Cont.lenOK] at hn hl ⊢
    have h0 := ilen_0 l
    simp only [ilt_t, ilt_f, ile_t, ile_f, ieq_t, ieq_f, bnot_e, band_e, bite_and, bite_or, NLt_e, NLe_e, NNe_e, NIs_e, imax_e, imin_e, irem_e, Bool.not_eq_true', Bool.not_eq_false', Bool.and_eq_true, Bool.or_eq_true, Bool.or_eq_false_iff, Bool.and_eq_false_iff, Cont.pts.injEq, Cont.ints.injEq, Cont.bools.injEq, Cont.ptss.injEq, Cont.intss.injEq, Cont.boolss.injEq, true_and, and_true, implies_true, bxor_f, bxor_t]
    unfold eqBo
    refine ⟨fun h => by simp [h], fun h => ?_⟩
    refine ⟨fun | .int k :: _ => 0 ≤ k ∧ k ≤ ilen l ∧ ∀ j, 0 ≤ j → j < k → (getb l j == getb m j) = true | _ => False, fun | .int k :: _ => (ilen l - k).toNat | _ => 0, ?_, ?_⟩
    · exact ⟨Int.le_refl 0, h0, fun j h0 h1 => absurd h1 (by omega)⟩
    · rintro k _ ⟨hk0, hk1, hk⟩
      simp only [ilt_t, ilt_f, ile_t, ile_f, ieq_t, ieq_f, bnot_e, band_e, bite_and, bite_or, NLt_e, NLe_e, NNe_e, NIs_e, imax_e, imin_e, irem_e, Bool.not_eq_true', Bool.not_eq_false', Bool.and_eq_true, Bool.or_eq_true, Bool.or_eq_false_iff, Bool.and_eq_false_iff, Cont.pts.injEq, Cont.ints.injEq, Cont.bools.injEq, Cont.ptss.injEq, Cont.intss.injEq, Cont.boolss.injEq, true_and, and_true, implies_true, bxor_f, bxor_t]
      refine ⟨fun hc => ⟨⟨⟨hk0, hc⟩, hk0, by omega⟩, fun hv => ?_, fun hv => ?_⟩, fun hc => ?_⟩
      · rw [allN_no k hk0 hc (by simpa using hv)]; simp
      · rw [iadd_1 hk0 hc hl.1]
        exact ⟨⟨by omega, by omega, allN_up hk (by simpa using hv)⟩, by omega⟩
      · rw [allN_mk fun j h0 h1 => hk j h0 (by omega)]; simp [h]
  · cases h
def g_laws_eqBoolSS : List AV → Option Sg
  | [.s (.view (.boolss l)), .s (.view (.boolss m))] => some ⟨True, [.s (.bool (eqBB l m))]⟩
  | _ => none
def sig_laws_eqBoolSS : FuncId → List AV → Option Sg := sigL [(35, g_laws_eqBoolS)]
def xs_laws_eqBoolSS : XS := ⟨xsigL [], ysigL []⟩
theorem sig_laws_eqBoolSS_ok : SigOK sig_laws_eqBoolSS := sigL_cons F_laws_eqBoolS sigL_nil
theorem xs_laws_eqBoolSS_ok : XSigOK xs_laws_eqBoolSS := ⟨xsigL_nil, ysigL_nil⟩
theorem V_laws_eqBoolSS (l : List (List Bool)) (m : List (List Bool)) : ((true = true) ∧ ((True) ∧ True) ∧ (true = true) ∧ ((True) ∧ (True) ∧ (True) ∧ (True) ∧ (True) ∧ True) ∧ ((bnot (ieq (ilen l) (ilen m))) = true → ((true = true) ∧ ((True) ∧ True) ∧ ((false : Bool) = (eqBB l m)) ∧ True)) ∧ ((bnot (ieq (ilen l) (ilen m))) = false → ((true = true) ∧ ((True) ∧ True) ∧ ∃ (I1 : List GV → Prop) (μ1 : List GV → Nat), (((true = true) ∧ (((false : Bool) = false) ∧ (((0 : Int) : Int) = (0 : Int)) ∧ ((Cont.boolss l) = (Cont.boolss l)) ∧ (((ilen l) : Int) = (ilen l)) ∧ ((Cont.boolss m) = (Cont.boolss m)) ∧ (((ilen m) : Int) = (ilen m)) ∧ (((bnot (ieq (ilen l) (ilen m))) : Bool) = (bnot (ieq (ilen l) (ilen m)))) ∧ ((Cont.boolss l) = (Cont.boolss l)) ∧ ((Cont.boolss m) = (Cont.boolss m)) ∧ True) ∧ (True)) ∧ (([GK.int, GK.bool] : List GK) = ([GK.int, GK.bool] : List GK)) ∧ I1 [GV.int (0 : Int), GV.bool false]) ∧ (∀ i1_0 : Int, ∀ b1_1 : Bool, I1 [GV.int i1_0, GV.bool b1_1] → ((true = true) ∧ ((True) ∧ (True) ∧ (True) ∧ (True) ∧ True) ∧ ((ilt i1_0 (ilen l)) = true → ((true = true) ∧ ((True) ∧ (True) ∧ (NLe 0 i1_0 ∧ NLt i1_0 (ilen l)) ∧ (True) ∧ (True) ∧ (True) ∧ (NLe 0 i1_0 ∧ NLt i1_0 (ilen m)) ∧ (True) ∧ ((True)) ∧ (True) ∧ True) ∧ ((bnot (eqBo (getl l i1_0) (getl m i1_0))) = true → ((true = true) ∧ ((True) ∧ True) ∧ ((false : Bool) = (eqBB l m)) ∧ True)) ∧ ((bnot (eqBo (getl l i1_0) (getl m i1_0))) = false → ((true = true) ∧ ((True) ∧ (True) ∧ (True) ∧ True) ∧ ((true = true) ∧ (((b1_1 : Bool) = b1_1) ∧ (((iadd i1_0 (1 : Int)) : Int) = (iadd i1_0 (1 : Int))) ∧ ((Cont.boolss l) = (Cont.boolss l)) ∧ (((ilen l) : Int) = (ilen l)) ∧ ((Cont.boolss m) = (Cont.boolss m)) ∧ (((ilen m) : Int) = (ilen m)) ∧ (((bnot (ieq (ilen l) (ilen m))) : Bool) = (bnot (ieq (ilen l) (ilen m)))) ∧ ((Cont.boolss l) = (Cont.boolss l)) ∧ ((Cont.boolss m) = (Cont.boolss m)) ∧ True) ∧ (True)) ∧ ((([GK.int, GK.bool] : List GK) = ([GK.int, GK.bool] : List GK)) ∧ I1 [GV.int (iadd i1_0 (1 : Int)), GV.bool b1_1] ∧ μ1 [GV.int (iadd i1_0 (1 : Int)), GV.bool b1_1] < μ1 [GV.int i1_0, GV.bool b1_1]))))) ∧ ((ilt i1_0 (ilen l)) = false → ((true = true) ∧ ((True) ∧ True) ∧ ((true : Bool) = (eqBB l m)) ∧ True))))))) = ev sig_laws_eqBoolSS xs_laws_eqBoolSS Tryd.f11.ntmps (fun b => if b == 0 then [.v 5, .v 4] else []) (codeOf Tryd.f11) 0 (initS [.s (.view (.boolss l)), .s (.view (.boolss m))]) (retK Tryd.f11.results.toList [.s (.bool (eqBB l m))]) := by kernel_rfl
set_option maxHeartbeats 400000 in
theorem F_laws_eqBoolSS : FunOK 11 g_laws_eqBoolSS := by
  refine fun_F (by kernel_rfl) Tryd.func11 rfl (by kernel_rfl) sig_laws_eqBoolSS_ok xs_laws_eqBoolSS_ok ?_
  intro avs sg h hn hl
  unfold g_laws_eqBoolSS at h
  split at h
  · rename_i l m
    injection h with h; subst h
    refine ⟨by kernel_rfl, fun b => if b == 0 then [.v 5, .v 4] else [], Eq.mp (V_laws_eqBoolSS l m) ?_⟩
    simp only [true_and, and_true, implies_true, and_self, forall_const, true_implies, lenA, lenL, SV.lenOK, Cont.lenOK] at hn hl ⊢
    have h0 := ilen_0 l
    simp only [ilt_t, ilt_f, ile_t, ile_f, ieq_t, ieq_f, bnot_e, band_e, bite_and, bite_or, NLt_e, NLe_e, NNe_e, NIs_e, imax_e, imin_e, irem_e, Bool.not_eq_true', Bool.not_eq_false', Bool.and_eq_true, Bool.or_eq_true, Bool.or_eq_false_iff, Bool.and_eq_false_iff, Cont.pts.injEq, Cont.ints.injEq, Cont.bools.injEq, Cont.ptss.injEq, Cont.intss.injEq, Cont.boolss.injEq, true_and, and_true, implies_true]
    unfold eqBB
    refine ⟨fun h => by simp [h], fun h => ?_⟩
    refine ⟨fun | .int k :: _ => 0 ≤ k ∧ k ≤ ilen l ∧ ∀ j, 0 ≤ j → j < k → eqBo (getl l j) (getl m j) = true | _ => False, fun | .int k :: _ => (ilen l - k).toNat | _ => 0, ?_, ?_⟩
    · exact ⟨Int.le_refl 0, h0, fun j h0 h1 => absurd h1 (by omega)⟩
    · rintro k _ ⟨hk0, hk1, hk⟩
      simp only [ilt_t, ilt_f, ile_t, ile_f, ieq_t, ieq_f, bnot_e, band_e, bite_and, bite_or, NLt_e, NLe_e, NNe_e, NIs_e, imax_e, imin_e, irem_e, Bool.not_eq_true', Bool.not_eq_false', Bool.and_eq_true, Bool.or_eq_true, Bool.or_eq_false_iff, Bool.and_eq_false_iff, Cont.pts.injEq, Cont.ints.injEq, Cont.bools.injEq, Cont.ptss.injEq, Cont.intss.injEq, Cont.boolss.injEq, true_and, and_true, implies_true]
      refine ⟨fun hc => ⟨⟨⟨hk0, hc⟩, hk0, by omega⟩, fun hv => ?_, fun hv => ?_⟩, fun hc => ?_⟩
      · rw [allN_no k hk0 hc hv]; simp
      · rw [iadd_1 hk0 hc hl.1.1]
        exact ⟨⟨by omega, by omega, allN_up hk hv⟩, by omega⟩
      · rw [allN_mk fun j h0 h1 => hk j h0 (by omega)]; simp [h]
  · cases h
def eqI (l m : List Int) : Bool := decide (ilen l = ilen m) && allN (ilen l) fun j => decide (geti l j = geti m j)
theorem eqI_same (l : List Int) : eqI l l = true := by
  unfold eqI
  rw [allN_mk fun j _ _ => by simp]
  simp
def g_laws_eqIntS : List AV → Option Sg
  | [.s (.view (.ints l)), .s (.view (.ints m))] => some ⟨True, [.s (.bool (eqI l m))]⟩
  | _ => none
def sig_laws_eqIntS : FuncId → List AV → Option Sg := sigL []
def xs_laws_eqIntS : XS := ⟨xsigL [], ysigL []⟩
theorem sig_laws_eqIntS_ok : SigOK sig_laws_eqIntS := sigL_nil
theorem xs_laws_eqIntS_ok : XSigOK xs_laws_eqIntS := ⟨xsigL_nil, ysigL_nil⟩
theorem V_laws_eqIntS (l : List Int) (m : List Int) : ((true = true) ∧ ((True) ∧ True) ∧ (true = true) ∧ ((True) ∧ (True) ∧ (True) ∧ (True) ∧ (True) ∧ True) ∧ ((bnot (ieq (ilen l) (ilen m))) = true → ((true = true) ∧ ((True) ∧ True) ∧ ((false : Bool) = (eqI l m)) ∧ True)) ∧ ((bnot (ieq (ilen l) (ilen m))) = false → ((true = true) ∧ ((True) ∧ True) ∧ ∃ (I1 : List GV → Prop) (μ1 : List GV → Nat), (((true = true) ∧ (((false : Bool) = false) ∧ (((0 : Int) : Int) = (0 : Int)) ∧ ((Cont.ints l) = (Cont.ints l)) ∧ (((ilen l) : Int) = (ilen l)) ∧ ((Cont.ints m) = (Cont.ints m)) ∧ (((ilen m) : Int) = (ilen m)) ∧ (((bnot (ieq (ilen l) (ilen m))) : Bool) = (bnot (ieq (ilen l) (ilen m)))) ∧ ((Cont.ints l) = (Cont.ints l)) ∧ ((Cont.ints m) = (Cont.ints m)) ∧ True) ∧ (True)) ∧ (([GK.int, GK.bool] : List GK) = ([GK.int, GK.bool] : List GK)) ∧ I1 [GV.int (0 : Int), GV.bool false]) ∧ (∀ i1_0 : Int, ∀ b1_1 : Bool, I1 [GV.int i1_0, GV.bool b1_1] → ((true = true) ∧ ((True) ∧ (True) ∧ (True) ∧ (True) ∧ True) ∧ ((ilt i1_0 (ilen l)) = true → ((true = true) ∧ ((True) ∧ (True) ∧ (NLe 0 i1_0 ∧ NLt i1_0 (ilen l)) ∧ (True) ∧ (True) ∧ (True) ∧ (NLe 0 i1_0 ∧ NLt i1_0 (ilen m)) ∧ (True) ∧ (True) ∧ True) ∧ ((bnot (ieq (geti l i1_0) (geti m i1_0))) = true → ((true = true) ∧ ((True) ∧ True) ∧ ((false : Bool) = (eqI l m)) ∧ True)) ∧ ((bnot (ieq (geti l i1_0) (geti m i1_0))) = false → ((true = true) ∧ ((True) ∧ (True) ∧ (True) ∧ True) ∧ ((true = true) ∧ (((b1_1 : Bool) = b1_1) ∧ (((iadd i1_0 (1 : Int)) : Int) = (iadd i1_0 (1 : Int))) ∧ ((Cont.ints l) = (Cont.ints l)) ∧ (((ilen l) : Int) = (ilen l)) ∧ ((Cont.ints m) = (Cont.ints m)) ∧ (((ilen m) : Int) = (ilen m)) ∧ (((bnot (ieq (ilen l) (ilen m))) : Bool) = (bnot (ieq (ilen l) (ilen m)))) ∧ ((Cont.ints l) = (Cont.ints l)) ∧ ((Cont.ints m) = (Cont.ints m)) ∧ True) ∧ (True)) ∧ ((([GK.int, GK.bool] : List GK) = ([GK.int, GK.bool] : List GK)) ∧ I1 [GV.int (iadd i1_0 (1 : Int)), GV.bool b1_1] ∧ μ1 [GV.int (iadd i1_0 (1 : Int)), GV.bool b1_1] < μ1 [GV.int i1_0, GV.bool b1_1]))))) ∧ ((ilt i1_0 (ilen l)) = false → ((true = true) ∧ ((True) ∧ True) ∧ ((true : Bool) = (eqI l m)) ∧ True))))))) = ev sig_laws_eqIntS xs_laws_eqIntS Tryd.f36.ntmps (fun b => if b == 0 then [.v 5, .v 4] else []) (codeOf Tryd.f36) 0 (initS [.s (.view (.ints l)), .s (.view (.ints m))]) (retK Tryd.f36.results.toList [.s (.bool (eqI l m))]) := by kernel_rfl
set_option maxHeartbeats 400000 in
theorem F_laws_eqIntS : FunOK 36 g_laws_eqIntS := by
  refine fun_F (by kernel_rfl) Tryd.func36 rfl (by kernel_rfl) sig_laws_eqIntS_ok xs_laws_eqIntS_ok ?_
  intro avs sg h hn hl
  unfold g_laws_eqIntS at h
  split at h
  · rename_i l m
    injection h with h; subst h
    refine ⟨by kernel_rfl, fun b => if b == 0 then [.v 5, .v 4] else [], Eq.mp (V_laws_eqIntS l m) ?_⟩
    simp only [true_and, and_true, implies_true, and_self, forall_const, true_implies, lenA, lenL, SV.lenOK, Cont.lenOK] at hn hl ⊢
    have h0 := ilen_0 l
    simp only [ilt_t, ilt_f, ile_t, ile_f, ieq_t, ieq_f, bnot_e, band_e, bite_and, bite_or, NLt_e, NLe_e, NNe_e, NIs_e, imax_e, imin_e, irem_e, Bool.not_eq_true', Bool.not_eq_false', Bool.and_eq_true, Bool.or_eq_true, Bool.or_eq_false_iff, Bool.and_eq_false_iff, Cont.pts.injEq, Cont.ints.injEq, Cont.bools.injEq, Cont.ptss.injEq, Cont.intss.injEq, Cont.boolss.injEq, true_and, and_true, implies_true]
    unfold eqI
    refine ⟨fun h => by simp [h], fun h => ?_⟩
    refine ⟨fun | .int k :: _ => 0 ≤ k ∧ k ≤ ilen l ∧ ∀ j, 0 ≤ j → j < k → decide (geti l j = geti m j) = true | _ => False, fun | .int k :: _ => (ilen l - k).toNat | _ => 0, ?_, ?_⟩
    · exact ⟨Int.le_refl 0, h0, fun j h0 h1 => absurd h1 (by omega)⟩
    · rintro k _ ⟨hk0, hk1, hk⟩
      simp only [ilt_t, ilt_f, ile_t, ile_f, ieq_t, ieq_f, bnot_e, band_e, bite_and, bite_or, NLt_e, NLe_e, NNe_e, NIs_e, imax_e, imin_e, irem_e, Bool.not_eq_true', Bool.not_eq_false', Bool.and_eq_true, Bool.or_eq_true, Bool.or_eq_false_iff, Bool.and_eq_false_iff, Cont.pts.injEq, Cont.ints.injEq, Cont.bools.injEq, Cont.ptss.injEq, Cont.intss.injEq, Cont.boolss.injEq, true_and, and_true, implies_true]
      refine ⟨fun hc => ⟨⟨⟨hk0, hc⟩, hk0, by omega⟩, fun hv => ?_, fun hv => ?_⟩, fun hc => ?_⟩
      · rw [allN_no k hk0 hc (by simpa using hv)]; simp
      · rw [iadd_1 hk0 hc hl.1]
        exact ⟨⟨by omega, by omega, allN_up hk (by simpa using hv)⟩, by omega⟩
      · rw [allN_mk fun j h0 h1 => hk j h0 (by omega)]; simp [h]
  · cases h
def g_laws_eqArm : List AV → Option Sg
  | [.agg [.view (.ints a1), .view (.ints a2), .view (.ints a3)], .agg [.view (.ints b1), .view (.ints b2), .view (.ints b3)]] => some ⟨True, [.s (.bool (eqI a1 b1 && eqI a2 b2 && eqI a3 b3))]⟩
  | _ => none
def sig_laws_eqArm : FuncId → List AV → Option Sg := sigL [(36, g_laws_eqIntS)]
def xs_laws_eqArm : XS := ⟨xsigL [], ysigL []⟩
theorem sig_laws_eqArm_ok : SigOK sig_laws_eqArm := sigL_cons F_laws_eqIntS sigL_nil
theorem xs_laws_eqArm_ok : XSigOK xs_laws_eqArm := ⟨xsigL_nil, ysigL_nil⟩
theorem V_laws_eqArm (a1 : List Int) (a2 : List Int) (a3 : List Int) (b1 : List Int) (b2 : List Int) (b3 : List Int) : ((true = true) ∧ ((True) ∧ (True) ∧ (True) ∧ True) ∧ (true = true) ∧ ((True) ∧ (True) ∧ (True) ∧ (True) ∧ ((True)) ∧ (True) ∧ True) ∧ ((bnot (eqI a1 b1)) = true → ((true = true) ∧ ((True) ∧ True) ∧ ((false : Bool) = (eqI a1 b1 && eqI a2 b2 && eqI a3 b3)) ∧ True)) ∧ ((bnot (eqI a1 b1)) = false → ((true = true) ∧ ((True) ∧ (True) ∧ (True) ∧ (True) ∧ ((True)) ∧ (True) ∧ True) ∧ ((bnot (eqI a2 b2)) = true → ((true = true) ∧ ((True) ∧ True) ∧ ((false : Bool) = (eqI a1 b1 && eqI a2 b2 && eqI a3 b3)) ∧ True)) ∧ ((bnot (eqI a2 b2)) = false → ((true = true) ∧ ((True) ∧ (True) ∧ (True) ∧ (True) ∧ ((True)) ∧ (True) ∧ True) ∧ ((bnot (eqI a3 b3)) = true → ((true = true) ∧ ((True) ∧ True) ∧ ((false : Bool) = (eqI a1 b1 && eqI a2 b2 && eqI a3 b3)) ∧ True)) ∧ ((bnot (eqI a3 b3)) = false → ((true = true) ∧ ((True) ∧ True) ∧ ((true : Bool) = (eqI a1 b1 && eqI a2 b2 && eqI a3 b3)) ∧ True))))))) = ev sig_laws_eqArm xs_laws_eqArm Tryd.f12.ntmps (fun b => []) (codeOf Tryd.f12) 0 (initS [.agg [.view (.ints a1), .view (.ints a2), .view (.ints a3)], .agg [.view (.ints b1), .view (.ints b2), .view (.ints b3)]]) (retK Tryd.f12.results.toList [.s (.bool (eqI a1 b1 && eqI a2 b2 && eqI a3 b3))]) := by kernel_rfl
set_option maxHeartbeats 400000 in
theorem F_laws_eqArm : FunOK 12 g_laws_eqArm := by
  refine fun_F (by kernel_rfl) Tryd.func12 rfl (by kernel_rfl) sig_laws_eqArm_ok xs_laws_eqArm_ok ?_
  intro avs sg h hn hl
  unfold g_laws_eqArm at h
  split at h
  · rename_i a1 a2 a3 b1 b2 b3
    injection h with h; subst h
    refine ⟨by kernel_rfl, fun b => [], Eq.mp (V_laws_eqArm a1 a2 a3 b1 b2 b3) ?_⟩
    simp only [true_and, and_true, implies_true, and_self, forall_const, true_implies, lenA, lenL, SV.lenOK, Cont.lenOK] at hn hl ⊢
    simp only [ilt_t, ilt_f, ile_t, ile_f, ieq_t, ieq_f, bnot_e, band_e, bite_and, bite_or, NLt_e, NLe_e, NNe_e, NIs_e, imax_e, imin_e, irem_e, Bool.not_eq_true', Bool.not_eq_false', Bool.and_eq_true, Bool.or_eq_true, Bool.or_eq_false_iff, Bool.and_eq_false_iff, Cont.pts.injEq, Cont.ints.injEq, Cont.bools.injEq, Cont.ptss.injEq, Cont.intss.injEq, Cont.boolss.injEq, true_and, and_true, implies_true]
    cases eqI a1 b1 <;> cases eqI a2 b2 <;> cases eqI a3 b3 <;> simp
  · cases h
def g_laws_eqPoint : List AV → Option Sg
  | [.agg [.int p1, .int p2], .agg [.int q1, .int q2]] => some ⟨True, [.s (.bool (eqPt p1 p2 q1 q2))]⟩
  | _ => none
def sig_laws_eqPoint : FuncId → List AV → Option Sg := sigL []
def xs_laws_eqPoint : XS := ⟨xsigL [], ysigL []⟩
theorem sig_laws_eqPoint_ok : SigOK sig_laws_eqPoint := sigL_nil
theorem xs_laws_eqPoint_ok : XSigOK xs_laws_eqPoint := ⟨xsigL_nil, ysigL_nil⟩
theorem V_laws_eqPoint (p1 : Int) (p2 : Int) (q1 : Int) (q2 : Int) : ((true = true) ∧ ((True) ∧ (True) ∧ (True) ∧ True) ∧ (true = true) ∧ ((True) ∧ (True) ∧ (True) ∧ (True) ∧ (True) ∧ True) ∧ ((bnot (ieq p1 q1)) = true → ((true = true) ∧ ((True) ∧ True) ∧ ((false : Bool) = (eqPt p1 p2 q1 q2)) ∧ True)) ∧ ((bnot (ieq p1 q1)) = false → ((true = true) ∧ ((True) ∧ (True) ∧ (True) ∧ (True) ∧ (True) ∧ True) ∧ ((bnot (ieq p2 q2)) = true → ((true = true) ∧ ((True) ∧ True) ∧ ((false : Bool) = (eqPt p1 p2 q1 q2)) ∧ True)) ∧ ((bnot (ieq p2 q2)) = false → ((true = true) ∧ ((True) ∧ True) ∧ ((true : Bool) = (eqPt p1 p2 q1 q2)) ∧ True))))) = ev sig_laws_eqPoint xs_laws_eqPoint Tryd.f62.ntmps (fun b => []) (codeOf Tryd.f62) 0 (initS [.agg [.int p1, .int p2], .agg [.int q1, .int q2]]) (retK Tryd.f62.results.toList [.s (.bool (eqPt p1 p2 q1 q2))]) := by kernel_rfl
set_option maxHeartbeats 400000 in
theorem F_laws_eqPoint : FunOK 62 g_laws_eqPoint := by
  refine fun_F (by kernel_rfl) Tryd.func62 rfl (by kernel_rfl) sig_laws_eqPoint_ok xs_laws_eqPoint_ok ?_
  intro avs sg h hn hl
  unfold g_laws_eqPoint at h
  split at h
  · rename_i p1 p2 q1 q2
    injection h with h; subst h
    refine ⟨by kernel_rfl, fun b => [], Eq.mp (V_laws_eqPoint p1 p2 q1 q2) ?_⟩
    simp only [true_and, and_true, implies_true, and_self, forall_const, true_implies, lenA, lenL, SV.lenOK, Cont.lenOK] at hn hl ⊢
    simp only [ilt_t, ilt_f, ile_t, ile_f, ieq_t, ieq_f, bnot_e, band_e, bite_and, bite_or, NLt_e, NLe_e, NNe_e, NIs_e, imax_e, imin_e, irem_e, Bool.not_eq_true', Bool.not_eq_false', Bool.and_eq_true, Bool.or_eq_true, Bool.or_eq_false_iff, Bool.and_eq_false_iff, Cont.pts.injEq, Cont.ints.injEq, Cont.bools.injEq, Cont.ptss.injEq, Cont.intss.injEq, Cont.boolss.injEq, true_and, and_true, implies_true]
    unfold eqPt
    refine ⟨fun h => by simp [h], fun h => ⟨fun h2 => by simp [h2], fun h2 => by simp [h, h2]⟩⟩
  · cases h
def g_laws_eqPointS : List AV → Option Sg
  | [.s (.view (.pts l)), .s (.view (.pts m))] => some ⟨True, [.s (.bool (eqL l m))]⟩
  | _ => none
def sig_laws_eqPointS : FuncId → List AV → Option Sg := sigL [(62, g_laws_eqPoint)]
def xs_laws_eqPointS : XS := ⟨xsigL [], ysigL []⟩
theorem sig_laws_eqPointS_ok : SigOK sig_laws_eqPointS := sigL_cons F_laws_eqPoint sigL_nil
theorem xs_laws_eqPointS_ok : XSigOK xs_laws_eqPointS := ⟨xsigL_nil, ysigL_nil⟩
theorem V_laws_eqPointS (l : List Pt) (m : List Pt) : ((true = true) ∧ ((True) ∧ True) ∧ (true = true) ∧ ((True) ∧ (True) ∧ (True) ∧ (True) ∧ (True) ∧ True) ∧ ((bnot (ieq (ilen l) (ilen m))) = true → ((true = true) ∧ ((True) ∧ True) ∧ ((false : Bool) = (eqL l m)) ∧ True)) ∧ ((bnot (ieq (ilen l) (ilen m))) = false → ((true = true) ∧ ((True) ∧ True) ∧ ∃ (I1 : List GV → Prop) (μ1 : List GV → Nat), (((true = true) ∧ (((false : Bool) = false) ∧ (((0 : Int) : Int) = (0 : Int)) ∧ ((Cont.pts l) = (Cont.pts l)) ∧ (((ilen l) : Int) = (ilen l)) ∧ ((Cont.pts m) = (Cont.pts m)) ∧ (((ilen m) : Int) = (ilen m)) ∧ (((bnot (ieq (ilen l) (ilen m))) : Bool) = (bnot (ieq (ilen l) (ilen m)))) ∧ ((Cont.pts l) = (Cont.pts l)) ∧ ((Cont.pts m) = (Cont.pts m)) ∧ True) ∧ (True)) ∧ (([GK.int, GK.bool] : List GK) = ([GK.int, GK.bool] : List GK)) ∧ I1 [GV.int (0 : Int), GV.bool false]) ∧ (∀ i1_0 : Int, ∀ b1_1 : Bool, I1 [GV.int i1_0, GV.bool b1_1] → ((true = true) ∧ ((True) ∧ (True) ∧ (True) ∧ (True) ∧ True) ∧ ((ilt i1_0 (ilen l)) = true → ((true = true) ∧ ((True) ∧ (True) ∧ (NLe 0 i1_0 ∧ NLt i1_0 (ilen l)) ∧ (True) ∧ (True) ∧ (True) ∧ (NLe 0 i1_0 ∧ NLt i1_0 (ilen m)) ∧ (True) ∧ ((True)) ∧ (True) ∧ True) ∧ ((bnot (eqPt (getx l i1_0) (gety l i1_0) (getx m i1_0) (gety m i1_0))) = true → ((true = true) ∧ ((True) ∧ True) ∧ ((false : Bool) = (eqL l m)) ∧ True)) ∧ ((bnot (eqPt (getx l i1_0) (gety l i1_0) (getx m i1_0) (gety m i1_0))) = false → ((true = true) ∧ ((True) ∧ (True) ∧ (True) ∧ True) ∧ ((true = true) ∧ (((b1_1 : Bool) = b1_1) ∧ (((iadd i1_0 (1 : Int)) : Int) = (iadd i1_0 (1 : Int))) ∧ ((Cont.pts l) = (Cont.pts l)) ∧ (((ilen l) : Int) = (ilen l)) ∧ ((Cont.pts m) = (Cont.pts m)) ∧ (((ilen m) : Int) = (ilen m)) ∧ (((bnot (ieq (ilen l) (ilen m))) : Bool) = (bnot (ieq (ilen l) (ilen m)))) ∧ ((Cont.pts l) = (Cont.pts l)) ∧ ((Cont.pts m) = (Cont.pts m)) ∧ True) ∧ (True)) ∧ ((([GK.int, GK.bool] : List GK) = ([GK.int, GK.bool] : List GK)) ∧ I1 [GV.int (iadd i1_0 (1 : Int)), GV.bool b1_1] ∧ μ1 [GV.int (iadd i1_0 (1 : Int)), GV.bool b1_1] < μ1 [GV.int i1_0, GV.bool b1_1]))))) ∧ ((ilt i1_0 (ilen l)) = false → ((true = true) ∧ ((True) ∧ True) ∧ ((true : Bool) = (eqL l m)) ∧ True))))))) = ev sig_laws_eqPointS xs_laws_eqPointS Tryd.f37.ntmps (fun b => if b == 0 then [.v 5, .v 4] else []) (codeOf Tryd.f37) 0 (initS [.s (.view (.pts l)), .s (.view (.pts m))]) (retK Tryd.f37.results.toList [.s (.bool (eqL l m))]) := by kernel_rfl
set_option maxHeartbeats 400000 in
theorem F_laws_eqPointS : FunOK 37 g_laws_eqPointS := by
  refine fun_F (by kernel_rfl) Tryd.func37 rfl (by kernel_rfl) sig_laws_eqPointS_ok xs_laws_eqPointS_ok ?_
  intro avs sg h hn hl
  unfold g_laws_eqPointS at h
  split at h
  · rename_i l m
    injection h with h; subst h
    refine ⟨by kernel_rfl, fun b => if b == 0 then [.v 5, .v 4] else [], Eq.mp (V_laws_eqPointS l m) ?_⟩
    simp only [true_and, and_true, implies_true, and_self, forall_const, true_implies, lenA, lenL, SV.lenOK, Cont.lenOK] at hn hl ⊢
    have h0 := ilen_0 l
    simp only [ilt_t, ilt_f, ile_t, ile_f, ieq_t, ieq_f, bnot_e, band_e, bite_and, bite_or, NLt_e, NLe_e, NNe_e, NIs_e, imax_e, imin_e, irem_e, Bool.not_eq_true', Bool.not_eq_false', Bool.and_eq_true, Bool.or_eq_true, Bool.or_eq_false_iff, Bool.and_eq_false_iff, Cont.pts.injEq, Cont.ints.injEq, Cont.bools.injEq, Cont.ptss.injEq, Cont.intss.injEq, Cont.boolss.injEq, true_and, and_true, implies_true]
    unfold eqL
    refine ⟨fun h => by simp [h], fun h => ?_⟩
    refine ⟨fun | .int k :: _ => 0 ≤ k ∧ k ≤ ilen l ∧ ∀ j, 0 ≤ j → j < k → eqPt (getx l j) (gety l j) (getx m j) (gety m j) = true | _ => False, fun | .int k :: _ => (ilen l - k).toNat | _ => 0, ?_, ?_⟩
    · exact ⟨Int.le_refl 0, h0, fun j h0 h1 => absurd h1 (by omega)⟩
    · rintro k _ ⟨hk0, hk1, hk⟩
      simp only [ilt_t, ilt_f, ile_t, ile_f, ieq_t, ieq_f, bnot_e, band_e, bite_and, bite_or, NLt_e, NLe_e, NNe_e, NIs_e, imax_e, imin_e, irem_e, Bool.not_eq_true', Bool.not_eq_false', Bool.and_eq_true, Bool.or_eq_true, Bool.or_eq_false_iff, Bool.and_eq_false_iff, Cont.pts.injEq, Cont.ints.injEq, Cont.bools.injEq, Cont.ptss.injEq, Cont.intss.injEq, Cont.boolss.injEq, true_and, and_true, implies_true]
      refine ⟨fun hc => ⟨⟨⟨hk0, hc⟩, hk0, by omega⟩, fun hv => ?_, fun hv => ?_⟩, fun hc => ?_⟩
      · rw [allN_no k hk0 hc hv]; simp
      · rw [iadd_1 hk0 hc hl.1]
        exact ⟨⟨by omega, by omega, allN_up hk hv⟩, by omega⟩
      · rw [allN_mk fun j h0 h1 => hk j h0 (by omega)]; simp [h]
  · cases h
def g_laws_eqPointSS : List AV → Option Sg
  | [.s (.view (.ptss l)), .s (.view (.ptss m))] => some ⟨True, [.s (.bool (eqLL l m))]⟩
  | _ => none
def sig_laws_eqPointSS : FuncId → List AV → Option Sg := sigL [(37, g_laws_eqPointS)]
def xs_laws_eqPointSS : XS := ⟨xsigL [], ysigL []⟩
theorem sig_laws_eqPointSS_ok : SigOK sig_laws_eqPointSS := sigL_cons F_laws_eqPointS sigL_nil
theorem xs_laws_eqPointSS_ok : XSigOK xs_laws_eqPointSS := ⟨xsigL_nil, ysigL_nil⟩
theorem V_laws_eqPointSS (l : List (List Pt)) (m : List (List Pt)) : ((true = true) ∧ ((True) ∧ True) ∧ (true = true) ∧ ((True) ∧ (True) ∧ (True) ∧ (True) ∧ (True) ∧ True) ∧ ((bnot (ieq (ilen l) (ilen m))) = true → ((true = true) ∧ ((True) ∧ True) ∧ ((false : Bool) = (eqLL l m)) ∧ True)) ∧ ((bnot (ieq (ilen l) (ilen m))) = false → ((true = true) ∧ ((True) ∧ True) ∧ ∃ (I1 : List GV → Prop) (μ1 : List GV → Nat), (((true = true) ∧ (((false : Bool) = false) ∧ (((0 : Int) : Int) = (0 : Int)) ∧ ((Cont.ptss l) = (Cont.ptss l)) ∧ (((ilen l) : Int) = (ilen l)) ∧ ((Cont.ptss m) = (Cont.ptss m)) ∧ (((ilen m) : Int) = (ilen m)) ∧ (((bnot (ieq (ilen l) (ilen m))) : Bool) = (bnot (ieq (ilen l) (ilen m)))) ∧ ((Cont.ptss l) = (Cont.ptss l)) ∧ ((Cont.ptss m) = (Cont.ptss m)) ∧ True) ∧ (True)) ∧ (([GK.int, GK.bool] : List GK) = ([GK.int, GK.bool] : List GK)) ∧ I1 [GV.int (0 : Int), GV.bool false]) ∧ (∀ i1_0 : Int, ∀ b1_1 : Bool, I1 [GV.int i1_0, GV.bool b1_1] → ((true = true) ∧ ((True) ∧ (True) ∧ (True) ∧ (True) ∧ True) ∧ ((ilt i1_0 (ilen l)) = true → ((true = true) ∧ ((True) ∧ (True) ∧ (NLe 0 i1_0 ∧ NLt i1_0 (ilen l)) ∧ (True) ∧ (True) ∧ (True) ∧ (NLe 0 i1_0 ∧ NLt i1_0 (ilen m)) ∧ (True) ∧ ((True)) ∧ (True) ∧ True) ∧ ((bnot (eqL (getl l i1_0) (getl m i1_0))) = true → ((true = true) ∧ ((True) ∧ True) ∧ ((false : Bool) = (eqLL l m)) ∧ True)) ∧ ((bnot (eqL (getl l i1_0) (getl m i1_0))) = false → ((true = true) ∧ ((True) ∧ (True) ∧ (True) ∧ True) ∧ ((true = true) ∧ (((b1_1 : Bool) = b1_1) ∧ (((iadd i1_0 (1 : Int)) : Int) = (iadd i1_0 (1 : Int))) ∧ ((Cont.ptss l) = (Cont.ptss l)) ∧ (((ilen l) : Int) = (ilen l)) ∧ ((Cont.ptss m) = (Cont.ptss m)) ∧ (((ilen m) : Int) = (ilen m)) ∧ (((bnot (ieq (ilen l) (ilen m))) : Bool) = (bnot (ieq (ilen l) (ilen m)))) ∧ ((Cont.ptss l) = (Cont.ptss l)) ∧ ((Cont.ptss m) = (Cont.ptss m)) ∧ True) ∧ (True)) ∧ ((([GK.int, GK.bool] : List GK) = ([GK.int, GK.bool] : List GK)) ∧ I1 [GV.int (iadd i1_0 (1 : Int)), GV.bool b1_1] ∧ μ1 [GV.int (iadd i1_0 (1 : Int)), GV.bool b1_1] < μ1 [GV.int i1_0, GV.bool b1_1]))))) ∧ ((ilt i1_0 (ilen l)) = false → ((true = true) ∧ ((True) ∧ True) ∧ ((true : Bool) = (eqLL l m)) ∧ True))))))) = ev sig_laws_eqPointSS xs_laws_eqPointSS Tryd.f13.ntmps (fun b => if b == 0 then [.v 5, .v 4] else []) (codeOf Tryd.f13) 0 (initS [.s (.view (.ptss l)), .s (.view (.ptss m))]) (retK Tryd.f13.results.toList [.s (.bool (eqLL l m))]) := by kernel_rfl
set_option maxHeartbeats 400000 in
theorem F_laws_eqPointSS : FunOK 13 g_laws_eqPointSS := by
  refine fun_F (by kernel_rfl) Tryd.func13 rfl (by kernel_rfl) sig_laws_eqPointSS_ok xs_laws_eqPointSS_ok ?_
  intro avs sg h hn hl
  unfold g_laws_eqPointSS at h
  split at h
  · rename_i l m
    injection h with h; subst h
    refine ⟨by kernel_rfl, fun b => if b == 0 then [.v 5, .v 4] else [], Eq.mp (V_laws_eqPointSS l m) ?_⟩
    simp only [true_and, and_true, implies_true, and_self, forall_const, true_implies, lenA, lenL, SV.lenOK, Cont.lenOK] at hn hl ⊢
    have h0 := ilen_0 l
    simp only [ilt_t, ilt_f, ile_t, ile_f, ieq_t, ieq_f, bnot_e, band_e, bite_and, bite_or, NLt_e, NLe_e, NNe_e, NIs_e, imax_e, imin_e, irem_e, Bool.not_eq_true', Bool.not_eq_false', Bool.and_eq_true, Bool.or_eq_true, Bool.or_eq_false_iff, Bool.and_eq_false_iff, Cont.pts.injEq, Cont.ints.injEq, Cont.bools.injEq, Cont.ptss.injEq, Cont.intss.injEq, Cont.boolss.injEq, true_and, and_true, implies_true]
    unfold eqLL
    refine ⟨fun h => by simp [h], fun h => ?_⟩
    refine ⟨fun | .int k :: _ => 0 ≤ k ∧ k ≤ ilen l ∧ ∀ j, 0 ≤ j → j < k → eqL (getl l j) (getl m j) = true | _ => False, fun | .int k :: _ => (ilen l - k).toNat | _ => 0, ?_, ?_⟩
    · exact ⟨Int.le_refl 0, h0, fun j h0 h1 => absurd h1 (by omega)⟩
    · rintro k _ ⟨hk0, hk1, hk⟩
      simp only [ilt_t, ilt_f, ile_t, ile_f, ieq_t, ieq_f, bnot_e, band_e, bite_and, bite_or, NLt_e, NLe_e, NNe_e, NIs_e, imax_e, imin_e, irem_e, Bool.not_eq_true', Bool.not_eq_false', Bool.and_eq_true, Bool.or_eq_true, Bool.or_eq_false_iff, Bool.and_eq_false_iff, Cont.pts.injEq, Cont.ints.injEq, Cont.bools.injEq, Cont.ptss.injEq, Cont.intss.injEq, Cont.boolss.injEq, true_and, and_true, implies_true]
      refine ⟨fun hc => ⟨⟨⟨hk0, hc⟩, hk0, by omega⟩, fun hv => ?_, fun hv => ?_⟩, fun hc => ?_⟩
      · rw [allN_no k hk0 hc hv]; simp
      · rw [iadd_1 hk0 hc hl.1.1]
        exact ⟨⟨by omega, by omega, allN_up hk hv⟩, by omega⟩
      · rw [allN_mk fun j h0 h1 => hk j h0 (by omega)]; simp [h]
  · cases h
def mkdI (m : List Int) (k n : Int) : Prop := ∀ j, 0 ≤ j → j < n → geti m j = k + j
def heldIE (l : List Int) (k j : Int) : Bool := decide (geti l j = k + j)
def heldIF (l : List Int) (k : Int) : Int := if allN (ilen l) (heldIE l k) then k + ilen l else -1
theorem heldIF_e {l : List Int} {k : Int} (h : mkdI l k (ilen l)) : heldIF l k = k + ilen l := by
  unfold heldIF
  rw [if_pos (allN_mk fun j j0 j1 => by unfold heldIE; simp [h j j0 j1])]
def mkB (k : Int) : Bool := decide (k.tmod 3 = 0)
def mkdB (m : List Bool) (k n : Int) : Prop := ∀ j, 0 ≤ j → j < n → getb m j = mkB (k + j)
def heldBE (l : List Bool) (k j : Int) : Bool := decide (getb l j = mkB (k + j))
def heldBF (l : List Bool) (k : Int) : Int := if allN (ilen l) (heldBE l k) then k + ilen l else -1
theorem heldBF_e {l : List Bool} {k : Int} (h : mkdB l k (ilen l)) : heldBF l k = k + ilen l := by
  unfold heldBF
  rw [if_pos (allN_mk fun j j0 j1 => by unfold heldBE; simp [h j j0 j1])]
theorem heldBE_of {l : List Bool} {k j : Int} {b : Bool} (h : bxor (getb l j) (ieq ((k + j).tmod 3) 0) = b) : heldBE l k j = !b := by
  unfold heldBE mkB
  have hi : ieq ((k + j).tmod 3) 0 = decide ((k + j).tmod 3 = 0) := by unfold ieq; rfl
  rw [hi] at h
  subst h
  cases getb l j <;> cases decide ((k + j).tmod 3 = 0) <;> (unfold bxor; rfl)
def g_laws_heldBoolS : List AV → Option Sg
  | [.s (.view (.bools l)), .s (.int k)] => some ⟨0 ≤ k ∧ k ≤ 10000000000000 ∧ ilen l ≤ 1000000000, [.s (.int (heldBF l k))]⟩
  | _ => none
def sig_laws_heldBoolS : FuncId → List AV → Option Sg := sigL []
def xs_laws_heldBoolS : XS := ⟨xsigL [], ysigL []⟩
theorem sig_laws_heldBoolS_ok : SigOK sig_laws_heldBoolS := sigL_nil
theorem xs_laws_heldBoolS_ok : XSigOK xs_laws_heldBoolS := ⟨xsigL_nil, ysigL_nil⟩
theorem V_laws_heldBoolS (l : List Bool) (k : Int) : ((true = true) ∧ ((True) ∧ True) ∧ (true = true) ∧ ((True) ∧ True) ∧ ∃ (I1 : List GV → Prop) (μ1 : List GV → Nat), (((true = true) ∧ (((k : Int) = k) ∧ (((0 : Int) : Int) = (0 : Int)) ∧ (((0 : Int) : Int) = (0 : Int)) ∧ ((Cont.bools l) = (Cont.bools l)) ∧ True) ∧ (True)) ∧ (([GK.int, GK.int, GK.int] : List GK) = ([GK.int, GK.int, GK.int] : List GK)) ∧ I1 [GV.int (0 : Int), GV.int (0 : Int), GV.int k]) ∧ (∀ i1_0 : Int, ∀ i1_1 : Int, ∀ i1_2 : Int, I1 [GV.int i1_0, GV.int i1_1, GV.int i1_2] → ((true = true) ∧ ((True) ∧ (True) ∧ (True) ∧ (True) ∧ True) ∧ ((ilt i1_0 (ilen l)) = true → ((true = true) ∧ ((True) ∧ (True) ∧ (NLe 0 i1_0 ∧ NLt i1_0 (ilen l)) ∧ (True) ∧ (True) ∧ (NNe (3 : Int) 0) ∧ (True) ∧ (True) ∧ True) ∧ ((bxor (getb l i1_0) (ieq (irem i1_2 (3 : Int)) (0 : Int))) = true → ((true = true) ∧ ((True) ∧ True) ∧ (((-1 : Int) : Int) = (heldBF l k)) ∧ True)) ∧ ((bxor (getb l i1_0) (ieq (irem i1_2 (3 : Int)) (0 : Int))) = false → ((true = true) ∧ ((True) ∧ (True) ∧ (True) ∧ True) ∧ (true = true) ∧ ((True) ∧ (True) ∧ (True) ∧ True) ∧ ((true = true) ∧ ((((iadd i1_2 (1 : Int)) : Int) = (iadd i1_2 (1 : Int))) ∧ ((i1_1 : Int) = i1_1) ∧ (((iadd i1_0 (1 : Int)) : Int) = (iadd i1_0 (1 : Int))) ∧ ((Cont.bools l) = (Cont.bools l)) ∧ True) ∧ (True)) ∧ ((([GK.int, GK.int, GK.int] : List GK) = ([GK.int, GK.int, GK.int] : List GK)) ∧ I1 [GV.int (iadd i1_0 (1 : Int)), GV.int i1_1, GV.int (iadd i1_2 (1 : Int))] ∧ μ1 [GV.int (iadd i1_0 (1 : Int)), GV.int i1_1, GV.int (iadd i1_2 (1 : Int))] < μ1 [GV.int i1_0, GV.int i1_1, GV.int i1_2]))))) ∧ ((ilt i1_0 (ilen l)) = false → ((true = true) ∧ ((True) ∧ (True) ∧ True) ∧ ((i1_2 : Int) = (heldBF l k)) ∧ True))))) = ev sig_laws_heldBoolS xs_laws_heldBoolS Tryd.f41.ntmps (fun b => if b == 0 then [.v 5, .v 4, .v 1] else []) (codeOf Tryd.f41) 0 (initS [.s (.view (.bools l)), .s (.int k)]) (retK Tryd.f41.results.toList [.s (.int (heldBF l k))]) := by kernel_rfl
set_option maxHeartbeats 400000 in
theorem F_laws_heldBoolS : FunOK 41 g_laws_heldBoolS := by
  refine fun_F (by kernel_rfl) Tryd.func41 rfl (by kernel_rfl) sig_laws_heldBoolS_ok xs_laws_heldBoolS_ok ?_
  intro avs sg h hn hl
  unfold g_laws_heldBoolS at h
  split at h
  · rename_i l k
    injection h with h; subst h
    refine ⟨by kernel_rfl, fun b => if b == 0 then [.v 5, .v 4, .v 1] else [], Eq.mp (V_laws_heldBoolS l k) ?_⟩
    simp only [true_and, and_true, implies_true, and_self, forall_const, true_implies, lenA, lenL, SV.lenOK, Cont.lenOK] at hn hl ⊢
    have h0 := ilen_0 l
    obtain ⟨n1, n2, n3⟩ := hn
    simp only [ilt_t, ilt_f, ile_t, ile_f, ieq_t, ieq_f, bnot_e, band_e, bite_and, bite_or, NLt_e, NLe_e, NNe_e, NIs_e, imax_e, imin_e, irem_e, Bool.not_eq_true', Bool.not_eq_false', Bool.and_eq_true, Bool.or_eq_true, Bool.or_eq_false_iff, Bool.and_eq_false_iff, Cont.pts.injEq, Cont.ints.injEq, Cont.bools.injEq, Cont.ptss.injEq, Cont.intss.injEq, Cont.boolss.injEq, true_and, and_true, implies_true]
    refine ⟨fun | [.int i, .int _, .int k'] => 0 ≤ i ∧ i ≤ ilen l ∧ k' = k + i ∧ (∀ j, 0 ≤ j → j < i → heldBE l k j = true) | _ => False, fun | .int i :: _ => (ilen l - i).toNat | _ => 0, ⟨Int.le_refl 0, h0, by omega, fun j h0 h1 => absurd h1 (by omega)⟩, ?_⟩
    rintro i _ k' ⟨hi0, hi1, hk, hmk⟩
    refine ⟨fun hc => ⟨⟨⟨hi0, hc⟩, by omega⟩, fun hx => ?_, fun hx => ?_⟩, fun hc => ?_⟩
    · have hE : heldBE l k i = false := by first | exact heldBE_of (b := true) (by rw [← hk]; exact hx) | exact heldBE_of (b := false) (by rw [← hk]; exact hx)
      unfold heldBF; rw [allN_no i hi0 hc hE]; rfl
    · have hE : heldBE l k i = true := by first | exact heldBE_of (b := true) (by rw [← hk]; exact hx) | exact heldBE_of (b := false) (by rw [← hk]; exact hx)
      rw [iadd_1 hi0 hc hl, iadd_e (a := k') (by omega) (by omega)]
      exact ⟨⟨by omega, by omega, by omega, upTo hmk hE⟩, by show (ilen l - (i + 1)).toNat < (ilen l - i).toNat; omega⟩
    · unfold heldBF; rw [allN_mk fun j j0 j1 => hmk j j0 (by omega)]
      rw [if_pos rfl]; omega
  · cases h
def hsB : List (List Bool) → Int → Int
  | [], k => k
  | m :: ms, k => if heldBF m k < 0 then -1 else hsB ms (heldBF m k)
theorem heldBF_cases (l : List Bool) (k : Int) : heldBF l k = k + ilen l ∨ heldBF l k = -1 := by
  unfold heldBF
  split
  · exact .inl rfl
  · exact .inr rfl
theorem hsB_drop {l : List (List Bool)} {i k : Int} (i0 : 0 ≤ i) (hi : i < ilen l) : hsB (l.drop i.toNat) k = if heldBF (getl l i) k < 0 then -1 else hsB (l.drop (i + 1).toNat) (heldBF (getl l i) k) := by
  unfold ilen at hi
  have hn : i.toNat < l.length := by omega
  have e : (i + 1).toNat = i.toNat + 1 := by omega
  have g : getl l i = l[i.toNat] := by unfold getl; simp [List.getD_eq_getElem?_getD, hn]
  rw [List.drop_eq_getElem_cons hn, e, g]
  rfl
theorem hsB_end {l : List (List Bool)} {i k : Int} (hi : ilen l ≤ i) : hsB (l.drop i.toNat) k = k := by
  unfold ilen at hi
  rw [List.drop_eq_nil_of_le (by omega)]; rfl
def g_laws_heldBoolSS : List AV → Option Sg
  | [.s (.view (.boolss l)), .s (.int k)] => some ⟨0 ≤ k ∧ k ≤ 1000000 ∧ ilen l ≤ 1048576 ∧ ∀ i, 0 ≤ i → i < ilen l → ilen (getl l i) ≤ 1048576, [.s (.int (hsB l k))]⟩
  | _ => none
def sig_laws_heldBoolSS : FuncId → List AV → Option Sg := sigL [(41, g_laws_heldBoolS)]
def xs_laws_heldBoolSS : XS := ⟨xsigL [], ysigL []⟩
theorem sig_laws_heldBoolSS_ok : SigOK sig_laws_heldBoolSS := sigL_cons F_laws_heldBoolS sigL_nil
theorem xs_laws_heldBoolSS_ok : XSigOK xs_laws_heldBoolSS := ⟨xsigL_nil, ysigL_nil⟩
theorem V_laws_heldBoolSS (l : List (List Bool)) (k : Int) : ((true = true) ∧ ((True) ∧ True) ∧ (true = true) ∧ ((True) ∧ True) ∧ ∃ (I1 : List GV → Prop) (μ1 : List GV → Nat), (((true = true) ∧ (((k : Int) = k) ∧ (((0 : Int) : Int) = (0 : Int)) ∧ (((0 : Int) : Int) = (0 : Int)) ∧ ((Cont.boolss l) = (Cont.boolss l)) ∧ True) ∧ (True)) ∧ (([GK.int, GK.int, GK.int] : List GK) = ([GK.int, GK.int, GK.int] : List GK)) ∧ I1 [GV.int (0 : Int), GV.int (0 : Int), GV.int k]) ∧ (∀ i1_0 : Int, ∀ i1_1 : Int, ∀ i1_2 : Int, I1 [GV.int i1_0, GV.int i1_1, GV.int i1_2] → ((true = true) ∧ ((True) ∧ (True) ∧ (True) ∧ (True) ∧ True) ∧ ((ilt i1_0 (ilen l)) = true → ((true = true) ∧ ((True) ∧ (True) ∧ (NLe 0 i1_0 ∧ NLt i1_0 (ilen l)) ∧ (True) ∧ (True) ∧ ((0 ≤ i1_2 ∧ i1_2 ≤ 10000000000000 ∧ ilen (getl l i1_0) ≤ 1000000000)) ∧ (True) ∧ True) ∧ (true = true) ∧ ((True) ∧ (True) ∧ True) ∧ ((ilt (heldBF (getl l i1_0) i1_2) (0 : Int)) = true → ((true = true) ∧ ((True) ∧ True) ∧ (((-1 : Int) : Int) = (hsB l k)) ∧ True)) ∧ ((ilt (heldBF (getl l i1_0) i1_2) (0 : Int)) = false → ((true = true) ∧ ((True) ∧ (True) ∧ (True) ∧ True) ∧ ((true = true) ∧ ((((heldBF (getl l i1_0) i1_2) : Int) = (heldBF (getl l i1_0) i1_2)) ∧ ((i1_1 : Int) = i1_1) ∧ (((iadd i1_0 (1 : Int)) : Int) = (iadd i1_0 (1 : Int))) ∧ ((Cont.boolss l) = (Cont.boolss l)) ∧ True) ∧ (True)) ∧ ((([GK.int, GK.int, GK.int] : List GK) = ([GK.int, GK.int, GK.int] : List GK)) ∧ I1 [GV.int (iadd i1_0 (1 : Int)), GV.int i1_1, GV.int (heldBF (getl l i1_0) i1_2)] ∧ μ1 [GV.int (iadd i1_0 (1 : Int)), GV.int i1_1, GV.int (heldBF (getl l i1_0) i1_2)] < μ1 [GV.int i1_0, GV.int i1_1, GV.int i1_2]))))) ∧ ((ilt i1_0 (ilen l)) = false → ((true = true) ∧ ((True) ∧ (True) ∧ True) ∧ ((i1_2 : Int) = (hsB l k)) ∧ True))))) = ev sig_laws_heldBoolSS xs_laws_heldBoolSS Tryd.f17.ntmps (fun b => if b == 0 then [.v 5, .v 4, .v 1] else []) (codeOf Tryd.f17) 0 (initS [.s (.view (.boolss l)), .s (.int k)]) (retK Tryd.f17.results.toList [.s (.int (hsB l k))]) := by kernel_rfl
set_option maxHeartbeats 400000 in
theorem F_laws_heldBoolSS : FunOK 17 g_laws_heldBoolSS := by
  refine fun_F (by kernel_rfl) Tryd.func17 rfl (by kernel_rfl) sig_laws_heldBoolSS_ok xs_laws_heldBoolSS_ok ?_
  intro avs sg h hn hl
  unfold g_laws_heldBoolSS at h
  split at h
  · rename_i l k
    injection h with h; subst h
    refine ⟨by kernel_rfl, fun b => if b == 0 then [.v 5, .v 4, .v 1] else [], Eq.mp (V_laws_heldBoolSS l k) ?_⟩
    simp only [true_and, and_true, implies_true, and_self, forall_const, true_implies, lenA, lenL, SV.lenOK, Cont.lenOK] at hn hl ⊢
    have hl0 := ilen_0 l
    obtain ⟨n1, n2, n3, n4⟩ := hn
    simp only [ilt_t, ilt_f, ile_t, ile_f, ieq_t, ieq_f, bnot_e, band_e, bite_and, bite_or, NLt_e, NLe_e, NNe_e, NIs_e, imax_e, imin_e, irem_e, Bool.not_eq_true', Bool.not_eq_false', Bool.and_eq_true, Bool.or_eq_true, Bool.or_eq_false_iff, Bool.and_eq_false_iff, Cont.pts.injEq, Cont.ints.injEq, Cont.bools.injEq, Cont.ptss.injEq, Cont.intss.injEq, Cont.boolss.injEq, true_and, and_true, implies_true]
    refine ⟨fun | [.int i, .int _, .int k'] => 0 ≤ i ∧ i ≤ ilen l ∧ 0 ≤ k' ∧ k' ≤ k + i * 1048576 ∧ hsB l k = hsB (l.drop i.toNat) k' | _ => False, fun | .int i :: _ => (ilen l - i).toNat | _ => 0, ⟨Int.le_refl 0, hl0, by omega, by omega, rfl⟩, ?_⟩
    rintro i _ k' ⟨hi0, hi1, hk0, hk1, he⟩
    refine ⟨fun hc => ?_, fun hc => ?_⟩
    · have hli := n4 i hi0 hc
      have hg0 := ilen_0 (getl l i)
      rw [hsB_drop hi0 hc] at he
      rcases heldBF_cases (getl l i) k' with h | h
      · rw [if_neg (by omega)] at he
        rw [iadd_1 hi0 hc (by omega)]
        refine ⟨⟨⟨hi0, hc⟩, by omega, by omega, by omega⟩, fun hx => by omega, fun hx => ⟨⟨by omega, by omega, by omega, by omega, he⟩, by show (ilen l - (i + 1)).toNat < (ilen l - i).toNat; omega⟩⟩
      · rw [if_pos (by omega)] at he
        refine ⟨⟨⟨hi0, hc⟩, by omega, by omega, by omega⟩, fun _ => he.symm, fun hx => by omega⟩
    · rw [he, hsB_end (by omega)]
  · cases h
def sig_laws_FnExactFreeCells : FuncId → List AV → Option Sg := sigL [(8, g_laws_toArm), (9, viewG g_laws_toPointSS), (7, g_spec_FreeCells), (10, g_impl_FreeCells), (11, g_laws_eqBoolSS), (12, g_laws_eqArm), (13, g_laws_eqPointSS), (17, g_laws_heldBoolSS)]
def xs_laws_FnExactFreeCells : XS := ⟨xsigL [], ysigL [(5, g_laws_szArm), (6, g_laws_szPointSS)]⟩
theorem sig_laws_FnExactFreeCells_ok : SigOK sig_laws_FnExactFreeCells := sigL_cons F_laws_toArm (sigL_cons (FunOK.view F_laws_toPointSS) (sigL_cons F_spec_FreeCells (sigL_cons F_impl_FreeCells (sigL_cons F_laws_eqBoolSS (sigL_cons F_laws_eqArm (sigL_cons F_laws_eqPointSS (sigL_cons F_laws_heldBoolSS sigL_nil)))))))
theorem xs_laws_FnExactFreeCells_ok : XSigOK xs_laws_FnExactFreeCells := ⟨xsigL_nil, ysigL_cons F_laws_szArm (ysigL_cons F_laws_szPointSS ysigL_nil)⟩
theorem to_Int_b {w : World} {v : Value} {m : List Int} (hI : GInv w) (hv : Reads (fun _ => False) w v (.ints m)) (hm : ilen m ≤ 100000000) :
    Calls Tryd.prog 29 #[v] w fun e w' => ∃ r, e = .returned r ∧ w'.ownsRow w.heap.size 3 1 r m.length (fI m) ∧ Bel w w' := by
  refine (F_laws_toIntS [.s (.view (.ints m))] _ rfl hm (fun _ => False) #[v] w ⟨fun _ h => h.elim, hI⟩ ⟨hv, trivial⟩).2.mono ?_
  rintro e w' ⟨r, rfl, ⟨xs, h1, h2⟩, hb⟩
  have h2' : xs = fI m := h2
  subst h2'
  exact ⟨r, rfl, h1, hb⟩
/-- The boxes of a copied arm. -/
structure TaS (w : World) (x1 x2 x3 y1 y2 y3 : Value) (wq : World) : Prop where
  h0 : wq.heap[w.heap.size]? = some (.cells #[x1, x2, x3] 24 (0, 0))
  h1 : wq.heap[w.heap.size + 1]? = some (.cells #[.slice none 0 0, .slice none 0 0, .slice none 0 0] 30 (0, 0))
  h2 : wq.heap[w.heap.size + 1 + 1]? = some (.cells #[y1, y2, y3] 30 (0, 0))
  be : Bel w wq
theorem TaS.bel {w : World} {x1 x2 x3 y1 y2 y3 : Value} {wq wr : World} (h : TaS w x1 x2 x3 y1 y2 y3 wq) (hb : Bel wq wr) : TaS w x1 x2 x3 y1 y2 y3 wr :=
  ⟨(hb.block _ (heap_lt h.h0)).trans h.h0, (hb.block _ (heap_lt h.h1)).trans h.h1, (hb.block _ (heap_lt h.h2)).trans h.h2, h.be.trans hb⟩
theorem TaS.set {w : World} {x1 x2 x3 y1 y2 y3 z1 z2 z3 u : Value} {wq : World} {k : Nat} (h : TaS w x1 x2 x3 y1 y2 y3 wq) (hz : (#[y1, y2, y3] : Array Value).setIfInBounds k u = #[z1, z2, z3]) : TaS w x1 x2 x3 z1 z2 z3 (wq.setCell ⟨w.heap.size + 1 + 1, k, none⟩ u) :=
  ⟨(Below.heap_setCell wq ⟨w.heap.size + 1 + 1, k, none⟩ u w.heap.size (by simp; omega)).trans h.h0, (Below.heap_setCell wq ⟨w.heap.size + 1 + 1, k, none⟩ u (w.heap.size + 1) (by simp)).trans h.h1,
   by rw [heap_setCell_same wq (w.heap.size + 1 + 1) k _ 30 _ h.h2, hz], h.be.setCell (by simp; omega) _⟩
theorem TaS.cells {w : World} {x1 x2 x3 y1 y2 y3 : Value} {wq : World} (h : TaS w x1 x2 x3 y1 y2 y3 wq) : wq.cell? ⟨w.heap.size, 0, none⟩ = some x1 ∧ wq.cell? ⟨w.heap.size, 1, none⟩ = some x2 ∧ wq.cell? ⟨w.heap.size, 2, none⟩ = some x3 ∧ wq.cell? ⟨w.heap.size + 1 + 1, 0, none⟩ = some y1 ∧ wq.cell? ⟨w.heap.size + 1 + 1, 1, none⟩ = some y2 ∧ wq.cell? ⟨w.heap.size + 1 + 1, 2, none⟩ = some y3 :=
  ⟨cell_of_row wq _ 0 _ _ _ h.h0, cell_of_row wq _ 1 _ _ _ h.h0, cell_of_row wq _ 2 _ _ _ h.h0, cell_of_row wq _ 0 _ _ _ h.h2, cell_of_row wq _ 1 _ _ _ h.h2, cell_of_row wq _ 2 _ _ _ h.h2⟩
theorem TaS.open_ {w : World} {x1 x2 x3 y1 y2 y3 : Value} {wq : World} (h : TaS w x1 x2 x3 y1 y2 y3 wq) (k : Nat) : wq.frozen? ⟨w.heap.size + 1 + 1, k, none⟩ = false := by
  have := h.h2
  simp [World.frozen?, this]
theorem TaS.open1 {w : World} {x1 x2 x3 y1 y2 y3 : Value} {wq : World} (h : TaS w x1 x2 x3 y1 y2 y3 wq) (k : Nat) : wq.frozen? ⟨w.heap.size + 1, k, none⟩ = false := by
  have := h.h1
  simp [World.frozen?, this]
set_option maxHeartbeats 1000000 in
theorem toArm_own {w : World} {x1 x2 x3 : Value} {a1 a2 a3 : List Int} (hI : GInv w) (h1 : Reads (fun _ => False) w x1 (.ints a1)) (h2 : Reads (fun _ => False) w x2 (.ints a2)) (h3 : Reads (fun _ => False) w x3 (.ints a3)) (n1 : ilen a1 ≤ 100000000) (n2 : ilen a2 ≤ 100000000) (n3 : ilen a3 ≤ 100000000) :
    Calls Tryd.prog 8 #[.agg #[x1, x2, x3]] w fun e w' => ∃ r1 r2 r3, e = .returned (.agg #[r1, r2, r3]) ∧ Arm3 w.heap.size w' r1 r2 r3 a1 a2 a3 ∧ Bel w w' := by
  have f1 : ∃ A c, x1 = .slice A a1.length c := by obtain ⟨_, ⟨A, c, e, _⟩, _⟩ := h1; exact ⟨A, c, e⟩
  have f2 : ∃ A c, x2 = .slice A a2.length c := by obtain ⟨_, ⟨A, c, e, _⟩, _⟩ := h2; exact ⟨A, c, e⟩
  have f3 : ∃ A c, x3 = .slice A a3.length c := by obtain ⟨_, ⟨A, c, e, _⟩, _⟩ := h3; exact ⟨A, c, e⟩
  obtain ⟨B1, d1, rfl⟩ := f1
  obtain ⟨B2, d2, rfl⟩ := f2
  obtain ⟨B3, d3, rfl⟩ := f3
  have HC1 := Lib.hid (fun (wq : World) (hq : Bel w wq) => to_Int_b (ginv_bel0 hI hq) (reads_old h1 hq) n1)
  have HC2 := Lib.hid (fun (wq : World) (hq : Bel w wq) => to_Int_b (ginv_bel0 hI hq) (reads_old h2 hq) n2)
  have HC3 := Lib.hid (fun (wq : World) (hq : Bel w wq) => to_Int_b (ginv_bel0 hI hq) (reads_old h3 hq) n3)
  have hT0 : TaS w (.slice B1 a1.length d1) (.slice B2 a2.length d2) (.slice B3 a3.length d3) (.slice none 0 0) (.slice none 0 0) (.slice none 0 0) (((w.alloc (.cells #[.slice B1 a1.length d1, .slice B2 a2.length d2, .slice B3 a3.length d3] 24)).alloc (.cells #[.slice none 0 0, .slice none 0 0, .slice none 0 0] 30)).alloc (.cells #[.slice none 0 0, .slice none 0 0, .slice none 0 0] 30)) := by
    refine ⟨?_, ?_, ?_, (((Bel.refl w).alloc _).alloc _).alloc _⟩
    · rw [heap_alloc_old _ _ (by simp; omega), heap_alloc_old _ _ (by simp)]; exact heap_alloc_new w _
    · rw [heap_alloc_old _ _ (by simp)]
      have := heap_alloc_new (w.alloc (.cells #[.slice B1 a1.length d1, .slice B2 a2.length d2, .slice B3 a3.length d3] 24)) (.cells #[.slice none 0 0, .slice none 0 0, .slice none 0 0] 30)
      simpa using this
    · have := heap_alloc_new ((w.alloc (.cells #[.slice B1 a1.length d1, .slice B2 a2.length d2, .slice B3 a3.length d3] 24)).alloc (.cells #[.slice none 0 0, .slice none 0 0, .slice none 0 0] 30)) (.cells #[.slice none 0 0, .slice none 0 0, .slice none 0 0] 30)
      simpa using this
  have HT0 := Lib.hid hT0
  clear h1 h2 h3 hT0
  go_enter Tryd.func8, Tryd.ntmps8
  go_wp2_with (go_at_call 29; first
    | (refine (HC3.out _ HS2.out.be).mono ?_; rintro e w3 ⟨r3, rfl, o3, b3⟩; obtain ⟨A3, c3, rfl⟩ := own_form o3; have hT3 := HS2.out.bel b3; obtain ⟨e30, e31, e32, e33, e34, e35⟩ := hT3.cells; have e36 := hT3.open_ 2; have HS3 := Lib.hid (hT3.set (k := 2) (u := .slice A3 a3.length c3) rfl); clear hT3; have hz := HS3.out; obtain ⟨z30, z31, z32, z33, z34, z35⟩ := hz.cells; have z36 := cell_of_row _ _ 0 _ _ _ hz.h1; have z37 := cell_of_row _ _ 1 _ _ _ hz.h1; have z38 := cell_of_row _ _ 2 _ _ _ hz.h1; have z39 := hz.open1 0; have z3a := hz.open1 1; have z3b := hz.open1 2; clear hz; have P3 := Lib.hid o3; have G3 := Lib.hid b3; clear o3 b3)
    | (refine (HC2.out _ HS1.out.be).mono ?_; rintro e w2 ⟨r2, rfl, o2, b2⟩; obtain ⟨A2, c2, rfl⟩ := own_form o2; have hT2 := HS1.out.bel b2; obtain ⟨e20, e21, e22, e23, e24, e25⟩ := hT2.cells; have e26 := hT2.open_ 1; have HS2 := Lib.hid (hT2.set (k := 1) (u := .slice A2 a2.length c2) rfl); clear hT2; obtain ⟨z20, z21, z22, z23, z24, z25⟩ := HS2.out.cells; have P2 := Lib.hid o2; have G2 := Lib.hid b2; clear o2 b2)
    | (refine (HC1.out _ HT0.out.be).mono ?_; rintro e w1 ⟨r1, rfl, o1, b1⟩; obtain ⟨A1, c1, rfl⟩ := own_form o1; have hT1 := HT0.out.bel b1; obtain ⟨e10, e11, e12, e13, e14, e15⟩ := hT1.cells; have e16 := hT1.open_ 0; have HS1 := Lib.hid (hT1.set (k := 0) (u := .slice A1 a1.length c1) rfl); clear hT1; obtain ⟨z10, z11, z12, z13, z14, z15⟩ := HS1.out.cells; have P1 := Lib.hid o1; have G1 := Lib.hid b1; clear o1 b1))
  clear z30 z31 z32 z33 z34 z35 z36 z37 z38 z39 z3a z3b z20 z21 z22 z23 z24 z25 z10 z11 z12 z13 z14 z15 e10 e11 e12 e13 e14 e15 e16 e20 e21 e22 e23 e24 e25 e26 e30 e31 e32 e33 e34 e35 e36
  have s0 := heap_setCell_same _ (w.heap.size + 1) 0 _ 30 (.slice A1 a1.length c1) HS3.out.h1
  have s1 := heap_setCell_same _ (w.heap.size + 1) 1 _ 30 (.slice A2 a2.length c2) s0
  have s2 := heap_setCell_same _ (w.heap.size + 1) 2 _ 30 (.slice A3 a3.length c3) s1
  have hbe : Bel w ((((w3.setCell ⟨w.heap.size + 1 + 1, 2, none⟩ (.slice A3 a3.length c3)).setCell ⟨w.heap.size + 1, 0, none⟩ (.slice A1 a1.length c1)).setCell ⟨w.heap.size + 1, 1, none⟩ (.slice A2 a2.length c2)).setCell ⟨w.heap.size + 1, 2, none⟩ (.slice A3 a3.length c3)) := ((HS3.out.be.setCell (by simp) _).setCell (by simp) _).setCell (by simp) _
  have q1 : ∀ b, Value.ownBlock (.slice A1 a1.length c1) = some b → w.heap.size + 3 ≤ b ∧ b < w1.heap.size := fun b hb => by have := P1.out.lt b hb; simp at this; omega
  have g2 := G2.out.size
  have g3 := G3.out.size
  rw [set_size] at g2 g3
  have hs1 : w.heap.size + 3 ≤ w1.heap.size := by have := G1.out.size; simp at this; omega
  have q2 : ∀ b, Value.ownBlock (.slice A2 a2.length c2) = some b → w1.heap.size ≤ b ∧ b < w2.heap.size := fun b hb => by have := P2.out.lt b hb; rw [set_size] at this; omega
  have q3 : ∀ b, Value.ownBlock (.slice A3 a3.length c3) = some b → w2.heap.size ≤ b ∧ b < w3.heap.size := fun b hb => by have := P3.out.lt b hb; rw [set_size] at this; omega
  have fin : ∀ {v : Value} {a : List Int}, (w3.setCell ⟨w.heap.size + 1 + 1, 2, none⟩ (.slice A3 a3.length c3)).ownsRow w.heap.size 3 1 v a.length (fI a) → (∀ b, v.ownBlock = some b → w.heap.size + 3 ≤ b) →
      ((((w3.setCell ⟨w.heap.size + 1 + 1, 2, none⟩ (.slice A3 a3.length c3)).setCell ⟨w.heap.size + 1, 0, none⟩ (.slice A1 a1.length c1)).setCell ⟨w.heap.size + 1, 1, none⟩ (.slice A2 a2.length c2)).setCell ⟨w.heap.size + 1, 2, none⟩ (.slice A3 a3.length c3)).ownsRow w.heap.size 3 1 v a.length (fI a) := fun h hv =>
    own_set (own_set (own_set h fun b hb => by have := hv b hb; omega) fun b hb => by have := hv b hb; omega) fun b hb => by have := hv b hb; omega
  have r1 := fin (own_set (own_bel (own_set (own_bel (own_set (own_base P1.out (by simp; omega)) fun b hb => by have := q1 b hb; omega) G2.out) fun b hb => by have := q1 b hb; omega) G3.out) fun b hb => by have := q1 b hb; omega) (fun b hb => (q1 b hb).1)
  have r2 := fin (own_set (own_bel (own_set (own_base P2.out (by rw [set_size]; omega)) fun b hb => by have := q2 b hb; omega) G3.out) fun b hb => by have := q2 b hb; omega) (fun b hb => by have := q2 b hb; omega)
  have r3 := fin (own_set (own_base P3.out (by rw [set_size]; omega)) fun b hb => by have := q3 b hb; omega) (fun b hb => by have := q3 b hb; omega)
  generalize ((((w3.setCell ⟨w.heap.size + 1 + 1, 2, none⟩ (.slice A3 a3.length c3)).setCell ⟨w.heap.size + 1, 0, none⟩ (.slice A1 a1.length c1)).setCell ⟨w.heap.size + 1, 1, none⟩ (.slice A2 a2.length c2)).setCell ⟨w.heap.size + 1, 2, none⟩ (.slice A3 a3.length c3)) = Wf at s2 hbe r1 r2 r3 ⊢
  have e0 : Wf.cell? ⟨w.heap.size + 1, 0, none⟩ = some (.slice A1 a1.length c1) := cell_of_row _ _ 0 _ _ _ s2
  have e1 : Wf.cell? ⟨w.heap.size + 1, 1, none⟩ = some (.slice A2 a2.length c2) := cell_of_row _ _ 1 _ _ _ s2
  have e2 : Wf.cell? ⟨w.heap.size + 1, 2, none⟩ = some (.slice A3 a3.length c3) := cell_of_row _ _ 2 _ _ _ s2
  exact bodyPost_ret (v := .agg #[.slice A1 a1.length c1, .slice A2 a2.length c2, .slice A3 a3.length c3]) (by simp [results, Tryd.results8, go_sem, e0, e1, e2]) rfl ⟨_, _, _, rfl, ⟨r1, r2, r3, fun b hb hv => by have := q1 b hb; have := q2 b hv; omega, fun b hb hv => by have := q1 b hb; have := q3 b hv; omega, fun b hb hv => by have := q2 b hb; have := q3 b hv; omega⟩, hbe⟩
end Go.Proofs.YtejiomhoflnboaaDoor

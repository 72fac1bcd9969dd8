/- 'FnFirstContact': for every code both sides tell the same first contact of drawn rows; all rows before it are clear, and it is not; without a contact all rows are clear. Conditions: none. -/
import Derived.Test.YtdkpnlhcodogeaaDoorFnFirstContactP2
namespace Go.Proofs.YtdkpnlhcodogeaaDoor
open Go.ChangeShapes Go.WideShapes Go.ChangeAt Go.RowKit
set_option maxRecDepth 100000
set_option linter.unusedSimpArgs false
set_option linter.unusedVariables false
def g_impl_ArmClear : List AV → Option Sg
  | [.agg [.view (.ints a1), .view (.ints a2), .view (.ints a3)], .s (.view (.ints j)), .s (.view (.ptss l))] => some ⟨True, [.s (.bool (jvB a1 a2 a3 j && sceneB l && acB a1 j l))]⟩
  | _ => none
def sig_impl_ArmClear : FuncId → List AV → Option Sg := sigL [(48, g_impl_JointsValid), (62, g_impl_SceneValid), (63, g_impl_armClear)]
def xs_impl_ArmClear : XS := ⟨xsigL [], ysigL []⟩
theorem sig_impl_ArmClear_ok : SigOK sig_impl_ArmClear := sigL_cons F_impl_JointsValid (sigL_cons F_impl_SceneValid (sigL_cons F_impl_armClear sigL_nil))
theorem xs_impl_ArmClear_ok : XSigOK xs_impl_ArmClear := ⟨xsigL_nil, ysigL_nil⟩
theorem V_impl_ArmClear (a1 : List Int) (a2 : List Int) (a3 : List Int) (j : List Int) (l : List (List Pt)) : ((true = true) ∧ ((True) ∧ (True) ∧ True) ∧ (true = true) ∧ ((True) ∧ (True) ∧ ((True)) ∧ (True) ∧ (NIs (jvB a1 a2 a3 j) true → True) ∧ (NIs (jvB a1 a2 a3 j) true → (True)) ∧ (True) ∧ (True) ∧ (NIs (bite (jvB a1 a2 a3 j) (sceneB l) false) true → True) ∧ (NIs (bite (jvB a1 a2 a3 j) (sceneB l) false) true → True) ∧ (NIs (bite (jvB a1 a2 a3 j) (sceneB l) false) true → True) ∧ (NIs (bite (jvB a1 a2 a3 j) (sceneB l) false) true → ((jvB a1 a2 a3 j = true ∧ sceneB l = true))) ∧ (True) ∧ (True) ∧ True) ∧ (((bite (bite (jvB a1 a2 a3 j) (sceneB l) false) (acB a1 j l) false) : Bool) = (jvB a1 a2 a3 j && sceneB l && acB a1 j l)) ∧ True) = ev sig_impl_ArmClear xs_impl_ArmClear Tryd.f19.ntmps (fun b => []) (codeOf Tryd.f19) 0 (initS [.agg [.view (.ints a1), .view (.ints a2), .view (.ints a3)], .s (.view (.ints j)), .s (.view (.ptss l))]) (retK Tryd.f19.results.toList [.s (.bool (jvB a1 a2 a3 j && sceneB l && acB a1 j l))]) := by kernel_rfl
set_option maxHeartbeats 400000 in
theorem F_impl_ArmClear : FunOK 19 g_impl_ArmClear := by
  refine fun_F (by kernel_rfl) Tryd.func19 rfl (by kernel_rfl) sig_impl_ArmClear_ok xs_impl_ArmClear_ok ?_
  intro avs sg h hn hl
  unfold g_impl_ArmClear at h
  split at h
  · rename_i a1 a2 a3 j l
    injection h with h; subst h
    refine ⟨by kernel_rfl, fun b => [], Eq.mp (V_impl_ArmClear a1 a2 a3 j l) ?_⟩
    simp only [true_and, and_true, implies_true, and_self, forall_const, true_implies, lenA, lenL, SV.lenOK, Cont.lenOK] at hn hl ⊢
    simp only [ilt_t, ilt_f, ile_t, ile_f, ieq_t, ieq_f, bnot_e, band_e, bite_and, bite_or, NLt_e, NLe_e, NNe_e, NIs_e, imax_e, imin_e, irem_e, Bool.not_eq_true', Bool.not_eq_false', Bool.and_eq_true, Bool.or_eq_true, Bool.or_eq_false_iff, Bool.and_eq_false_iff, Cont.pts.injEq, Cont.ints.injEq, Cont.bools.injEq, Cont.ptss.injEq, Cont.intss.injEq, Cont.boolss.injEq, true_and, and_true, implies_true]
    exact fun h => h
  · cases h
theorem reads_bel {L0 : Nat → Prop} {w w' : World} {v : Value} {c : Cont} (h : Reads L0 w v c) (hb : Bel w w') : Reads L0 w' v c :=
  Reads.evo (E := EL L0) (E' := EL L0) (grown_evo (bel_grown hb)) h
theorem hasL_bel {L0 : Nat → Prop} {w w' : World} {vs : List Value} {l : List SV} (hb : Bel w w') (h : hasL (EL L0) w vs l) : hasL (EL L0) w' vs l :=
  hasL_evo (grown_evo (bel_grown hb)) (fun _ _ _ _ => rfl) h
theorem ltI_bel {L0 : Nat → Prop} {w w' : World} (h : LtI L0 w) (hb : Bel w w') : LtI L0 w' := h.grow (bel_grown hb) (fun b e => by cases e)
/-- The closure: a row of which the arm is not clear. -/
theorem clo_x {L0 : Nat → Prop} {w : World} {a1 a2 a3 m : List Int} {l : List (List Pt)} {x1 x2 x3 vl vr : Value} {g1 g2 : Nat} {e1 e2 : TypeId} (hL : LtI L0 w)
    (h1 : w.heap[g1]? = some (.cells #[x1, x2, x3] e1 (0, 0))) (h2 : w.heap[g2]? = some (.cells #[vl] e2 (0, 0)))
    (hA : hasL (EL L0) w [x1, x2, x3] [.view (.ints a1), .view (.ints a2), .view (.ints a3)]) (hl : Reads L0 w vl (.ptss l)) (hr : Reads L0 w vr (.ints m)) :
    Calls Tryd.prog 80 #[vr, .pointer (some ⟨g1, 0, none⟩), .pointer (some ⟨g2, 0, none⟩)] w fun e w' => e = .returned (.bool (!fcE a1 a2 a3 l m)) ∧ Bel w w' := by
  have c1 : w.cell? ⟨g1, 0, none⟩ = some x1 := cell_of_row w g1 0 _ _ _ h1
  have c2 : w.cell? ⟨g1, 1, none⟩ = some x2 := cell_of_row w g1 1 _ _ _ h1
  have c3 : w.cell? ⟨g1, 2, none⟩ = some x3 := cell_of_row w g1 2 _ _ _ h1
  have c4 : w.cell? ⟨g2, 0, none⟩ = some vl := cell_of_row w g2 0 _ _ _ h2
  have hc := F_impl_ArmClear [.agg [.view (.ints a1), .view (.ints a2), .view (.ints a3)], .s (.view (.ints m)), .s (.view (.ptss l))] _ rfl trivial L0 #[.agg #[x1, x2, x3], vr, vl] w hL ⟨⟨_, rfl, hA⟩, hr, hl, trivial⟩
  have HC := Lib.hid hc.2
  clear hc h1 h2 hA hl hr hL
  go_enter Tryd.func80, Tryd.ntmps80
  go_wp2_with (go_at_call 19; refine HC.out.mono ?_; rintro e w' ⟨v, rfl, hv, hb⟩; obtain rfl : v = .bool (fcE a1 a2 a3 l m) := hv)
  go_ret
  exact ⟨rfl, by assumption⟩
set_option maxHeartbeats 1000000 in
theorem idx_x {L0 : Nat → Prop} {w : World} {a1 a2 a3 : List Int} {r : List (List Int)} {l : List (List Pt)} {x1 x2 x3 vl vr : Value} {g1 g2 : Nat} {e1 e2 : TypeId} (hL : LtI L0 w)
    (h1 : w.heap[g1]? = some (.cells #[x1, x2, x3] e1 (0, 0))) (h2 : w.heap[g2]? = some (.cells #[vl] e2 (0, 0)))
    (hA : hasL (EL L0) w [x1, x2, x3] [.view (.ints a1), .view (.ints a2), .view (.ints a3)]) (hl : Reads L0 w vl (.ptss l)) (hr : Reads L0 w vr (.intss r)) :
    Calls Tryd.prog 79 #[vr, .func (.func 80) #[] #[.pointer (some ⟨g1, 0, none⟩), .pointer (some ⟨g2, 0, none⟩)]] w fun e w' => e = .returned (.int .i64 (firstN (ilen r) (fun i => fcE a1 a2 a3 l (getl r i)))) ∧ Bel w w' := by
  have hlt1 := heap_lt h1
  have hlt2 := heap_lt h2
  obtain ⟨xs, ⟨A, cap, rfl, hc1, hc2, hxl, hcell⟩, hxn, hin⟩ := hr
  have hm : maxLen = 9223372036854775807 := by decide
  have hn : r.length ≤ 9223372036854775807 := by have : r.length ≤ cap := hc1; omega
  have hxl' : xs.length = r.length := by rw [hxl]; show r.length * 1 = _; omega
  have hcell' : 0 < r.length → ∃ b off, A = some ⟨b, off, none⟩ ∧ b < w.heap.size ∧ ¬ L0 b ∧ ∀ (j : Nat) (u : Value), xs[j]? = some u → w.cell? ⟨b, off + j, none⟩ = some u := hcell
  have hc1' : r.length ≤ cap := hc1
  clear hcell hc1 hxl
  show Calls _ _ #[.slice A r.length cap, _] _ _
  have eg : ∀ args w, (callFunc 80 args).run Tryd.prog w = .ok (.enter 80 args) w := enters_of Tryd.func80 (by kernel_rfl) rfl
  go_enter Tryd.func79, Tryd.ntmps79
  go_wp2
  go_loopw [8] (fun i wr => ∃ k : Nat, k ≤ r.length ∧ i = .int .i64 k ∧ (∀ j : Int, 0 ≤ j → j < k → fcE a1 a2 a3 l (getl r j) = true) ∧ Bel w wr) (fun i _ => r.length - (intOf i).toNat)
  case atStart => exact ⟨0, Nat.zero_le _, rfl, fun j j0 j1 => by omega, Bel.refl _⟩
  case round =>
    obtain ⟨k, hk, rfl, hall, hb⟩ := hrel
    by_cases hlt : k < r.length
    · obtain ⟨b, off, rfl, hbs, hbl, hcell⟩ := hcell' (by omega)
      have hk2 : k < xs.length := by omega
      have c1 := hb.cell hbs (hcell k _ (List.getElem?_eq_getElem hk2))
      have hrow : Reads L0 w xs[k] (.ints r[k]) := ⟨_, hin k _ _ (List.getElem?_eq_getElem hk2) (List.getElem?_eq_getElem hlt), rfl⟩
      have eg1 : getl r k = r[k] := by unfold getl; simp [List.getD_eq_getElem?_getD, hlt]
      have hcl := fun (wq : World) (hq : Bel w wq) => clo_x (ltI_bel hL hq) ((hq.block g1 hlt1).trans h1) ((hq.block g2 hlt2).trans h2) (hasL_bel hq hA) (reads_bel hl hq) (reads_bel hrow hq)
      have HCL := Lib.hid hcl
      have HB := Lib.hid hb
      clear hcl hcell hcell' hin hA hl hrow h1 h2
      go_wp2_with (go_at_call 80; refine (HCL.out _ (by first | exact HB.out | exact HB.out.drew)).mono ?_; rintro e w1 ⟨rfl, hb1⟩)
      · have h : (!fcE a1 a2 a3 l r[k]) = true := by assumption
        go_ret
        refine ⟨ret_int (firstN_at (by omega) (by unfold ilen; omega) (by rw [eg1]; simpa using h) hall).symm, (by repeat (first | assumption | exact Bel.refl _ | refine Bel.alloc ?_ _ | refine Bel.drew ?_ | refine Bel.drewN ?_ _ | (apply Bel.snart; assumption)))⟩
      · have h : (!fcE a1 a2 a3 l r[k]) = false := by assumption
        have h' : fcE a1 a2 a3 l r[k] = true := by simpa using h
        clear h
        go_roundw
        case rel => exact ⟨k + 1, by omega, by go_num, fun j j0 j1 => by
          by_cases hj : j < k
          · exact hall j j0 hj
          · rw [show j = (k : Int) by omega, eg1]; exact h', (by repeat (first | assumption | exact Bel.refl _ | refine Bel.alloc ?_ _ | refine Bel.drew ?_ | refine Bel.drewN ?_ _ | (apply Bel.snart; assumption)))⟩
        case measure => simp [intOf]; omega
    · go_wp2
      go_ret
      refine ⟨ret_int (firstN_no fun j j0 j1 => hall j j0 (by unfold ilen at j1; omega)).symm, hb⟩
set_option maxHeartbeats 1000000 in
theorem fc_x {L0 : Nat → Prop} {w : World} {a1 a2 a3 : List Int} {r : List (List Int)} {l : List (List Pt)} {x1 x2 x3 vl vr : Value} (hL : LtI L0 w)
    (hA : hasL (EL L0) w [x1, x2, x3] [.view (.ints a1), .view (.ints a2), .view (.ints a3)]) (hl : Reads L0 w vl (.ptss l)) (hr : Reads L0 w vr (.intss r)) :
    Calls Tryd.prog 33 #[.agg #[x1, x2, x3], vr, vl] w fun e w' => e = .returned (.int .i64 (fcF a1 a2 a3 r l)) ∧ Bel w w' := by
  have hmf : ∀ (fn : Fn) (first cap : Array Value) (w : World), (Instr.makeFunc fn first cap).run Tryd.prog w = .ok (.func fn first cap) w := fun _ _ _ _ => rfl
  obtain ⟨A, cap, hvr, hcap⟩ : ∃ A cap, vr = .slice A r.length cap ∧ r.length ≤ 9223372036854775807 := by
    obtain ⟨xs, ⟨A, cap, e, q1, q2, _⟩, _⟩ := hr
    have hm : maxLen = 9223372036854775807 := by decide
    have q1' : r.length ≤ cap := q1
    exact ⟨A, cap, e, by omega⟩
  obtain ⟨B, capB, hvl⟩ : ∃ B capB, vl = .slice B l.length capB := by
    obtain ⟨xs, ⟨B, capB, e, _⟩, _⟩ := hl
    exact ⟨B, capB, e⟩
  obtain ⟨W, hW⟩ : ∃ W, W = (w.alloc (.cells #[x1, x2, x3] 25 (0, 0))).alloc (.cells #[vl] 26 (0, 0)) := ⟨_, rfl⟩
  have hWb : Bel w W := by rw [hW]; exact ((Bel.refl w).alloc _).alloc _
  have b1 : W.heap[w.heap.size]? = some (.cells #[x1, x2, x3] 25 (0, 0)) := by
    rw [hW]
    show ((w.heap.push _).push _)[w.heap.size]? = _
    rw [Array.getElem?_push, if_neg (by rw [Array.size_push]; omega), Array.getElem?_push, if_pos rfl]
  have b2 : W.heap[w.heap.size + 1]? = some (.cells #[vl] 26 (0, 0)) := by
    rw [hW]
    show ((w.heap.push _).push _)[w.heap.size + 1]? = _
    rw [Array.getElem?_push, if_pos (by rw [Array.size_push])]
  have hav := F_impl_ArmValid [.agg [.view (.ints a1), .view (.ints a2), .view (.ints a3)]] _ rfl trivial
  have hsv := F_impl_SceneValid [.s (.view (.ptss l))] _ rfl trivial
  have HAV := Lib.hid (fun (wq : World) (hq : Bel W wq) => (hav L0 #[.agg #[x1, x2, x3]] wq (ltI_bel hL (hWb.trans hq)) ⟨⟨_, rfl, hasL_bel (hWb.trans hq) hA⟩, trivial⟩).2)
  have HSV := Lib.hid (fun (wq : World) (hq : Bel W wq) => (hsv L0 #[vl] wq (ltI_bel hL (hWb.trans hq)) ⟨reads_bel hl (hWb.trans hq), trivial⟩).2)
  have HIX := Lib.hid (fun (wq : World) (hq : Bel W wq) => idx_x (vr := vr) (ltI_bel hL (hWb.trans hq)) ((hq.block _ (heap_lt b1)).trans b1) ((hq.block _ (heap_lt b2)).trans b2) (hasL_bel (hWb.trans hq) hA) (reads_bel hl (hWb.trans hq)) (reads_bel hr (hWb.trans hq)))
  have CB := Lib.hid (fun (wq : World) (hq : Bel W wq) => (cell_of_row wq (w.heap.size + 1) 0 _ _ _ ((hq.block _ (heap_lt b2)).trans b2) : wq.cell? ⟨w.heap.size + 1, 0, none⟩ = some vl))
  have HB := Lib.hid hWb
  clear hav hsv hA hl hr hL
  subst hvr
  subst hW
  subst hvl
  have e400 : ∀ n : Nat, decide ((400 : Int) < n) = !decide ((n : Int) ≤ 400) := fun n => by
    by_cases h : (400 : Int) < n <;> simp [h] <;> omega
  clear b1 b2 hWb
  cases hA : armB a1 a2 a3
  all_goals cases hS : sceneB l
  all_goals by_cases h4 : r.length ≤ 400
  all_goals
    go_enter Tryd.func33, Tryd.ntmps33
    go_wp2_with (first
      | (go_at_call 66; refine (HAV.out _ (by first | exact Bel.refl _ | assumption)).mono ?_; rintro e wa ⟨v, rfl, hv, hba⟩; obtain rfl : v = .bool (armB a1 a2 a3) := hv; rw [hA]; have cB := CB.out _ hba)
      | (go_at_call 62; refine (HSV.out _ (by assumption)).mono ?_; rintro e wb ⟨v, rfl, hv, hbb⟩; obtain rfl : v = .bool (sceneB l) := hv; rw [hS])
      | (go_at_call 79; refine (HIX.out _ (by apply Bel.trans <;> assumption)).mono ?_; rintro e wc ⟨rfl, hbc⟩))
  all_goals have HB2 := HB.out
  all_goals go_ret
  all_goals refine ⟨ret_int ?_, ?_⟩
  all_goals first
    | (show _ = fcF _ _ _ _ _; unfold fcF; rw [hA]; simp; done)
    | (show _ = fcF _ _ _ _ _; unfold fcF; rw [hA, hS]; simp; done)
    | (show (-2 : Int) = fcF _ _ _ _ _; have q : (!decide ((r.length : Int) ≤ 400)) = true := by assumption
       have q2 : ¬ ilen r ≤ 400 := by (unfold ilen; simpa using q)
       unfold fcF; rw [hA, hS]; simp [q2]; done)
    | (show firstN _ _ = fcF _ _ _ _ _; have q : (!decide ((r.length : Int) ≤ 400)) = false := by assumption
       have q2 : ilen r ≤ 400 := by (unfold ilen; simpa using q)
       unfold fcF; rw [hA, hS]; simp [q2]; done)
    | (apply Bel.trans HB2; first | assumption | (apply Bel.trans; assumption; assumption) | (apply Bel.trans; assumption; apply Bel.trans; assumption; assumption))


theorem F_impl_FirstContact : FunOK 33 g_impl_FirstContact := by
  intro avs sg hg hn L0 args w hL hA
  refine ⟨callFunc_enter Tryd.func33 (by kernel_rfl) (by kernel_rfl) _ w, ?_⟩
  unfold g_impl_FirstContact at hg
  split at hg
  · rename_i a1 a2 a3 r l
    injection hg with hg; subst hg
    obtain ⟨al⟩ := args
    match al, hA with
    | [va, vr, vl], hA =>
      obtain ⟨⟨cs, e1, h1⟩, h2, h3, _⟩ := hA
      obtain ⟨cl⟩ := cs
      match cl, h1 with
      | [x1, x2, x3], h1 =>
        subst e1
        refine (fc_x hL h1 h3 h2).mono ?_
        rintro e w' ⟨rfl, hb⟩
        exact ⟨_, rfl, rfl, hb⟩
  · cases hg
def g_spec_ArmValid : List AV → Option Sg
  | [.agg [.view (.ints a1), .view (.ints a2), .view (.ints a3)]] => some ⟨True, [.s (.bool (armB a1 a2 a3))]⟩
  | _ => none
def sig_spec_ArmValid : FuncId → List AV → Option Sg := sigL [(82, g_spec_l1In)]
def xs_spec_ArmValid : XS := ⟨xsigL [], ysigL []⟩
theorem sig_spec_ArmValid_ok : SigOK sig_spec_ArmValid := sigL_cons F_spec_l1In sigL_nil
theorem xs_spec_ArmValid_ok : XSigOK xs_spec_ArmValid := ⟨xsigL_nil, ysigL_nil⟩
theorem V_spec_ArmValid (a1 : List Int) (a2 : List Int) (a3 : List Int) : ((true = true) ∧ ((True) ∧ (True) ∧ True) ∧ (true = true) ∧ ((True) ∧ (True) ∧ (True) ∧ (True) ∧ True) ∧ (true = true) ∧ ((True) ∧ ((True)) ∧ (True) ∧ (True) ∧ (NIs (bnot (inB (ilen a1) (1 : Int) (4 : Int))) false → True) ∧ (NIs (bnot (inB (ilen a1) (1 : Int) (4 : Int))) false → True) ∧ (NIs (bnot (inB (ilen a1) (1 : Int) (4 : Int))) false → True) ∧ (NIs (bnot (inB (ilen a1) (1 : Int) (4 : Int))) false → True) ∧ (NIs (bnot (inB (ilen a1) (1 : Int) (4 : Int))) false → True) ∧ (True) ∧ (True) ∧ (NIs (bite (bnot (inB (ilen a1) (1 : Int) (4 : Int))) true (bnot (ieq (ilen a2) (ilen a1)))) false → True) ∧ (NIs (bite (bnot (inB (ilen a1) (1 : Int) (4 : Int))) true (bnot (ieq (ilen a2) (ilen a1)))) false → True) ∧ (NIs (bite (bnot (inB (ilen a1) (1 : Int) (4 : Int))) true (bnot (ieq (ilen a2) (ilen a1)))) false → True) ∧ (NIs (bite (bnot (inB (ilen a1) (1 : Int) (4 : Int))) true (bnot (ieq (ilen a2) (ilen a1)))) false → True) ∧ (NIs (bite (bnot (inB (ilen a1) (1 : Int) (4 : Int))) true (bnot (ieq (ilen a2) (ilen a1)))) false → True) ∧ (True) ∧ True) ∧ ((bite (bite (bnot (inB (ilen a1) (1 : Int) (4 : Int))) true (bnot (ieq (ilen a2) (ilen a1)))) true (bnot (ieq (ilen a3) (ilen a1)))) = true → ((true = true) ∧ ((True) ∧ True) ∧ ((false : Bool) = (armB a1 a2 a3)) ∧ True)) ∧ ((bite (bite (bnot (inB (ilen a1) (1 : Int) (4 : Int))) true (bnot (ieq (ilen a2) (ilen a1)))) true (bnot (ieq (ilen a3) (ilen a1)))) = false → ((true = true) ∧ ((True) ∧ True) ∧ ∃ (I1 : List GV → Prop) (μ1 : List GV → Nat), (((true = true) ∧ (((false : Bool) = false) ∧ (((0 : Int) : Int) = (0 : Int)) ∧ (((ilen a1) : Int) = (ilen a1)) ∧ (((inB (ilen a1) (1 : Int) (4 : Int)) : Bool) = (inB (ilen a1) (1 : Int) (4 : Int))) ∧ (((bnot (inB (ilen a1) (1 : Int) (4 : Int))) : Bool) = (bnot (inB (ilen a1) (1 : Int) (4 : Int)))) ∧ (((bnot (inB (ilen a1) (1 : Int) (4 : Int))) : Bool) = (bnot (inB (ilen a1) (1 : Int) (4 : Int)))) ∧ (((bite (bnot (inB (ilen a1) (1 : Int) (4 : Int))) true (bnot (ieq (ilen a2) (ilen a1)))) : Bool) = (bite (bnot (inB (ilen a1) (1 : Int) (4 : Int))) true (bnot (ieq (ilen a2) (ilen a1))))) ∧ (((bite (bnot (inB (ilen a1) (1 : Int) (4 : Int))) true (bnot (ieq (ilen a2) (ilen a1)))) : Bool) = (bite (bnot (inB (ilen a1) (1 : Int) (4 : Int))) true (bnot (ieq (ilen a2) (ilen a1))))) ∧ (((bite (bite (bnot (inB (ilen a1) (1 : Int) (4 : Int))) true (bnot (ieq (ilen a2) (ilen a1)))) true (bnot (ieq (ilen a3) (ilen a1)))) : Bool) = (bite (bite (bnot (inB (ilen a1) (1 : Int) (4 : Int))) true (bnot (ieq (ilen a2) (ilen a1)))) true (bnot (ieq (ilen a3) (ilen a1))))) ∧ (true = true) ∧ ((Cont.ints a1) = (Cont.ints a1)) ∧ (((ilen a1) : Int) = (ilen a1)) ∧ (((ilen a1) : Int) = (ilen a1)) ∧ (true = true) ∧ (((Cont.ints a1) = (Cont.ints a1)) ∧ ((Cont.ints a2) = (Cont.ints a2)) ∧ ((Cont.ints a3) = (Cont.ints a3)) ∧ True) ∧ True) ∧ ((((Cont.ints a1) = (Cont.ints a1)) ∧ ((Cont.ints a2) = (Cont.ints a2)) ∧ ((Cont.ints a3) = (Cont.ints a3)) ∧ True) ∧ True)) ∧ (([GK.int, GK.bool] : List GK) = ([GK.int, GK.bool] : List GK)) ∧ I1 [GV.int (0 : Int), GV.bool false]) ∧ (∀ i1_0 : Int, ∀ b1_1 : Bool, I1 [GV.int i1_0, GV.bool b1_1] → ((true = true) ∧ ((True) ∧ (True) ∧ (True) ∧ True) ∧ ((ilt i1_0 (ilen a1)) = true → ((true = true) ∧ ((True) ∧ (True) ∧ (True) ∧ (NLe 0 i1_0 ∧ NLt i1_0 (ilen a1)) ∧ (True) ∧ ((True)) ∧ (True) ∧ (True) ∧ (NIs (bnot (inB (geti a1 i1_0) (1 : Int) (500 : Int))) false → True) ∧ (NIs (bnot (inB (geti a1 i1_0) (1 : Int) (500 : Int))) false → True) ∧ (NIs (bnot (inB (geti a1 i1_0) (1 : Int) (500 : Int))) false → True) ∧ (NIs (bnot (inB (geti a1 i1_0) (1 : Int) (500 : Int))) false → (NLe 0 i1_0 ∧ NLt i1_0 (ilen a2))) ∧ (NIs (bnot (inB (geti a1 i1_0) (1 : Int) (500 : Int))) false → True) ∧ (NIs (bnot (inB (geti a1 i1_0) (1 : Int) (500 : Int))) false → (True)) ∧ (NIs (bnot (inB (geti a1 i1_0) (1 : Int) (500 : Int))) false → True) ∧ (True) ∧ (True) ∧ (NIs (bite (bnot (inB (geti a1 i1_0) (1 : Int) (500 : Int))) true (bnot (inB (geti a2 i1_0) (-180 : Int) (180 : Int)))) false → True) ∧ (NIs (bite (bnot (inB (geti a1 i1_0) (1 : Int) (500 : Int))) true (bnot (inB (geti a2 i1_0) (-180 : Int) (180 : Int)))) false → True) ∧ (NIs (bite (bnot (inB (geti a1 i1_0) (1 : Int) (500 : Int))) true (bnot (inB (geti a2 i1_0) (-180 : Int) (180 : Int)))) false → True) ∧ (NIs (bite (bnot (inB (geti a1 i1_0) (1 : Int) (500 : Int))) true (bnot (inB (geti a2 i1_0) (-180 : Int) (180 : Int)))) false → (NLe 0 i1_0 ∧ NLt i1_0 (ilen a3))) ∧ (NIs (bite (bnot (inB (geti a1 i1_0) (1 : Int) (500 : Int))) true (bnot (inB (geti a2 i1_0) (-180 : Int) (180 : Int)))) false → True) ∧ (NIs (bite (bnot (inB (geti a1 i1_0) (1 : Int) (500 : Int))) true (bnot (inB (geti a2 i1_0) (-180 : Int) (180 : Int)))) false → True) ∧ (NIs (bite (bnot (inB (geti a1 i1_0) (1 : Int) (500 : Int))) true (bnot (inB (geti a2 i1_0) (-180 : Int) (180 : Int)))) false → True) ∧ (NIs (bite (bnot (inB (geti a1 i1_0) (1 : Int) (500 : Int))) true (bnot (inB (geti a2 i1_0) (-180 : Int) (180 : Int)))) false → True) ∧ (NIs (bite (bnot (inB (geti a1 i1_0) (1 : Int) (500 : Int))) true (bnot (inB (geti a2 i1_0) (-180 : Int) (180 : Int)))) false → (NLe 0 i1_0 ∧ NLt i1_0 (ilen a2))) ∧ (NIs (bite (bnot (inB (geti a1 i1_0) (1 : Int) (500 : Int))) true (bnot (inB (geti a2 i1_0) (-180 : Int) (180 : Int)))) false → True) ∧ (NIs (bite (bnot (inB (geti a1 i1_0) (1 : Int) (500 : Int))) true (bnot (inB (geti a2 i1_0) (-180 : Int) (180 : Int)))) false → (True)) ∧ (NIs (bite (bnot (inB (geti a1 i1_0) (1 : Int) (500 : Int))) true (bnot (inB (geti a2 i1_0) (-180 : Int) (180 : Int)))) false → True) ∧ (True) ∧ True) ∧ ((bite (bite (bnot (inB (geti a1 i1_0) (1 : Int) (500 : Int))) true (bnot (inB (geti a2 i1_0) (-180 : Int) (180 : Int)))) true (bnot (inB (geti a3 i1_0) (geti a2 i1_0) (180 : Int)))) = true → ((true = true) ∧ ((True) ∧ True) ∧ ((false : Bool) = (armB a1 a2 a3)) ∧ True)) ∧ ((bite (bite (bnot (inB (geti a1 i1_0) (1 : Int) (500 : Int))) true (bnot (inB (geti a2 i1_0) (-180 : Int) (180 : Int)))) true (bnot (inB (geti a3 i1_0) (geti a2 i1_0) (180 : Int)))) = false → ((true = true) ∧ ((True) ∧ (True) ∧ (True) ∧ True) ∧ ((true = true) ∧ (((b1_1 : Bool) = b1_1) ∧ (((iadd i1_0 (1 : Int)) : Int) = (iadd i1_0 (1 : Int))) ∧ (((ilen a1) : Int) = (ilen a1)) ∧ (((inB (ilen a1) (1 : Int) (4 : Int)) : Bool) = (inB (ilen a1) (1 : Int) (4 : Int))) ∧ (((bnot (inB (ilen a1) (1 : Int) (4 : Int))) : Bool) = (bnot (inB (ilen a1) (1 : Int) (4 : Int)))) ∧ (((bnot (inB (ilen a1) (1 : Int) (4 : Int))) : Bool) = (bnot (inB (ilen a1) (1 : Int) (4 : Int)))) ∧ (((bite (bnot (inB (ilen a1) (1 : Int) (4 : Int))) true (bnot (ieq (ilen a2) (ilen a1)))) : Bool) = (bite (bnot (inB (ilen a1) (1 : Int) (4 : Int))) true (bnot (ieq (ilen a2) (ilen a1))))) ∧ (((bite (bnot (inB (ilen a1) (1 : Int) (4 : Int))) true (bnot (ieq (ilen a2) (ilen a1)))) : Bool) = (bite (bnot (inB (ilen a1) (1 : Int) (4 : Int))) true (bnot (ieq (ilen a2) (ilen a1))))) ∧ (((bite (bite (bnot (inB (ilen a1) (1 : Int) (4 : Int))) true (bnot (ieq (ilen a2) (ilen a1)))) true (bnot (ieq (ilen a3) (ilen a1)))) : Bool) = (bite (bite (bnot (inB (ilen a1) (1 : Int) (4 : Int))) true (bnot (ieq (ilen a2) (ilen a1)))) true (bnot (ieq (ilen a3) (ilen a1))))) ∧ (true = true) ∧ ((Cont.ints a1) = (Cont.ints a1)) ∧ (((ilen a1) : Int) = (ilen a1)) ∧ (((ilen a1) : Int) = (ilen a1)) ∧ (true = true) ∧ (((Cont.ints a1) = (Cont.ints a1)) ∧ ((Cont.ints a2) = (Cont.ints a2)) ∧ ((Cont.ints a3) = (Cont.ints a3)) ∧ True) ∧ True) ∧ ((((Cont.ints a1) = (Cont.ints a1)) ∧ ((Cont.ints a2) = (Cont.ints a2)) ∧ ((Cont.ints a3) = (Cont.ints a3)) ∧ True) ∧ True)) ∧ ((([GK.int, GK.bool] : List GK) = ([GK.int, GK.bool] : List GK)) ∧ I1 [GV.int (iadd i1_0 (1 : Int)), GV.bool b1_1] ∧ μ1 [GV.int (iadd i1_0 (1 : Int)), GV.bool b1_1] < μ1 [GV.int i1_0, GV.bool b1_1]))))) ∧ ((ilt i1_0 (ilen a1)) = false → ((true = true) ∧ ((True) ∧ True) ∧ ((true : Bool) = (armB a1 a2 a3)) ∧ True))))))) = ev sig_spec_ArmValid xs_spec_ArmValid Tryd.f57.ntmps (fun b => if b == 0 then [.v 4, .v 2] else []) (codeOf Tryd.f57) 0 (initS [.agg [.view (.ints a1), .view (.ints a2), .view (.ints a3)]]) (retK Tryd.f57.results.toList [.s (.bool (armB a1 a2 a3))]) := by kernel_rfl
set_option maxHeartbeats 400000 in
theorem F_spec_ArmValid : FunOK 57 g_spec_ArmValid := by
  refine fun_F (by kernel_rfl) Tryd.func57 rfl (by kernel_rfl) sig_spec_ArmValid_ok xs_spec_ArmValid_ok ?_
  intro avs sg h hn hl
  unfold g_spec_ArmValid at h
  split at h
  · rename_i a1 a2 a3
    injection h with h; subst h
    refine ⟨by kernel_rfl, fun b => if b == 0 then [.v 4, .v 2] else [], Eq.mp (V_spec_ArmValid a1 a2 a3) ?_⟩
    simp only [true_and, and_true, implies_true, and_self, forall_const, true_implies, lenA, lenL, SV.lenOK, Cont.lenOK] at hn hl ⊢
    have h0 := ilen_0 a1
    simp only [ilt_t, ilt_f, ile_t, ile_f, ieq_t, ieq_f, bnot_e, band_e, bite_and, bite_or, NLt_e, NLe_e, NNe_e, NIs_e, imax_e, imin_e, irem_e, Bool.not_eq_true', Bool.not_eq_false', Bool.and_eq_true, Bool.or_eq_true, Bool.or_eq_false_iff, Bool.and_eq_false_iff, Cont.pts.injEq, Cont.ints.injEq, Cont.bools.injEq, Cont.ptss.injEq, Cont.intss.injEq, Cont.boolss.injEq, true_and, and_true, implies_true]
    refine ⟨fun h => ?_, fun h => ?_⟩
    · unfold armB
      rcases h with (h | h) | h <;> simp [h]
    · obtain ⟨⟨c1, c2⟩, c3⟩ := h
      refine ⟨fun | .int k :: _ => 0 ≤ k ∧ k ≤ ilen a1 ∧ (∀ j, 0 ≤ j → j < k → armE a1 a2 a3 j = true) | _ => False, fun | .int k :: _ => (ilen a1 - k).toNat | _ => 0, ?_, ?_⟩
      · exact ⟨Int.le_refl 0, h0, fun j h0 h1 => absurd h1 (by omega)⟩
      · rintro k _ ⟨hk0, hk1, hk⟩
        simp only [ilt_t, ilt_f, ile_t, ile_f, ieq_t, ieq_f, bnot_e, band_e, bite_and, bite_or, NLt_e, NLe_e, NNe_e, NIs_e, imax_e, imin_e, irem_e, Bool.not_eq_true', Bool.not_eq_false', Bool.and_eq_true, Bool.or_eq_true, Bool.or_eq_false_iff, Bool.and_eq_false_iff, Cont.pts.injEq, Cont.ints.injEq, Cont.bools.injEq, Cont.ptss.injEq, Cont.intss.injEq, Cont.boolss.injEq, true_and, and_true, implies_true]
        refine ⟨fun hc => ⟨⟨⟨hk0, hc⟩, fun _ => ⟨hk0, by omega⟩, fun _ => ⟨hk0, by omega⟩, fun _ => ⟨hk0, by omega⟩⟩, fun hv => ?_, fun hv => ?_⟩, fun hc => ?_⟩
        · have hE : armE a1 a2 a3 k = false := by unfold armE; rcases hv with (hv | hv) | hv <;> simp [hv]
          unfold armB; rw [allN_no k hk0 hc hE]; simp
        · have hE : armE a1 a2 a3 k = true := by unfold armE; rw [hv.1.1, hv.1.2, hv.2]; rfl
          rw [iadd_1 hk0 hc hl.1]
          exact ⟨⟨by omega, by omega, upTo hk hE⟩, by omega⟩
        · unfold armB; rw [allN_mk fun j h0 h1 => hk j h0 (by omega), c1]; simp [c2, c3]
  · cases h
def g_spec_l2Sign : List AV → Option Sg
  | [.s (.int n)] => some ⟨True, [.s (.int (sgn n))]⟩
  | _ => none
def sig_spec_l2Sign : FuncId → List AV → Option Sg := sigL []
def xs_spec_l2Sign : XS := ⟨xsigL [], ysigL []⟩
theorem sig_spec_l2Sign_ok : SigOK sig_spec_l2Sign := sigL_nil
theorem xs_spec_l2Sign_ok : XSigOK xs_spec_l2Sign := ⟨xsigL_nil, ysigL_nil⟩
theorem V_spec_l2Sign (n : Int) : ((true = true) ∧ ((True) ∧ True) ∧ (true = true) ∧ ((True) ∧ (True) ∧ (True) ∧ True) ∧ ((ilt (0 : Int) n) = true → ((true = true) ∧ ((True) ∧ True) ∧ (((1 : Int) : Int) = (sgn n)) ∧ True)) ∧ ((ilt (0 : Int) n) = false → ((true = true) ∧ ((True) ∧ (True) ∧ (True) ∧ True) ∧ ((ilt n (0 : Int)) = true → ((true = true) ∧ ((True) ∧ True) ∧ (((-1 : Int) : Int) = (sgn n)) ∧ True)) ∧ ((ilt n (0 : Int)) = false → ((true = true) ∧ ((True) ∧ True) ∧ (((0 : Int) : Int) = (sgn n)) ∧ True))))) = ev sig_spec_l2Sign xs_spec_l2Sign Tryd.f107.ntmps (fun b => []) (codeOf Tryd.f107) 0 (initS [.s (.int n)]) (retK Tryd.f107.results.toList [.s (.int (sgn n))]) := by kernel_rfl
set_option maxHeartbeats 400000 in
theorem F_spec_l2Sign : FunOK 107 g_spec_l2Sign := by
  refine fun_F (by kernel_rfl) Tryd.func107 rfl (by kernel_rfl) sig_spec_l2Sign_ok xs_spec_l2Sign_ok ?_
  intro avs sg h hn hl
  unfold g_spec_l2Sign at h
  split at h
  · rename_i n
    injection h with h; subst h
    refine ⟨by kernel_rfl, fun b => [], Eq.mp (V_spec_l2Sign n) ?_⟩
    simp only [true_and, and_true, implies_true, and_self, forall_const, true_implies, lenA, lenL, SV.lenOK, Cont.lenOK] at hn hl ⊢
    simp only [ilt_t, ilt_f, ile_t, ile_f, ieq_t, ieq_f, bnot_e, band_e, bite_and, bite_or, NLt_e, NLe_e, NNe_e, NIs_e, imax_e, imin_e, irem_e, Bool.not_eq_true', Bool.not_eq_false', Bool.and_eq_true, Bool.or_eq_true, Bool.or_eq_false_iff, Bool.and_eq_false_iff, Cont.pts.injEq, Cont.ints.injEq, Cont.bools.injEq, Cont.ptss.injEq, Cont.intss.injEq, Cont.boolss.injEq, true_and, and_true, implies_true]
    unfold sgn
    refine ⟨fun h => by rw [if_pos h], fun h => ⟨fun h2 => by rw [if_neg (by omega), if_pos h2], fun h2 => by rw [if_neg (by omega), if_neg (by omega)]⟩⟩
  · cases h
def g_spec_Orientation : List AV → Option Sg
  | [.agg [.int a1, .int a2], .agg [.int b1, .int b2], .agg [.int c1, .int c2]] => some ⟨True, [.s (.int (orB a1 a2 b1 b2 c1 c2))]⟩
  | _ => none
def sig_spec_Orientation : FuncId → List AV → Option Sg := sigL [(81, g_spec_PointValid), (108, g_spec_l2Cross), (107, g_spec_l2Sign)]
def xs_spec_Orientation : XS := ⟨xsigL [], ysigL []⟩
theorem sig_spec_Orientation_ok : SigOK sig_spec_Orientation := sigL_cons F_spec_PointValid (sigL_cons F_spec_l2Cross (sigL_cons F_spec_l2Sign sigL_nil))
theorem xs_spec_Orientation_ok : XSigOK xs_spec_Orientation := ⟨xsigL_nil, ysigL_nil⟩
theorem V_spec_Orientation (a1 : Int) (a2 : Int) (b1 : Int) (b2 : Int) (c1 : Int) (c2 : Int) : ((true = true) ∧ ((True) ∧ (True) ∧ (True) ∧ (True) ∧ True) ∧ (true = true) ∧ ((True) ∧ ((True)) ∧ (True) ∧ (True) ∧ (NIs (bnot (vB a1 a2)) false → True) ∧ (NIs (bnot (vB a1 a2)) false → (True)) ∧ (NIs (bnot (vB a1 a2)) false → True) ∧ (True) ∧ (True) ∧ (NIs (bite (bnot (vB a1 a2)) true (bnot (vB b1 b2))) false → True) ∧ (NIs (bite (bnot (vB a1 a2)) true (bnot (vB b1 b2))) false → (True)) ∧ (NIs (bite (bnot (vB a1 a2)) true (bnot (vB b1 b2))) false → True) ∧ (True) ∧ True) ∧ ((bite (bite (bnot (vB a1 a2)) true (bnot (vB b1 b2))) true (bnot (vB c1 c2))) = true → ((true = true) ∧ ((True) ∧ True) ∧ (((0 : Int) : Int) = (orB a1 a2 b1 b2 c1 c2)) ∧ True)) ∧ ((bite (bite (bnot (vB a1 a2)) true (bnot (vB b1 b2))) true (bnot (vB c1 c2))) = false → ((true = true) ∧ ((True) ∧ (True) ∧ (True) ∧ ((True)) ∧ ((True)) ∧ (True) ∧ True) ∧ (((sgn (crW a1 a2 b1 b2 c1 c2)) : Int) = (orB a1 a2 b1 b2 c1 c2)) ∧ True))) = ev sig_spec_Orientation xs_spec_Orientation Tryd.f113.ntmps (fun b => []) (codeOf Tryd.f113) 0 (initS [.agg [.int a1, .int a2], .agg [.int b1, .int b2], .agg [.int c1, .int c2]]) (retK Tryd.f113.results.toList [.s (.int (orB a1 a2 b1 b2 c1 c2))]) := by kernel_rfl
set_option maxHeartbeats 400000 in
theorem F_spec_Orientation : FunOK 113 g_spec_Orientation := by
  refine fun_F (by kernel_rfl) Tryd.func113 rfl (by kernel_rfl) sig_spec_Orientation_ok xs_spec_Orientation_ok ?_
  intro avs sg h hn hl
  unfold g_spec_Orientation at h
  split at h
  · rename_i a1 a2 b1 b2 c1 c2
    injection h with h; subst h
    refine ⟨by kernel_rfl, fun b => [], Eq.mp (V_spec_Orientation a1 a2 b1 b2 c1 c2) ?_⟩
    simp only [true_and, and_true, implies_true, and_self, forall_const, true_implies, lenA, lenL, SV.lenOK, Cont.lenOK] at hn hl ⊢
    simp only [ilt_t, ilt_f, ile_t, ile_f, ieq_t, ieq_f, bnot_e, band_e, bite_and, bite_or, NLt_e, NLe_e, NNe_e, NIs_e, imax_e, imin_e, irem_e, Bool.not_eq_true', Bool.not_eq_false', Bool.and_eq_true, Bool.or_eq_true, Bool.or_eq_false_iff, Bool.and_eq_false_iff, Cont.pts.injEq, Cont.ints.injEq, Cont.bools.injEq, Cont.ptss.injEq, Cont.intss.injEq, Cont.boolss.injEq, true_and, and_true, implies_true]
    unfold orB
    cases vB a1 a2 <;> cases vB b1 b2 <;> cases vB c1 c2 <;> simp
  · cases h
def g_spec_ConvexValid : List AV → Option Sg
  | [.s (.view (.pts l))] => some ⟨True, [.s (.bool (convB l))]⟩
  | _ => none
def sig_spec_ConvexValid : FuncId → List AV → Option Sg := sigL [(82, g_spec_l1In), (113, g_spec_Orientation)]
def xs_spec_ConvexValid : XS := ⟨xsigL [], ysigL []⟩
theorem sig_spec_ConvexValid_ok : SigOK sig_spec_ConvexValid := sigL_cons F_spec_l1In (sigL_cons F_spec_Orientation sigL_nil)
theorem xs_spec_ConvexValid_ok : XSigOK xs_spec_ConvexValid := ⟨xsigL_nil, ysigL_nil⟩
theorem V_spec_ConvexValid (l : List Pt) : ((true = true) ∧ ((True) ∧ True) ∧ (true = true) ∧ ((True) ∧ (True) ∧ (True) ∧ True) ∧ (true = true) ∧ ((True) ∧ ((True)) ∧ (True) ∧ True) ∧ ((bnot (inB (ilen l) (3 : Int) (8 : Int))) = true → ((true = true) ∧ ((True) ∧ True) ∧ ((false : Bool) = (convB l)) ∧ True)) ∧ ((bnot (inB (ilen l) (3 : Int) (8 : Int))) = false → ((true = true) ∧ ((True) ∧ True) ∧ ∃ (I1 : List GV → Prop) (μ1 : List GV → Nat), (((true = true) ∧ (((false : Bool) = false) ∧ (((0 : Int) : Int) = (0 : Int)) ∧ (((ilen l) : Int) = (ilen l)) ∧ (((inB (ilen l) (3 : Int) (8 : Int)) : Bool) = (inB (ilen l) (3 : Int) (8 : Int))) ∧ (((bnot (inB (ilen l) (3 : Int) (8 : Int))) : Bool) = (bnot (inB (ilen l) (3 : Int) (8 : Int)))) ∧ ((Cont.pts l) = (Cont.pts l)) ∧ (((ilen l) : Int) = (ilen l)) ∧ (((ilen l) : Int) = (ilen l)) ∧ ((Cont.pts l) = (Cont.pts l)) ∧ True) ∧ (True)) ∧ (([GK.int, GK.bool] : List GK) = ([GK.int, GK.bool] : List GK)) ∧ I1 [GV.int (0 : Int), GV.bool false]) ∧ (∀ i1_0 : Int, ∀ b1_1 : Bool, I1 [GV.int i1_0, GV.bool b1_1] → ((true = true) ∧ ((True) ∧ (True) ∧ (True) ∧ True) ∧ ((ilt i1_0 (ilen l)) = true → ((true = true) ∧ ((True) ∧ True) ∧ ∃ (I2 : List GV → Prop) (μ2 : List GV → Nat), (((true = true) ∧ (((b1_1 : Bool) = b1_1) ∧ (((0 : Int) : Int) = (0 : Int)) ∧ ((i1_0 : Int) = i1_0) ∧ (((ilen l) : Int) = (ilen l)) ∧ (((ilt i1_0 (ilen l)) : Bool) = (ilt i1_0 (ilen l))) ∧ ((i1_0 : Int) = i1_0) ∧ (((ilen l) : Int) = (ilen l)) ∧ (((inB (ilen l) (3 : Int) (8 : Int)) : Bool) = (inB (ilen l) (3 : Int) (8 : Int))) ∧ (((bnot (inB (ilen l) (3 : Int) (8 : Int))) : Bool) = (bnot (inB (ilen l) (3 : Int) (8 : Int)))) ∧ ((Cont.pts l) = (Cont.pts l)) ∧ (((ilen l) : Int) = (ilen l)) ∧ (((ilen l) : Int) = (ilen l)) ∧ ((Cont.pts l) = (Cont.pts l)) ∧ True) ∧ (True)) ∧ (([GK.int, GK.bool] : List GK) = ([GK.int, GK.bool] : List GK)) ∧ I2 [GV.int (0 : Int), GV.bool b1_1]) ∧ (∀ i2_0 : Int, ∀ b2_1 : Bool, I2 [GV.int i2_0, GV.bool b2_1] → ((true = true) ∧ ((True) ∧ (True) ∧ (True) ∧ True) ∧ ((ilt i2_0 (ilen l)) = true → ((true = true) ∧ ((True) ∧ (True) ∧ (True) ∧ (True) ∧ (NIs (bnot (ieq i2_0 i1_0)) true → True) ∧ (NIs (bnot (ieq i2_0 i1_0)) true → True) ∧ (NIs (bnot (ieq i2_0 i1_0)) true → True) ∧ (NIs (bnot (ieq i2_0 i1_0)) true → True) ∧ (NIs (bnot (ieq i2_0 i1_0)) true → NNe (ilen l) 0) ∧ (NIs (bnot (ieq i2_0 i1_0)) true → True) ∧ (True) ∧ (True) ∧ (NIs (bite (bnot (ieq i2_0 i1_0)) (bnot (ieq i2_0 (irem (iadd i1_0 (1 : Int)) (ilen l)))) false) true → True) ∧ (NIs (bite (bnot (ieq i2_0 i1_0)) (bnot (ieq i2_0 (irem (iadd i1_0 (1 : Int)) (ilen l)))) false) true → True) ∧ (NIs (bite (bnot (ieq i2_0 i1_0)) (bnot (ieq i2_0 (irem (iadd i1_0 (1 : Int)) (ilen l)))) false) true → (NLe 0 i1_0 ∧ NLt i1_0 (ilen l))) ∧ (NIs (bite (bnot (ieq i2_0 i1_0)) (bnot (ieq i2_0 (irem (iadd i1_0 (1 : Int)) (ilen l)))) false) true → True) ∧ (NIs (bite (bnot (ieq i2_0 i1_0)) (bnot (ieq i2_0 (irem (iadd i1_0 (1 : Int)) (ilen l)))) false) true → True) ∧ (NIs (bite (bnot (ieq i2_0 i1_0)) (bnot (ieq i2_0 (irem (iadd i1_0 (1 : Int)) (ilen l)))) false) true → True) ∧ (NIs (bite (bnot (ieq i2_0 i1_0)) (bnot (ieq i2_0 (irem (iadd i1_0 (1 : Int)) (ilen l)))) false) true → True) ∧ (NIs (bite (bnot (ieq i2_0 i1_0)) (bnot (ieq i2_0 (irem (iadd i1_0 (1 : Int)) (ilen l)))) false) true → True) ∧ (NIs (bite (bnot (ieq i2_0 i1_0)) (bnot (ieq i2_0 (irem (iadd i1_0 (1 : Int)) (ilen l)))) false) true → NNe (ilen l) 0) ∧ (NIs (bite (bnot (ieq i2_0 i1_0)) (bnot (ieq i2_0 (irem (iadd i1_0 (1 : Int)) (ilen l)))) false) true → (NLe 0 (irem (iadd i1_0 (1 : Int)) (ilen l)) ∧ NLt (irem (iadd i1_0 (1 : Int)) (ilen l)) (ilen l))) ∧ (NIs (bite (bnot (ieq i2_0 i1_0)) (bnot (ieq i2_0 (irem (iadd i1_0 (1 : Int)) (ilen l)))) false) true → True) ∧ (NIs (bite (bnot (ieq i2_0 i1_0)) (bnot (ieq i2_0 (irem (iadd i1_0 (1 : Int)) (ilen l)))) false) true → True) ∧ (NIs (bite (bnot (ieq i2_0 i1_0)) (bnot (ieq i2_0 (irem (iadd i1_0 (1 : Int)) (ilen l)))) false) true → True) ∧ (NIs (bite (bnot (ieq i2_0 i1_0)) (bnot (ieq i2_0 (irem (iadd i1_0 (1 : Int)) (ilen l)))) false) true → (NLe 0 i2_0 ∧ NLt i2_0 (ilen l))) ∧ (NIs (bite (bnot (ieq i2_0 i1_0)) (bnot (ieq i2_0 (irem (iadd i1_0 (1 : Int)) (ilen l)))) false) true → True) ∧ (NIs (bite (bnot (ieq i2_0 i1_0)) (bnot (ieq i2_0 (irem (iadd i1_0 (1 : Int)) (ilen l)))) false) true → (True)) ∧ (NIs (bite (bnot (ieq i2_0 i1_0)) (bnot (ieq i2_0 (irem (iadd i1_0 (1 : Int)) (ilen l)))) false) true → True) ∧ (True) ∧ True) ∧ ((bite (bite (bnot (ieq i2_0 i1_0)) (bnot (ieq i2_0 (irem (iadd i1_0 (1 : Int)) (ilen l)))) false) (bnot (ieq (orB (getx l i1_0) (gety l i1_0) (getx l (irem (iadd i1_0 (1 : Int)) (ilen l))) (gety l (irem (iadd i1_0 (1 : Int)) (ilen l))) (getx l i2_0) (gety l i2_0)) (1 : Int))) false) = true → ((true = true) ∧ ((True) ∧ True) ∧ ((false : Bool) = (convB l)) ∧ True)) ∧ ((bite (bite (bnot (ieq i2_0 i1_0)) (bnot (ieq i2_0 (irem (iadd i1_0 (1 : Int)) (ilen l)))) false) (bnot (ieq (orB (getx l i1_0) (gety l i1_0) (getx l (irem (iadd i1_0 (1 : Int)) (ilen l))) (gety l (irem (iadd i1_0 (1 : Int)) (ilen l))) (getx l i2_0) (gety l i2_0)) (1 : Int))) false) = false → ((true = true) ∧ ((True) ∧ (True) ∧ (True) ∧ True) ∧ ((true = true) ∧ (((b2_1 : Bool) = b2_1) ∧ (((iadd i2_0 (1 : Int)) : Int) = (iadd i2_0 (1 : Int))) ∧ ((i1_0 : Int) = i1_0) ∧ (((ilen l) : Int) = (ilen l)) ∧ (((ilt i1_0 (ilen l)) : Bool) = (ilt i1_0 (ilen l))) ∧ ((i1_0 : Int) = i1_0) ∧ (((ilen l) : Int) = (ilen l)) ∧ (((inB (ilen l) (3 : Int) (8 : Int)) : Bool) = (inB (ilen l) (3 : Int) (8 : Int))) ∧ (((bnot (inB (ilen l) (3 : Int) (8 : Int))) : Bool) = (bnot (inB (ilen l) (3 : Int) (8 : Int)))) ∧ ((Cont.pts l) = (Cont.pts l)) ∧ (((ilen l) : Int) = (ilen l)) ∧ (((ilen l) : Int) = (ilen l)) ∧ ((Cont.pts l) = (Cont.pts l)) ∧ True) ∧ (True)) ∧ ((([GK.int, GK.bool] : List GK) = ([GK.int, GK.bool] : List GK)) ∧ I2 [GV.int (iadd i2_0 (1 : Int)), GV.bool b2_1] ∧ μ2 [GV.int (iadd i2_0 (1 : Int)), GV.bool b2_1] < μ2 [GV.int i2_0, GV.bool b2_1]))))) ∧ ((ilt i2_0 (ilen l)) = false → ((true = true) ∧ ((True) ∧ (True) ∧ (True) ∧ True) ∧ ((true = true) ∧ (((b2_1 : Bool) = b2_1) ∧ (((iadd i1_0 (1 : Int)) : Int) = (iadd i1_0 (1 : Int))) ∧ (((ilen l) : Int) = (ilen l)) ∧ (((inB (ilen l) (3 : Int) (8 : Int)) : Bool) = (inB (ilen l) (3 : Int) (8 : Int))) ∧ (((bnot (inB (ilen l) (3 : Int) (8 : Int))) : Bool) = (bnot (inB (ilen l) (3 : Int) (8 : Int)))) ∧ ((Cont.pts l) = (Cont.pts l)) ∧ (((ilen l) : Int) = (ilen l)) ∧ (((ilen l) : Int) = (ilen l)) ∧ ((Cont.pts l) = (Cont.pts l)) ∧ True) ∧ (True)) ∧ ((([GK.int, GK.bool] : List GK) = ([GK.int, GK.bool] : List GK)) ∧ I1 [GV.int (iadd i1_0 (1 : Int)), GV.bool b2_1] ∧ μ1 [GV.int (iadd i1_0 (1 : Int)), GV.bool b2_1] < μ1 [GV.int i1_0, GV.bool b1_1]))))))) ∧ ((ilt i1_0 (ilen l)) = false → ((true = true) ∧ ((True) ∧ True) ∧ ((true : Bool) = (convB l)) ∧ True))))))) = ev sig_spec_ConvexValid xs_spec_ConvexValid Tryd.f93.ntmps (fun b => if b == 0 then [.v 4, .v 2] else if b == 2 then [.v 5, .v 2] else []) (codeOf Tryd.f93) 0 (initS [.s (.view (.pts l))]) (retK Tryd.f93.results.toList [.s (.bool (convB l))]) := by kernel_rfl
set_option maxHeartbeats 400000 in
theorem F_spec_ConvexValid : FunOK 93 g_spec_ConvexValid := by
  refine fun_F (by kernel_rfl) Tryd.func93 rfl (by kernel_rfl) sig_spec_ConvexValid_ok xs_spec_ConvexValid_ok ?_
  intro avs sg h hn hl
  unfold g_spec_ConvexValid at h
  split at h
  · rename_i l
    injection h with h; subst h
    refine ⟨by kernel_rfl, fun b => if b == 0 then [.v 4, .v 2] else if b == 2 then [.v 5, .v 2] else [], Eq.mp (V_spec_ConvexValid l) ?_⟩
    simp only [true_and, and_true, implies_true, and_self, forall_const, true_implies, lenA, lenL, SV.lenOK, Cont.lenOK] at hn hl ⊢
    simp only [← convS_eq]
    have h0 := ilen_0 l
    simp only [ilt_t, ilt_f, ile_t, ile_f, ieq_t, ieq_f, bnot_e, band_e, bite_and, bite_or, NLt_e, NLe_e, NNe_e, NIs_e, imax_e, imin_e, irem_e, Bool.not_eq_true', Bool.not_eq_false', Bool.and_eq_true, Bool.or_eq_true, Bool.or_eq_false_iff, Bool.and_eq_false_iff, Cont.pts.injEq, Cont.ints.injEq, Cont.bools.injEq, Cont.ptss.injEq, Cont.intss.injEq, Cont.boolss.injEq, true_and, and_true, implies_true]
    refine ⟨?_, fun hv1 => ?_⟩
    · intro h; simp [convS, h]
    · have hlen := inB_true hv1
      refine ⟨fun | [.int k, .bool _] => 0 ≤ k ∧ k ≤ ilen l ∧ (∀ i, 0 ≤ i → i < k → allN (ilen l) (convF l i) = true) | _ => False, fun | [.int k, .bool _] => (ilen l - k).toNat | _ => 0, ?_, ?_⟩
      · exact ⟨Int.le_refl 0, h0, fun j h0 h1 => absurd h1 (by omega)⟩
      · rintro k b ⟨hk0, hk1, hk⟩
        simp only [ilt_t, ilt_f, ile_t, ile_f, ieq_t, ieq_f, bnot_e, band_e, bite_and, bite_or, NLt_e, NLe_e, NNe_e, NIs_e, imax_e, imin_e, irem_e, Bool.not_eq_true', Bool.not_eq_false', Bool.and_eq_true, Bool.or_eq_true, Bool.or_eq_false_iff, Bool.and_eq_false_iff, Cont.pts.injEq, Cont.ints.injEq, Cont.bools.injEq, Cont.ptss.injEq, Cont.intss.injEq, Cont.boolss.injEq, true_and, and_true, implies_true]
        refine ⟨fun hkn => ?_, fun hkn => ?_⟩
        · have e1 := iadd_1 hk0 hkn hl
          obtain ⟨n0, n1, _⟩ := nx_in hk0 hkn
          have e2 : (k + 1).tmod (ilen l) = nx l k := rfl
          simp only [e1, e2]
          refine ⟨fun | [.int j, .bool _] => 0 ≤ j ∧ j ≤ ilen l ∧ (∀ i, 0 ≤ i → i < j → convF l k i = true) | _ => False, fun | [.int j, .bool _] => (ilen l - j).toNat | _ => 0, ?_, ?_⟩
          · exact ⟨Int.le_refl 0, h0, fun j h0 h1 => absurd h1 (by omega)⟩
          · rintro j b ⟨hj0, hj1, hj⟩
            simp only [ilt_t, ilt_f, ile_t, ile_f, ieq_t, ieq_f, bnot_e, band_e, bite_and, bite_or, NLt_e, NLe_e, NNe_e, NIs_e, imax_e, imin_e, irem_e, Bool.not_eq_true', Bool.not_eq_false', Bool.and_eq_true, Bool.or_eq_true, Bool.or_eq_false_iff, Bool.and_eq_false_iff, Cont.pts.injEq, Cont.ints.injEq, Cont.bools.injEq, Cont.ptss.injEq, Cont.intss.injEq, Cont.boolss.injEq, true_and, and_true, implies_true]
            refine ⟨fun hjn => ⟨?_, fun hx => ?_, fun hx => ?_⟩, fun hjn => ?_⟩
            · exact ⟨fun _ => by omega, fun _ => ⟨hk0, hkn⟩, fun _ => by omega, fun _ => ⟨n0, n1⟩, fun _ => ⟨hj0, hjn⟩⟩
            · have hE : convF l k j = false := by
                unfold convF orI
                simp only [decide_eq_false_iff_not]
                omega
              unfold convS
              rw [allN_no k hk0 hkn (allN_no j hj0 hjn hE)]
              simp
            · have hE : convF l k j = true := by
                unfold convF orI
                simp only [decide_eq_true_eq]
                omega
              rw [iadd_1 hj0 hjn hl]
              exact ⟨⟨by omega, by omega, allN_up hj hE⟩, by omega⟩
            · exact ⟨⟨by omega, by omega, allN_up hk (allN_mk fun i h0 h1 => hj i h0 (by omega))⟩, by omega⟩
        · unfold convS
          rw [hv1, allN_mk fun i h0 h1 => hk i h0 (by omega)]
          rfl
  · cases h
def g_spec_SceneValid : List AV → Option Sg
  | [.s (.view (.ptss l))] => some ⟨True, [.s (.bool (sceneB l))]⟩
  | _ => none
def sig_spec_SceneValid : FuncId → List AV → Option Sg := sigL [(93, g_spec_ConvexValid)]
def xs_spec_SceneValid : XS := ⟨xsigL [], ysigL []⟩
theorem sig_spec_SceneValid_ok : SigOK sig_spec_SceneValid := sigL_cons F_spec_ConvexValid sigL_nil
theorem xs_spec_SceneValid_ok : XSigOK xs_spec_SceneValid := ⟨xsigL_nil, ysigL_nil⟩
theorem V_spec_SceneValid (l : List (List Pt)) : ((true = true) ∧ ((True) ∧ True) ∧ (true = true) ∧ ((True) ∧ True) ∧ ∃ (I1 : List GV → Prop) (μ1 : List GV → Nat), (((true = true) ∧ (((false : Bool) = false) ∧ (((0 : Int) : Int) = (0 : Int)) ∧ ((Cont.ptss l) = (Cont.ptss l)) ∧ True) ∧ (True)) ∧ (([GK.int, GK.bool] : List GK) = ([GK.int, GK.bool] : List GK)) ∧ I1 [GV.int (0 : Int), GV.bool false]) ∧ (∀ i1_0 : Int, ∀ b1_1 : Bool, I1 [GV.int i1_0, GV.bool b1_1] → ((true = true) ∧ ((True) ∧ (True) ∧ (True) ∧ (True) ∧ True) ∧ ((ilt i1_0 (ilen l)) = true → ((true = true) ∧ ((True) ∧ (True) ∧ (NLe 0 i1_0 ∧ NLt i1_0 (ilen l)) ∧ (True) ∧ ((True)) ∧ (True) ∧ True) ∧ ((bnot (convB (getl l i1_0))) = true → ((true = true) ∧ ((True) ∧ True) ∧ ((false : Bool) = (sceneB l)) ∧ True)) ∧ ((bnot (convB (getl l i1_0))) = false → ((true = true) ∧ ((True) ∧ (True) ∧ (True) ∧ True) ∧ ((true = true) ∧ (((b1_1 : Bool) = b1_1) ∧ (((iadd i1_0 (1 : Int)) : Int) = (iadd i1_0 (1 : Int))) ∧ ((Cont.ptss l) = (Cont.ptss l)) ∧ True) ∧ (True)) ∧ ((([GK.int, GK.bool] : List GK) = ([GK.int, GK.bool] : List GK)) ∧ I1 [GV.int (iadd i1_0 (1 : Int)), GV.bool b1_1] ∧ μ1 [GV.int (iadd i1_0 (1 : Int)), GV.bool b1_1] < μ1 [GV.int i1_0, GV.bool b1_1]))))) ∧ ((ilt i1_0 (ilen l)) = false → ((true = true) ∧ ((True) ∧ (True) ∧ (True) ∧ (True) ∧ True) ∧ (((ile (ilen l) (6 : Int)) : Bool) = (sceneB l)) ∧ True))))) = ev sig_spec_SceneValid xs_spec_SceneValid Tryd.f55.ntmps (fun b => if b == 0 then [.v 3, .v 2] else []) (codeOf Tryd.f55) 0 (initS [.s (.view (.ptss l))]) (retK Tryd.f55.results.toList [.s (.bool (sceneB l))]) := by kernel_rfl
set_option maxHeartbeats 400000 in
theorem F_spec_SceneValid : FunOK 55 g_spec_SceneValid := by
  refine fun_F (by kernel_rfl) Tryd.func55 rfl (by kernel_rfl) sig_spec_SceneValid_ok xs_spec_SceneValid_ok ?_
  intro avs sg h hn hl
  unfold g_spec_SceneValid at h
  split at h
  · rename_i l
    injection h with h; subst h
    refine ⟨by kernel_rfl, fun b => if b == 0 then [.v 3, .v 2] else [], Eq.mp (V_spec_SceneValid l) ?_⟩
    simp only [true_and, and_true, implies_true, and_self, forall_const, true_implies, lenA, lenL, SV.lenOK, Cont.lenOK] at hn hl ⊢
    have h0 := ilen_0 l
    simp only [ilt_t, ilt_f, ile_t, ile_f, ieq_t, ieq_f, bnot_e, band_e, bite_and, bite_or, NLt_e, NLe_e, NNe_e, NIs_e, imax_e, imin_e, irem_e, Bool.not_eq_true', Bool.not_eq_false', Bool.and_eq_true, Bool.or_eq_true, Bool.or_eq_false_iff, Bool.and_eq_false_iff, Cont.pts.injEq, Cont.ints.injEq, Cont.bools.injEq, Cont.ptss.injEq, Cont.intss.injEq, Cont.boolss.injEq, true_and, and_true, implies_true]
    refine ⟨fun | .int k :: _ => 0 ≤ k ∧ k ≤ ilen l ∧ (∀ i, 0 ≤ i → i < k → convB (getl l i) = true) | _ => False, fun | .int k :: _ => (ilen l - k).toNat | _ => 0, ?_, ?_⟩
    · exact ⟨Int.le_refl 0, h0, fun j h0 h1 => absurd h1 (by omega)⟩
    · rintro k _ ⟨hk0, hk1, hk⟩
      simp only [ilt_t, ilt_f, ile_t, ile_f, ieq_t, ieq_f, bnot_e, band_e, bite_and, bite_or, NLt_e, NLe_e, NNe_e, NIs_e, imax_e, imin_e, irem_e, Bool.not_eq_true', Bool.not_eq_false', Bool.and_eq_true, Bool.or_eq_true, Bool.or_eq_false_iff, Bool.and_eq_false_iff, Cont.pts.injEq, Cont.ints.injEq, Cont.bools.injEq, Cont.ptss.injEq, Cont.intss.injEq, Cont.boolss.injEq, true_and, and_true, implies_true]
      refine ⟨fun hkn => ⟨⟨hk0, hkn⟩, fun hx => ?_, fun hx => ?_⟩, fun hkn => ?_⟩
      · unfold sceneB; rw [allN_no k hk0 hkn hx]; simp
      · rw [iadd_1 hk0 hkn hl.1]
        exact ⟨⟨by omega, by omega, upTo hk hx⟩, by omega⟩
      · unfold sceneB; rw [allN_mk fun j j0 j1 => hk j j0 (by omega)]; simp
  · cases h
def g_spec_JointsValid : List AV → Option Sg
  | [.agg [.view (.ints a1), .view (.ints a2), .view (.ints a3)], .s (.view (.ints j))] => some ⟨True, [.s (.bool (jvB a1 a2 a3 j))]⟩
  | _ => none
def sig_spec_JointsValid : FuncId → List AV → Option Sg := sigL [(57, g_spec_ArmValid), (82, g_spec_l1In)]
def xs_spec_JointsValid : XS := ⟨xsigL [], ysigL []⟩
theorem sig_spec_JointsValid_ok : SigOK sig_spec_JointsValid := sigL_cons F_spec_ArmValid (sigL_cons F_spec_l1In sigL_nil)
theorem xs_spec_JointsValid_ok : XSigOK xs_spec_JointsValid := ⟨xsigL_nil, ysigL_nil⟩
theorem V_spec_JointsValid (a1 : List Int) (a2 : List Int) (a3 : List Int) (j : List Int) : ((true = true) ∧ ((True) ∧ (True) ∧ True) ∧ (true = true) ∧ ((True) ∧ ((True)) ∧ (True) ∧ (True) ∧ (NIs (bnot (armB a1 a2 a3)) false → True) ∧ (NIs (bnot (armB a1 a2 a3)) false → True) ∧ (NIs (bnot (armB a1 a2 a3)) false → True) ∧ (NIs (bnot (armB a1 a2 a3)) false → True) ∧ (NIs (bnot (armB a1 a2 a3)) false → True) ∧ (NIs (bnot (armB a1 a2 a3)) false → True) ∧ (True) ∧ True) ∧ ((bite (bnot (armB a1 a2 a3)) true (bnot (ieq (ilen j) (ilen a1)))) = true → ((true = true) ∧ ((True) ∧ True) ∧ ((false : Bool) = (jvB a1 a2 a3 j)) ∧ True)) ∧ ((bite (bnot (armB a1 a2 a3)) true (bnot (ieq (ilen j) (ilen a1)))) = false → ((true = true) ∧ ((True) ∧ True) ∧ ∃ (I1 : List GV → Prop) (μ1 : List GV → Nat), (((true = true) ∧ (((false : Bool) = false) ∧ (((0 : Int) : Int) = (0 : Int)) ∧ (((Cont.ints a1) = (Cont.ints a1)) ∧ ((Cont.ints a2) = (Cont.ints a2)) ∧ ((Cont.ints a3) = (Cont.ints a3)) ∧ True) ∧ (((armB a1 a2 a3) : Bool) = (armB a1 a2 a3)) ∧ (((bnot (armB a1 a2 a3)) : Bool) = (bnot (armB a1 a2 a3))) ∧ (((bnot (armB a1 a2 a3)) : Bool) = (bnot (armB a1 a2 a3))) ∧ (((bite (bnot (armB a1 a2 a3)) true (bnot (ieq (ilen j) (ilen a1)))) : Bool) = (bite (bnot (armB a1 a2 a3)) true (bnot (ieq (ilen j) (ilen a1))))) ∧ (true = true) ∧ (((Cont.ints a1) = (Cont.ints a1)) ∧ ((Cont.ints a2) = (Cont.ints a2)) ∧ ((Cont.ints a3) = (Cont.ints a3)) ∧ True) ∧ ((Cont.ints j) = (Cont.ints j)) ∧ True) ∧ ((((Cont.ints a1) = (Cont.ints a1)) ∧ ((Cont.ints a2) = (Cont.ints a2)) ∧ ((Cont.ints a3) = (Cont.ints a3)) ∧ True) ∧ True)) ∧ (([GK.int, GK.bool] : List GK) = ([GK.int, GK.bool] : List GK)) ∧ I1 [GV.int (0 : Int), GV.bool false]) ∧ (∀ i1_0 : Int, ∀ b1_1 : Bool, I1 [GV.int i1_0, GV.bool b1_1] → ((true = true) ∧ ((True) ∧ (True) ∧ (True) ∧ (True) ∧ True) ∧ ((ilt i1_0 (ilen j)) = true → ((true = true) ∧ ((True) ∧ (True) ∧ (NLe 0 i1_0 ∧ NLt i1_0 (ilen j)) ∧ (True) ∧ (True) ∧ (True) ∧ (True) ∧ (NLe 0 i1_0 ∧ NLt i1_0 (ilen a2)) ∧ (True) ∧ (True) ∧ (True) ∧ (True) ∧ (NLe 0 i1_0 ∧ NLt i1_0 (ilen a3)) ∧ (True) ∧ ((True)) ∧ (True) ∧ True) ∧ ((bnot (inB (geti j i1_0) (geti a2 i1_0) (geti a3 i1_0))) = true → ((true = true) ∧ ((True) ∧ True) ∧ ((false : Bool) = (jvB a1 a2 a3 j)) ∧ True)) ∧ ((bnot (inB (geti j i1_0) (geti a2 i1_0) (geti a3 i1_0))) = false → ((true = true) ∧ ((True) ∧ (True) ∧ (True) ∧ True) ∧ ((true = true) ∧ (((b1_1 : Bool) = b1_1) ∧ (((iadd i1_0 (1 : Int)) : Int) = (iadd i1_0 (1 : Int))) ∧ (((Cont.ints a1) = (Cont.ints a1)) ∧ ((Cont.ints a2) = (Cont.ints a2)) ∧ ((Cont.ints a3) = (Cont.ints a3)) ∧ True) ∧ (((armB a1 a2 a3) : Bool) = (armB a1 a2 a3)) ∧ (((bnot (armB a1 a2 a3)) : Bool) = (bnot (armB a1 a2 a3))) ∧ (((bnot (armB a1 a2 a3)) : Bool) = (bnot (armB a1 a2 a3))) ∧ (((bite (bnot (armB a1 a2 a3)) true (bnot (ieq (ilen j) (ilen a1)))) : Bool) = (bite (bnot (armB a1 a2 a3)) true (bnot (ieq (ilen j) (ilen a1))))) ∧ (true = true) ∧ (((Cont.ints a1) = (Cont.ints a1)) ∧ ((Cont.ints a2) = (Cont.ints a2)) ∧ ((Cont.ints a3) = (Cont.ints a3)) ∧ True) ∧ ((Cont.ints j) = (Cont.ints j)) ∧ True) ∧ ((((Cont.ints a1) = (Cont.ints a1)) ∧ ((Cont.ints a2) = (Cont.ints a2)) ∧ ((Cont.ints a3) = (Cont.ints a3)) ∧ True) ∧ True)) ∧ ((([GK.int, GK.bool] : List GK) = ([GK.int, GK.bool] : List GK)) ∧ I1 [GV.int (iadd i1_0 (1 : Int)), GV.bool b1_1] ∧ μ1 [GV.int (iadd i1_0 (1 : Int)), GV.bool b1_1] < μ1 [GV.int i1_0, GV.bool b1_1]))))) ∧ ((ilt i1_0 (ilen j)) = false → ((true = true) ∧ ((True) ∧ True) ∧ ((true : Bool) = (jvB a1 a2 a3 j)) ∧ True))))))) = ev sig_spec_JointsValid xs_spec_JointsValid Tryd.f47.ntmps (fun b => if b == 0 then [.v 5, .v 4] else []) (codeOf Tryd.f47) 0 (initS [.agg [.view (.ints a1), .view (.ints a2), .view (.ints a3)], .s (.view (.ints j))]) (retK Tryd.f47.results.toList [.s (.bool (jvB a1 a2 a3 j))]) := by kernel_rfl
set_option maxHeartbeats 400000 in
theorem F_spec_JointsValid : FunOK 47 g_spec_JointsValid := by
  refine fun_F (by kernel_rfl) Tryd.func47 rfl (by kernel_rfl) sig_spec_JointsValid_ok xs_spec_JointsValid_ok ?_
  intro avs sg h hn hl
  unfold g_spec_JointsValid at h
  split at h
  · rename_i a1 a2 a3 j
    injection h with h; subst h
    refine ⟨by kernel_rfl, fun b => if b == 0 then [.v 5, .v 4] else [], Eq.mp (V_spec_JointsValid a1 a2 a3 j) ?_⟩
    simp only [true_and, and_true, implies_true, and_self, forall_const, true_implies, lenA, lenL, SV.lenOK, Cont.lenOK] at hn hl ⊢
    have h0 := ilen_0 j
    simp only [ilt_t, ilt_f, ile_t, ile_f, ieq_t, ieq_f, bnot_e, band_e, bite_and, bite_or, NLt_e, NLe_e, NNe_e, NIs_e, imax_e, imin_e, irem_e, Bool.not_eq_true', Bool.not_eq_false', Bool.and_eq_true, Bool.or_eq_true, Bool.or_eq_false_iff, Bool.and_eq_false_iff, Cont.pts.injEq, Cont.ints.injEq, Cont.bools.injEq, Cont.ptss.injEq, Cont.intss.injEq, Cont.boolss.injEq, true_and, and_true, implies_true]
    refine ⟨fun h => ?_, fun h => ?_⟩
    · unfold jvB; rcases h with h | h <;> simp [h]
    obtain ⟨ha, hl1⟩ := h
    obtain ⟨l2, l3⟩ := armB_len ha
    refine ⟨fun | .int k :: _ => 0 ≤ k ∧ k ≤ ilen j ∧ (∀ i, 0 ≤ i → i < k → inB (geti j i) (geti a2 i) (geti a3 i) = true) | _ => False, fun | .int k :: _ => (ilen j - k).toNat | _ => 0, ⟨by omega, by omega, fun i h0 h1 => by omega⟩, ?_⟩
    rintro k XX ⟨hk0, hk1, hk⟩
    refine ⟨fun hc => ⟨⟨⟨hk0, hc⟩, ⟨hk0, by omega⟩, hk0, by omega⟩, fun hv => ?_, fun hv => ?_⟩, fun hc => ?_⟩
    · unfold jvB; rw [allN_no k hk0 hc hv]; simp
    · rw [iadd_1 hk0 hc hl.2]
      exact ⟨⟨by omega, by omega, upTo hk hv⟩, by show (ilen j - (k + 1)).toNat < (ilen j - k).toNat; omega⟩
    · unfold jvB; rw [ha, allN_mk fun i j0 j1 => hk i j0 (by omega)]; simp [hl1]
  · cases h
def g_spec_Degrees : List AV → Option Sg
  | [.s (.int d)] => some ⟨True, [.s (.int (d % 360))]⟩
  | _ => none
def sig_spec_Degrees : FuncId → List AV → Option Sg := sigL []
def xs_spec_Degrees : XS := ⟨xsigL [], ysigL []⟩
theorem sig_spec_Degrees_ok : SigOK sig_spec_Degrees := sigL_nil
theorem xs_spec_Degrees_ok : XSigOK xs_spec_Degrees := ⟨xsigL_nil, ysigL_nil⟩
theorem V_spec_Degrees (d : Int) : ((true = true) ∧ ((True) ∧ True) ∧ (true = true) ∧ ((True) ∧ (NNe (360 : Int) 0) ∧ (True) ∧ True) ∧ (true = true) ∧ ((True) ∧ (True) ∧ True) ∧ ((ilt (irem d (360 : Int)) (0 : Int)) = true → ((true = true) ∧ ((True) ∧ (True) ∧ (True) ∧ True) ∧ (true = true) ∧ ((True) ∧ (True) ∧ True) ∧ (((iadd (irem d (360 : Int)) (360 : Int)) : Int) = (d % 360)) ∧ True)) ∧ ((ilt (irem d (360 : Int)) (0 : Int)) = false → ((true = true) ∧ ((True) ∧ (True) ∧ True) ∧ (((irem d (360 : Int)) : Int) = (d % 360)) ∧ True))) = ev sig_spec_Degrees xs_spec_Degrees Tryd.f120.ntmps (fun b => []) (codeOf Tryd.f120) 0 (initS [.s (.int d)]) (retK Tryd.f120.results.toList [.s (.int (d % 360))]) := by kernel_rfl
set_option maxHeartbeats 400000 in
theorem F_spec_Degrees : FunOK 120 g_spec_Degrees := by
  refine fun_F (by kernel_rfl) Tryd.func120 rfl (by kernel_rfl) sig_spec_Degrees_ok xs_spec_Degrees_ok ?_
  intro avs sg h hn hl
  unfold g_spec_Degrees at h
  split at h
  · rename_i d
    injection h with h; subst h
    refine ⟨by kernel_rfl, fun b => [], Eq.mp (V_spec_Degrees d) ?_⟩
    simp only [true_and, and_true, implies_true, and_self, forall_const, true_implies, lenA, lenL, SV.lenOK, Cont.lenOK] at hn hl ⊢
    simp only [ilt_t, ilt_f, ile_t, ile_f, ieq_t, ieq_f, bnot_e, band_e, bite_and, bite_or, NLt_e, NLe_e, NNe_e, NIs_e, imax_e, imin_e, irem_e, Bool.not_eq_true', Bool.not_eq_false', Bool.and_eq_true, Bool.or_eq_true, Bool.or_eq_false_iff, Bool.and_eq_false_iff, Cont.pts.injEq, Cont.ints.injEq, Cont.bools.injEq, Cont.ptss.injEq, Cont.intss.injEq, Cont.boolss.injEq, true_and, and_true, implies_true]
    obtain ⟨h1, h2, h3⟩ := tmod_emod d
    refine ⟨by omega, fun h => ?_, fun h => ?_⟩
    · rw [iadd_e (by omega) (by omega)]; exact h2 h
    · exact h3 h
  · cases h
def g_spec_Cosine : List AV → Option Sg
  | [.s (.int d)] => some ⟨True, [.s (.int (cosF d))]⟩
  | _ => none
def sig_spec_Cosine : FuncId → List AV → Option Sg := sigL [(120, g_spec_Degrees), (101, g_spec_Sine)]
def xs_spec_Cosine : XS := ⟨xsigL [], ysigL []⟩
theorem sig_spec_Cosine_ok : SigOK sig_spec_Cosine := sigL_cons F_spec_Degrees (sigL_cons F_spec_Sine sigL_nil)
theorem xs_spec_Cosine_ok : XSigOK xs_spec_Cosine := ⟨xsigL_nil, ysigL_nil⟩
theorem V_spec_Cosine (d : Int) : ((true = true) ∧ ((True) ∧ True) ∧ (true = true) ∧ ((True) ∧ ((True)) ∧ (True) ∧ ((True)) ∧ (True) ∧ True) ∧ (((sinF (iadd (d % 360) (90 : Int))) : Int) = (cosF d)) ∧ True) = ev sig_spec_Cosine xs_spec_Cosine Tryd.f102.ntmps (fun b => []) (codeOf Tryd.f102) 0 (initS [.s (.int d)]) (retK Tryd.f102.results.toList [.s (.int (cosF d))]) := by kernel_rfl
set_option maxHeartbeats 400000 in
theorem F_spec_Cosine : FunOK 102 g_spec_Cosine := by
  refine fun_F (by kernel_rfl) Tryd.func102 rfl (by kernel_rfl) sig_spec_Cosine_ok xs_spec_Cosine_ok ?_
  intro avs sg h hn hl
  unfold g_spec_Cosine at h
  split at h
  · rename_i d
    injection h with h; subst h
    refine ⟨by kernel_rfl, fun b => [], Eq.mp (V_spec_Cosine d) ?_⟩
    simp only [true_and, and_true, implies_true, and_self, forall_const, true_implies, lenA, lenL, SV.lenOK, Cont.lenOK] at hn hl ⊢
    try simp only [ilt_t, ilt_f, ile_t, ile_f, ieq_t, ieq_f, bnot_e, band_e, bite_and, bite_or, NLt_e, NLe_e, NNe_e, NIs_e, imax_e, imin_e, irem_e, Bool.not_eq_true', Bool.not_eq_false', Bool.and_eq_true, Bool.or_eq_true, Bool.or_eq_false_iff, Bool.and_eq_false_iff, Cont.pts.injEq, Cont.ints.injEq, Cont.bools.injEq, Cont.ptss.injEq, Cont.intss.injEq, Cont.boolss.injEq, true_and, and_true, implies_true]
    unfold cosF
    rw [iadd_e (by omega) (by omega)]
  · cases h
def g_spec_l1Floor : List AV → Option Sg
  | [.s (.int a), .s (.int b)] => some ⟨1 ≤ b ∧ -9223372036854775807 ≤ a ∧ a ≤ 9223372036854775807, [.s (.int (a / b))]⟩
  | _ => none
def sig_spec_l1Floor : FuncId → List AV → Option Sg := sigL []
def xs_spec_l1Floor : XS := ⟨xsigL [], ysigL []⟩
theorem sig_spec_l1Floor_ok : SigOK sig_spec_l1Floor := sigL_nil
theorem xs_spec_l1Floor_ok : XSigOK xs_spec_l1Floor := ⟨xsigL_nil, ysigL_nil⟩
theorem V_spec_l1Floor (a : Int) (b : Int) : ((true = true) ∧ ((True) ∧ True) ∧ (true = true) ∧ ((True) ∧ (True) ∧ (NNe b 0) ∧ (True) ∧ True) ∧ (true = true) ∧ ((True) ∧ (True) ∧ (NNe b 0) ∧ (True) ∧ True) ∧ ((ilt (irem a b) (0 : Int)) = true → ((true = true) ∧ ((True) ∧ (True) ∧ (True) ∧ True) ∧ (true = true) ∧ ((True) ∧ (True) ∧ True) ∧ (((isub (iquo a b) (1 : Int)) : Int) = (a / b)) ∧ True)) ∧ ((ilt (irem a b) (0 : Int)) = false → ((true = true) ∧ ((True) ∧ (True) ∧ True) ∧ (((iquo a b) : Int) = (a / b)) ∧ True))) = ev sig_spec_l1Floor xs_spec_l1Floor Tryd.f122.ntmps (fun b => []) (codeOf Tryd.f122) 0 (initS [.s (.int a), .s (.int b)]) (retK Tryd.f122.results.toList [.s (.int (a / b))]) := by kernel_rfl
set_option maxHeartbeats 400000 in
theorem F_spec_l1Floor : FunOK 122 g_spec_l1Floor := by
  refine fun_F (by kernel_rfl) Tryd.func122 rfl (by kernel_rfl) sig_spec_l1Floor_ok xs_spec_l1Floor_ok ?_
  intro avs sg h hn hl
  unfold g_spec_l1Floor at h
  split at h
  · rename_i a b
    injection h with h; subst h
    refine ⟨by kernel_rfl, fun b => [], Eq.mp (V_spec_l1Floor a b) ?_⟩
    simp only [true_and, and_true, implies_true, and_self, forall_const, true_implies, lenA, lenL, SV.lenOK, Cont.lenOK] at hn hl ⊢
    obtain ⟨n1, n2, n3⟩ := hn
    obtain ⟨q1, q2⟩ := tdiv_bd n1 n2 n3
    obtain ⟨f1, f2⟩ := floor_e (a := a) n1
    simp only [ilt_t, ilt_f, ile_t, ile_f, ieq_t, ieq_f, bnot_e, band_e, bite_and, bite_or, NLt_e, NLe_e, NNe_e, NIs_e, imax_e, imin_e, irem_e, Bool.not_eq_true', Bool.not_eq_false', Bool.and_eq_true, Bool.or_eq_true, Bool.or_eq_false_iff, Bool.and_eq_false_iff, Cont.pts.injEq, Cont.ints.injEq, Cont.bools.injEq, Cont.ptss.injEq, Cont.intss.injEq, Cont.boolss.injEq, true_and, and_true, implies_true]
    refine ⟨by omega, by omega, fun h => ?_, fun h => ?_⟩
    · rw [q1, q2 h, f1 h]
    · rw [q1, f2 h]
  · cases h
def g_spec_l1Round : List AV → Option Sg
  | [.s (.int a), .s (.int b)] => some ⟨1 ≤ b ∧ b ≤ 1000000 ∧ -1000000000000 ≤ a ∧ a ≤ 1000000000000, [.s (.int ((a + b / 2) / b))]⟩
  | _ => none
def sig_spec_l1Round : FuncId → List AV → Option Sg := sigL [(122, g_spec_l1Floor)]
def xs_spec_l1Round : XS := ⟨xsigL [], ysigL []⟩
theorem sig_spec_l1Round_ok : SigOK sig_spec_l1Round := sigL_cons F_spec_l1Floor sigL_nil
theorem xs_spec_l1Round_ok : XSigOK xs_spec_l1Round := ⟨xsigL_nil, ysigL_nil⟩
theorem V_spec_l1Round (a : Int) (b : Int) : ((true = true) ∧ ((True) ∧ True) ∧ (true = true) ∧ ((True) ∧ (True) ∧ (NNe (2 : Int) 0) ∧ (True) ∧ (True) ∧ ((1 ≤ b ∧ -9223372036854775807 ≤ (iadd a (iquo b (2 : Int))) ∧ (iadd a (iquo b (2 : Int))) ≤ 9223372036854775807)) ∧ (True) ∧ True) ∧ ((((iadd a (iquo b (2 : Int))) / b) : Int) = ((a + b / 2) / b)) ∧ True) = ev sig_spec_l1Round xs_spec_l1Round Tryd.f103.ntmps (fun b => []) (codeOf Tryd.f103) 0 (initS [.s (.int a), .s (.int b)]) (retK Tryd.f103.results.toList [.s (.int ((a + b / 2) / b))]) := by kernel_rfl
set_option maxHeartbeats 400000 in
theorem F_spec_l1Round : FunOK 103 g_spec_l1Round := by
  refine fun_F (by kernel_rfl) Tryd.func103 rfl (by kernel_rfl) sig_spec_l1Round_ok xs_spec_l1Round_ok ?_
  intro avs sg h hn hl
  unfold g_spec_l1Round at h
  split at h
  · rename_i a b
    injection h with h; subst h
    refine ⟨by kernel_rfl, fun b => [], Eq.mp (V_spec_l1Round a b) ?_⟩
    simp only [true_and, and_true, implies_true, and_self, forall_const, true_implies, lenA, lenL, SV.lenOK, Cont.lenOK] at hn hl ⊢
    simp only [ilt_t, ilt_f, ile_t, ile_f, ieq_t, ieq_f, bnot_e, band_e, bite_and, bite_or, NLt_e, NLe_e, NNe_e, NIs_e, imax_e, imin_e, irem_e, Bool.not_eq_true', Bool.not_eq_false', Bool.and_eq_true, Bool.or_eq_true, Bool.or_eq_false_iff, Bool.and_eq_false_iff, Cont.pts.injEq, Cont.ints.injEq, Cont.bools.injEq, Cont.ptss.injEq, Cont.intss.injEq, Cont.boolss.injEq, true_and, and_true, implies_true]
    have e : iquo b 2 = b / 2 := by rw [iquo_e (by omega) (by omega) (by omega), Int.tdiv_eq_ediv_of_nonneg (by omega)]
    rw [e, iadd_e (by omega) (by omega)]
    exact ⟨by omega, rfl⟩
  · cases h
def g_spec_l2Turn : List AV → Option Sg
  | [.agg [.int p1, .int p2], .s (.int d)] => some ⟨vB p1 p2 = true, [.agg [.int (rotX p1 p2 d), .int (rotY p1 p2 d)]]⟩
  | _ => none
def sig_spec_l2Turn : FuncId → List AV → Option Sg := sigL [(101, g_spec_Sine), (102, g_spec_Cosine), (103, g_spec_l1Round)]
def xs_spec_l2Turn : XS := ⟨xsigL [], ysigL []⟩
theorem sig_spec_l2Turn_ok : SigOK sig_spec_l2Turn := sigL_cons F_spec_Sine (sigL_cons F_spec_Cosine (sigL_cons F_spec_l1Round sigL_nil))
theorem xs_spec_l2Turn_ok : XSigOK xs_spec_l2Turn := ⟨xsigL_nil, ysigL_nil⟩
theorem V_spec_l2Turn (p1 : Int) (p2 : Int) (d : Int) : ((true = true) ∧ ((True) ∧ (True) ∧ True) ∧ (true = true) ∧ ((True) ∧ ((True)) ∧ (True) ∧ True) ∧ (true = true) ∧ ((True) ∧ ((True)) ∧ (True) ∧ True) ∧ (true = true) ∧ ((True) ∧ (True) ∧ (True) ∧ (True) ∧ (True) ∧ (True) ∧ (True) ∧ (True) ∧ (True) ∧ ((1 ≤ (4096 : Int) ∧ (4096 : Int) ≤ 1000000 ∧ -1000000000000 ≤ (isub (imul p1 (cosF d)) (imul p2 (sinF d))) ∧ (isub (imul p1 (cosF d)) (imul p2 (sinF d))) ≤ 1000000000000)) ∧ (True) ∧ (True) ∧ (True) ∧ (True) ∧ (True) ∧ (True) ∧ (True) ∧ (True) ∧ (True) ∧ ((1 ≤ (4096 : Int) ∧ (4096 : Int) ≤ 1000000 ∧ -1000000000000 ≤ (iadd (imul p1 (sinF d)) (imul p2 (cosF d))) ∧ (iadd (imul p1 (sinF d)) (imul p2 (cosF d))) ≤ 1000000000000)) ∧ (True) ∧ True) ∧ (True) ∧ ((((((isub (imul p1 (cosF d)) (imul p2 (sinF d))) + (4096 : Int) / 2) / (4096 : Int)) : Int) = (rotX p1 p2 d)) ∧ (((((iadd (imul p1 (sinF d)) (imul p2 (cosF d))) + (4096 : Int) / 2) / (4096 : Int)) : Int) = (rotY p1 p2 d)) ∧ True) ∧ True) = ev sig_spec_l2Turn xs_spec_l2Turn Tryd.f83.ntmps (fun b => []) (codeOf Tryd.f83) 0 (initS [.agg [.int p1, .int p2], .s (.int d)]) (retK Tryd.f83.results.toList [.agg [.int (rotX p1 p2 d), .int (rotY p1 p2 d)]]) := by kernel_rfl
set_option maxHeartbeats 400000 in
theorem F_spec_l2Turn : FunOK 83 g_spec_l2Turn := by
  refine fun_F (by kernel_rfl) Tryd.func83 rfl (by kernel_rfl) sig_spec_l2Turn_ok xs_spec_l2Turn_ok ?_
  intro avs sg h hn hl
  unfold g_spec_l2Turn at h
  split at h
  · rename_i p1 p2 d
    injection h with h; subst h
    refine ⟨by kernel_rfl, fun b => [], Eq.mp (V_spec_l2Turn p1 p2 d) ?_⟩
    simp only [true_and, and_true, implies_true, and_self, forall_const, true_implies, lenA, lenL, SV.lenOK, Cont.lenOK] at hn hl ⊢
    have c := cosF_bd d; have s := sinF_bd d
    have hv := vB_bd hn
    have q1 := mul40 (x := p1) (y := cosF d) (a := 10000) (by omega) (by omega) c
    have q2 := mul40 (x := p2) (y := sinF d) (a := 10000) (by omega) (by omega) s
    have q3 := mul40 (x := p1) (y := sinF d) (a := 10000) (by omega) (by omega) s
    have q4 := mul40 (x := p2) (y := cosF d) (a := 10000) (by omega) (by omega) c
    try simp only [ilt_t, ilt_f, ile_t, ile_f, ieq_t, ieq_f, bnot_e, band_e, bite_and, bite_or, NLt_e, NLe_e, NNe_e, NIs_e, imax_e, imin_e, irem_e, Bool.not_eq_true', Bool.not_eq_false', Bool.and_eq_true, Bool.or_eq_true, Bool.or_eq_false_iff, Bool.and_eq_false_iff, Cont.pts.injEq, Cont.ints.injEq, Cont.bools.injEq, Cont.ptss.injEq, Cont.intss.injEq, Cont.boolss.injEq, true_and, and_true, implies_true]
    rw [imul_e (a := p1) (b := cosF d) (by omega) (by omega), imul_e (a := p2) (b := sinF d) (by omega) (by omega), imul_e (a := p1) (b := sinF d) (by omega) (by omega), imul_e (a := p2) (b := cosF d) (by omega) (by omega), isub_e (by omega) (by omega), iadd_e (by omega) (by omega)]
    exact ⟨⟨⟨by omega, by omega, by omega, by omega⟩, by omega, by omega, by omega, by omega⟩, rfl, rfl⟩
  · cases h
def g_spec_l3Points : List AV → Option Sg
  | [.agg [.view (.ints a1), .view (.ints a2), .view (.ints a3)], .s (.view (.ints j))] => some ⟨jvB a1 a2 a3 j = true, [.nrow 62 (.pts (apL a1 j (ilen a1 + 1)))]⟩
  | _ => none
def sig_spec_l3Points : FuncId → List AV → Option Sg := sigL [(83, g_spec_l2Turn)]
def xs_spec_l3Points : XS := ⟨xsigL [], ysigL []⟩
theorem sig_spec_l3Points_ok : SigOK sig_spec_l3Points := sigL_cons F_spec_l2Turn sigL_nil
theorem xs_spec_l3Points_ok : XSigOK xs_spec_l3Points := ⟨xsigL_nil, ysigL_nil⟩
theorem V_spec_l3Points (a1 : List Int) (a2 : List Int) (a3 : List Int) (j : List Int) : ((true = true) ∧ ((True) ∧ (True) ∧ True) ∧ (true = true) ∧ ((True) ∧ (True) ∧ True) ∧ (True) ∧ (true = true) ∧ ((True) ∧ True) ∧ (true = true) ∧ ((True) ∧ (True) ∧ (True) ∧ True) ∧ (true = true) ∧ ((True) ∧ True) ∧ ∃ (I1 : List GV → Prop) (μ1 : List GV → Nat), (((true = true) ∧ ((((0 : Int) : Int) = (0 : Int)) ∧ (((0 : Int) : Int) = (0 : Int)) ∧ ((((0 : Int) : Int) = (0 : Int)) ∧ (((0 : Int) : Int) = (0 : Int)) ∧ True) ∧ (true = true) ∧ ((((0 : Int) : Int) = (0 : Int)) ∧ (((0 : Int) : Int) = (0 : Int)) ∧ True) ∧ (true = true) ∧ (true = true) ∧ (true = true) ∧ (((Cont.ints a1) = (Cont.ints a1)) ∧ ((Cont.ints a2) = (Cont.ints a2)) ∧ ((Cont.ints a3) = (Cont.ints a3)) ∧ True) ∧ ((Cont.ints j) = (Cont.ints j)) ∧ True) ∧ (((((0 : Int) : Int) = (0 : Int)) ∧ (((0 : Int) : Int) = (0 : Int)) ∧ True) ∧ ((true = true) ∧ ((Cont.pts [((0 : Int), (0 : Int))]) = (Cont.pts [((0 : Int), (0 : Int))]))) ∧ (((Cont.ints a1) = (Cont.ints a1)) ∧ ((Cont.ints a2) = (Cont.ints a2)) ∧ ((Cont.ints a3) = (Cont.ints a3)) ∧ True) ∧ ((true = true) ∧ ((Cont.pts []) = (Cont.pts []))) ∧ True)) ∧ (([GK.int, GK.pts, GK.int, GK.int, GK.int] : List GK) = ([GK.int, GK.pts, GK.int, GK.int, GK.int] : List GK)) ∧ I1 [GV.int (0 : Int), GV.pts [((0 : Int), (0 : Int))], GV.int (0 : Int), GV.int (0 : Int), GV.int (0 : Int)]) ∧ (∀ i1_0 : Int, ∀ l1_1 : List Pt, ∀ i1_2 : Int, ∀ i1_3 : Int, ∀ i1_4 : Int, I1 [GV.int i1_0, GV.pts l1_1, GV.int i1_2, GV.int i1_3, GV.int i1_4] → ((true = true) ∧ ((True) ∧ (True) ∧ (True) ∧ (True) ∧ True) ∧ ((ilt i1_0 (ilen j)) = true → ((true = true) ∧ ((True) ∧ (True) ∧ (True) ∧ (NLe 0 i1_0 ∧ NLt i1_0 (ilen j)) ∧ (True) ∧ (True) ∧ (True) ∧ True) ∧ (true = true) ∧ ((True) ∧ (True) ∧ (True) ∧ (NLe 0 i1_0 ∧ NLt i1_0 (ilen a1)) ∧ (True) ∧ (True) ∧ (True) ∧ ((vB (geti a1 i1_0) (0 : Int) = true)) ∧ (True) ∧ True) ∧ (True) ∧ (true = true) ∧ ((True) ∧ (True) ∧ (True) ∧ (True) ∧ (True) ∧ (True) ∧ (True) ∧ (True) ∧ (True) ∧ (True) ∧ (True) ∧ True) ∧ (True) ∧ (true = true) ∧ ((True) ∧ (True) ∧ (True) ∧ True) ∧ (NLe (ilen l1_1) 1000000000 ∧ NLe (ilen [((iadd i1_3 (rotX (geti a1 i1_0) (0 : Int) (iadd i1_2 (geti j i1_0)))), (iadd i1_4 (rotY (geti a1 i1_0) (0 : Int) (iadd i1_2 (geti j i1_0)))))]) 1000000000) ∧ (True) ∧ (true = true) ∧ ((True) ∧ (True) ∧ (True) ∧ True) ∧ ((true = true) ∧ ((((iadd i1_2 (geti j i1_0)) : Int) = (iadd i1_2 (geti j i1_0))) ∧ (((iadd i1_0 (1 : Int)) : Int) = (iadd i1_0 (1 : Int))) ∧ ((((0 : Int) : Int) = (0 : Int)) ∧ (((0 : Int) : Int) = (0 : Int)) ∧ True) ∧ (true = true) ∧ ((((0 : Int) : Int) = (0 : Int)) ∧ (((0 : Int) : Int) = (0 : Int)) ∧ True) ∧ (true = true) ∧ (true = true) ∧ (true = true) ∧ (((Cont.ints a1) = (Cont.ints a1)) ∧ ((Cont.ints a2) = (Cont.ints a2)) ∧ ((Cont.ints a3) = (Cont.ints a3)) ∧ True) ∧ ((Cont.ints j) = (Cont.ints j)) ∧ True) ∧ (((((iadd i1_3 (rotX (geti a1 i1_0) (0 : Int) (iadd i1_2 (geti j i1_0)))) : Int) = (iadd i1_3 (rotX (geti a1 i1_0) (0 : Int) (iadd i1_2 (geti j i1_0))))) ∧ (((iadd i1_4 (rotY (geti a1 i1_0) (0 : Int) (iadd i1_2 (geti j i1_0)))) : Int) = (iadd i1_4 (rotY (geti a1 i1_0) (0 : Int) (iadd i1_2 (geti j i1_0))))) ∧ True) ∧ ((true = true) ∧ ((Cont.pts (iapp l1_1 [((iadd i1_3 (rotX (geti a1 i1_0) (0 : Int) (iadd i1_2 (geti j i1_0)))), (iadd i1_4 (rotY (geti a1 i1_0) (0 : Int) (iadd i1_2 (geti j i1_0)))))])) = (Cont.pts (iapp l1_1 [((iadd i1_3 (rotX (geti a1 i1_0) (0 : Int) (iadd i1_2 (geti j i1_0)))), (iadd i1_4 (rotY (geti a1 i1_0) (0 : Int) (iadd i1_2 (geti j i1_0)))))])))) ∧ (((Cont.ints a1) = (Cont.ints a1)) ∧ ((Cont.ints a2) = (Cont.ints a2)) ∧ ((Cont.ints a3) = (Cont.ints a3)) ∧ True) ∧ ((true = true) ∧ ((Cont.pts []) = (Cont.pts []))) ∧ True)) ∧ ((([GK.int, GK.pts, GK.int, GK.int, GK.int] : List GK) = ([GK.int, GK.pts, GK.int, GK.int, GK.int] : List GK)) ∧ I1 [GV.int (iadd i1_0 (1 : Int)), GV.pts (iapp l1_1 [((iadd i1_3 (rotX (geti a1 i1_0) (0 : Int) (iadd i1_2 (geti j i1_0)))), (iadd i1_4 (rotY (geti a1 i1_0) (0 : Int) (iadd i1_2 (geti j i1_0)))))]), GV.int (iadd i1_2 (geti j i1_0)), GV.int (iadd i1_3 (rotX (geti a1 i1_0) (0 : Int) (iadd i1_2 (geti j i1_0)))), GV.int (iadd i1_4 (rotY (geti a1 i1_0) (0 : Int) (iadd i1_2 (geti j i1_0))))] ∧ μ1 [GV.int (iadd i1_0 (1 : Int)), GV.pts (iapp l1_1 [((iadd i1_3 (rotX (geti a1 i1_0) (0 : Int) (iadd i1_2 (geti j i1_0)))), (iadd i1_4 (rotY (geti a1 i1_0) (0 : Int) (iadd i1_2 (geti j i1_0)))))]), GV.int (iadd i1_2 (geti j i1_0)), GV.int (iadd i1_3 (rotX (geti a1 i1_0) (0 : Int) (iadd i1_2 (geti j i1_0)))), GV.int (iadd i1_4 (rotY (geti a1 i1_0) (0 : Int) (iadd i1_2 (geti j i1_0))))] < μ1 [GV.int i1_0, GV.pts l1_1, GV.int i1_2, GV.int i1_3, GV.int i1_4]))) ∧ ((ilt i1_0 (ilen j)) = false → ((true = true) ∧ ((True) ∧ (True) ∧ True) ∧ ((true = true) ∧ ((Cont.pts l1_1) = (Cont.pts (apL a1 j (ilen a1 + 1))))) ∧ True))))) = ev sig_spec_l3Points xs_spec_l3Points Tryd.f88.ntmps (fun b => if b == 0 then [.v 8, .b 7, .v 6, .b 5] else []) (codeOf Tryd.f88) 0 (initS [.agg [.view (.ints a1), .view (.ints a2), .view (.ints a3)], .s (.view (.ints j))]) (retK Tryd.f88.results.toList [.nrow 62 (.pts (apL a1 j (ilen a1 + 1)))]) := by kernel_rfl
set_option maxHeartbeats 400000 in
theorem F_spec_l3Points : FunOK 88 g_spec_l3Points := by
  refine fun_F (by kernel_rfl) Tryd.func88 rfl (by kernel_rfl) sig_spec_l3Points_ok xs_spec_l3Points_ok ?_
  intro avs sg h hn hl
  unfold g_spec_l3Points at h
  split at h
  · rename_i a1 a2 a3 j
    injection h with h; subst h
    refine ⟨by kernel_rfl, fun b => if b == 0 then [.v 8, .b 7, .v 6, .b 5] else [], Eq.mp (V_spec_l3Points a1 a2 a3 j) ?_⟩
    simp only [true_and, and_true, implies_true, and_self, forall_const, true_implies, lenA, lenL, SV.lenOK, Cont.lenOK] at hn hl ⊢
    obtain ⟨ha, hjl, hl4, hlk, hjk⟩ := jv_p hn
    simp only [ilt_t, ilt_f, ile_t, ile_f, ieq_t, ieq_f, bnot_e, band_e, bite_and, bite_or, NLt_e, NLe_e, NNe_e, NIs_e, imax_e, imin_e, irem_e, Bool.not_eq_true', Bool.not_eq_false', Bool.and_eq_true, Bool.or_eq_true, Bool.or_eq_false_iff, Bool.and_eq_false_iff, Cont.pts.injEq, Cont.ints.injEq, Cont.bools.injEq, Cont.ptss.injEq, Cont.intss.injEq, Cont.boolss.injEq, true_and, and_true, implies_true]
    refine ⟨fun | [.int k, .pts o, .int d, .int x, .int y] => 0 ≤ k ∧ k ≤ ilen a1 ∧ o = apL a1 j (k + 1) ∧ d = dirK j k ∧ x = apX a1 j k ∧ y = apY a1 j k | _ => False, fun | .int k :: _ => (ilen a1 - k).toNat | _ => 0, ⟨by omega, by omega, rfl, rfl, rfl, rfl⟩, ?_⟩
    rintro k o d x y ⟨k0, k1, rfl, rfl, rfl, rfl⟩
    refine ⟨fun hc => ?_, fun hc => ?_⟩
    · have hk : k < ilen a1 := by omega
      have b1 := jv_bd hn k0 k1
      have b2 := jv_bd hn (k := k + 1) (by omega) (by omega)
      have hL := hlk k k0 hk
      have hJ := hjk k k0 hk
      have hd := dirK_1 (J := j) k0
      have hx := apX_1 (L := a1) (J := j) k0
      have hy := apY_1 (L := a1) (J := j) k0
      have e1 : iadd (dirK j k) (geti j k) = dirK j (k + 1) := by rw [iadd_e (by omega) (by omega), hd]
      rw [e1]
      have e2 : iadd (apX a1 j k) (rotX (geti a1 k) 0 (dirK j (k + 1))) = apX a1 j (k + 1) := by rw [iadd_e (by omega) (by omega), hx]
      have e3 : iadd (apY a1 j k) (rotY (geti a1 k) 0 (dirK j (k + 1))) = apY a1 j (k + 1) := by rw [iadd_e (by omega) (by omega), hy]
      rw [e2, e3, apL_len (by omega), iadd_e (by omega) (by omega)]
      exact ⟨⟨k0, by omega⟩, ⟨⟨k0, by omega⟩, vB_mk (by omega)⟩, ⟨by omega, by rw [ilen_one]; omega⟩, ⟨by omega, by omega, apL_s (by omega), rfl, rfl, rfl⟩, by show (ilen a1 - (k + 1)).toNat < (ilen a1 - k).toNat; omega⟩
    · rw [show k = ilen a1 by omega]
  · cases h
def g_spec_l8Inside : List AV → Option Sg
  | [.s (.view (.pts l)), .agg [.int p1, .int p2]] => some ⟨True, [.s (.bool (insB l p1 p2))]⟩
  | _ => none
def sig_spec_l8Inside : FuncId → List AV → Option Sg := sigL [(108, g_spec_l2Cross)]
def xs_spec_l8Inside : XS := ⟨xsigL [], ysigL []⟩
theorem sig_spec_l8Inside_ok : SigOK sig_spec_l8Inside := sigL_cons F_spec_l2Cross sigL_nil
theorem xs_spec_l8Inside_ok : XSigOK xs_spec_l8Inside := ⟨xsigL_nil, ysigL_nil⟩
theorem V_spec_l8Inside (l : List Pt) (p1 : Int) (p2 : Int) : ((true = true) ∧ ((True) ∧ (True) ∧ True) ∧ (true = true) ∧ ((True) ∧ True) ∧ ∃ (I1 : List GV → Prop) (μ1 : List GV → Nat), (((true = true) ∧ (((false : Bool) = false) ∧ (((0 : Int) : Int) = (0 : Int)) ∧ (true = true) ∧ ((Cont.pts l) = (Cont.pts l)) ∧ (((p1 : Int) = p1) ∧ ((p2 : Int) = p2) ∧ True) ∧ True) ∧ ((((p1 : Int) = p1) ∧ ((p2 : Int) = p2) ∧ True) ∧ True)) ∧ (([GK.int, GK.bool] : List GK) = ([GK.int, GK.bool] : List GK)) ∧ I1 [GV.int (0 : Int), GV.bool false]) ∧ (∀ i1_0 : Int, ∀ b1_1 : Bool, I1 [GV.int i1_0, GV.bool b1_1] → ((true = true) ∧ ((True) ∧ (True) ∧ (True) ∧ (True) ∧ True) ∧ ((ilt i1_0 (ilen l)) = true → ((true = true) ∧ ((True) ∧ (True) ∧ (NLe 0 i1_0 ∧ NLt i1_0 (ilen l)) ∧ (True) ∧ (True) ∧ (True) ∧ (True) ∧ (True) ∧ (True) ∧ (NNe (ilen l) 0) ∧ (NLe 0 (irem (iadd i1_0 (1 : Int)) (ilen l)) ∧ NLt (irem (iadd i1_0 (1 : Int)) (ilen l)) (ilen l)) ∧ (True) ∧ (True) ∧ ((True)) ∧ (True) ∧ True) ∧ ((ilt (crW (getx l i1_0) (gety l i1_0) (getx l (irem (iadd i1_0 (1 : Int)) (ilen l))) (gety l (irem (iadd i1_0 (1 : Int)) (ilen l))) p1 p2) (0 : Int)) = true → ((true = true) ∧ ((True) ∧ True) ∧ ((false : Bool) = (insB l p1 p2)) ∧ True)) ∧ ((ilt (crW (getx l i1_0) (gety l i1_0) (getx l (irem (iadd i1_0 (1 : Int)) (ilen l))) (gety l (irem (iadd i1_0 (1 : Int)) (ilen l))) p1 p2) (0 : Int)) = false → ((true = true) ∧ ((True) ∧ (True) ∧ (True) ∧ True) ∧ ((true = true) ∧ (((b1_1 : Bool) = b1_1) ∧ (((iadd i1_0 (1 : Int)) : Int) = (iadd i1_0 (1 : Int))) ∧ (true = true) ∧ ((Cont.pts l) = (Cont.pts l)) ∧ (((p1 : Int) = p1) ∧ ((p2 : Int) = p2) ∧ True) ∧ True) ∧ ((((p1 : Int) = p1) ∧ ((p2 : Int) = p2) ∧ True) ∧ True)) ∧ ((([GK.int, GK.bool] : List GK) = ([GK.int, GK.bool] : List GK)) ∧ I1 [GV.int (iadd i1_0 (1 : Int)), GV.bool b1_1] ∧ μ1 [GV.int (iadd i1_0 (1 : Int)), GV.bool b1_1] < μ1 [GV.int i1_0, GV.bool b1_1]))))) ∧ ((ilt i1_0 (ilen l)) = false → ((true = true) ∧ ((True) ∧ True) ∧ ((true : Bool) = (insB l p1 p2)) ∧ True))))) = ev sig_spec_l8Inside xs_spec_l8Inside Tryd.f119.ntmps (fun b => if b == 0 then [.v 5, .v 4] else []) (codeOf Tryd.f119) 0 (initS [.s (.view (.pts l)), .agg [.int p1, .int p2]]) (retK Tryd.f119.results.toList [.s (.bool (insB l p1 p2))]) := by kernel_rfl
set_option maxHeartbeats 400000 in
theorem F_spec_l8Inside : FunOK 119 g_spec_l8Inside := by
  refine fun_F (by kernel_rfl) Tryd.func119 rfl (by kernel_rfl) sig_spec_l8Inside_ok xs_spec_l8Inside_ok ?_
  intro avs sg h hn hl
  unfold g_spec_l8Inside at h
  split at h
  · rename_i l p1 p2
    injection h with h; subst h
    refine ⟨by kernel_rfl, fun b => if b == 0 then [.v 5, .v 4] else [], Eq.mp (V_spec_l8Inside l p1 p2) ?_⟩
    simp only [true_and, and_true, implies_true, and_self, forall_const, true_implies, lenA, lenL, SV.lenOK, Cont.lenOK] at hn hl ⊢
    have h0 := ilen_0 l
    simp only [ilt_t, ilt_f, ile_t, ile_f, ieq_t, ieq_f, bnot_e, band_e, bite_and, bite_or, NLt_e, NLe_e, NNe_e, NIs_e, imax_e, imin_e, irem_e, Bool.not_eq_true', Bool.not_eq_false', Bool.and_eq_true, Bool.or_eq_true, Bool.or_eq_false_iff, Bool.and_eq_false_iff, Cont.pts.injEq, Cont.ints.injEq, Cont.bools.injEq, Cont.ptss.injEq, Cont.intss.injEq, Cont.boolss.injEq, true_and, and_true, implies_true]
    refine ⟨fun | .int k :: _ => 0 ≤ k ∧ k ≤ ilen l ∧ (∀ i, 0 ≤ i → i < k → insE l p1 p2 i = true) | _ => False, fun | .int k :: _ => (ilen l - k).toNat | _ => 0, ?_, ?_⟩
    · exact ⟨Int.le_refl 0, h0, fun j h0 h1 => absurd h1 (by omega)⟩
    · rintro k _ ⟨hk0, hk1, hk⟩
      simp only [ilt_t, ilt_f, ile_t, ile_f, ieq_t, ieq_f, bnot_e, band_e, bite_and, bite_or, NLt_e, NLe_e, NNe_e, NIs_e, imax_e, imin_e, irem_e, Bool.not_eq_true', Bool.not_eq_false', Bool.and_eq_true, Bool.or_eq_true, Bool.or_eq_false_iff, Bool.and_eq_false_iff, Cont.pts.injEq, Cont.ints.injEq, Cont.bools.injEq, Cont.ptss.injEq, Cont.intss.injEq, Cont.boolss.injEq, true_and, and_true, implies_true]
      refine ⟨fun hkn => ?_, fun hkn => ?_⟩
      · have e1 := iadd_1 hk0 hkn hl
        obtain ⟨n0, n1, _⟩ := nx_in hk0 hkn
        have e2 : (k + 1).tmod (ilen l) = nx l k := rfl
        simp only [e1, e2]
        have hne : ilen l ≠ 0 := by omega
        refine ⟨⟨⟨hk0, hkn⟩, hne, ⟨n0, n1⟩⟩, fun hx => ?_, fun hx => ?_⟩
        · have hE : insE l p1 p2 k = false := by
            unfold insE
            simp only [decide_eq_false_iff_not]
            omega
          unfold insB
          rw [allN_no k hk0 hkn hE]
        · have hE : insE l p1 p2 k = true := by
            unfold insE
            simp only [decide_eq_true_eq]
            omega
          exact ⟨⟨by omega, by omega, allN_up hk hE⟩, by omega⟩
      · unfold insB
        rw [allN_mk fun i h0 h1 => hk i h0 (by omega)]
  · cases h
def g_spec_l8On : List AV → Option Sg
  | [.agg [.int a1, .int a2], .agg [.int b1, .int b2], .agg [.int p1, .int p2]] => some ⟨True, [.s (.bool (btW a1 a2 b1 b2 p1 p2))]⟩
  | _ => none
def sig_spec_l8On : FuncId → List AV → Option Sg := sigL [(82, g_spec_l1In)]
def xs_spec_l8On : XS := ⟨xsigL [], ysigL []⟩
theorem sig_spec_l8On_ok : SigOK sig_spec_l8On := sigL_cons F_spec_l1In sigL_nil
theorem xs_spec_l8On_ok : XSigOK xs_spec_l8On := ⟨xsigL_nil, ysigL_nil⟩
theorem V_spec_l8On (a1 : Int) (a2 : Int) (b1 : Int) (b2 : Int) (p1 : Int) (p2 : Int) : ((true = true) ∧ ((True) ∧ (True) ∧ (True) ∧ (True) ∧ True) ∧ (true = true) ∧ ((True) ∧ (True) ∧ (True) ∧ (True) ∧ (True) ∧ (True) ∧ (True) ∧ (True) ∧ (True) ∧ (True) ∧ (True) ∧ (True) ∧ ((True)) ∧ (True) ∧ (NIs (inB p1 (imin a1 b1) (imax a1 b1)) true → True) ∧ (NIs (inB p1 (imin a1 b1) (imax a1 b1)) true → True) ∧ (NIs (inB p1 (imin a1 b1) (imax a1 b1)) true → True) ∧ (NIs (inB p1 (imin a1 b1) (imax a1 b1)) true → True) ∧ (NIs (inB p1 (imin a1 b1) (imax a1 b1)) true → True) ∧ (NIs (inB p1 (imin a1 b1) (imax a1 b1)) true → True) ∧ (NIs (inB p1 (imin a1 b1) (imax a1 b1)) true → True) ∧ (NIs (inB p1 (imin a1 b1) (imax a1 b1)) true → True) ∧ (NIs (inB p1 (imin a1 b1) (imax a1 b1)) true → True) ∧ (NIs (inB p1 (imin a1 b1) (imax a1 b1)) true → True) ∧ (NIs (inB p1 (imin a1 b1) (imax a1 b1)) true → True) ∧ (NIs (inB p1 (imin a1 b1) (imax a1 b1)) true → True) ∧ (NIs (inB p1 (imin a1 b1) (imax a1 b1)) true → (True)) ∧ (True) ∧ (True) ∧ True) ∧ (((bite (inB p1 (imin a1 b1) (imax a1 b1)) (inB p2 (imin a2 b2) (imax a2 b2)) false) : Bool) = (btW a1 a2 b1 b2 p1 p2)) ∧ True) = ev sig_spec_l8On xs_spec_l8On Tryd.f109.ntmps (fun b => []) (codeOf Tryd.f109) 0 (initS [.agg [.int a1, .int a2], .agg [.int b1, .int b2], .agg [.int p1, .int p2]]) (retK Tryd.f109.results.toList [.s (.bool (btW a1 a2 b1 b2 p1 p2))]) := by kernel_rfl
set_option maxHeartbeats 400000 in
theorem F_spec_l8On : FunOK 109 g_spec_l8On := by
  refine fun_F (by kernel_rfl) Tryd.func109 rfl (by kernel_rfl) sig_spec_l8On_ok xs_spec_l8On_ok ?_
  intro avs sg h hn hl
  unfold g_spec_l8On at h
  split at h
  · rename_i a1 a2 b1 b2 p1 p2
    injection h with h; subst h
    refine ⟨by kernel_rfl, fun b => [], Eq.mp (V_spec_l8On a1 a2 b1 b2 p1 p2) ?_⟩
    simp only [true_and, and_true, implies_true, and_self, forall_const, true_implies, lenA, lenL, SV.lenOK, Cont.lenOK] at hn hl ⊢
    simp only [ilt_t, ilt_f, ile_t, ile_f, ieq_t, ieq_f, bnot_e, band_e, bite_and, bite_or, NLt_e, NLe_e, NNe_e, NIs_e, imax_e, imin_e, irem_e, Bool.not_eq_true', Bool.not_eq_false', Bool.and_eq_true, Bool.or_eq_true, Bool.or_eq_false_iff, Bool.and_eq_false_iff, Cont.pts.injEq, Cont.ints.injEq, Cont.bools.injEq, Cont.ptss.injEq, Cont.intss.injEq, Cont.boolss.injEq, true_and, and_true, implies_true]
    rfl
  · cases h
def g_spec_l8Meet : List AV → Option Sg
  | [.agg [.int a1, .int a2], .agg [.int b1, .int b2], .agg [.int c1, .int c2], .agg [.int d1, .int d2]] => some ⟨vB a1 a2 = true ∧ vB b1 b2 = true ∧ vB c1 c2 = true ∧ vB d1 d2 = true, [.s (.bool (meetB (a1, a2) (b1, b2) (c1, c2) (d1, d2)))]⟩
  | _ => none
def sig_spec_l8Meet : FuncId → List AV → Option Sg := sigL [(108, g_spec_l2Cross), (107, g_spec_l2Sign), (109, g_spec_l8On)]
def xs_spec_l8Meet : XS := ⟨xsigL [], ysigL []⟩
theorem sig_spec_l8Meet_ok : SigOK sig_spec_l8Meet := sigL_cons F_spec_l2Cross (sigL_cons F_spec_l2Sign (sigL_cons F_spec_l8On sigL_nil))
theorem xs_spec_l8Meet_ok : XSigOK xs_spec_l8Meet := ⟨xsigL_nil, ysigL_nil⟩
theorem V_spec_l8Meet (a1 : Int) (a2 : Int) (b1 : Int) (b2 : Int) (c1 : Int) (c2 : Int) (d1 : Int) (d2 : Int) : ((true = true) ∧ ((True) ∧ (True) ∧ (True) ∧ (True) ∧ (True) ∧ True) ∧ (true = true) ∧ ((True) ∧ (True) ∧ (True) ∧ ((True)) ∧ ((True)) ∧ (True) ∧ True) ∧ (true = true) ∧ ((True) ∧ (True) ∧ (True) ∧ ((True)) ∧ ((True)) ∧ (True) ∧ True) ∧ (true = true) ∧ ((True) ∧ (True) ∧ (True) ∧ ((True)) ∧ ((True)) ∧ (True) ∧ True) ∧ (true = true) ∧ ((True) ∧ (True) ∧ (True) ∧ ((True)) ∧ ((True)) ∧ (True) ∧ True) ∧ (true = true) ∧ ((True) ∧ (True) ∧ (True) ∧ (True) ∧ (NIs (bnot (ieq (sgn (crW a1 a2 b1 b2 c1 c2)) (sgn (crW a1 a2 b1 b2 d1 d2)))) true → True) ∧ (NIs (bnot (ieq (sgn (crW a1 a2 b1 b2 c1 c2)) (sgn (crW a1 a2 b1 b2 d1 d2)))) true → True) ∧ (NIs (bnot (ieq (sgn (crW a1 a2 b1 b2 c1 c2)) (sgn (crW a1 a2 b1 b2 d1 d2)))) true → True) ∧ (True) ∧ True) ∧ ((bite (bnot (ieq (sgn (crW a1 a2 b1 b2 c1 c2)) (sgn (crW a1 a2 b1 b2 d1 d2)))) (bnot (ieq (sgn (crW c1 c2 d1 d2 a1 a2)) (sgn (crW c1 c2 d1 d2 b1 b2)))) false) = true → ((true = true) ∧ ((True) ∧ True) ∧ ((true : Bool) = (meetB (a1, a2) (b1, b2) (c1, c2) (d1, d2))) ∧ True)) ∧ ((bite (bnot (ieq (sgn (crW a1 a2 b1 b2 c1 c2)) (sgn (crW a1 a2 b1 b2 d1 d2)))) (bnot (ieq (sgn (crW c1 c2 d1 d2 a1 a2)) (sgn (crW c1 c2 d1 d2 b1 b2)))) false) = false → ((true = true) ∧ ((True) ∧ (True) ∧ (True) ∧ (NIs (ieq (sgn (crW a1 a2 b1 b2 c1 c2)) (0 : Int)) true → True) ∧ (NIs (ieq (sgn (crW a1 a2 b1 b2 c1 c2)) (0 : Int)) true → True) ∧ (NIs (ieq (sgn (crW a1 a2 b1 b2 c1 c2)) (0 : Int)) true → True) ∧ (NIs (ieq (sgn (crW a1 a2 b1 b2 c1 c2)) (0 : Int)) true → (True)) ∧ (True) ∧ (True) ∧ (NIs (bite (ieq (sgn (crW a1 a2 b1 b2 c1 c2)) (0 : Int)) (btW a1 a2 b1 b2 c1 c2) false) false → True) ∧ (NIs (bite (ieq (sgn (crW a1 a2 b1 b2 c1 c2)) (0 : Int)) (btW a1 a2 b1 b2 c1 c2) false) false → True) ∧ (NIs (bite (ieq (sgn (crW a1 a2 b1 b2 c1 c2)) (0 : Int)) (btW a1 a2 b1 b2 c1 c2) false) false → True) ∧ (NIs (bite (ieq (sgn (crW a1 a2 b1 b2 c1 c2)) (0 : Int)) (btW a1 a2 b1 b2 c1 c2) false) false → (NIs (ieq (sgn (crW a1 a2 b1 b2 d1 d2)) (0 : Int)) true → True)) ∧ (NIs (bite (ieq (sgn (crW a1 a2 b1 b2 c1 c2)) (0 : Int)) (btW a1 a2 b1 b2 c1 c2) false) false → (NIs (ieq (sgn (crW a1 a2 b1 b2 d1 d2)) (0 : Int)) true → True)) ∧ (NIs (bite (ieq (sgn (crW a1 a2 b1 b2 c1 c2)) (0 : Int)) (btW a1 a2 b1 b2 c1 c2) false) false → (NIs (ieq (sgn (crW a1 a2 b1 b2 d1 d2)) (0 : Int)) true → True)) ∧ (NIs (bite (ieq (sgn (crW a1 a2 b1 b2 c1 c2)) (0 : Int)) (btW a1 a2 b1 b2 c1 c2) false) false → (NIs (ieq (sgn (crW a1 a2 b1 b2 d1 d2)) (0 : Int)) true → (True))) ∧ (NIs (bite (ieq (sgn (crW a1 a2 b1 b2 c1 c2)) (0 : Int)) (btW a1 a2 b1 b2 c1 c2) false) false → True) ∧ (True) ∧ (True) ∧ (NIs (bite (bite (ieq (sgn (crW a1 a2 b1 b2 c1 c2)) (0 : Int)) (btW a1 a2 b1 b2 c1 c2) false) true (bite (ieq (sgn (crW a1 a2 b1 b2 d1 d2)) (0 : Int)) (btW a1 a2 b1 b2 d1 d2) false)) false → True) ∧ (NIs (bite (bite (ieq (sgn (crW a1 a2 b1 b2 c1 c2)) (0 : Int)) (btW a1 a2 b1 b2 c1 c2) false) true (bite (ieq (sgn (crW a1 a2 b1 b2 d1 d2)) (0 : Int)) (btW a1 a2 b1 b2 d1 d2) false)) false → True) ∧ (NIs (bite (bite (ieq (sgn (crW a1 a2 b1 b2 c1 c2)) (0 : Int)) (btW a1 a2 b1 b2 c1 c2) false) true (bite (ieq (sgn (crW a1 a2 b1 b2 d1 d2)) (0 : Int)) (btW a1 a2 b1 b2 d1 d2) false)) false → True) ∧ (NIs (bite (bite (ieq (sgn (crW a1 a2 b1 b2 c1 c2)) (0 : Int)) (btW a1 a2 b1 b2 c1 c2) false) true (bite (ieq (sgn (crW a1 a2 b1 b2 d1 d2)) (0 : Int)) (btW a1 a2 b1 b2 d1 d2) false)) false → (NIs (ieq (sgn (crW c1 c2 d1 d2 a1 a2)) (0 : Int)) true → True)) ∧ (NIs (bite (bite (ieq (sgn (crW a1 a2 b1 b2 c1 c2)) (0 : Int)) (btW a1 a2 b1 b2 c1 c2) false) true (bite (ieq (sgn (crW a1 a2 b1 b2 d1 d2)) (0 : Int)) (btW a1 a2 b1 b2 d1 d2) false)) false → (NIs (ieq (sgn (crW c1 c2 d1 d2 a1 a2)) (0 : Int)) true → True)) ∧ (NIs (bite (bite (ieq (sgn (crW a1 a2 b1 b2 c1 c2)) (0 : Int)) (btW a1 a2 b1 b2 c1 c2) false) true (bite (ieq (sgn (crW a1 a2 b1 b2 d1 d2)) (0 : Int)) (btW a1 a2 b1 b2 d1 d2) false)) false → (NIs (ieq (sgn (crW c1 c2 d1 d2 a1 a2)) (0 : Int)) true → True)) ∧ (NIs (bite (bite (ieq (sgn (crW a1 a2 b1 b2 c1 c2)) (0 : Int)) (btW a1 a2 b1 b2 c1 c2) false) true (bite (ieq (sgn (crW a1 a2 b1 b2 d1 d2)) (0 : Int)) (btW a1 a2 b1 b2 d1 d2) false)) false → (NIs (ieq (sgn (crW c1 c2 d1 d2 a1 a2)) (0 : Int)) true → (True))) ∧ (NIs (bite (bite (ieq (sgn (crW a1 a2 b1 b2 c1 c2)) (0 : Int)) (btW a1 a2 b1 b2 c1 c2) false) true (bite (ieq (sgn (crW a1 a2 b1 b2 d1 d2)) (0 : Int)) (btW a1 a2 b1 b2 d1 d2) false)) false → True) ∧ (True) ∧ (True) ∧ (NIs (bite (bite (bite (ieq (sgn (crW a1 a2 b1 b2 c1 c2)) (0 : Int)) (btW a1 a2 b1 b2 c1 c2) false) true (bite (ieq (sgn (crW a1 a2 b1 b2 d1 d2)) (0 : Int)) (btW a1 a2 b1 b2 d1 d2) false)) true (bite (ieq (sgn (crW c1 c2 d1 d2 a1 a2)) (0 : Int)) (btW c1 c2 d1 d2 a1 a2) false)) false → True) ∧ (NIs (bite (bite (bite (ieq (sgn (crW a1 a2 b1 b2 c1 c2)) (0 : Int)) (btW a1 a2 b1 b2 c1 c2) false) true (bite (ieq (sgn (crW a1 a2 b1 b2 d1 d2)) (0 : Int)) (btW a1 a2 b1 b2 d1 d2) false)) true (bite (ieq (sgn (crW c1 c2 d1 d2 a1 a2)) (0 : Int)) (btW c1 c2 d1 d2 a1 a2) false)) false → True) ∧ (NIs (bite (bite (bite (ieq (sgn (crW a1 a2 b1 b2 c1 c2)) (0 : Int)) (btW a1 a2 b1 b2 c1 c2) false) true (bite (ieq (sgn (crW a1 a2 b1 b2 d1 d2)) (0 : Int)) (btW a1 a2 b1 b2 d1 d2) false)) true (bite (ieq (sgn (crW c1 c2 d1 d2 a1 a2)) (0 : Int)) (btW c1 c2 d1 d2 a1 a2) false)) false → True) ∧ (NIs (bite (bite (bite (ieq (sgn (crW a1 a2 b1 b2 c1 c2)) (0 : Int)) (btW a1 a2 b1 b2 c1 c2) false) true (bite (ieq (sgn (crW a1 a2 b1 b2 d1 d2)) (0 : Int)) (btW a1 a2 b1 b2 d1 d2) false)) true (bite (ieq (sgn (crW c1 c2 d1 d2 a1 a2)) (0 : Int)) (btW c1 c2 d1 d2 a1 a2) false)) false → (NIs (ieq (sgn (crW c1 c2 d1 d2 b1 b2)) (0 : Int)) true → True)) ∧ (NIs (bite (bite (bite (ieq (sgn (crW a1 a2 b1 b2 c1 c2)) (0 : Int)) (btW a1 a2 b1 b2 c1 c2) false) true (bite (ieq (sgn (crW a1 a2 b1 b2 d1 d2)) (0 : Int)) (btW a1 a2 b1 b2 d1 d2) false)) true (bite (ieq (sgn (crW c1 c2 d1 d2 a1 a2)) (0 : Int)) (btW c1 c2 d1 d2 a1 a2) false)) false → (NIs (ieq (sgn (crW c1 c2 d1 d2 b1 b2)) (0 : Int)) true → True)) ∧ (NIs (bite (bite (bite (ieq (sgn (crW a1 a2 b1 b2 c1 c2)) (0 : Int)) (btW a1 a2 b1 b2 c1 c2) false) true (bite (ieq (sgn (crW a1 a2 b1 b2 d1 d2)) (0 : Int)) (btW a1 a2 b1 b2 d1 d2) false)) true (bite (ieq (sgn (crW c1 c2 d1 d2 a1 a2)) (0 : Int)) (btW c1 c2 d1 d2 a1 a2) false)) false → (NIs (ieq (sgn (crW c1 c2 d1 d2 b1 b2)) (0 : Int)) true → True)) ∧ (NIs (bite (bite (bite (ieq (sgn (crW a1 a2 b1 b2 c1 c2)) (0 : Int)) (btW a1 a2 b1 b2 c1 c2) false) true (bite (ieq (sgn (crW a1 a2 b1 b2 d1 d2)) (0 : Int)) (btW a1 a2 b1 b2 d1 d2) false)) true (bite (ieq (sgn (crW c1 c2 d1 d2 a1 a2)) (0 : Int)) (btW c1 c2 d1 d2 a1 a2) false)) false → (NIs (ieq (sgn (crW c1 c2 d1 d2 b1 b2)) (0 : Int)) true → (True))) ∧ (NIs (bite (bite (bite (ieq (sgn (crW a1 a2 b1 b2 c1 c2)) (0 : Int)) (btW a1 a2 b1 b2 c1 c2) false) true (bite (ieq (sgn (crW a1 a2 b1 b2 d1 d2)) (0 : Int)) (btW a1 a2 b1 b2 d1 d2) false)) true (bite (ieq (sgn (crW c1 c2 d1 d2 a1 a2)) (0 : Int)) (btW c1 c2 d1 d2 a1 a2) false)) false → True) ∧ (True) ∧ (True) ∧ True) ∧ (((bite (bite (bite (bite (ieq (sgn (crW a1 a2 b1 b2 c1 c2)) (0 : Int)) (btW a1 a2 b1 b2 c1 c2) false) true (bite (ieq (sgn (crW a1 a2 b1 b2 d1 d2)) (0 : Int)) (btW a1 a2 b1 b2 d1 d2) false)) true (bite (ieq (sgn (crW c1 c2 d1 d2 a1 a2)) (0 : Int)) (btW c1 c2 d1 d2 a1 a2) false)) true (bite (ieq (sgn (crW c1 c2 d1 d2 b1 b2)) (0 : Int)) (btW c1 c2 d1 d2 b1 b2) false)) : Bool) = (meetB (a1, a2) (b1, b2) (c1, c2) (d1, d2))) ∧ True))) = ev sig_spec_l8Meet xs_spec_l8Meet Tryd.f89.ntmps (fun b => []) (codeOf Tryd.f89) 0 (initS [.agg [.int a1, .int a2], .agg [.int b1, .int b2], .agg [.int c1, .int c2], .agg [.int d1, .int d2]]) (retK Tryd.f89.results.toList [.s (.bool (meetB (a1, a2) (b1, b2) (c1, c2) (d1, d2)))]) := by kernel_rfl
set_option maxHeartbeats 400000 in
theorem F_spec_l8Meet : FunOK 89 g_spec_l8Meet := by
  refine fun_F (by kernel_rfl) Tryd.func89 rfl (by kernel_rfl) sig_spec_l8Meet_ok xs_spec_l8Meet_ok ?_
  intro avs sg h hn hl
  unfold g_spec_l8Meet at h
  split at h
  · rename_i a1 a2 b1 b2 c1 c2 d1 d2
    injection h with h; subst h
    refine ⟨by kernel_rfl, fun b => [], Eq.mp (V_spec_l8Meet a1 a2 b1 b2 c1 c2 d1 d2) ?_⟩
    simp only [true_and, and_true, implies_true, and_self, forall_const, true_implies, lenA, lenL, SV.lenOK, Cont.lenOK] at hn hl ⊢
    obtain ⟨va, vb, vc, vd⟩ := hn
    simp only [ilt_t, ilt_f, ile_t, ile_f, ieq_t, ieq_f, bnot_e, band_e, bite_and, bite_or, NLt_e, NLe_e, NNe_e, NIs_e, imax_e, imin_e, irem_e, Bool.not_eq_true', Bool.not_eq_false', Bool.and_eq_true, Bool.or_eq_true, Bool.or_eq_false_iff, Bool.and_eq_false_iff, Cont.pts.injEq, Cont.ints.injEq, Cont.bools.injEq, Cont.ptss.injEq, Cont.intss.injEq, Cont.boolss.injEq, true_and, and_true, implies_true, crW_e va vb vc, crW_e va vb vd, crW_e vc vd va, crW_e vc vd vb, btW_e, Int.sub_zero, imul_sgn, ieq_sgn]
    rw [← meetS_eq]; unfold meetS
    generalize crs (a1, a2) (b1, b2) (c1, c2) = x1 at *
    generalize crs (a1, a2) (b1, b2) (d1, d2) = x2 at *
    generalize crs (c1, c2) (d1, d2) (a1, a2) = x3 at *
    generalize crs (c1, c2) (d1, d2) (b1, b2) = x4 at *
    refine ⟨fun h => by simp [h.1, h.2], fun h => ?_⟩
    have e : (decide (sgn x1 ≠ sgn x2) && decide (sgn x3 ≠ sgn x4)) = false := by
      rcases h with h | h <;> simp [h] <;> omega
    rw [e, Bool.false_or]
  · cases h
def g_spec_l8Hit : List AV → Option Sg
  | [.s (.view (.pts l)), .agg [.int a1, .int a2], .agg [.int b1, .int b2]] => some ⟨allB l = true ∧ vB a1 a2 = true ∧ vB b1 b2 = true, [.s (.bool (hitB l a1 a2 b1 b2))]⟩
  | _ => none
def sig_spec_l8Hit : FuncId → List AV → Option Sg := sigL [(119, g_spec_l8Inside), (89, g_spec_l8Meet)]
def xs_spec_l8Hit : XS := ⟨xsigL [], ysigL []⟩
theorem sig_spec_l8Hit_ok : SigOK sig_spec_l8Hit := sigL_cons F_spec_l8Inside (sigL_cons F_spec_l8Meet sigL_nil)
theorem xs_spec_l8Hit_ok : XSigOK xs_spec_l8Hit := ⟨xsigL_nil, ysigL_nil⟩
theorem V_spec_l8Hit (l : List Pt) (a1 : Int) (a2 : Int) (b1 : Int) (b2 : Int) : ((true = true) ∧ ((True) ∧ (True) ∧ (True) ∧ True) ∧ (true = true) ∧ ((True) ∧ (True) ∧ ((True)) ∧ (True) ∧ (NIs (insB l a1 a2) false → True) ∧ (NIs (insB l a1 a2) false → True) ∧ (NIs (insB l a1 a2) false → (True)) ∧ (True) ∧ True) ∧ ((bite (insB l a1 a2) true (insB l b1 b2)) = true → ((true = true) ∧ ((True) ∧ True) ∧ ((true : Bool) = (hitB l a1 a2 b1 b2)) ∧ True)) ∧ ((bite (insB l a1 a2) true (insB l b1 b2)) = false → ((true = true) ∧ ((True) ∧ True) ∧ ∃ (I1 : List GV → Prop) (μ1 : List GV → Nat), (((true = true) ∧ (((false : Bool) = false) ∧ (((0 : Int) : Int) = (0 : Int)) ∧ ((Cont.pts l) = (Cont.pts l)) ∧ (((a1 : Int) = a1) ∧ ((a2 : Int) = a2) ∧ True) ∧ (((insB l a1 a2) : Bool) = (insB l a1 a2)) ∧ (((insB l a1 a2) : Bool) = (insB l a1 a2)) ∧ (((bite (insB l a1 a2) true (insB l b1 b2)) : Bool) = (bite (insB l a1 a2) true (insB l b1 b2))) ∧ (true = true) ∧ (true = true) ∧ ((Cont.pts l) = (Cont.pts l)) ∧ (((a1 : Int) = a1) ∧ ((a2 : Int) = a2) ∧ True) ∧ (((b1 : Int) = b1) ∧ ((b2 : Int) = b2) ∧ True) ∧ True) ∧ ((((a1 : Int) = a1) ∧ ((a2 : Int) = a2) ∧ True) ∧ (((b1 : Int) = b1) ∧ ((b2 : Int) = b2) ∧ True) ∧ True)) ∧ (([GK.int, GK.bool] : List GK) = ([GK.int, GK.bool] : List GK)) ∧ I1 [GV.int (0 : Int), GV.bool false]) ∧ (∀ i1_0 : Int, ∀ b1_1 : Bool, I1 [GV.int i1_0, GV.bool b1_1] → ((true = true) ∧ ((True) ∧ (True) ∧ (True) ∧ (True) ∧ True) ∧ ((ilt i1_0 (ilen l)) = true → ((true = true) ∧ ((True) ∧ (True) ∧ (True) ∧ (True) ∧ (NLe 0 i1_0 ∧ NLt i1_0 (ilen l)) ∧ (True) ∧ (True) ∧ (True) ∧ (True) ∧ (True) ∧ (True) ∧ (NNe (ilen l) 0) ∧ (NLe 0 (irem (iadd i1_0 (1 : Int)) (ilen l)) ∧ NLt (irem (iadd i1_0 (1 : Int)) (ilen l)) (ilen l)) ∧ (True) ∧ ((vB a1 a2 = true ∧ vB b1 b2 = true ∧ vB (getx l i1_0) (gety l i1_0) = true ∧ vB (getx l (irem (iadd i1_0 (1 : Int)) (ilen l))) (gety l (irem (iadd i1_0 (1 : Int)) (ilen l))) = true)) ∧ True) ∧ ((meetB (a1, a2) (b1, b2) ((getx l i1_0), (gety l i1_0)) ((getx l (irem (iadd i1_0 (1 : Int)) (ilen l))), (gety l (irem (iadd i1_0 (1 : Int)) (ilen l))))) = true → ((true = true) ∧ ((True) ∧ True) ∧ ((true : Bool) = (hitB l a1 a2 b1 b2)) ∧ True)) ∧ ((meetB (a1, a2) (b1, b2) ((getx l i1_0), (gety l i1_0)) ((getx l (irem (iadd i1_0 (1 : Int)) (ilen l))), (gety l (irem (iadd i1_0 (1 : Int)) (ilen l))))) = false → ((true = true) ∧ ((True) ∧ (True) ∧ (True) ∧ True) ∧ ((true = true) ∧ (((b1_1 : Bool) = b1_1) ∧ (((iadd i1_0 (1 : Int)) : Int) = (iadd i1_0 (1 : Int))) ∧ ((Cont.pts l) = (Cont.pts l)) ∧ (((a1 : Int) = a1) ∧ ((a2 : Int) = a2) ∧ True) ∧ (((insB l a1 a2) : Bool) = (insB l a1 a2)) ∧ (((insB l a1 a2) : Bool) = (insB l a1 a2)) ∧ (((bite (insB l a1 a2) true (insB l b1 b2)) : Bool) = (bite (insB l a1 a2) true (insB l b1 b2))) ∧ (true = true) ∧ (true = true) ∧ ((Cont.pts l) = (Cont.pts l)) ∧ (((a1 : Int) = a1) ∧ ((a2 : Int) = a2) ∧ True) ∧ (((b1 : Int) = b1) ∧ ((b2 : Int) = b2) ∧ True) ∧ True) ∧ ((((a1 : Int) = a1) ∧ ((a2 : Int) = a2) ∧ True) ∧ (((b1 : Int) = b1) ∧ ((b2 : Int) = b2) ∧ True) ∧ True)) ∧ ((([GK.int, GK.bool] : List GK) = ([GK.int, GK.bool] : List GK)) ∧ I1 [GV.int (iadd i1_0 (1 : Int)), GV.bool b1_1] ∧ μ1 [GV.int (iadd i1_0 (1 : Int)), GV.bool b1_1] < μ1 [GV.int i1_0, GV.bool b1_1]))))) ∧ ((ilt i1_0 (ilen l)) = false → ((true = true) ∧ ((True) ∧ True) ∧ ((false : Bool) = (hitB l a1 a2 b1 b2)) ∧ True))))))) = ev sig_spec_l8Hit xs_spec_l8Hit Tryd.f100.ntmps (fun b => if b == 0 then [.v 7, .v 6] else []) (codeOf Tryd.f100) 0 (initS [.s (.view (.pts l)), .agg [.int a1, .int a2], .agg [.int b1, .int b2]]) (retK Tryd.f100.results.toList [.s (.bool (hitB l a1 a2 b1 b2))]) := by kernel_rfl
set_option maxHeartbeats 400000 in
theorem F_spec_l8Hit : FunOK 100 g_spec_l8Hit := by
  refine fun_F (by kernel_rfl) Tryd.func100 rfl (by kernel_rfl) sig_spec_l8Hit_ok xs_spec_l8Hit_ok ?_
  intro avs sg h hn hl
  unfold g_spec_l8Hit at h
  split at h
  · rename_i l a1 a2 b1 b2
    injection h with h; subst h
    refine ⟨by kernel_rfl, fun b => if b == 0 then [.v 7, .v 6] else [], Eq.mp (V_spec_l8Hit l a1 a2 b1 b2) ?_⟩
    simp only [true_and, and_true, implies_true, and_self, forall_const, true_implies, lenA, lenL, SV.lenOK, Cont.lenOK] at hn hl ⊢
    have h0 := ilen_0 l
    obtain ⟨ha, va, vb⟩ := hn
    simp only [ilt_t, ilt_f, ile_t, ile_f, ieq_t, ieq_f, bnot_e, band_e, bite_and, bite_or, NLt_e, NLe_e, NNe_e, NIs_e, imax_e, imin_e, irem_e, Bool.not_eq_true', Bool.not_eq_false', Bool.and_eq_true, Bool.or_eq_true, Bool.or_eq_false_iff, Bool.and_eq_false_iff, Cont.pts.injEq, Cont.ints.injEq, Cont.bools.injEq, Cont.ptss.injEq, Cont.intss.injEq, Cont.boolss.injEq, true_and, and_true, implies_true]
    refine ⟨?_, fun hi => ?_⟩
    · rintro (h | h) <;> simp [hitB, h]
    · refine ⟨fun | .int k :: _ => 0 ≤ k ∧ k ≤ ilen l ∧ (∀ i, 0 ≤ i → i < k → hitE l a1 a2 b1 b2 i = false) | _ => False, fun | .int k :: _ => (ilen l - k).toNat | _ => 0, ?_, ?_⟩
      · exact ⟨Int.le_refl 0, h0, fun j h0 h1 => absurd h1 (by omega)⟩
      · rintro k _ ⟨hk0, hk1, hk⟩
        simp only [ilt_t, ilt_f, ile_t, ile_f, ieq_t, ieq_f, bnot_e, band_e, bite_and, bite_or, NLt_e, NLe_e, NNe_e, NIs_e, imax_e, imin_e, irem_e, Bool.not_eq_true', Bool.not_eq_false', Bool.and_eq_true, Bool.or_eq_true, Bool.or_eq_false_iff, Bool.and_eq_false_iff, Cont.pts.injEq, Cont.ints.injEq, Cont.bools.injEq, Cont.ptss.injEq, Cont.intss.injEq, Cont.boolss.injEq, true_and, and_true, implies_true]
        refine ⟨fun hkn => ?_, fun hkn => ?_⟩
        · have e1 := iadd_1 hk0 hkn hl
          obtain ⟨n0, n1, _⟩ := nx_in hk0 hkn
          have e2 : (k + 1).tmod (ilen l) = nx l k := rfl
          simp only [e1, e2]
          have hne : ilen l ≠ 0 := by omega
          have v1 := allB_at ha hk0 hkn
          have v2 := allB_at ha n0 n1
          refine ⟨⟨⟨hk0, hkn⟩, hne, ⟨n0, n1⟩, va, vb, v1, v2⟩, fun hx => ?_, fun hx => ?_⟩
          · have hE : hitE l a1 a2 b1 b2 k = true := hx
            simp [hitB, anyN_mk k hk0 hkn hE]
          · have hE : hitE l a1 a2 b1 b2 k = false := hx
            exact ⟨⟨by omega, by omega, upTo hk hE⟩, by omega⟩
        · have : anyN (ilen l) (hitE l a1 a2 b1 b2) = false := anyN_no fun j j0 j1 => hk j j0 (by omega)
          simp [hitB, hi.1, hi.2, this]
  · cases h
def g_spec_l10Clear : List AV → Option Sg
  | [.agg [.view (.ints a1), .view (.ints a2), .view (.ints a3)], .s (.view (.ints j)), .s (.view (.ptss l))] => some ⟨jvB a1 a2 a3 j = true ∧ sceneB l = true, [.s (.bool (acB a1 j l))]⟩
  | _ => none
def sig_spec_l10Clear : FuncId → List AV → Option Sg := sigL [(88, g_spec_l3Points), (100, g_spec_l8Hit)]
def xs_spec_l10Clear : XS := ⟨xsigL [], ysigL []⟩
theorem sig_spec_l10Clear_ok : SigOK sig_spec_l10Clear := sigL_cons F_spec_l3Points (sigL_cons F_spec_l8Hit sigL_nil)
theorem xs_spec_l10Clear_ok : XSigOK xs_spec_l10Clear := ⟨xsigL_nil, ysigL_nil⟩
theorem V_spec_l10Clear (a1 : List Int) (a2 : List Int) (a3 : List Int) (j : List Int) (l : List (List Pt)) : ((true = true) ∧ ((True) ∧ (True) ∧ True) ∧ (true = true) ∧ ((True) ∧ (True) ∧ ((jvB a1 a2 a3 j = true)) ∧ (True) ∧ True) ∧ (true = true) ∧ ((True) ∧ True) ∧ ∃ (I1 : List GV → Prop) (μ1 : List GV → Nat), (((true = true) ∧ (((false : Bool) = false) ∧ (((0 : Int) : Int) = (0 : Int)) ∧ (((Cont.ints a1) = (Cont.ints a1)) ∧ ((Cont.ints a2) = (Cont.ints a2)) ∧ ((Cont.ints a3) = (Cont.ints a3)) ∧ True) ∧ ((Cont.ints j) = (Cont.ints j)) ∧ (true = true) ∧ (true = true) ∧ (true = true) ∧ (((Cont.ints a1) = (Cont.ints a1)) ∧ ((Cont.ints a2) = (Cont.ints a2)) ∧ ((Cont.ints a3) = (Cont.ints a3)) ∧ True) ∧ ((Cont.ints j) = (Cont.ints j)) ∧ ((Cont.ptss l) = (Cont.ptss l)) ∧ True) ∧ (((true = true) ∧ ((Cont.pts (apL a1 j (ilen a1 + 1))) = (Cont.pts (apL a1 j (ilen a1 + 1))))) ∧ (((Cont.ints a1) = (Cont.ints a1)) ∧ ((Cont.ints a2) = (Cont.ints a2)) ∧ ((Cont.ints a3) = (Cont.ints a3)) ∧ True) ∧ True)) ∧ (([GK.int, GK.bool] : List GK) = ([GK.int, GK.bool] : List GK)) ∧ I1 [GV.int (0 : Int), GV.bool false]) ∧ (∀ i1_0 : Int, ∀ b1_1 : Bool, I1 [GV.int i1_0, GV.bool b1_1] → ((true = true) ∧ ((True) ∧ (True) ∧ (True) ∧ (True) ∧ (True) ∧ True) ∧ ((ilt (iadd i1_0 (1 : Int)) (ilen (apL a1 j (ilen a1 + 1)))) = true → ((true = true) ∧ ((True) ∧ True) ∧ ∃ (I2 : List GV → Prop) (μ2 : List GV → Nat), (((true = true) ∧ (((b1_1 : Bool) = b1_1) ∧ (((0 : Int) : Int) = (0 : Int)) ∧ ((i1_0 : Int) = i1_0) ∧ (((iadd i1_0 (1 : Int)) : Int) = (iadd i1_0 (1 : Int))) ∧ (true = true) ∧ (((ilen (apL a1 j (ilen a1 + 1))) : Int) = (ilen (apL a1 j (ilen a1 + 1)))) ∧ (((ilt (iadd i1_0 (1 : Int)) (ilen (apL a1 j (ilen a1 + 1)))) : Bool) = (ilt (iadd i1_0 (1 : Int)) (ilen (apL a1 j (ilen a1 + 1))))) ∧ ((i1_0 : Int) = i1_0) ∧ (((Cont.ints a1) = (Cont.ints a1)) ∧ ((Cont.ints a2) = (Cont.ints a2)) ∧ ((Cont.ints a3) = (Cont.ints a3)) ∧ True) ∧ ((Cont.ints j) = (Cont.ints j)) ∧ (true = true) ∧ (true = true) ∧ (true = true) ∧ (((Cont.ints a1) = (Cont.ints a1)) ∧ ((Cont.ints a2) = (Cont.ints a2)) ∧ ((Cont.ints a3) = (Cont.ints a3)) ∧ True) ∧ ((Cont.ints j) = (Cont.ints j)) ∧ ((Cont.ptss l) = (Cont.ptss l)) ∧ True) ∧ (((true = true) ∧ ((Cont.pts (apL a1 j (ilen a1 + 1))) = (Cont.pts (apL a1 j (ilen a1 + 1))))) ∧ (((Cont.ints a1) = (Cont.ints a1)) ∧ ((Cont.ints a2) = (Cont.ints a2)) ∧ ((Cont.ints a3) = (Cont.ints a3)) ∧ True) ∧ True)) ∧ (([GK.int, GK.bool] : List GK) = ([GK.int, GK.bool] : List GK)) ∧ I2 [GV.int (0 : Int), GV.bool b1_1]) ∧ (∀ i2_0 : Int, ∀ b2_1 : Bool, I2 [GV.int i2_0, GV.bool b2_1] → ((true = true) ∧ ((True) ∧ (True) ∧ (True) ∧ (True) ∧ True) ∧ ((ilt i2_0 (ilen l)) = true → ((true = true) ∧ ((True) ∧ (True) ∧ (NLe 0 i2_0 ∧ NLt i2_0 (ilen l)) ∧ (True) ∧ (True) ∧ (True) ∧ (NLe 0 i1_0 ∧ NLt i1_0 (ilen (apL a1 j (ilen a1 + 1)))) ∧ (NLt i1_0 (ilen (apL a1 j (ilen a1 + 1)))) ∧ (True) ∧ (True) ∧ (True) ∧ (NLe 0 (iadd i1_0 (1 : Int)) ∧ NLt (iadd i1_0 (1 : Int)) (ilen (apL a1 j (ilen a1 + 1)))) ∧ (NLt (iadd i1_0 (1 : Int)) (ilen (apL a1 j (ilen a1 + 1)))) ∧ ((allB (getl l i2_0) = true ∧ vB (getx (apL a1 j (ilen a1 + 1)) i1_0) (gety (apL a1 j (ilen a1 + 1)) i1_0) = true ∧ vB (getx (apL a1 j (ilen a1 + 1)) (iadd i1_0 (1 : Int))) (gety (apL a1 j (ilen a1 + 1)) (iadd i1_0 (1 : Int))) = true)) ∧ True) ∧ ((hitB (getl l i2_0) (getx (apL a1 j (ilen a1 + 1)) i1_0) (gety (apL a1 j (ilen a1 + 1)) i1_0) (getx (apL a1 j (ilen a1 + 1)) (iadd i1_0 (1 : Int))) (gety (apL a1 j (ilen a1 + 1)) (iadd i1_0 (1 : Int)))) = true → ((true = true) ∧ ((True) ∧ True) ∧ ((false : Bool) = (acB a1 j l)) ∧ True)) ∧ ((hitB (getl l i2_0) (getx (apL a1 j (ilen a1 + 1)) i1_0) (gety (apL a1 j (ilen a1 + 1)) i1_0) (getx (apL a1 j (ilen a1 + 1)) (iadd i1_0 (1 : Int))) (gety (apL a1 j (ilen a1 + 1)) (iadd i1_0 (1 : Int)))) = false → ((true = true) ∧ ((True) ∧ (True) ∧ (True) ∧ True) ∧ ((true = true) ∧ (((b2_1 : Bool) = b2_1) ∧ (((iadd i2_0 (1 : Int)) : Int) = (iadd i2_0 (1 : Int))) ∧ ((i1_0 : Int) = i1_0) ∧ (((iadd i1_0 (1 : Int)) : Int) = (iadd i1_0 (1 : Int))) ∧ (true = true) ∧ (((ilen (apL a1 j (ilen a1 + 1))) : Int) = (ilen (apL a1 j (ilen a1 + 1)))) ∧ (((ilt (iadd i1_0 (1 : Int)) (ilen (apL a1 j (ilen a1 + 1)))) : Bool) = (ilt (iadd i1_0 (1 : Int)) (ilen (apL a1 j (ilen a1 + 1))))) ∧ ((i1_0 : Int) = i1_0) ∧ (((Cont.ints a1) = (Cont.ints a1)) ∧ ((Cont.ints a2) = (Cont.ints a2)) ∧ ((Cont.ints a3) = (Cont.ints a3)) ∧ True) ∧ ((Cont.ints j) = (Cont.ints j)) ∧ (true = true) ∧ (true = true) ∧ (true = true) ∧ (((Cont.ints a1) = (Cont.ints a1)) ∧ ((Cont.ints a2) = (Cont.ints a2)) ∧ ((Cont.ints a3) = (Cont.ints a3)) ∧ True) ∧ ((Cont.ints j) = (Cont.ints j)) ∧ ((Cont.ptss l) = (Cont.ptss l)) ∧ True) ∧ (((true = true) ∧ ((Cont.pts (apL a1 j (ilen a1 + 1))) = (Cont.pts (apL a1 j (ilen a1 + 1))))) ∧ (((Cont.ints a1) = (Cont.ints a1)) ∧ ((Cont.ints a2) = (Cont.ints a2)) ∧ ((Cont.ints a3) = (Cont.ints a3)) ∧ True) ∧ True)) ∧ ((([GK.int, GK.bool] : List GK) = ([GK.int, GK.bool] : List GK)) ∧ I2 [GV.int (iadd i2_0 (1 : Int)), GV.bool b2_1] ∧ μ2 [GV.int (iadd i2_0 (1 : Int)), GV.bool b2_1] < μ2 [GV.int i2_0, GV.bool b2_1]))))) ∧ ((ilt i2_0 (ilen l)) = false → ((true = true) ∧ ((True) ∧ (True) ∧ (True) ∧ True) ∧ ((true = true) ∧ (((b2_1 : Bool) = b2_1) ∧ (((iadd i1_0 (1 : Int)) : Int) = (iadd i1_0 (1 : Int))) ∧ (((Cont.ints a1) = (Cont.ints a1)) ∧ ((Cont.ints a2) = (Cont.ints a2)) ∧ ((Cont.ints a3) = (Cont.ints a3)) ∧ True) ∧ ((Cont.ints j) = (Cont.ints j)) ∧ (true = true) ∧ (true = true) ∧ (true = true) ∧ (((Cont.ints a1) = (Cont.ints a1)) ∧ ((Cont.ints a2) = (Cont.ints a2)) ∧ ((Cont.ints a3) = (Cont.ints a3)) ∧ True) ∧ ((Cont.ints j) = (Cont.ints j)) ∧ ((Cont.ptss l) = (Cont.ptss l)) ∧ True) ∧ (((true = true) ∧ ((Cont.pts (apL a1 j (ilen a1 + 1))) = (Cont.pts (apL a1 j (ilen a1 + 1))))) ∧ (((Cont.ints a1) = (Cont.ints a1)) ∧ ((Cont.ints a2) = (Cont.ints a2)) ∧ ((Cont.ints a3) = (Cont.ints a3)) ∧ True) ∧ True)) ∧ ((([GK.int, GK.bool] : List GK) = ([GK.int, GK.bool] : List GK)) ∧ I1 [GV.int (iadd i1_0 (1 : Int)), GV.bool b2_1] ∧ μ1 [GV.int (iadd i1_0 (1 : Int)), GV.bool b2_1] < μ1 [GV.int i1_0, GV.bool b1_1]))))))) ∧ ((ilt (iadd i1_0 (1 : Int)) (ilen (apL a1 j (ilen a1 + 1)))) = false → ((true = true) ∧ ((True) ∧ True) ∧ ((true : Bool) = (acB a1 j l)) ∧ True))))) = ev sig_spec_l10Clear xs_spec_l10Clear Tryd.f65.ntmps (fun b => if b == 0 then [.v 8, .v 6] else if b == 2 then [.v 9, .v 6] else []) (codeOf Tryd.f65) 0 (initS [.agg [.view (.ints a1), .view (.ints a2), .view (.ints a3)], .s (.view (.ints j)), .s (.view (.ptss l))]) (retK Tryd.f65.results.toList [.s (.bool (acB a1 j l))]) := by kernel_rfl
set_option maxHeartbeats 400000 in
theorem F_spec_l10Clear : FunOK 65 g_spec_l10Clear := by
  refine fun_F (by kernel_rfl) Tryd.func65 rfl (by kernel_rfl) sig_spec_l10Clear_ok xs_spec_l10Clear_ok ?_
  intro avs sg h hn hl
  unfold g_spec_l10Clear at h
  split at h
  · rename_i a1 a2 a3 j l
    injection h with h; subst h
    refine ⟨by kernel_rfl, fun b => if b == 0 then [.v 8, .v 6] else if b == 2 then [.v 9, .v 6] else [], Eq.mp (V_spec_l10Clear a1 a2 a3 j l) ?_⟩
    simp only [true_and, and_true, implies_true, and_self, forall_const, true_implies, lenA, lenL, SV.lenOK, Cont.lenOK] at hn hl ⊢
    obtain ⟨hj, hs⟩ := hn
    simp only [ilt_t, ilt_f, ile_t, ile_f, ieq_t, ieq_f, bnot_e, band_e, bite_and, bite_or, NLt_e, NLe_e, NNe_e, NIs_e, imax_e, imin_e, irem_e, Bool.not_eq_true', Bool.not_eq_false', Bool.and_eq_true, Bool.or_eq_true, Bool.or_eq_false_iff, Bool.and_eq_false_iff, Cont.pts.injEq, Cont.ints.injEq, Cont.bools.injEq, Cont.ptss.injEq, Cont.intss.injEq, Cont.boolss.injEq, true_and, and_true, implies_true]
    refine ⟨hj, ?_⟩
    obtain ⟨ha, hjl, hl4, hlk, hjk⟩ := jv_p hj
    obtain ⟨s6, sat⟩ := scene_at hs
    have hl0 := ilen_0 l
    have hv := fun (k : Int) (h0 : 0 ≤ k) (h1 : k ≤ ilen a1) => jv_vB hj h0 h1
    have hlen : ilen (apL a1 j (ilen a1 + 1)) = ilen a1 + 1 := apL_len (by omega)
    have hg : ∀ i, 0 ≤ i → i ≤ ilen a1 → getx (apL a1 j (ilen a1 + 1)) i = apX a1 j i ∧ gety (apL a1 j (ilen a1 + 1)) i = apY a1 j i := fun i h0 h1 => apL_get h0 (by omega)
    rw [hlen]
    generalize apL a1 j (ilen a1 + 1) = P at *
    refine ⟨fun | [.int i, .bool _] => 0 ≤ i ∧ i ≤ ilen a1 ∧ (∀ a, 0 ≤ a → a < i → acN a1 j l a = true) | _ => False, fun | .int i :: _ => (ilen a1 - i).toNat | _ => 0, ⟨by omega, by omega, fun a h0 h1 => by omega⟩, ?_⟩
    rintro i b ⟨i0, i1, hi⟩
    have e1 : iadd i 1 = i + 1 := iadd_e (by omega) (by omega)
    rw [e1]
    refine ⟨fun hc => ?_, fun hc => ?_⟩
    · refine ⟨fun | [.int k, .bool _] => 0 ≤ k ∧ k ≤ ilen l ∧ (∀ m, 0 ≤ m → m < k → acE a1 j (getl l m) i = true) | _ => False, fun | .int k :: _ => (ilen l - k).toNat | _ => 0, ⟨by omega, by omega, fun m h0 h1 => by omega⟩, ?_⟩
      rintro k b2 ⟨k0, k1, hk⟩
      refine ⟨fun hc2 => ?_, fun hc2 => ?_⟩
      · obtain ⟨x1, y1⟩ := hg i (by omega) (by omega)
        obtain ⟨x2, y2⟩ := hg (i + 1) (by omega) (by omega)
        have e3 : iadd k 1 = k + 1 := iadd_e (by omega) (by omega)
        have hcv := (sat k k0 hc2).2
        rw [x1, y1, x2, y2, e3]
        refine ⟨⟨⟨k0, hc2⟩, ⟨by omega, by omega⟩, by omega, ⟨by omega, by omega⟩, by omega, hcv, hv _ (by omega) (by omega), hv _ (by omega) (by omega)⟩, fun hm => ?_, fun hm => ?_⟩
        · have hE : acE a1 j (getl l k) i = false := by unfold acE; rw [hm]; rfl
          have hN : acN a1 j l i = false := by unfold acN; exact allN_no (f := fun o => acE a1 j (getl l o) i) k k0 hc2 hE
          unfold acB
          rw [allN_no (f := acN a1 j l) i i0 (by omega) hN]
        · have hE : acE a1 j (getl l k) i = true := by unfold acE; rw [hm]; rfl
          exact ⟨⟨by omega, by omega, fun m m0 m1 => by
            by_cases h : m = k
            · rw [h]; exact hE
            · exact hk m m0 (by omega)⟩, by show (ilen l - (k + 1)).toNat < (ilen l - k).toNat; omega⟩
      · exact ⟨⟨by omega, by omega, fun a h0 h1 => by
          by_cases h : a = i
          · rw [h]; unfold acN; exact allN_mk fun m m0 m1 => hk m m0 (by omega)
          · exact hi a h0 (by omega)⟩, by show (ilen a1 - (i + 1)).toNat < (ilen a1 - i).toNat; omega⟩
    · unfold acB
      rw [allN_mk fun a h0 h1 => hi a h0 (by omega)]
  · cases h
def g_spec_FirstContact : List AV → Option Sg
  | [.agg [.view (.ints a1), .view (.ints a2), .view (.ints a3)], .s (.view (.intss r)), .s (.view (.ptss l))] => some ⟨True, [.s (.int (fcF a1 a2 a3 r l))]⟩
  | _ => none
def sig_spec_FirstContact : FuncId → List AV → Option Sg := sigL [(57, g_spec_ArmValid), (55, g_spec_SceneValid), (47, g_spec_JointsValid), (65, g_spec_l10Clear)]
def xs_spec_FirstContact : XS := ⟨xsigL [], ysigL []⟩
theorem sig_spec_FirstContact_ok : SigOK sig_spec_FirstContact := sigL_cons F_spec_ArmValid (sigL_cons F_spec_SceneValid (sigL_cons F_spec_JointsValid (sigL_cons F_spec_l10Clear sigL_nil)))
theorem xs_spec_FirstContact_ok : XSigOK xs_spec_FirstContact := ⟨xsigL_nil, ysigL_nil⟩
theorem V_spec_FirstContact (a1 : List Int) (a2 : List Int) (a3 : List Int) (r : List (List Int)) (l : List (List Pt)) : ((true = true) ∧ ((True) ∧ (True) ∧ True) ∧ (true = true) ∧ ((True) ∧ ((True)) ∧ (True) ∧ (True) ∧ (NIs (bnot (armB a1 a2 a3)) false → True) ∧ (NIs (bnot (armB a1 a2 a3)) false → (True)) ∧ (NIs (bnot (armB a1 a2 a3)) false → True) ∧ (True) ∧ (True) ∧ (NIs (bite (bnot (armB a1 a2 a3)) true (bnot (sceneB l))) false → True) ∧ (NIs (bite (bnot (armB a1 a2 a3)) true (bnot (sceneB l))) false → True) ∧ (NIs (bite (bnot (armB a1 a2 a3)) true (bnot (sceneB l))) false → True) ∧ (True) ∧ True) ∧ ((bite (bite (bnot (armB a1 a2 a3)) true (bnot (sceneB l))) true (ilt (400 : Int) (ilen r))) = true → ((true = true) ∧ ((True) ∧ True) ∧ (((-2 : Int) : Int) = (fcF a1 a2 a3 r l)) ∧ True)) ∧ ((bite (bite (bnot (armB a1 a2 a3)) true (bnot (sceneB l))) true (ilt (400 : Int) (ilen r))) = false → ((true = true) ∧ ((True) ∧ True) ∧ ∃ (I1 : List GV → Prop) (μ1 : List GV → Nat), (((true = true) ∧ ((((0 : Int) : Int) = (0 : Int)) ∧ (((0 : Int) : Int) = (0 : Int)) ∧ (((Cont.ints a1) = (Cont.ints a1)) ∧ ((Cont.ints a2) = (Cont.ints a2)) ∧ ((Cont.ints a3) = (Cont.ints a3)) ∧ True) ∧ (((armB a1 a2 a3) : Bool) = (armB a1 a2 a3)) ∧ (((bnot (armB a1 a2 a3)) : Bool) = (bnot (armB a1 a2 a3))) ∧ (((bnot (armB a1 a2 a3)) : Bool) = (bnot (armB a1 a2 a3))) ∧ (((bite (bnot (armB a1 a2 a3)) true (bnot (sceneB l))) : Bool) = (bite (bnot (armB a1 a2 a3)) true (bnot (sceneB l)))) ∧ (((bite (bnot (armB a1 a2 a3)) true (bnot (sceneB l))) : Bool) = (bite (bnot (armB a1 a2 a3)) true (bnot (sceneB l)))) ∧ (((bite (bite (bnot (armB a1 a2 a3)) true (bnot (sceneB l))) true (ilt (400 : Int) (ilen r))) : Bool) = (bite (bite (bnot (armB a1 a2 a3)) true (bnot (sceneB l))) true (ilt (400 : Int) (ilen r)))) ∧ (true = true) ∧ (((Cont.ints a1) = (Cont.ints a1)) ∧ ((Cont.ints a2) = (Cont.ints a2)) ∧ ((Cont.ints a3) = (Cont.ints a3)) ∧ True) ∧ ((Cont.intss r) = (Cont.intss r)) ∧ ((Cont.ptss l) = (Cont.ptss l)) ∧ True) ∧ ((((Cont.ints a1) = (Cont.ints a1)) ∧ ((Cont.ints a2) = (Cont.ints a2)) ∧ ((Cont.ints a3) = (Cont.ints a3)) ∧ True) ∧ True)) ∧ (([GK.int, GK.int] : List GK) = ([GK.int, GK.int] : List GK)) ∧ I1 [GV.int (0 : Int), GV.int (0 : Int)]) ∧ (∀ i1_0 : Int, ∀ i1_1 : Int, I1 [GV.int i1_0, GV.int i1_1] → ((true = true) ∧ ((True) ∧ (True) ∧ (True) ∧ (True) ∧ True) ∧ ((ilt i1_0 (ilen r)) = true → ((true = true) ∧ ((True) ∧ (True) ∧ (True) ∧ (NLe 0 i1_0 ∧ NLt i1_0 (ilen r)) ∧ (True) ∧ ((True)) ∧ (True) ∧ (True) ∧ (NIs (bnot (jvB a1 a2 a3 (getl r i1_0))) false → True) ∧ (NIs (bnot (jvB a1 a2 a3 (getl r i1_0))) false → True) ∧ (NIs (bnot (jvB a1 a2 a3 (getl r i1_0))) false → True) ∧ (NIs (bnot (jvB a1 a2 a3 (getl r i1_0))) false → (NLe 0 i1_0 ∧ NLt i1_0 (ilen r))) ∧ (NIs (bnot (jvB a1 a2 a3 (getl r i1_0))) false → True) ∧ (NIs (bnot (jvB a1 a2 a3 (getl r i1_0))) false → True) ∧ (NIs (bnot (jvB a1 a2 a3 (getl r i1_0))) false → ((jvB a1 a2 a3 (getl r i1_0) = true ∧ sceneB l = true))) ∧ (NIs (bnot (jvB a1 a2 a3 (getl r i1_0))) false → True) ∧ (True) ∧ True) ∧ ((bite (bnot (jvB a1 a2 a3 (getl r i1_0))) true (bnot (acB a1 (getl r i1_0) l))) = true → ((true = true) ∧ ((True) ∧ (True) ∧ True) ∧ ((i1_0 : Int) = (fcF a1 a2 a3 r l)) ∧ True)) ∧ ((bite (bnot (jvB a1 a2 a3 (getl r i1_0))) true (bnot (acB a1 (getl r i1_0) l))) = false → ((true = true) ∧ ((True) ∧ (True) ∧ (True) ∧ True) ∧ ((true = true) ∧ (((i1_1 : Int) = i1_1) ∧ (((iadd i1_0 (1 : Int)) : Int) = (iadd i1_0 (1 : Int))) ∧ (((Cont.ints a1) = (Cont.ints a1)) ∧ ((Cont.ints a2) = (Cont.ints a2)) ∧ ((Cont.ints a3) = (Cont.ints a3)) ∧ True) ∧ (((armB a1 a2 a3) : Bool) = (armB a1 a2 a3)) ∧ (((bnot (armB a1 a2 a3)) : Bool) = (bnot (armB a1 a2 a3))) ∧ (((bnot (armB a1 a2 a3)) : Bool) = (bnot (armB a1 a2 a3))) ∧ (((bite (bnot (armB a1 a2 a3)) true (bnot (sceneB l))) : Bool) = (bite (bnot (armB a1 a2 a3)) true (bnot (sceneB l)))) ∧ (((bite (bnot (armB a1 a2 a3)) true (bnot (sceneB l))) : Bool) = (bite (bnot (armB a1 a2 a3)) true (bnot (sceneB l)))) ∧ (((bite (bite (bnot (armB a1 a2 a3)) true (bnot (sceneB l))) true (ilt (400 : Int) (ilen r))) : Bool) = (bite (bite (bnot (armB a1 a2 a3)) true (bnot (sceneB l))) true (ilt (400 : Int) (ilen r)))) ∧ (true = true) ∧ (((Cont.ints a1) = (Cont.ints a1)) ∧ ((Cont.ints a2) = (Cont.ints a2)) ∧ ((Cont.ints a3) = (Cont.ints a3)) ∧ True) ∧ ((Cont.intss r) = (Cont.intss r)) ∧ ((Cont.ptss l) = (Cont.ptss l)) ∧ True) ∧ ((((Cont.ints a1) = (Cont.ints a1)) ∧ ((Cont.ints a2) = (Cont.ints a2)) ∧ ((Cont.ints a3) = (Cont.ints a3)) ∧ True) ∧ True)) ∧ ((([GK.int, GK.int] : List GK) = ([GK.int, GK.int] : List GK)) ∧ I1 [GV.int (iadd i1_0 (1 : Int)), GV.int i1_1] ∧ μ1 [GV.int (iadd i1_0 (1 : Int)), GV.int i1_1] < μ1 [GV.int i1_0, GV.int i1_1]))))) ∧ ((ilt i1_0 (ilen r)) = false → ((true = true) ∧ ((True) ∧ True) ∧ (((-1 : Int) : Int) = (fcF a1 a2 a3 r l)) ∧ True))))))) = ev sig_spec_FirstContact xs_spec_FirstContact Tryd.f51.ntmps (fun b => if b == 0 then [.v 7, .v 6] else []) (codeOf Tryd.f51) 0 (initS [.agg [.view (.ints a1), .view (.ints a2), .view (.ints a3)], .s (.view (.intss r)), .s (.view (.ptss l))]) (retK Tryd.f51.results.toList [.s (.int (fcF a1 a2 a3 r l))]) := by kernel_rfl
set_option maxHeartbeats 400000 in
theorem F_spec_FirstContact : FunOK 51 g_spec_FirstContact := by
  refine fun_F (by kernel_rfl) Tryd.func51 rfl (by kernel_rfl) sig_spec_FirstContact_ok xs_spec_FirstContact_ok ?_
  intro avs sg h hn hl
  unfold g_spec_FirstContact at h
  split at h
  · rename_i a1 a2 a3 r l
    injection h with h; subst h
    refine ⟨by kernel_rfl, fun b => if b == 0 then [.v 7, .v 6] else [], Eq.mp (V_spec_FirstContact a1 a2 a3 r l) ?_⟩
    simp only [true_and, and_true, implies_true, and_self, forall_const, true_implies, lenA, lenL, SV.lenOK, Cont.lenOK] at hn hl ⊢
    have r0 := ilen_0 r
    simp only [ilt_t, ilt_f, ile_t, ile_f, ieq_t, ieq_f, bnot_e, band_e, bite_and, bite_or, NLt_e, NLe_e, NNe_e, NIs_e, imax_e, imin_e, irem_e, Bool.not_eq_true', Bool.not_eq_false', Bool.and_eq_true, Bool.or_eq_true, Bool.or_eq_false_iff, Bool.and_eq_false_iff, Cont.pts.injEq, Cont.ints.injEq, Cont.bools.injEq, Cont.ptss.injEq, Cont.intss.injEq, Cont.boolss.injEq, true_and, and_true, implies_true]
    refine ⟨fun h => ?_, fun h => ?_⟩
    · unfold fcF
      rcases h with (h | h) | h
      · simp [h]
      · simp [h]
      · have : ¬ ilen r ≤ 400 := by omega
        simp [this]
    obtain ⟨⟨ha, hs⟩, hr⟩ := h
    have hF : fcF a1 a2 a3 r l = firstN (ilen r) (fun i => fcE a1 a2 a3 l (getl r i)) := by unfold fcF; rw [ha, hs]; simp [hr]
    have hE : ∀ m, fcE a1 a2 a3 l m = (jvB a1 a2 a3 m && acB a1 m l) := fun m => by unfold fcE; rw [hs, Bool.and_true]
    rw [hF]
    refine ⟨fun | .int k :: _ => 0 ≤ k ∧ k ≤ ilen r ∧ (∀ j, 0 ≤ j → j < k → fcE a1 a2 a3 l (getl r j) = true) | _ => False, fun | .int k :: _ => (ilen r - k).toNat | _ => 0, ⟨by omega, by omega, fun j j0 j1 => by omega⟩, ?_⟩
    rintro k d ⟨k0, k1, hall⟩
    refine ⟨fun hk => ⟨⟨⟨k0, hk⟩, fun _ => ⟨k0, hk⟩, fun hj => ⟨hj, hs⟩⟩, fun hx => ?_, fun hx => ?_⟩, fun hk => ?_⟩
    · have : fcE a1 a2 a3 l (getl r k) = false := by rw [hE]; rcases hx with h | h <;> simp [h]
      exact (firstN_at k0 hk this hall).symm
    · have : fcE a1 a2 a3 l (getl r k) = true := by rw [hE, hx.1, hx.2]; rfl
      rw [iadd_e (by omega) (by omega)]
      exact ⟨⟨by omega, by omega, upTo hall this⟩, by show (ilen r - (k + 1)).toNat < (ilen r - k).toNat; omega⟩
    · exact (firstN_no fun j j0 j1 => hall j j0 (by omega)).symm
  · cases h
def g_laws_alive : List AV → Option Sg
  | [] => some ⟨True, [.s (.bool (true))]⟩
  | _ => none
def sig_laws_alive : FuncId → List AV → Option Sg := sigL [(68, g_impl_Degrees)]
def xs_laws_alive : XS := ⟨xsigL [], ysigL []⟩
theorem sig_laws_alive_ok : SigOK sig_laws_alive := sigL_cons F_impl_Degrees sigL_nil
theorem xs_laws_alive_ok : XSigOK xs_laws_alive := ⟨xsigL_nil, ysigL_nil⟩
theorem V_laws_alive  : ((true = true) ∧ ((True) ∧ True) ∧ (true = true) ∧ (((True)) ∧ (True) ∧ (True) ∧ True) ∧ (((ieq (degW (-1 : Int)) (359 : Int)) : Bool) = (true)) ∧ True) = ev sig_laws_alive xs_laws_alive Tryd.f18.ntmps (fun b => []) (codeOf Tryd.f18) 0 (initS []) (retK Tryd.f18.results.toList [.s (.bool (true))]) := by kernel_rfl
set_option maxHeartbeats 400000 in
theorem F_laws_alive : FunOK 18 g_laws_alive := by
  refine fun_F (by kernel_rfl) Tryd.func18 rfl (by kernel_rfl) sig_laws_alive_ok xs_laws_alive_ok ?_
  intro avs sg h hn hl
  unfold g_laws_alive at h
  split at h
  ·
    injection h with h; subst h
    refine ⟨by kernel_rfl, fun b => [], Eq.mp (V_laws_alive ) ?_⟩
    simp only [true_and, and_true, implies_true, and_self, forall_const, true_implies, lenA, lenL, SV.lenOK, Cont.lenOK] at hn hl ⊢
    unfold ieq degW
    rw [irem_e, irem_e, iadd_e (by decide) (by decide)]
    decide
  · cases h
theorem bxor_self (a : Bool) : bxor a a = false := by cases a <;> simp [bxor]
def g_laws_FnFirstContact : List AV → Option Sg
  | [.s (.rdr n)] => some ⟨True, [.s (.bool (true))]⟩
  | _ => none
def sig_laws_FnFirstContact : FuncId → List AV → Option Sg := sigL [(33, g_impl_FirstContact), (51, g_spec_FirstContact), (57, g_spec_ArmValid), (55, g_spec_SceneValid), (18, g_laws_alive), (19, nilH (.ptss []) g_impl_ArmClear)]
def xs_laws_FnFirstContact : XS := ⟨xsigL [], ysigL [(56, g_spec_DrawFirstContact)]⟩
theorem sig_laws_FnFirstContact_ok : SigOK sig_laws_FnFirstContact := sigL_cons F_impl_FirstContact (sigL_cons F_spec_FirstContact (sigL_cons F_spec_ArmValid (sigL_cons F_spec_SceneValid (sigL_cons F_laws_alive (sigL_cons (FunOK.nil3 (c := .ptss []) rfl F_impl_ArmClear) sigL_nil)))))
theorem xs_laws_FnFirstContact_ok : XSigOK xs_laws_FnFirstContact := ⟨xsigL_nil, ysigL_cons F_spec_DrawFirstContact ysigL_nil⟩
theorem V_laws_FnFirstContact (n : Int) : ((true = true) ∧ ((True) ∧ True) ∧ (true = true) ∧ ((True) ∧ (True) ∧ (True) ∧ True) ∧ ((ilt (1048576 : Int) n) = true → ((true = true) ∧ ((True) ∧ True) ∧ ((true : Bool) = (true)) ∧ True)) ∧ ((ilt (1048576 : Int) n) = false → ((true = true) ∧ ((True) ∧ True) ∧ (true = true) ∧ ((n ≤ 1048576)) ∧ (∀ x_136 : List Int, ∀ y_137 : List Int, ∀ z_138 : List Int, ∀ r_139 : List (List Int), ∀ l_140 : List (List Pt), ((ilen x_136 ≤ 10 ∧ ilen y_137 ≤ 10 ∧ ilen z_138 ≤ 10 ∧ ilen r_139 ≤ 6 ∧ ilen l_140 ≤ 20) → ((true = true) ∧ ((true = true) ∧ ((true = true) ∧ ((true = true) ∧ ((True) ∧ (True) ∧ (True) ∧ (True) ∧ (true = true) ∧ ((True) ∧ (True) ∧ (True) ∧ ((True)) ∧ (True) ∧ True) ∧ (true = true) ∧ ((True) ∧ (True) ∧ (True) ∧ (True) ∧ ((True)) ∧ (True) ∧ True) ∧ ((bnot (ieq (fcF (x_136) (y_137) (z_138) (r_139) (l_140)) (fcF (x_136) (y_137) (z_138) (r_139) (l_140)))) = true → ((true = true) ∧ ((True) ∧ True) ∧ ((false : Bool) = (true)) ∧ True)) ∧ ((bnot (ieq (fcF (x_136) (y_137) (z_138) (r_139) (l_140)) (fcF (x_136) (y_137) (z_138) (r_139) (l_140)))) = false → ((true = true) ∧ ((True) ∧ ((True)) ∧ (True) ∧ (True) ∧ (NIs (bnot (armB (x_136) (y_137) (z_138))) false → True) ∧ (NIs (bnot (armB (x_136) (y_137) (z_138))) false → (True)) ∧ (NIs (bnot (armB (x_136) (y_137) (z_138))) false → True) ∧ (True) ∧ (True) ∧ (NIs (bite (bnot (armB (x_136) (y_137) (z_138))) true (bnot (sceneB (l_140)))) false → True) ∧ (NIs (bite (bnot (armB (x_136) (y_137) (z_138))) true (bnot (sceneB (l_140)))) false → True) ∧ (NIs (bite (bnot (armB (x_136) (y_137) (z_138))) true (bnot (sceneB (l_140)))) false → True) ∧ (True) ∧ True) ∧ ((bite (bite (bnot (armB (x_136) (y_137) (z_138))) true (bnot (sceneB (l_140)))) true (ilt (400 : Int) (ilen (r_139)))) = true → ((true = true) ∧ ((True) ∧ (True) ∧ (True) ∧ (NIs (ieq (fcF (x_136) (y_137) (z_138) (r_139) (l_140)) (-2 : Int)) true → (True)) ∧ (True) ∧ (True) ∧ True) ∧ (((bite (ieq (fcF (x_136) (y_137) (z_138) (r_139) (l_140)) (-2 : Int)) (true) false) : Bool) = (true)) ∧ True)) ∧ ((bite (bite (bnot (armB (x_136) (y_137) (z_138))) true (bnot (sceneB (l_140)))) true (ilt (400 : Int) (ilen (r_139)))) = false → ((true = true) ∧ ((True) ∧ True) ∧ ∃ (I1 : List GV → Prop) (μ1 : List GV → Nat), (((true = true) ∧ (((false : Bool) = false) ∧ (((0 : Int) : Int) = (0 : Int)) ∧ (((Cont.ints (x_136)) = (Cont.ints (x_136))) ∧ ((Cont.ints (y_137)) = (Cont.ints (y_137))) ∧ ((Cont.ints (z_138)) = (Cont.ints (z_138))) ∧ True) ∧ (((armB (x_136) (y_137) (z_138)) : Bool) = (armB (x_136) (y_137) (z_138))) ∧ (((bnot (armB (x_136) (y_137) (z_138))) : Bool) = (bnot (armB (x_136) (y_137) (z_138)))) ∧ (((bnot (armB (x_136) (y_137) (z_138))) : Bool) = (bnot (armB (x_136) (y_137) (z_138)))) ∧ (((bite (bnot (armB (x_136) (y_137) (z_138))) true (bnot (sceneB (l_140)))) : Bool) = (bite (bnot (armB (x_136) (y_137) (z_138))) true (bnot (sceneB (l_140))))) ∧ (((bite (bnot (armB (x_136) (y_137) (z_138))) true (bnot (sceneB (l_140)))) : Bool) = (bite (bnot (armB (x_136) (y_137) (z_138))) true (bnot (sceneB (l_140))))) ∧ (((bite (bite (bnot (armB (x_136) (y_137) (z_138))) true (bnot (sceneB (l_140)))) true (ilt (400 : Int) (ilen (r_139)))) : Bool) = (bite (bite (bnot (armB (x_136) (y_137) (z_138))) true (bnot (sceneB (l_140)))) true (ilt (400 : Int) (ilen (r_139))))) ∧ (((fcF (x_136) (y_137) (z_138) (r_139) (l_140)) : Int) = (fcF (x_136) (y_137) (z_138) (r_139) (l_140))) ∧ (((Cont.ints (x_136)) = (Cont.ints (x_136))) ∧ ((Cont.ints (y_137)) = (Cont.ints (y_137))) ∧ ((Cont.ints (z_138)) = (Cont.ints (z_138))) ∧ True) ∧ ((Cont.intss (r_139)) = (Cont.intss (r_139))) ∧ ((Cont.ptss (l_140)) = (Cont.ptss (l_140))) ∧ (((fcF (x_136) (y_137) (z_138) (r_139) (l_140)) : Int) = (fcF (x_136) (y_137) (z_138) (r_139) (l_140))) ∧ (((bnot (ieq (fcF (x_136) (y_137) (z_138) (r_139) (l_140)) (fcF (x_136) (y_137) (z_138) (r_139) (l_140)))) : Bool) = (bnot (ieq (fcF (x_136) (y_137) (z_138) (r_139) (l_140)) (fcF (x_136) (y_137) (z_138) (r_139) (l_140))))) ∧ (((Cont.ints (x_136)) = (Cont.ints (x_136))) ∧ ((Cont.ints (y_137)) = (Cont.ints (y_137))) ∧ ((Cont.ints (z_138)) = (Cont.ints (z_138))) ∧ True) ∧ ((Cont.intss (r_139)) = (Cont.intss (r_139))) ∧ ((Cont.ptss (l_140)) = (Cont.ptss (l_140))) ∧ (((fcF (x_136) (y_137) (z_138) (r_139) (l_140)) : Int) = (fcF (x_136) (y_137) (z_138) (r_139) (l_140))) ∧ (((fcF (x_136) (y_137) (z_138) (r_139) (l_140)) : Int) = (fcF (x_136) (y_137) (z_138) (r_139) (l_140))) ∧ ((Cont.ptss (l_140)) = (Cont.ptss (l_140))) ∧ ((Cont.intss (r_139)) = (Cont.intss (r_139))) ∧ (true = true) ∧ ((Cont.ptss (l_140)) = (Cont.ptss (l_140))) ∧ ((Cont.intss (r_139)) = (Cont.intss (r_139))) ∧ (((Cont.ints (x_136)) = (Cont.ints (x_136))) ∧ ((Cont.ints (y_137)) = (Cont.ints (y_137))) ∧ ((Cont.ints (z_138)) = (Cont.ints (z_138))) ∧ True) ∧ ((n : Int) = n) ∧ ((n : Int) = n) ∧ ((n : Int) = n) ∧ (((ilt (1048576 : Int) n) : Bool) = (ilt (1048576 : Int) n)) ∧ ((n : Int) = n) ∧ True) ∧ ((((Cont.ints (x_136)) = (Cont.ints (x_136))) ∧ ((Cont.ints (y_137)) = (Cont.ints (y_137))) ∧ ((Cont.ints (z_138)) = (Cont.ints (z_138))) ∧ True) ∧ True)) ∧ (([GK.int, GK.bool] : List GK) = ([GK.int, GK.bool] : List GK)) ∧ I1 [GV.int (0 : Int), GV.bool false]) ∧ (∀ i1_0 : Int, ∀ b1_1 : Bool, I1 [GV.int i1_0, GV.bool b1_1] → ((true = true) ∧ ((True) ∧ (True) ∧ (True) ∧ (True) ∧ True) ∧ ((ilt i1_0 (ilen (r_139))) = true → ((true = true) ∧ ((True) ∧ (True) ∧ (True) ∧ (NLe 0 i1_0 ∧ NLt i1_0 (ilen (r_139))) ∧ (True) ∧ (True) ∧ ((True)) ∧ (True) ∧ True) ∧ (true = true) ∧ ((True) ∧ (True) ∧ (NIs (jvB (x_136) (y_137) (z_138) (getl (r_139) i1_0) && sceneB (l_140) && acB (x_136) (getl (r_139) i1_0) (l_140)) true → True) ∧ (NIs (jvB (x_136) (y_137) (z_138) (getl (r_139) i1_0) && sceneB (l_140) && acB (x_136) (getl (r_139) i1_0) (l_140)) true → True) ∧ (NIs (jvB (x_136) (y_137) (z_138) (getl (r_139) i1_0) && sceneB (l_140) && acB (x_136) (getl (r_139) i1_0) (l_140)) true → True) ∧ (True) ∧ (True) ∧ (NIs (bite (jvB (x_136) (y_137) (z_138) (getl (r_139) i1_0) && sceneB (l_140) && acB (x_136) (getl (r_139) i1_0) (l_140)) (ieq i1_0 (fcF (x_136) (y_137) (z_138) (r_139) (l_140))) false) false → True) ∧ (NIs (bite (jvB (x_136) (y_137) (z_138) (getl (r_139) i1_0) && sceneB (l_140) && acB (x_136) (getl (r_139) i1_0) (l_140)) (ieq i1_0 (fcF (x_136) (y_137) (z_138) (r_139) (l_140))) false) false → True) ∧ (NIs (bite (jvB (x_136) (y_137) (z_138) (getl (r_139) i1_0) && sceneB (l_140) && acB (x_136) (getl (r_139) i1_0) (l_140)) (ieq i1_0 (fcF (x_136) (y_137) (z_138) (r_139) (l_140))) false) false → True) ∧ (NIs (bite (jvB (x_136) (y_137) (z_138) (getl (r_139) i1_0) && sceneB (l_140) && acB (x_136) (getl (r_139) i1_0) (l_140)) (ieq i1_0 (fcF (x_136) (y_137) (z_138) (r_139) (l_140))) false) false → (NIs (bnot (jvB (x_136) (y_137) (z_138) (getl (r_139) i1_0) && sceneB (l_140) && acB (x_136) (getl (r_139) i1_0) (l_140))) true → True)) ∧ (NIs (bite (jvB (x_136) (y_137) (z_138) (getl (r_139) i1_0) && sceneB (l_140) && acB (x_136) (getl (r_139) i1_0) (l_140)) (ieq i1_0 (fcF (x_136) (y_137) (z_138) (r_139) (l_140))) false) false → (NIs (bnot (jvB (x_136) (y_137) (z_138) (getl (r_139) i1_0) && sceneB (l_140) && acB (x_136) (getl (r_139) i1_0) (l_140))) true → True)) ∧ (NIs (bite (jvB (x_136) (y_137) (z_138) (getl (r_139) i1_0) && sceneB (l_140) && acB (x_136) (getl (r_139) i1_0) (l_140)) (ieq i1_0 (fcF (x_136) (y_137) (z_138) (r_139) (l_140))) false) false → (NIs (bnot (jvB (x_136) (y_137) (z_138) (getl (r_139) i1_0) && sceneB (l_140) && acB (x_136) (getl (r_139) i1_0) (l_140))) true → True)) ∧ (NIs (bite (jvB (x_136) (y_137) (z_138) (getl (r_139) i1_0) && sceneB (l_140) && acB (x_136) (getl (r_139) i1_0) (l_140)) (ieq i1_0 (fcF (x_136) (y_137) (z_138) (r_139) (l_140))) false) false → (NIs (bnot (jvB (x_136) (y_137) (z_138) (getl (r_139) i1_0) && sceneB (l_140) && acB (x_136) (getl (r_139) i1_0) (l_140))) true → (NIs (ilt (fcF (x_136) (y_137) (z_138) (r_139) (l_140)) (0 : Int)) false → True))) ∧ (NIs (bite (jvB (x_136) (y_137) (z_138) (getl (r_139) i1_0) && sceneB (l_140) && acB (x_136) (getl (r_139) i1_0) (l_140)) (ieq i1_0 (fcF (x_136) (y_137) (z_138) (r_139) (l_140))) false) false → (NIs (bnot (jvB (x_136) (y_137) (z_138) (getl (r_139) i1_0) && sceneB (l_140) && acB (x_136) (getl (r_139) i1_0) (l_140))) true → (NIs (ilt (fcF (x_136) (y_137) (z_138) (r_139) (l_140)) (0 : Int)) false → True))) ∧ (NIs (bite (jvB (x_136) (y_137) (z_138) (getl (r_139) i1_0) && sceneB (l_140) && acB (x_136) (getl (r_139) i1_0) (l_140)) (ieq i1_0 (fcF (x_136) (y_137) (z_138) (r_139) (l_140))) false) false → (NIs (bnot (jvB (x_136) (y_137) (z_138) (getl (r_139) i1_0) && sceneB (l_140) && acB (x_136) (getl (r_139) i1_0) (l_140))) true → (NIs (ilt (fcF (x_136) (y_137) (z_138) (r_139) (l_140)) (0 : Int)) false → True))) ∧ (NIs (bite (jvB (x_136) (y_137) (z_138) (getl (r_139) i1_0) && sceneB (l_140) && acB (x_136) (getl (r_139) i1_0) (l_140)) (ieq i1_0 (fcF (x_136) (y_137) (z_138) (r_139) (l_140))) false) false → (NIs (bnot (jvB (x_136) (y_137) (z_138) (getl (r_139) i1_0) && sceneB (l_140) && acB (x_136) (getl (r_139) i1_0) (l_140))) true → True)) ∧ (NIs (bite (jvB (x_136) (y_137) (z_138) (getl (r_139) i1_0) && sceneB (l_140) && acB (x_136) (getl (r_139) i1_0) (l_140)) (ieq i1_0 (fcF (x_136) (y_137) (z_138) (r_139) (l_140))) false) false → True) ∧ (True) ∧ True) ∧ ((bite (bite (jvB (x_136) (y_137) (z_138) (getl (r_139) i1_0) && sceneB (l_140) && acB (x_136) (getl (r_139) i1_0) (l_140)) (ieq i1_0 (fcF (x_136) (y_137) (z_138) (r_139) (l_140))) false) true (bite (bnot (jvB (x_136) (y_137) (z_138) (getl (r_139) i1_0) && sceneB (l_140) && acB (x_136) (getl (r_139) i1_0) (l_140))) (bite (ilt (fcF (x_136) (y_137) (z_138) (r_139) (l_140)) (0 : Int)) true (ilt i1_0 (fcF (x_136) (y_137) (z_138) (r_139) (l_140)))) false)) = true → ((true = true) ∧ ((True) ∧ True) ∧ ((false : Bool) = (true)) ∧ True)) ∧ ((bite (bite (jvB (x_136) (y_137) (z_138) (getl (r_139) i1_0) && sceneB (l_140) && acB (x_136) (getl (r_139) i1_0) (l_140)) (ieq i1_0 (fcF (x_136) (y_137) (z_138) (r_139) (l_140))) false) true (bite (bnot (jvB (x_136) (y_137) (z_138) (getl (r_139) i1_0) && sceneB (l_140) && acB (x_136) (getl (r_139) i1_0) (l_140))) (bite (ilt (fcF (x_136) (y_137) (z_138) (r_139) (l_140)) (0 : Int)) true (ilt i1_0 (fcF (x_136) (y_137) (z_138) (r_139) (l_140)))) false)) = false → ((true = true) ∧ ((True) ∧ (True) ∧ (True) ∧ True) ∧ ((true = true) ∧ (((b1_1 : Bool) = b1_1) ∧ (((iadd i1_0 (1 : Int)) : Int) = (iadd i1_0 (1 : Int))) ∧ (((Cont.ints (x_136)) = (Cont.ints (x_136))) ∧ ((Cont.ints (y_137)) = (Cont.ints (y_137))) ∧ ((Cont.ints (z_138)) = (Cont.ints (z_138))) ∧ True) ∧ (((armB (x_136) (y_137) (z_138)) : Bool) = (armB (x_136) (y_137) (z_138))) ∧ (((bnot (armB (x_136) (y_137) (z_138))) : Bool) = (bnot (armB (x_136) (y_137) (z_138)))) ∧ (((bnot (armB (x_136) (y_137) (z_138))) : Bool) = (bnot (armB (x_136) (y_137) (z_138)))) ∧ (((bite (bnot (armB (x_136) (y_137) (z_138))) true (bnot (sceneB (l_140)))) : Bool) = (bite (bnot (armB (x_136) (y_137) (z_138))) true (bnot (sceneB (l_140))))) ∧ (((bite (bnot (armB (x_136) (y_137) (z_138))) true (bnot (sceneB (l_140)))) : Bool) = (bite (bnot (armB (x_136) (y_137) (z_138))) true (bnot (sceneB (l_140))))) ∧ (((bite (bite (bnot (armB (x_136) (y_137) (z_138))) true (bnot (sceneB (l_140)))) true (ilt (400 : Int) (ilen (r_139)))) : Bool) = (bite (bite (bnot (armB (x_136) (y_137) (z_138))) true (bnot (sceneB (l_140)))) true (ilt (400 : Int) (ilen (r_139))))) ∧ (((fcF (x_136) (y_137) (z_138) (r_139) (l_140)) : Int) = (fcF (x_136) (y_137) (z_138) (r_139) (l_140))) ∧ (((Cont.ints (x_136)) = (Cont.ints (x_136))) ∧ ((Cont.ints (y_137)) = (Cont.ints (y_137))) ∧ ((Cont.ints (z_138)) = (Cont.ints (z_138))) ∧ True) ∧ ((Cont.intss (r_139)) = (Cont.intss (r_139))) ∧ ((Cont.ptss (l_140)) = (Cont.ptss (l_140))) ∧ (((fcF (x_136) (y_137) (z_138) (r_139) (l_140)) : Int) = (fcF (x_136) (y_137) (z_138) (r_139) (l_140))) ∧ (((bnot (ieq (fcF (x_136) (y_137) (z_138) (r_139) (l_140)) (fcF (x_136) (y_137) (z_138) (r_139) (l_140)))) : Bool) = (bnot (ieq (fcF (x_136) (y_137) (z_138) (r_139) (l_140)) (fcF (x_136) (y_137) (z_138) (r_139) (l_140))))) ∧ (((Cont.ints (x_136)) = (Cont.ints (x_136))) ∧ ((Cont.ints (y_137)) = (Cont.ints (y_137))) ∧ ((Cont.ints (z_138)) = (Cont.ints (z_138))) ∧ True) ∧ ((Cont.intss (r_139)) = (Cont.intss (r_139))) ∧ ((Cont.ptss (l_140)) = (Cont.ptss (l_140))) ∧ (((fcF (x_136) (y_137) (z_138) (r_139) (l_140)) : Int) = (fcF (x_136) (y_137) (z_138) (r_139) (l_140))) ∧ (((fcF (x_136) (y_137) (z_138) (r_139) (l_140)) : Int) = (fcF (x_136) (y_137) (z_138) (r_139) (l_140))) ∧ ((Cont.ptss (l_140)) = (Cont.ptss (l_140))) ∧ ((Cont.intss (r_139)) = (Cont.intss (r_139))) ∧ (true = true) ∧ ((Cont.ptss (l_140)) = (Cont.ptss (l_140))) ∧ ((Cont.intss (r_139)) = (Cont.intss (r_139))) ∧ (((Cont.ints (x_136)) = (Cont.ints (x_136))) ∧ ((Cont.ints (y_137)) = (Cont.ints (y_137))) ∧ ((Cont.ints (z_138)) = (Cont.ints (z_138))) ∧ True) ∧ ((n : Int) = n) ∧ ((n : Int) = n) ∧ ((n : Int) = n) ∧ (((ilt (1048576 : Int) n) : Bool) = (ilt (1048576 : Int) n)) ∧ ((n : Int) = n) ∧ True) ∧ ((((Cont.ints (x_136)) = (Cont.ints (x_136))) ∧ ((Cont.ints (y_137)) = (Cont.ints (y_137))) ∧ ((Cont.ints (z_138)) = (Cont.ints (z_138))) ∧ True) ∧ True)) ∧ ((([GK.int, GK.bool] : List GK) = ([GK.int, GK.bool] : List GK)) ∧ I1 [GV.int (iadd i1_0 (1 : Int)), GV.bool b1_1] ∧ μ1 [GV.int (iadd i1_0 (1 : Int)), GV.bool b1_1] < μ1 [GV.int i1_0, GV.bool b1_1]))))) ∧ ((ilt i1_0 (ilen (r_139))) = false → ((true = true) ∧ ((True) ∧ (True) ∧ (True) ∧ (NIs (ile (-1 : Int) (fcF (x_136) (y_137) (z_138) (r_139) (l_140))) true → True) ∧ (NIs (ile (-1 : Int) (fcF (x_136) (y_137) (z_138) (r_139) (l_140))) true → True) ∧ (NIs (ile (-1 : Int) (fcF (x_136) (y_137) (z_138) (r_139) (l_140))) true → True) ∧ (NIs (ile (-1 : Int) (fcF (x_136) (y_137) (z_138) (r_139) (l_140))) true → True) ∧ (True) ∧ (True) ∧ True) ∧ (((bite (ile (-1 : Int) (fcF (x_136) (y_137) (z_138) (r_139) (l_140))) (ilt (fcF (x_136) (y_137) (z_138) (r_139) (l_140)) (ilen (r_139))) false) : Bool) = (true)) ∧ True)))))))))))))))))) = ev sig_laws_FnFirstContact xs_laws_FnFirstContact Tryd.f13.ntmps (fun b => if b == 0 then [.v 7, .v 2] else []) (codeOf Tryd.f13) 0 (initS [.s (.rdr n)]) (retK Tryd.f13.results.toList [.s (.bool (true))]) := by kernel_rfl
set_option maxHeartbeats 400000 in
theorem F_laws_FnFirstContact : FunOK 13 g_laws_FnFirstContact := by
  refine fun_F (by kernel_rfl) Tryd.func13 rfl (by kernel_rfl) sig_laws_FnFirstContact_ok xs_laws_FnFirstContact_ok ?_
  intro avs sg h hn hl
  unfold g_laws_FnFirstContact at h
  split at h
  · rename_i n
    injection h with h; subst h
    refine ⟨by kernel_rfl, fun b => if b == 0 then [.v 7, .v 2] else [], Eq.mp (V_laws_FnFirstContact n) ?_⟩
    simp only [true_and, and_true, implies_true, and_self, forall_const, true_implies, lenA, lenL, SV.lenOK, Cont.lenOK] at hn hl ⊢
    simp only [ilt_t, ilt_f, ile_t, ile_f, ieq_t, ieq_f, bnot_e, band_e, bite_and, bite_or, NLt_e, NLe_e, NNe_e, NIs_e, imax_e, imin_e, irem_e, Bool.not_eq_true', Bool.not_eq_false', Bool.and_eq_true, Bool.or_eq_true, Bool.or_eq_false_iff, Bool.and_eq_false_iff, Cont.pts.injEq, Cont.ints.injEq, Cont.bools.injEq, Cont.ptss.injEq, Cont.intss.injEq, Cont.boolss.injEq, true_and, and_true, implies_true]
    intro h
    refine ⟨h, fun x y z r l hp => ⟨fun hne => absurd rfl hne, fun _ => ⟨fun hx => ?_, fun hx => ?_⟩⟩⟩
    · unfold fcF
      rcases hx with (h | h) | h
      · simp [h]
      · simp [h]
      · have : ¬ ilen r ≤ 400 := by omega
        simp [this]
    · obtain ⟨⟨ha, hs⟩, hr⟩ := hx
      have r0 := ilen_0 r
      have hF : fcF x y z r l = firstN (ilen r) (fun i => fcE x y z l (getl r i)) := by unfold fcF; rw [ha, hs]; simp [hr]
      have hE : ∀ m, fcE x y z l m = (jvB x y z m && acB x m l) := fun m => by unfold fcE; rw [hs, Bool.and_true]
      rw [hF]
      have sp := firstN_spec (n := ilen r) (fun i => fcE x y z l (getl r i))
      generalize firstN (ilen r) (fun i => fcE x y z l (getl r i)) = m at *
      refine ⟨fun | [.int k, .bool _] => 0 ≤ k ∧ k ≤ ilen r | _ => False, fun | .int k :: _ => (ilen r - k).toNat | _ => 0, ⟨by omega, by omega⟩, ?_⟩
      rintro k b ⟨k0, k1⟩
      refine ⟨fun hk => ⟨⟨k0, hk⟩, fun hx => ?_, fun hx => ?_⟩, fun hk => ?_⟩
      · exfalso
        have hk2 := hE (getl r k)
        rcases hx with ⟨⟨⟨q1, q2⟩, q3⟩, q4⟩ | ⟨q1, q2⟩
        · rw [q1, q3] at hk2
          rcases sp with ⟨s1, s2⟩ | ⟨s1, s2, s3⟩
          · omega
          · simp only [← q4] at s2
            rw [hk2] at s2; cases s2
        · have hk3 : fcE x y z l (getl r k) = false := by
            rw [hk2]
            rcases q1 with (q1 | q1) | q1
            · simp [q1]
            · rw [hs] at q1; cases q1
            · simp [q1]
          rcases sp with ⟨s1, s2⟩ | ⟨s1, s2, s3⟩
          · have := s2 k k0 hk
            simp only [hk3] at this; cases this
          · rcases q2 with q2 | q2
            · omega
            · have := s3 k k0 q2
              simp only [hk3] at this; cases this
      · rw [iadd_e (by omega) (by omega)]
        exact ⟨⟨by omega, by omega⟩, by show (ilen r - (k + 1)).toNat < (ilen r - k).toNat; omega⟩
      · rcases sp with ⟨s1, s2⟩ | ⟨s1, s2, s3⟩
        · omega
        · omega
  · cases h
theorem fnFirstContact_walk (w : World) (v0 : Value) (x0 : Nat) (w0 : BytesArg w v0 x0) (hI : GInv w) : Calls Tryd.prog 13 #[v0] w fun e w' => e = .returned (.bool true) ∧ Bel w w' :=
  walk_of F_laws_FnFirstContact (avs := [.s (.rdr x0)]) rfl trivial ⟨bytes_reads w0, trivial⟩
set_option maxRecDepth 100000 in
theorem fnFirstContact_lifted (os : Os) (started : os.Started) (H : Type) (enc : TypeId × Value → H) :
    ReturnsInHanded {} Tryd.checked os 13 .any (fun w args => (Rows.fnFirstContactSpec.pre enc Tryd.prog Tryd.f13 [] false w args ∧ laidMetH Tryd.prog laid3 w) ∧ sizedMet enc Tryd.prog Tryd.f13 (OpenSpec.ofChange Rows.fnFirstContactSpec) false w args) (Rows.fnFirstContactSpec.post enc Tryd.prog Tryd.f13 false true false false) := by
  have own : ownKnob Tryd.prog.godebug = none := by kernel_rfl
  have laidOut : laidOutB Tryd.prog = true := by kernel_rfl
  refine returnsInHanded_of_change_and (C := Tryd.checked) (X := fun w _ => laidMetH Tryd.prog laid3 w) (fun _ _ _ hh h => h.of_heap hh) own started (by kernel_rfl) Tryd.func13
    (ChangeSpec.witness_shaped (enc := enc) (C := Tryd.checked) (os := os) (X := fun w _ => laidMetH Tryd.prog laid3 w) false (World.doorLaid Tryd.prog 400 os) #[.slice none 0 0] 8 rfl (World.shaped_of_RefB (by kernel_rfl) (by kernel_rfl)) (by kernel_rfl) (by kernel_rfl) (by kernel_rfl) (door_met os _)) ?_
  intro W base args ds gs before hval0 hW _ _ hL _
  have hI := of_laid hL
  have hval : ∀ (j : Nat) t v, Tryd.f13.params[j]? = some t → args[j]? = some v → Value.okWide Tryd.prog W .any base t v := hval0
  have hW' := hW
  obtain ⟨p, q, hA0, hV, rfl, hfz, hnd⟩ := hW
  have hA : DataW.TrodAll enc Tryd.prog W 0 (fun _ => true) true Tryd.f13.params.toList args.toList ds p := hA0
  rw [Tryd.params13] at hA hval
  obtain ⟨v0, vs0, d0, ds0, p0, q0, hargs, rfl, rfl, h0, r0⟩ := trodAll_cons hA
  obtain ⟨rfl, rfl, rfl⟩ := trodAll_nil r0
  obtain rfl : args = #[v0] := by cases args; simp_all
  obtain ⟨rfl, rfl⟩ := trodVars_none hV
  have k0 := h0
  have lt0 : ∀ x ∈ p0, x.block < W.heap.size := by obtain ⟨m, hm⟩ := k0; exact DataW.trod_lt m _ _ _ hm
  obtain ⟨x0, w0⟩ := opn_bytes (hval 0 22 v0 rfl rfl) h0
  clear hA0 hval0
  refine (fnFirstContact_walk W v0 x0 w0 hI).mono fun e W' ⟨he, bel⟩ => ?_
  subst he
  exact ⟨_, rfl, _, _, _, [], _, [], hW', trodAll_mk1 (shut_bool Tryd.underlying4 _), (trodAll_cons_mk (Below.trod laidOut (by kernel_rfl) (of_decide_eq_true (by kernel_rfl)) k0 bel lt0) trodAll_mk0), rfl, Below.frame bel _, fun h => by cases h⟩
theorem fnFirstContact_over : Rows.fnFirstContactRow.holds Tryd.pinned (OpenSpec.ofChange Rows.fnFirstContactSpec) :=
  OpenClaim.holds_of_wide 13 Tryd.f13 rfl rfl rfl rfl rfl rfl rfl ⟨rfl, rfl, rfl, rfl, rfl⟩ rfl rfl rfl rfl rfl (by kernel_rfl) Tryd.func13 (by kernel_rfl)
    (of_decide_eq_true (by kernel_rfl)) (by unfold Func.isWrapper; first | (rw [if_pos (by decide +kernel)]; kernel_rfl) | (rw [if_neg (by decide +kernel)]; exact ⟨rfl, rfl⟩))
    (fun os started H enc _ => fnFirstContact_lifted os started H enc)
theorem fnFirstContact_proved : Rows.FnFirstContactCardSaid :=
  Claim7.holds_tied_plain_at .later [] [.data, .data, .data] true (true, "16bbdc3ad5447965b735ab462f47ba12bb60540d08a1c5142685da0634440668") false
    fnFirstContact_over (fun _ h => by cases h) (by kernel_rfl) (fun _ h => by cases h) fnFirstContact_row_tie rfl ⟨rfl, rfl⟩ (by kernel_rfl) rfl
    (fun f fn hf hfn => by
      obtain rfl : f = 13 := Option.some.inj ((show Tryd.prog.funcNamed "loop.example/robotcell/laws.FnFirstContact" = some 13 by kernel_rfl).symm.trans hf) |>.symm
      obtain rfl : fn = Tryd.f13 := (Option.some.inj (Tryd.func13.symm.trans hfn)).symm
      exact ⟨by kernel_rfl, fun j t ht => by
        rw [Tryd.params13] at ht
        have hm : t ∈ [22] := by simpa using Array.mem_of_getElem? ht
        have hall : ([22].all fun u => !Tryd.prog.wantsStandIn u) = true := by kernel_rfl
        exact (show Tryd.prog.wantsStandIn t = false by simpa using List.all_eq_true.1 hall t hm)⟩)
    (by kernel_rfl)
#print axioms fnFirstContact_proved
end Go.Proofs.YtdkpnlhcodogeaaDoor

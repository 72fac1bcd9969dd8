/- 'FnExactFreeCells': for all arguments the program's FreeCells returns what the reference's returns and leaves its arguments alone. Conditions: none. -/
import Derived.Test.YtejiomhoflnboaaDoorFnExactFreeCellsP2
namespace Go.Proofs.YtejiomhoflnboaaDoor
open Go.ChangeShapes Go.WideShapes Go.ChangeAt Go.RowKit
set_option maxRecDepth 100000
set_option linter.unusedSimpArgs false
set_option linter.unusedVariables false
def s_laws_markIntS (l : List Int) (k : Int) : SgX := ⟨0 ≤ k ∧ k ≤ 10000000000000 ∧ ilen l ≤ 1000000000, [.ints, .int], (fun | [.ints m, .int q] => ilen m = ilen l ∧ mkdI m k (ilen l) ∧ q = k + ilen l | _ => False), (fun | [.ints m, .int q] => [.s (.int (q))] | _ => []), (fun | [.ints m, .int q] => .row 3 (.ints (m)) | _ => .box [])⟩
def g_laws_markIntS : Bx → List AV → Option SgX
  | .row 3 (.ints l), [.s (.int k)] => some (s_laws_markIntS l k)
  | _, _ => none
def sig_laws_markIntS : FuncId → List AV → Option Sg := sigL []
def xs_laws_markIntS : XS := ⟨xsigL [], ysigL []⟩
theorem sig_laws_markIntS_ok : SigOK sig_laws_markIntS := sigL_nil
theorem xs_laws_markIntS_ok : XSigOK xs_laws_markIntS := ⟨xsigL_nil, ysigL_nil⟩
def L_laws_markIntS_0 (l : List Int) (k : Int) (i1_1 : Int) (l1_2 : List Int) : Prop := ∃ m : List Int, ∃ q : Int, ((ilen m = ilen l ∧ mkdI m k (ilen l) ∧ q = k + ilen l) ∧ (((i1_1 : Int) = (q)) ∧ True) ∧ ((true = true) ∧ ((Cont.ints l1_2) = (Cont.ints (m)))))
theorem V_laws_markIntS (l : List Int) (k : Int) : ((true = true) ∧ ((True) ∧ True) ∧ (true = true) ∧ ((True) ∧ True) ∧ ∃ (I1 : List GV → Prop) (μ1 : List GV → Nat), (((true = true) ∧ (((k : Int) = k) ∧ (((0 : Int) : Int) = (0 : Int)) ∧ (((0 : Int) : Int) = (0 : Int)) ∧ (true = true) ∧ True) ∧ (((true = true) ∧ ((Cont.ints l) = (Cont.ints l))) ∧ True)) ∧ (([GK.int, GK.int, GK.ints] : List GK) = ([GK.int, GK.int, GK.ints] : List GK)) ∧ I1 [GV.int (0 : Int), GV.int k, GV.ints l]) ∧ (∀ i1_0 : Int, ∀ i1_1 : Int, ∀ l1_2 : List Int, I1 [GV.int i1_0, GV.int i1_1, GV.ints l1_2] → ((true = true) ∧ ((True) ∧ (True) ∧ (True) ∧ (True) ∧ True) ∧ ((ilt i1_0 (ilen l1_2)) = true → ((true = true) ∧ ((True) ∧ (True) ∧ (True) ∧ (NLe 0 i1_0 ∧ NLt i1_0 (ilen l1_2)) ∧ True) ∧ (NLt i1_0 (ilen l1_2)) ∧ (true = true) ∧ ((True) ∧ (True) ∧ (True) ∧ True) ∧ (true = true) ∧ ((True) ∧ (True) ∧ (True) ∧ True) ∧ ((true = true) ∧ ((((iadd i1_1 (1 : Int)) : Int) = (iadd i1_1 (1 : Int))) ∧ (((iadd i1_0 (1 : Int)) : Int) = (iadd i1_0 (1 : Int))) ∧ (((0 : Int) : Int) = (0 : Int)) ∧ (true = true) ∧ True) ∧ (((true = true) ∧ ((Cont.ints (seti l1_2 i1_0 i1_1)) = (Cont.ints (seti l1_2 i1_0 i1_1)))) ∧ True)) ∧ ((([GK.int, GK.int, GK.ints] : List GK) = ([GK.int, GK.int, GK.ints] : List GK)) ∧ I1 [GV.int (iadd i1_0 (1 : Int)), GV.int (iadd i1_1 (1 : Int)), GV.ints (seti l1_2 i1_0 i1_1)] ∧ μ1 [GV.int (iadd i1_0 (1 : Int)), GV.int (iadd i1_1 (1 : Int)), GV.ints (seti l1_2 i1_0 i1_1)] < μ1 [GV.int i1_0, GV.int i1_1, GV.ints l1_2]))) ∧ ((ilt i1_0 (ilen l1_2)) = false → ((true = true) ∧ ((True) ∧ (True) ∧ True) ∧ L_laws_markIntS_0 l k i1_1 l1_2))))) = (fun sg => ev sig_laws_markIntS xs_laws_markIntS Tryd.f38.ntmps (fun b => if b == 0 then [.v 5, .v 1, .b 0] else []) (codeOf Tryd.f38) 0 (initX (.row 3 (.ints l)) [.s (.int k)]) (retX Tryd.f38.results.toList sg.kinds sg.post sg.ret sg.out)) (s_laws_markIntS l k) := by kernel_rfl
set_option maxHeartbeats 400000 in
theorem F_laws_markIntS : FunX 38 g_laws_markIntS := by
  refine fun_X (by kernel_rfl) Tryd.func38 rfl (by kernel_rfl) sig_laws_markIntS_ok xs_laws_markIntS_ok ?_
  intro bx avs sg h hn hl hlb
  unfold g_laws_markIntS at h
  split at h
  · rename_i l k
    injection h with h; subst h
    refine ⟨by kernel_rfl, fun b => if b == 0 then [.v 5, .v 1, .b 0] else [], Eq.mp (V_laws_markIntS l k) ?_⟩
    simp only [true_and, and_true, implies_true, and_self, forall_const, true_implies, lenA, lenL, SV.lenOK, Cont.lenOK, lenB, s_laws_markIntS, L_laws_markIntS_0] at hn hl hlb ⊢
    have h0 := ilen_0 l
    obtain ⟨n1, n2, n3⟩ := hn
    simp only [ilt_t, ilt_f, ile_t, ile_f, ieq_t, ieq_f, bnot_e, band_e, bite_and, bite_or, NLt_e, NLe_e, NNe_e, NIs_e, imax_e, imin_e, irem_e, Bool.not_eq_true', Bool.not_eq_false', Bool.and_eq_true, Bool.or_eq_true, Bool.or_eq_false_iff, Bool.and_eq_false_iff, Cont.pts.injEq, Cont.ints.injEq, Cont.bools.injEq, Cont.ptss.injEq, Cont.intss.injEq, Cont.boolss.injEq, true_and, and_true, implies_true]
    refine ⟨fun | [.int i, .int k', .ints m] => 0 ≤ i ∧ i ≤ ilen l ∧ k' = k + i ∧ ilen m = ilen l ∧ ∀ j, 0 ≤ j → j < i → geti m j = k + j | _ => False, fun | .int i :: _ => (ilen l - i).toNat | _ => 0, ⟨Int.le_refl 0, h0, by omega, rfl, fun j h0 h1 => absurd h1 (by omega)⟩, ?_⟩
    rintro i k' m ⟨hi0, hi1, hk, hm, hmk⟩
    refine ⟨fun hc => ?_, fun hc => ⟨m, k', ⟨hm, fun j j0 j1 => hmk j j0 (by omega), by omega⟩, rfl, rfl⟩⟩
    have hi : i < ilen l := by omega
    rw [iadd_e (a := i) (by omega) (by omega), iadd_e (a := k') (by omega) (by omega)]
    refine ⟨⟨hi0, hc⟩, hc, ⟨by omega, by omega, by omega, by rw [ilen_seti]; exact hm, fun j j0 j1 => ?_⟩, by show (ilen l - (i + 1)).toNat < (ilen l - i).toNat; omega⟩
    rw [geti_seti hi0 hc j0]
    by_cases hj : j = i
    · rw [if_pos hj, hj, hk]; try (unfold mkB ieq; rfl)
    · rw [if_neg hj]; exact hmk j j0 (by omega)
  · cases h
theorem mark_Int_b {w : World} {base : Nat} {v : Value} {m : List Int} {k : Int} (hI : GInv w) (hng : NG ≤ base) (ho : w.ownsRow base 3 1 v m.length (fI m)) (k0 : 0 ≤ k) (k1 : k ≤ 10000000000000) (hm : ilen m ≤ 1000000000) :
    Calls Tryd.prog 38 #[v, .int .i64 k] w fun e w' => ∃ m', e = .returned (.int .i64 (k + 1 * ilen m)) ∧ ilen m' = ilen m ∧ mkdI m' k (ilen m') ∧ w'.ownsRow base 3 1 v m'.length (fI m') ∧ w.grownBy w' v.ownBlock := by
  have hbk : ∀ b, blk v = some b ↔ v.ownBlock = some b := fun b => by
    rcases ho.2 with ⟨rfl, _⟩ | ⟨g, cap, cur, rfl, _⟩
    · simp [blk, Value.ownBlock]
    · simp [blk, Value.ownBlock]
  have hob : blk v = v.ownBlock := by
    rcases ho.2 with ⟨rfl, _⟩ | ⟨g, cap, cur, rfl, _⟩ <;> rfl
  refine (F_laws_markIntS (.row 3 (.ints m)) [.s (.int k)] _ rfl ⟨k0, by omega, hm⟩ (fun b => v.ownBlock = some b) v [.int .i64 k] w ⟨fun b hb => ⟨Nat.le_trans hng (ho.lt b hb).1, (ho.lt b hb).2⟩, hI⟩ (fun b hb => (hbk b).1 hb) ⟨_, own_base ho (Nat.zero_le _), rfl⟩ ⟨rfl, trivial⟩).2.mono ?_
  rintro e w' ⟨r, gs, rfl, hk, hp, hr, ho', _, hgr⟩
  match gs, hk, hp, hr, ho' with
  | [.ints m', .int q], _, ⟨p1, p2, p3⟩, hr, ⟨xs, o1, o2⟩ =>
    have hr' : r = .int .i64 q := hr
    have o2' : xs = fI m' := o2
    subst o2' p3
    rw [hob] at hgr
    exact ⟨m', by first | (rw [hr']; done) | (rw [hr']; first | rfl | simp), p1, by rw [p1]; exact p2, own_rebase o1 (fun b hb => (ho.lt b hb).1), hgr⟩
set_option maxHeartbeats 1000000 in
theorem markArm_own {w : World} {base : Nat} {v1 v2 v3 : Value} {a1 a2 a3 : List Int} {k : Int} (hI : GInv w) (hng : NG ≤ base) (h : Arm3 base w v1 v2 v3 a1 a2 a3) (k0 : 0 ≤ k) (k1 : k ≤ 1000000) (n1 : ilen a1 ≤ 1048576) (n2 : ilen a2 ≤ 1048576) (n3 : ilen a3 ≤ 1048576) :
    Calls Tryd.prog 14 #[.agg #[v1, v2, v3], .int .i64 k] w fun e w' => ∃ k', e = .returned (.int .i64 k') ∧ (k ≤ k' ∧ k' ≤ k + 3145728) ∧ Mch [v1, v2, v3] w w' := by
  obtain ⟨h1, h2, h3, d12, d13, d23⟩ := h
  have p1 := ilen_0 a1
  have p2 := ilen_0 a2
  have p3 := ilen_0 a3
  obtain ⟨A1, c1, rfl⟩ := own_form h1
  obtain ⟨A2, c2, rfl⟩ := own_form h2
  obtain ⟨A3, c3, rfl⟩ := own_form h3
  obtain ⟨W, hW⟩ : ∃ W, W = w.alloc (.cells #[.slice A1 a1.length c1, .slice A2 a2.length c2, .slice A3 a3.length c3] 30) := ⟨_, rfl⟩
  have hbW : Bel w W := by rw [hW]; exact (Bel.refl w).alloc _
  have hIW := ginv_bel0 hI hbW
  have hgW : W.heap[w.heap.size]? = some (.cells #[.slice A1 a1.length c1, .slice A2 a2.length c2, .slice A3 a3.length c3] 30 (0, 0)) := by rw [hW]; exact heap_alloc_new w _
  have o1 := own_bel h1 hbW
  have o2 := own_bel h2 hbW
  have o3 := own_bel h3 hbW
  have l1 := fun b hb => (h1.lt b hb).2
  have l2 := fun b hb => (h2.lt b hb).2
  have l3 := fun b hb => (h3.lt b hb).2
  have HC1 := Lib.hid (mark_Int_b (k := k) hIW hng o1 k0 (by omega) (by omega))
  have HC2 := Lib.hid (fun (wa : World) (hg : W.grownBy wa (Value.ownBlock (.slice A1 a1.length c1))) (q : Int) (q0 : 0 ≤ q) (q1 : q ≤ 10000000000000) => mark_Int_b (k := q) (GInv.keep hIW hg (fun b e => Nat.le_trans hng (h1.lt b e).1)) hng (o2.kept hg (none_or fun b hb hv => d12 b hb hv)) q0 q1 (by omega))
  have HC3 := Lib.hid (fun (wa wb : World) (hg : W.grownBy wa (Value.ownBlock (.slice A1 a1.length c1))) (hg2 : wa.grownBy wb (Value.ownBlock (.slice A2 a2.length c2))) (q : Int) (q0 : 0 ≤ q) (q1 : q ≤ 10000000000000) => mark_Int_b (k := q) (GInv.keep (GInv.keep hIW hg (fun b e => Nat.le_trans hng (h1.lt b e).1)) hg2 (fun b e => Nat.le_trans hng (h2.lt b e).1)) hng ((o3.kept hg (none_or fun b hb hv => d13 b hb hv)).kept hg2 (none_or fun b hb hv => d23 b hb hv)) q0 q1 (by omega))
  have HB1 := Lib.hid (fun (wa : World) (hg : W.grownBy wa (Value.ownBlock (.slice A1 a1.length c1))) => (hg.block w.heap.size (heap_lt hgW) (fun e => by have := l1 _ e.symm; omega)).trans hgW)
  have HB2 := Lib.hid (fun (wa wb : World) (hg : W.grownBy wa (Value.ownBlock (.slice A1 a1.length c1))) (hg2 : wa.grownBy wb (Value.ownBlock (.slice A2 a2.length c2))) => (hg2.block w.heap.size (Nat.lt_of_lt_of_le (heap_lt hgW) hg.size) (fun e => by have := l2 _ e.symm; omega)).trans ((hg.block w.heap.size (heap_lt hgW) (fun e => by have := l1 _ e.symm; omega)).trans hgW))
  have HM := Lib.hid (fun (wa wb wc : World) (hg : W.grownBy wa (Value.ownBlock (.slice A1 a1.length c1))) (hg2 : wa.grownBy wb (Value.ownBlock (.slice A2 a2.length c2))) (hg3 : wb.grownBy wc (Value.ownBlock (.slice A3 a3.length c3))) => (((((Mch.refl [Value.slice A1 a1.length c1, .slice A2 a2.length c2, .slice A3 a3.length c3] w).grown (bel_grown hbW)).step (i := 0) rfl hg).step (i := 1) rfl hg2).step (i := 2) rfl hg3))
  clear h1 h2 h3 o1 o2 o3 d12 d13 d23 l1 l2 l3 hbW hIW hgW
  subst hW
  go_enter Tryd.func14, Tryd.ntmps14
  go_wp2_with (go_at_call 38; first
    | (refine (HC3.out _ _ g1 g2 _ (by omega) (by omega)).mono ?_; rintro e w3 ⟨m3, rfl, -, -, -, g3⟩; have hmm := HM.out _ _ _ g1 g2 g3)
    | (refine (HC2.out _ g1 _ (by omega) (by omega)).mono ?_; rintro e w2 ⟨m2, rfl, -, -, -, g2⟩; have b2 := HB2.out _ _ g1 g2; have cc2 := cell_of_row w2 w.heap.size 2 _ _ _ b2; clear b2)
    | (refine HC1.out.mono ?_; rintro e w1 ⟨m1, rfl, -, -, -, g1⟩; have b1 := HB1.out _ g1; have cc1 := cell_of_row w1 w.heap.size 1 _ _ _ b1; clear b1))
  go_ret
  exact ⟨_, rfl, by constructor <;> omega, hmm⟩
theorem to_Point_b {w : World} {v : Value} {m : List Pt} (hI : GInv w) (hv : Reads (fun _ => False) w v (.pts m)) (hm : ilen m ≤ 100000000) :
    Calls Tryd.prog 30 #[v] w fun e w' => ∃ r, e = .returned r ∧ w'.ownsRow w.heap.size 75 2 r m.length (ptCells m) ∧ Bel w w' := by
  refine (F_laws_toPointS [.s (.view (.pts m))] _ rfl hm (fun _ => False) #[v] w ⟨fun _ h => h.elim, hI⟩ ⟨hv, trivial⟩).2.mono ?_
  rintro e w' ⟨r, rfl, ⟨xs, h1, h2⟩, hb⟩
  have h2' : xs = ptCells m := h2
  subst h2'
  exact ⟨r, rfl, h1, hb⟩
theorem info_Point : (Tryd.prog.info? 56).map (fun i => (i.zero, i.size, i.bytes)) = some (some (.slice none 0 0), 1, 24) := by kernel_rfl
set_option maxHeartbeats 1000000 in
theorem toPointSS_own {w : World} {v : Value} {l : List (List Pt)} (hI : GInv w) (hv : Reads (fun _ => False) w v (.ptss l)) (hn : ilen l ≤ 1048576) (hr : ∀ i, 0 ≤ i → i < ilen l → ilen (getl l i) ≤ 100000000) :
    Calls Tryd.prog 9 #[v] w fun e w' => ∃ u xs, e = .returned u ∧ Tab w.heap.size 56 75 2 ptCells w' u xs l ∧ Bel w w' := by
  obtain ⟨ys, ⟨A, c, rfl, hc1, hc2, hxl, hcell⟩, hyn, hin⟩ := hv
  have hc1' : l.length ≤ c := hc1
  have hyn' : ys.length = l.length := hyn
  have hcell' : 0 < l.length → ∃ b off, A = some ⟨b, off, none⟩ ∧ b < w.heap.size ∧ ¬ False ∧ ∀ (j : Nat) (u : Value), ys[j]? = some u → w.cell? ⟨b, off + j, none⟩ = some u := hcell
  unfold maxLen at hc2
  unfold ilen at hn
  clear hcell hc1 hyn hxl
  show Calls _ _ #[.slice A l.length c] _ _
  obtain ⟨iS, hi, hz, hs, hb⟩ := info_parts info_Point
  have hmk := mkRow (P := Tryd.prog) 32 56 iS _ Tryd.underlying32 hi hz l.length (by rw [hb]; omega) (by omega)
  rw [hs] at hmk
  have hmc : (madeCells #[Value.slice none 0 0] l.length).toList = List.replicate l.length (.slice none 0 0) := by
    rw [madeCells_rep (.intss []) _ _ (fun v hv => by simpa [Cont.fillV] using hv) (by simp)]; rfl
  have hst : Tab w.heap.size 56 75 2 ptCells (w.alloc (.cells (madeCells #[Value.slice none 0 0] l.length) 56)) (.slice (some ⟨w.heap.size, 0, none⟩) l.length l.length) (List.replicate l.length (.slice none 0 0)) (l.take 0 ++ List.replicate (l.length - 0) []) := by
    refine ⟨?_, fun i u m hu hm => ?_, fun i j u u' b hu _ hb1 _ => ?_⟩
    · rw [← hmc]
      simp only [List.take_zero, List.nil_append, Nat.sub_zero, List.length_replicate]
      exact World.ownsRow_lit w _ _ (Nat.le_refl _) (by unfold maxLen; omega) (by rw [size_madeCells, Nat.mul_one])
    · rw [List.getElem?_replicate] at hu
      simp only [List.take_zero, List.nil_append, Nat.sub_zero, List.getElem?_replicate] at hm
      split at hu
      · rename_i hil
        rw [if_pos hil] at hm
        injection hu with hu; injection hm with hm; subst hu hm
        exact World.ownsRow_nil ..
      · cases hu
    · rw [List.getElem?_replicate] at hu
      split at hu
      · injection hu with hu; subst hu; cases hb1
      · cases hu
  have HST := Lib.hid hst
  have HCELL := Lib.hid hcell'
  have HIN := Lib.hid hin
  clear hst hcell' hin hi hz hs hb hmc
  go_enter Tryd.func9, Tryd.ntmps9
  go_wp2
  go_loopw [4] (fun i wr => ∃ (k : Nat) (xs : List Value), k ≤ l.length ∧ i = .int .i64 k ∧ Tab w.heap.size 56 75 2 ptCells wr (.slice (some ⟨w.heap.size, 0, none⟩) l.length l.length) xs (l.take k ++ List.replicate (l.length - k) []) ∧ Bel w wr) (fun i _ => l.length - (intOf i).toNat)
  case atStart => exact ⟨0, _, Nat.zero_le _, rfl, HST.out, (Bel.refl _).alloc _⟩
  case round =>
    obtain ⟨k, xs, hk, rfl, hT, hB⟩ := hrel
    by_cases hlt : k < l.length
    · obtain ⟨b, off, rfl, hbs, _, hcl⟩ := HCELL.out (by omega)
      obtain ⟨u, hu⟩ : ∃ u, ys[k]? = some u := ⟨ys[k]'(by omega), List.getElem?_eq_getElem _⟩
      have hfl := HIN.out k u l[k] hu (List.getElem?_eq_getElem hlt)
      obtain ⟨Au, cu, rfl⟩ : ∃ A c, u = .slice A l[k].length c := by obtain ⟨A, c, e, _⟩ := hfl; exact ⟨A, c, e⟩
      have c1 := hB.cell hbs (hcl k _ hu)
      have hrow : Reads (fun _ => False) wr (.slice Au l[k].length cu) (.pts l[k]) := Reads.step (w := w) ⟨_, hfl, rfl⟩ (bel_grown hB) (fun b e => by cases e)
      have hrl : ilen l[k] ≤ 100000000 := by
        have := hr k (by omega) (by unfold ilen; omega)
        unfold getl at this; simpa [List.getD_eq_getElem?_getD, hlt] using this
      have hIr : GInv wr := GInv.keep hI (bel_grown hB) (fun b e => by cases e)
      have HROW := Lib.hid (to_Point_b hIr hrow hrl)
      have hlen : (l.take k ++ List.replicate (l.length - k) ([] : List Pt)).length = l.length := by simp; omega
      have HLEN := Lib.hid hlen
      have HY := Lib.hid hu
      clear hfl hu hrow hcl hlen hmk
      go_wp2_with (go_at_call 30; refine HROW.out.mono ?_; rintro e w1 ⟨r, rfl, ho1, hb1⟩; have hT1 := hT.bel hb1; have hB1 := hB.trans hb1; obtain ⟨Ar, cr, rfl⟩ := own_form ho1; obtain ⟨t1, t2⟩ := hT1.put (i := k) (by decide) HLEN.out hlt (own_base ho1 hB.size) (fun b hb ht => (by have := (hT.lt b ht).2; have := (ho1.lt b hb).1; omega)); rw [rep_set rfl hlt] at t1; obtain ⟨u2, d0⟩ := own_cell (HLEN.out ▸ hT1.outer) k (by omega); have d1 := World.ownsRow.frozenAt (HLEN.out ▸ hT1.outer) k; have hB2 : Bel w (w1.setCell ⟨w.heap.size, k, none⟩ (.slice Ar l[k].length cr)) := hB1.setCell (Nat.le_refl _) _; clear hT)
      go_roundw
      case rel => exact ⟨k + 1, _, by omega, by go_num, t1, hB2⟩
      case measure => simp [intOf]; omega
    · go_wp2
      go_ret
      have hk' : k = l.length := by omega
      subst hk'
      rw [List.take_length, Nat.sub_self, List.replicate_zero, List.append_nil] at hT
      exact ⟨_, _, rfl, hT, hB⟩
def mkd (m : List Pt) (k n : Int) : Prop := ∀ j, 0 ≤ j → j < n → getx m j = k + 2 * j ∧ gety m j = k + 2 * j + 1
theorem ilen_setx (l : List Pt) (i x : Int) : ilen (setx l i x) = ilen l := by unfold ilen setx; simp
theorem ilen_sety (l : List Pt) (i x : Int) : ilen (sety l i x) = ilen l := by unfold ilen sety; simp
theorem get_set2 {l : List Pt} {i j x y : Int} (h0 : 0 ≤ i) (h1 : i < ilen l) (h2 : 0 ≤ j) : getx (sety (setx l i x) i y) j = (if j = i then x else getx l j) ∧ gety (sety (setx l i x) i y) j = (if j = i then y else gety l j) := by
  unfold ilen at h1
  unfold getx gety sety setx
  by_cases h : j = i
  · subst h; simp [List.getD_eq_getElem?_getD, List.getElem?_set, show j.toNat < l.length by omega]
  · rw [if_neg h, if_neg h]; simp [List.getD_eq_getElem?_getD, List.getElem?_set, show ¬ i.toNat = j.toNat by omega]
def heldE (l : List Pt) (k j : Int) : Bool := decide (getx l j = k + 2 * j) && decide (gety l j = k + 2 * j + 1)
def heldF (l : List Pt) (k : Int) : Int := if allN (ilen l) (heldE l k) then k + 2 * ilen l else -1
theorem heldF_e {l : List Pt} {k : Int} (h : mkd l k (ilen l)) : heldF l k = k + 2 * ilen l := by
  unfold heldF
  rw [if_pos (allN_mk fun j j0 j1 => by unfold heldE; simp [h j j0 j1])]
def s_laws_markPointS (l : List Pt) (k : Int) : SgX := ⟨0 ≤ k ∧ k ≤ 10000000000000 ∧ ilen l ≤ 1000000000, [.pts, .int], (fun | [.pts m, .int q] => ilen m = ilen l ∧ mkd m k (ilen l) ∧ q = k + 2 * ilen l | _ => False), (fun | [.pts m, .int q] => [.s (.int (q))] | _ => []), (fun | [.pts m, .int q] => .row 75 (.pts (m)) | _ => .box [])⟩
def g_laws_markPointS : Bx → List AV → Option SgX
  | .row 75 (.pts l), [.s (.int k)] => some (s_laws_markPointS l k)
  | _, _ => none
def sig_laws_markPointS : FuncId → List AV → Option Sg := sigL []
def xs_laws_markPointS : XS := ⟨xsigL [], ysigL []⟩
theorem sig_laws_markPointS_ok : SigOK sig_laws_markPointS := sigL_nil
theorem xs_laws_markPointS_ok : XSigOK xs_laws_markPointS := ⟨xsigL_nil, ysigL_nil⟩
def L_laws_markPointS_0 (l : List Pt) (k : Int) (i1_1 : Int) (l1_2 : List Pt) : Prop := ∃ m : List Pt, ∃ q : Int, ((ilen m = ilen l ∧ mkd m k (ilen l) ∧ q = k + 2 * ilen l) ∧ (((i1_1 : Int) = (q)) ∧ True) ∧ ((true = true) ∧ ((Cont.pts l1_2) = (Cont.pts (m)))))
theorem V_laws_markPointS (l : List Pt) (k : Int) : ((true = true) ∧ ((True) ∧ True) ∧ (true = true) ∧ ((True) ∧ True) ∧ ∃ (I1 : List GV → Prop) (μ1 : List GV → Nat), (((true = true) ∧ (((k : Int) = k) ∧ (((0 : Int) : Int) = (0 : Int)) ∧ (((0 : Int) : Int) = (0 : Int)) ∧ (true = true) ∧ True) ∧ (((true = true) ∧ ((Cont.pts l) = (Cont.pts l))) ∧ True)) ∧ (([GK.int, GK.int, GK.pts] : List GK) = ([GK.int, GK.int, GK.pts] : List GK)) ∧ I1 [GV.int (0 : Int), GV.int k, GV.pts l]) ∧ (∀ i1_0 : Int, ∀ i1_1 : Int, ∀ l1_2 : List Pt, I1 [GV.int i1_0, GV.int i1_1, GV.pts l1_2] → ((true = true) ∧ ((True) ∧ (True) ∧ (True) ∧ (True) ∧ True) ∧ ((ilt i1_0 (ilen l1_2)) = true → ((true = true) ∧ ((True) ∧ (True) ∧ (True) ∧ (NLe 0 i1_0 ∧ NLt i1_0 (ilen l1_2)) ∧ (NLt i1_0 (ilen l1_2)) ∧ True) ∧ (NLt i1_0 (ilen l1_2)) ∧ (true = true) ∧ ((True) ∧ (True) ∧ (True) ∧ True) ∧ (true = true) ∧ ((True) ∧ (True) ∧ (True) ∧ (NLe 0 i1_0 ∧ NLt i1_0 (ilen (setx l1_2 i1_0 i1_1))) ∧ (NLt i1_0 (ilen (setx l1_2 i1_0 i1_1))) ∧ True) ∧ (NLt i1_0 (ilen (setx l1_2 i1_0 i1_1))) ∧ (true = true) ∧ ((True) ∧ (True) ∧ (True) ∧ True) ∧ (true = true) ∧ ((True) ∧ (True) ∧ (True) ∧ True) ∧ ((true = true) ∧ ((((iadd (iadd i1_1 (1 : Int)) (1 : Int)) : Int) = (iadd (iadd i1_1 (1 : Int)) (1 : Int))) ∧ (((iadd i1_0 (1 : Int)) : Int) = (iadd i1_0 (1 : Int))) ∧ (((0 : Int) : Int) = (0 : Int)) ∧ (true = true) ∧ True) ∧ (((true = true) ∧ ((Cont.pts (sety (setx l1_2 i1_0 i1_1) i1_0 (iadd i1_1 (1 : Int)))) = (Cont.pts (sety (setx l1_2 i1_0 i1_1) i1_0 (iadd i1_1 (1 : Int)))))) ∧ True)) ∧ ((([GK.int, GK.int, GK.pts] : List GK) = ([GK.int, GK.int, GK.pts] : List GK)) ∧ I1 [GV.int (iadd i1_0 (1 : Int)), GV.int (iadd (iadd i1_1 (1 : Int)) (1 : Int)), GV.pts (sety (setx l1_2 i1_0 i1_1) i1_0 (iadd i1_1 (1 : Int)))] ∧ μ1 [GV.int (iadd i1_0 (1 : Int)), GV.int (iadd (iadd i1_1 (1 : Int)) (1 : Int)), GV.pts (sety (setx l1_2 i1_0 i1_1) i1_0 (iadd i1_1 (1 : Int)))] < μ1 [GV.int i1_0, GV.int i1_1, GV.pts l1_2]))) ∧ ((ilt i1_0 (ilen l1_2)) = false → ((true = true) ∧ ((True) ∧ (True) ∧ True) ∧ L_laws_markPointS_0 l k i1_1 l1_2))))) = (fun sg => ev sig_laws_markPointS xs_laws_markPointS Tryd.f39.ntmps (fun b => if b == 0 then [.v 5, .v 1, .b 0] else []) (codeOf Tryd.f39) 0 (initX (.row 75 (.pts l)) [.s (.int k)]) (retX Tryd.f39.results.toList sg.kinds sg.post sg.ret sg.out)) (s_laws_markPointS l k) := by kernel_rfl
set_option maxHeartbeats 400000 in
theorem F_laws_markPointS : FunX 39 g_laws_markPointS := by
  refine fun_X (by kernel_rfl) Tryd.func39 rfl (by kernel_rfl) sig_laws_markPointS_ok xs_laws_markPointS_ok ?_
  intro bx avs sg h hn hl hlb
  unfold g_laws_markPointS at h
  split at h
  · rename_i l k
    injection h with h; subst h
    refine ⟨by kernel_rfl, fun b => if b == 0 then [.v 5, .v 1, .b 0] else [], Eq.mp (V_laws_markPointS l k) ?_⟩
    simp only [true_and, and_true, implies_true, and_self, forall_const, true_implies, lenA, lenL, SV.lenOK, Cont.lenOK, lenB, s_laws_markPointS, L_laws_markPointS_0] at hn hl hlb ⊢
    have h0 := ilen_0 l
    obtain ⟨n1, n2, n3⟩ := hn
    simp only [ilt_t, ilt_f, ile_t, ile_f, ieq_t, ieq_f, bnot_e, band_e, bite_and, bite_or, NLt_e, NLe_e, NNe_e, NIs_e, imax_e, imin_e, irem_e, Bool.not_eq_true', Bool.not_eq_false', Bool.and_eq_true, Bool.or_eq_true, Bool.or_eq_false_iff, Bool.and_eq_false_iff, Cont.pts.injEq, Cont.ints.injEq, Cont.bools.injEq, Cont.ptss.injEq, Cont.intss.injEq, Cont.boolss.injEq, true_and, and_true, implies_true]
    refine ⟨fun | [.int i, .int k', .pts m] => 0 ≤ i ∧ i ≤ ilen l ∧ k' = k + 2 * i ∧ ilen m = ilen l ∧ mkd m k i | _ => False, fun | .int i :: _ => (ilen l - i).toNat | _ => 0, ?_, ?_⟩
    · exact ⟨Int.le_refl 0, h0, by omega, rfl, fun j h0 h1 => absurd h1 (by omega)⟩
    · rintro i k' m ⟨hi0, hi1, hk, hm, hmk⟩
      simp only [ilt_t, ilt_f, ile_t, ile_f, ieq_t, ieq_f, bnot_e, band_e, bite_and, bite_or, NLt_e, NLe_e, NNe_e, NIs_e, imax_e, imin_e, irem_e, Bool.not_eq_true', Bool.not_eq_false', Bool.and_eq_true, Bool.or_eq_true, Bool.or_eq_false_iff, Bool.and_eq_false_iff, Cont.pts.injEq, Cont.ints.injEq, Cont.bools.injEq, Cont.ptss.injEq, Cont.intss.injEq, Cont.boolss.injEq, true_and, and_true, implies_true, ilen_setx, ilen_sety]
      refine ⟨fun hc => ?_, fun hc => ⟨m, k', ⟨hm, fun j j0 j1 => hmk j j0 (by omega), by omega⟩, rfl, rfl⟩⟩
      have hi : i < ilen l := by omega
      rw [iadd_1 hi0 hi (by omega), iadd_e (a := k') (by omega) (by omega), iadd_e (by omega) (by omega)]
      refine ⟨⟨⟨hi0, hc⟩, hc⟩, hc, ⟨⟨hi0, hc⟩, hc⟩, hc, ⟨by omega, by omega, by omega, hm, ?_⟩, by omega⟩
      intro j j0 j1
      obtain ⟨g1, g2⟩ := get_set2 (x := k') (y := k' + 1) hi0 hc j0
      rw [g1, g2]
      by_cases hj : j = i
      · rw [if_pos hj, if_pos hj]; omega
      · rw [if_neg hj, if_neg hj]; exact hmk j j0 (by omega)
  · cases h
theorem mark_Point_b {w : World} {base : Nat} {v : Value} {m : List Pt} {k : Int} (hI : GInv w) (hng : NG ≤ base) (ho : w.ownsRow base 75 2 v m.length (ptCells m)) (k0 : 0 ≤ k) (k1 : k ≤ 10000000000000) (hm : ilen m ≤ 1000000000) :
    Calls Tryd.prog 39 #[v, .int .i64 k] w fun e w' => ∃ m', e = .returned (.int .i64 (k + 2 * ilen m)) ∧ ilen m' = ilen m ∧ mkd m' k (ilen m') ∧ w'.ownsRow base 75 2 v m'.length (ptCells m') ∧ w.grownBy w' v.ownBlock := by
  have hbk : ∀ b, blk v = some b ↔ v.ownBlock = some b := fun b => by
    rcases ho.2 with ⟨rfl, _⟩ | ⟨g, cap, cur, rfl, _⟩
    · simp [blk, Value.ownBlock]
    · simp [blk, Value.ownBlock]
  have hob : blk v = v.ownBlock := by
    rcases ho.2 with ⟨rfl, _⟩ | ⟨g, cap, cur, rfl, _⟩ <;> rfl
  refine (F_laws_markPointS (.row 75 (.pts m)) [.s (.int k)] _ rfl ⟨k0, by omega, hm⟩ (fun b => v.ownBlock = some b) v [.int .i64 k] w ⟨fun b hb => ⟨Nat.le_trans hng (ho.lt b hb).1, (ho.lt b hb).2⟩, hI⟩ (fun b hb => (hbk b).1 hb) ⟨_, own_base ho (Nat.zero_le _), rfl⟩ ⟨rfl, trivial⟩).2.mono ?_
  rintro e w' ⟨r, gs, rfl, hk, hp, hr, ho', _, hgr⟩
  match gs, hk, hp, hr, ho' with
  | [.pts m', .int q], _, ⟨p1, p2, p3⟩, hr, ⟨xs, o1, o2⟩ =>
    have hr' : r = .int .i64 q := hr
    have o2' : xs = ptCells m' := o2
    subst o2' p3
    rw [hob] at hgr
    exact ⟨m', by first | (rw [hr']; done) | (rw [hr']; first | rfl | simp), p1, by rw [p1]; exact p2, own_rebase o1 (fun b hb => (ho.lt b hb).1), hgr⟩
/-- Rows marked one after the other. -/
def MkPoint : Int → List (List Pt) → List (List Pt) → Int → Prop
  | k, [], [], k' => k' = k
  | k, m :: ms, m' :: ms', k' => (ilen m' = ilen m ∧ mkd m' k (ilen m')) ∧ MkPoint (k + 2 * ilen m) ms ms' k'
  | _, _, _, _ => False
theorem MkPoint.snoc : ∀ {a a' : List (List Pt)} {k0 k k' : Int} {m m' : List Pt}, MkPoint k0 a a' k → ilen m' = ilen m ∧ mkd m' k (ilen m') → k' = k + 2 * ilen m → MkPoint k0 (a ++ [m]) (a' ++ [m']) k'
  | [], [], _, _, _, _, _, h, h1, h2 => by
    have h' : _ = _ := h
    subst h'
    exact ⟨h1, h2⟩
  | _ :: _, _ :: _, _, _, _, _, _, h, h1, h2 => ⟨h.1, MkPoint.snoc h.2 h1 h2⟩
  | [], _ :: _, _, _, _, _, _, h, _, _ => h.elim
  | _ :: _, [], _, _, _, _, _, h, _, _ => h.elim
theorem MkPoint.le : ∀ {a a' : List (List Pt)} {k0 k : Int}, MkPoint k0 a a' k → (∀ m ∈ a, ilen m ≤ 1048576) → k0 ≤ k ∧ k ≤ k0 + 2097152 * a.length
  | [], [], _, _, h, _ => by
    have h' : _ = _ := h
    subst h'; simp
  | m :: _, _ :: _, _, _, h, hm => by
    have h1 := MkPoint.le h.2 fun x hx => hm x (List.mem_cons_of_mem _ hx)
    have h2 := hm m (List.mem_cons_self ..)
    have h3 := ilen_0 m
    rw [List.length_cons]
    omega
  | [], _ :: _, _, _, h, _ => h.elim
  | _ :: _, [], _, _, h, _ => h.elim
set_option maxHeartbeats 1000000 in
theorem markPointSS_own {w : World} {base : Nat} {u : Value} {xs : List Value} {rows : List (List Pt)} {k : Int} (hI : GInv w) (hng : NG ≤ base) (hT : Tab base 56 75 2 ptCells w u xs rows) (k0 : 0 ≤ k) (k1 : k ≤ 100000000) (hn : ilen rows ≤ 1048576) (hm : ∀ m ∈ rows, ilen m ≤ 1048576) :
    Calls Tryd.prog 15 #[u, .int .i64 k] w fun e w' => ∃ rows' k', e = .returned (.int .i64 k') ∧ Tab base 56 75 2 ptCells w' u xs rows' ∧ MkPoint k rows rows' k' ∧ Mch xs w w' := by
  obtain ⟨A, c, rfl⟩ := own_form hT.outer
  have hxl := hT.len
  unfold ilen at hn
  go_enter Tryd.func15, Tryd.ntmps15
  go_wp2
  go_loopw [1, 5] (fun kv iv wr => ∃ (i : Nat) (done : List (List Pt)) (kk : Int), i ≤ rows.length ∧ iv = .int .i64 i ∧ kv = .int .i64 kk ∧ done.length = i ∧ Tab base 56 75 2 ptCells wr (.slice A rows.length c) xs (done ++ rows.drop i) ∧ MkPoint k (rows.take i) done kk ∧ Mch xs w wr) (fun _ iv _ => rows.length - (intOf iv).toNat)
  case atStart => exact ⟨0, [], k, Nat.zero_le _, rfl, rfl, rfl, hT, rfl, Mch.refl _ _⟩
  case round =>
    obtain ⟨i, done, kk, hi, rfl, rfl, hd, hTr, hM, hC⟩ := hrel
    by_cases hlt : i < rows.length
    · obtain ⟨g, rfl, hg⟩ := own_some (hT.outer) (by omega)
      obtain ⟨x, hx⟩ : ∃ x, xs[i]? = some x := ⟨xs[i]'(by omega), List.getElem?_eq_getElem _⟩
      have hri : (done ++ rows.drop i)[i]? = some rows[i] := by
        rw [List.getElem?_append_right (by omega), hd, Nat.sub_self, List.getElem?_drop, Nat.add_zero]
        exact List.getElem?_eq_getElem hlt
      have hrow := hTr.row i x rows[i] hx hri
      obtain ⟨Ax, cx, rfl⟩ := own_form hrow
      have hlen : (done ++ rows.drop i).length = rows.length := by rw [List.length_append, List.length_drop]; omega
      have hout := hTr.outer
      rw [hlen] at hout
      have c1 : wr.cell? ⟨g, i, none⟩ = some (.slice Ax rows[i].length cx) := by rw [hout.cellAt i (by omega)]; exact hx
      have hle := hM.le (fun m hm' => hm m (List.mem_of_mem_take hm'))
      rw [List.length_take] at hle
      have hmi : ilen rows[i] ≤ 1048576 := hm _ (List.getElem_mem hlt)
      have hIr : GInv wr := hC.inv hI (fun j v b hv hb => Nat.le_trans hng (hT.lt b (.inr ⟨j, v, hv, hb⟩)).1)
      have HROW := Lib.hid (mark_Point_b (k := kk) hIr hng hrow (by omega) (by omega) (by omega))
      have HX := Lib.hid hx
      have HH := Lib.hid hTr
      clear hx hri hrow hlen hout hTr
      go_wp2_with (go_at_call 39; refine HROW.out.mono ?_; rintro e w1 ⟨m', rfl, hout1⟩; have HO1 := Lib.hid hout1; clear hout1; generalize hqq : kk + 2 * ilen rows[i] = q; have HQ := Lib.hid hqq; clear hqq)
      obtain ⟨p1, p2, ho1, hg1⟩ := HO1.out
      have hT1 := HH.out.write (i := i) (by decide) HX.out hg1 ho1
      have hset : (done ++ rows.drop i).set i m' = (done ++ [m']) ++ rows.drop (i + 1) := by
        rw [List.set_append_right i _ (by omega), hd, Nat.sub_self, List.drop_eq_getElem_cons hlt, List.set_cons_zero, List.append_assoc]; rfl
      rw [hset] at hT1
      go_roundw
      case rel => exact ⟨i + 1, done ++ [m'], q, by omega, by go_num, rfl, by simp [hd], hT1, by rw [List.take_succ_eq_append_getElem hlt]; exact hM.snoc ⟨p1, p2⟩ HQ.out.symm, hC.step HX.out hg1⟩
      case measure => simp [intOf]; omega
    · go_wp2
      go_ret
      have hk' : i = rows.length := by omega
      subst hk'
      rw [List.drop_length, List.append_nil] at hTr
      rw [List.take_length] at hM
      exact ⟨_, _, rfl, hTr, hM, hC⟩
def s_laws_markBoolS (l : List Bool) (k : Int) : SgX := ⟨0 ≤ k ∧ k ≤ 10000000000000 ∧ ilen l ≤ 1000000000, [.bools, .int], (fun | [.bools m, .int q] => ilen m = ilen l ∧ mkdB m k (ilen l) ∧ q = k + ilen l | _ => False), (fun | [.bools m, .int q] => [.s (.int (q))] | _ => []), (fun | [.bools m, .int q] => .row 4 (.bools (m)) | _ => .box [])⟩
def g_laws_markBoolS : Bx → List AV → Option SgX
  | .row 4 (.bools l), [.s (.int k)] => some (s_laws_markBoolS l k)
  | _, _ => none
def sig_laws_markBoolS : FuncId → List AV → Option Sg := sigL []
def xs_laws_markBoolS : XS := ⟨xsigL [], ysigL []⟩
theorem sig_laws_markBoolS_ok : SigOK sig_laws_markBoolS := sigL_nil
theorem xs_laws_markBoolS_ok : XSigOK xs_laws_markBoolS := ⟨xsigL_nil, ysigL_nil⟩
def L_laws_markBoolS_0 (l : List Bool) (k : Int) (i1_1 : Int) (l1_2 : List Bool) : Prop := ∃ m : List Bool, ∃ q : Int, ((ilen m = ilen l ∧ mkdB m k (ilen l) ∧ q = k + ilen l) ∧ (((i1_1 : Int) = (q)) ∧ True) ∧ ((true = true) ∧ ((Cont.bools l1_2) = (Cont.bools (m)))))
theorem V_laws_markBoolS (l : List Bool) (k : Int) : ((true = true) ∧ ((True) ∧ True) ∧ (true = true) ∧ ((True) ∧ True) ∧ ∃ (I1 : List GV → Prop) (μ1 : List GV → Nat), (((true = true) ∧ (((k : Int) = k) ∧ (((0 : Int) : Int) = (0 : Int)) ∧ (((0 : Int) : Int) = (0 : Int)) ∧ (true = true) ∧ True) ∧ (((true = true) ∧ ((Cont.bools l) = (Cont.bools l))) ∧ True)) ∧ (([GK.int, GK.int, GK.bools] : List GK) = ([GK.int, GK.int, GK.bools] : List GK)) ∧ I1 [GV.int (0 : Int), GV.int k, GV.bools l]) ∧ (∀ i1_0 : Int, ∀ i1_1 : Int, ∀ l1_2 : List Bool, I1 [GV.int i1_0, GV.int i1_1, GV.bools l1_2] → ((true = true) ∧ ((True) ∧ (True) ∧ (True) ∧ (True) ∧ True) ∧ ((ilt i1_0 (ilen l1_2)) = true → ((true = true) ∧ ((True) ∧ (True) ∧ (True) ∧ (NNe (3 : Int) 0) ∧ (True) ∧ (NLe 0 i1_0 ∧ NLt i1_0 (ilen l1_2)) ∧ True) ∧ (NLt i1_0 (ilen l1_2)) ∧ (true = true) ∧ ((True) ∧ (True) ∧ (True) ∧ True) ∧ (true = true) ∧ ((True) ∧ (True) ∧ (True) ∧ True) ∧ ((true = true) ∧ ((((iadd i1_1 (1 : Int)) : Int) = (iadd i1_1 (1 : Int))) ∧ (((iadd i1_0 (1 : Int)) : Int) = (iadd i1_0 (1 : Int))) ∧ (((0 : Int) : Int) = (0 : Int)) ∧ (true = true) ∧ True) ∧ (((true = true) ∧ ((Cont.bools (setb l1_2 i1_0 (ieq (irem i1_1 (3 : Int)) (0 : Int)))) = (Cont.bools (setb l1_2 i1_0 (ieq (irem i1_1 (3 : Int)) (0 : Int)))))) ∧ True)) ∧ ((([GK.int, GK.int, GK.bools] : List GK) = ([GK.int, GK.int, GK.bools] : List GK)) ∧ I1 [GV.int (iadd i1_0 (1 : Int)), GV.int (iadd i1_1 (1 : Int)), GV.bools (setb l1_2 i1_0 (ieq (irem i1_1 (3 : Int)) (0 : Int)))] ∧ μ1 [GV.int (iadd i1_0 (1 : Int)), GV.int (iadd i1_1 (1 : Int)), GV.bools (setb l1_2 i1_0 (ieq (irem i1_1 (3 : Int)) (0 : Int)))] < μ1 [GV.int i1_0, GV.int i1_1, GV.bools l1_2]))) ∧ ((ilt i1_0 (ilen l1_2)) = false → ((true = true) ∧ ((True) ∧ (True) ∧ True) ∧ L_laws_markBoolS_0 l k i1_1 l1_2))))) = (fun sg => ev sig_laws_markBoolS xs_laws_markBoolS Tryd.f40.ntmps (fun b => if b == 0 then [.v 5, .v 1, .b 0] else []) (codeOf Tryd.f40) 0 (initX (.row 4 (.bools l)) [.s (.int k)]) (retX Tryd.f40.results.toList sg.kinds sg.post sg.ret sg.out)) (s_laws_markBoolS l k) := by kernel_rfl
set_option maxHeartbeats 400000 in
theorem F_laws_markBoolS : FunX 40 g_laws_markBoolS := by
  refine fun_X (by kernel_rfl) Tryd.func40 rfl (by kernel_rfl) sig_laws_markBoolS_ok xs_laws_markBoolS_ok ?_
  intro bx avs sg h hn hl hlb
  unfold g_laws_markBoolS at h
  split at h
  · rename_i l k
    injection h with h; subst h
    refine ⟨by kernel_rfl, fun b => if b == 0 then [.v 5, .v 1, .b 0] else [], Eq.mp (V_laws_markBoolS l k) ?_⟩
    simp only [true_and, and_true, implies_true, and_self, forall_const, true_implies, lenA, lenL, SV.lenOK, Cont.lenOK, lenB, s_laws_markBoolS, L_laws_markBoolS_0] at hn hl hlb ⊢
    have h0 := ilen_0 l
    obtain ⟨n1, n2, n3⟩ := hn
    simp only [ilt_t, ilt_f, ile_t, ile_f, ieq_t, ieq_f, bnot_e, band_e, bite_and, bite_or, NLt_e, NLe_e, NNe_e, NIs_e, imax_e, imin_e, irem_e, Bool.not_eq_true', Bool.not_eq_false', Bool.and_eq_true, Bool.or_eq_true, Bool.or_eq_false_iff, Bool.and_eq_false_iff, Cont.pts.injEq, Cont.ints.injEq, Cont.bools.injEq, Cont.ptss.injEq, Cont.intss.injEq, Cont.boolss.injEq, true_and, and_true, implies_true]
    refine ⟨fun | [.int i, .int k', .bools m] => 0 ≤ i ∧ i ≤ ilen l ∧ k' = k + i ∧ ilen m = ilen l ∧ ∀ j, 0 ≤ j → j < i → getb m j = mkB (k + j) | _ => False, fun | .int i :: _ => (ilen l - i).toNat | _ => 0, ⟨Int.le_refl 0, h0, by omega, rfl, fun j h0 h1 => absurd h1 (by omega)⟩, ?_⟩
    rintro i k' m ⟨hi0, hi1, hk, hm, hmk⟩
    refine ⟨fun hc => ?_, fun hc => ⟨m, k', ⟨hm, fun j j0 j1 => hmk j j0 (by omega), by omega⟩, rfl, rfl⟩⟩
    have hi : i < ilen l := by omega
    rw [iadd_e (a := i) (by omega) (by omega), iadd_e (a := k') (by omega) (by omega)]
    refine ⟨⟨by omega, hi0, hc⟩, hc, ⟨by omega, by omega, by omega, by rw [ilen_setb]; exact hm, fun j j0 j1 => ?_⟩, by show (ilen l - (i + 1)).toNat < (ilen l - i).toNat; omega⟩
    rw [getb_setb hi0 hc j0]
    by_cases hj : j = i
    · rw [if_pos hj, hj, hk]; try (unfold mkB ieq; rfl)
    · rw [if_neg hj]; exact hmk j j0 (by omega)
  · cases h
theorem mark_Bool_b {w : World} {base : Nat} {v : Value} {m : List Bool} {k : Int} (hI : GInv w) (hng : NG ≤ base) (ho : w.ownsRow base 4 1 v m.length (fB m)) (k0 : 0 ≤ k) (k1 : k ≤ 10000000000000) (hm : ilen m ≤ 1000000000) :
    Calls Tryd.prog 40 #[v, .int .i64 k] w fun e w' => ∃ m', e = .returned (.int .i64 (k + 1 * ilen m)) ∧ ilen m' = ilen m ∧ mkdB m' k (ilen m') ∧ w'.ownsRow base 4 1 v m'.length (fB m') ∧ w.grownBy w' v.ownBlock := by
  have hbk : ∀ b, blk v = some b ↔ v.ownBlock = some b := fun b => by
    rcases ho.2 with ⟨rfl, _⟩ | ⟨g, cap, cur, rfl, _⟩
    · simp [blk, Value.ownBlock]
    · simp [blk, Value.ownBlock]
  have hob : blk v = v.ownBlock := by
    rcases ho.2 with ⟨rfl, _⟩ | ⟨g, cap, cur, rfl, _⟩ <;> rfl
  refine (F_laws_markBoolS (.row 4 (.bools m)) [.s (.int k)] _ rfl ⟨k0, by omega, hm⟩ (fun b => v.ownBlock = some b) v [.int .i64 k] w ⟨fun b hb => ⟨Nat.le_trans hng (ho.lt b hb).1, (ho.lt b hb).2⟩, hI⟩ (fun b hb => (hbk b).1 hb) ⟨_, own_base ho (Nat.zero_le _), rfl⟩ ⟨rfl, trivial⟩).2.mono ?_
  rintro e w' ⟨r, gs, rfl, hk, hp, hr, ho', _, hgr⟩
  match gs, hk, hp, hr, ho' with
  | [.bools m', .int q], _, ⟨p1, p2, p3⟩, hr, ⟨xs, o1, o2⟩ =>
    have hr' : r = .int .i64 q := hr
    have o2' : xs = fB m' := o2
    subst o2' p3
    rw [hob] at hgr
    exact ⟨m', by first | (rw [hr']; done) | (rw [hr']; first | rfl | simp), p1, by rw [p1]; exact p2, own_rebase o1 (fun b hb => (ho.lt b hb).1), hgr⟩
/-- Rows marked one after the other. -/
def MkBool : Int → List (List Bool) → List (List Bool) → Int → Prop
  | k, [], [], k' => k' = k
  | k, m :: ms, m' :: ms', k' => (ilen m' = ilen m ∧ mkdB m' k (ilen m')) ∧ MkBool (k + 1 * ilen m) ms ms' k'
  | _, _, _, _ => False
theorem MkBool.snoc : ∀ {a a' : List (List Bool)} {k0 k k' : Int} {m m' : List Bool}, MkBool k0 a a' k → ilen m' = ilen m ∧ mkdB m' k (ilen m') → k' = k + 1 * ilen m → MkBool k0 (a ++ [m]) (a' ++ [m']) k'
  | [], [], _, _, _, _, _, h, h1, h2 => by
    have h' : _ = _ := h
    subst h'
    exact ⟨h1, h2⟩
  | _ :: _, _ :: _, _, _, _, _, _, h, h1, h2 => ⟨h.1, MkBool.snoc h.2 h1 h2⟩
  | [], _ :: _, _, _, _, _, _, h, _, _ => h.elim
  | _ :: _, [], _, _, _, _, _, h, _, _ => h.elim
theorem MkBool.le : ∀ {a a' : List (List Bool)} {k0 k : Int}, MkBool k0 a a' k → (∀ m ∈ a, ilen m ≤ 1048576) → k0 ≤ k ∧ k ≤ k0 + 2097152 * a.length
  | [], [], _, _, h, _ => by
    have h' : _ = _ := h
    subst h'; simp
  | m :: _, _ :: _, _, _, h, hm => by
    have h1 := MkBool.le h.2 fun x hx => hm x (List.mem_cons_of_mem _ hx)
    have h2 := hm m (List.mem_cons_self ..)
    have h3 := ilen_0 m
    rw [List.length_cons]
    omega
  | [], _ :: _, _, _, h, _ => h.elim
  | _ :: _, [], _, _, h, _ => h.elim
set_option maxHeartbeats 1000000 in
theorem markBoolSS_own {w : World} {base : Nat} {u : Value} {xs : List Value} {rows : List (List Bool)} {k : Int} (hI : GInv w) (hng : NG ≤ base) (hT : Tab base 53 4 1 fB w u xs rows) (k0 : 0 ≤ k) (k1 : k ≤ 100000000) (hn : ilen rows ≤ 1048576) (hm : ∀ m ∈ rows, ilen m ≤ 1048576) :
    Calls Tryd.prog 16 #[u, .int .i64 k] w fun e w' => ∃ rows' k', e = .returned (.int .i64 k') ∧ Tab base 53 4 1 fB w' u xs rows' ∧ MkBool k rows rows' k' ∧ Mch xs w w' := by
  obtain ⟨A, c, rfl⟩ := own_form hT.outer
  have hxl := hT.len
  unfold ilen at hn
  go_enter Tryd.func16, Tryd.ntmps16
  go_wp2
  go_loopw [1, 5] (fun kv iv wr => ∃ (i : Nat) (done : List (List Bool)) (kk : Int), i ≤ rows.length ∧ iv = .int .i64 i ∧ kv = .int .i64 kk ∧ done.length = i ∧ Tab base 53 4 1 fB wr (.slice A rows.length c) xs (done ++ rows.drop i) ∧ MkBool k (rows.take i) done kk ∧ Mch xs w wr) (fun _ iv _ => rows.length - (intOf iv).toNat)
  case atStart => exact ⟨0, [], k, Nat.zero_le _, rfl, rfl, rfl, hT, rfl, Mch.refl _ _⟩
  case round =>
    obtain ⟨i, done, kk, hi, rfl, rfl, hd, hTr, hM, hC⟩ := hrel
    by_cases hlt : i < rows.length
    · obtain ⟨g, rfl, hg⟩ := own_some (hT.outer) (by omega)
      obtain ⟨x, hx⟩ : ∃ x, xs[i]? = some x := ⟨xs[i]'(by omega), List.getElem?_eq_getElem _⟩
      have hri : (done ++ rows.drop i)[i]? = some rows[i] := by
        rw [List.getElem?_append_right (by omega), hd, Nat.sub_self, List.getElem?_drop, Nat.add_zero]
        exact List.getElem?_eq_getElem hlt
      have hrow := hTr.row i x rows[i] hx hri
      obtain ⟨Ax, cx, rfl⟩ := own_form hrow
      have hlen : (done ++ rows.drop i).length = rows.length := by rw [List.length_append, List.length_drop]; omega
      have hout := hTr.outer
      rw [hlen] at hout
      have c1 : wr.cell? ⟨g, i, none⟩ = some (.slice Ax rows[i].length cx) := by rw [hout.cellAt i (by omega)]; exact hx
      have hle := hM.le (fun m hm' => hm m (List.mem_of_mem_take hm'))
      rw [List.length_take] at hle
      have hmi : ilen rows[i] ≤ 1048576 := hm _ (List.getElem_mem hlt)
      have hIr : GInv wr := hC.inv hI (fun j v b hv hb => Nat.le_trans hng (hT.lt b (.inr ⟨j, v, hv, hb⟩)).1)
      have HROW := Lib.hid (mark_Bool_b (k := kk) hIr hng hrow (by omega) (by omega) (by omega))
      have HX := Lib.hid hx
      have HH := Lib.hid hTr
      clear hx hri hrow hlen hout hTr
      go_wp2_with (go_at_call 40; refine HROW.out.mono ?_; rintro e w1 ⟨m', rfl, hout1⟩; have HO1 := Lib.hid hout1; clear hout1; generalize hqq : kk + 1 * ilen rows[i] = q; have HQ := Lib.hid hqq; clear hqq)
      obtain ⟨p1, p2, ho1, hg1⟩ := HO1.out
      have hT1 := HH.out.write (i := i) (by decide) HX.out hg1 ho1
      have hset : (done ++ rows.drop i).set i m' = (done ++ [m']) ++ rows.drop (i + 1) := by
        rw [List.set_append_right i _ (by omega), hd, Nat.sub_self, List.drop_eq_getElem_cons hlt, List.set_cons_zero, List.append_assoc]; rfl
      rw [hset] at hT1
      go_roundw
      case rel => exact ⟨i + 1, done ++ [m'], q, by omega, by go_num, rfl, by simp [hd], hT1, by rw [List.take_succ_eq_append_getElem hlt]; exact hM.snoc ⟨p1, p2⟩ HQ.out.symm, hC.step HX.out hg1⟩
      case measure => simp [intOf]; omega
    · go_wp2
      go_ret
      have hk' : i = rows.length := by omega
      subst hk'
      rw [List.drop_length, List.append_nil] at hTr
      rw [List.take_length] at hM
      exact ⟨_, _, rfl, hTr, hM, hC⟩
def sig_oFC : FuncId → List AV → Option Sg := sigL [(31, g_impl_GridSize), (32, g_impl_SceneValid), (34, g_impl_CellJoints), (33, g_impl_armClear)]
def xs_oFC : XS := ⟨xsigL [], ysigL []⟩
theorem sig_oFC_ok : SigOK sig_oFC := sigL_cons F_impl_GridSize (sigL_cons F_impl_SceneValid (sigL_cons F_impl_CellJoints (sigL_cons F_impl_armClear sigL_nil)))
theorem xs_oFC_ok : XSigOK xs_oFC := ⟨xsigL_nil, ysigL_nil⟩
theorem VA_oFC (a1 : List Int) (a2 : List Int) (a3 : List Int) (s : Int) (l : List (List Pt)) : ((true = true) ∧ ((True) ∧ (True) ∧ True) ∧ (true = true) ∧ ((True) ∧ (True) ∧ ((True)) ∧ (True) ∧ (True) ∧ (True) ∧ (True) ∧ (True) ∧ True) ∧ (true = true) ∧ ((True) ∧ (True) ∧ (True) ∧ (NIs (ieq (gsK a1 a2 a3 s 0) (0 : Int)) false → True) ∧ (NIs (ieq (gsK a1 a2 a3 s 0) (0 : Int)) false → (True)) ∧ (NIs (ieq (gsK a1 a2 a3 s 0) (0 : Int)) false → True) ∧ (True) ∧ True) ∧ ((bite (ieq (gsK a1 a2 a3 s 0) (0 : Int)) true (bnot (sceneB l))) = true → ((true = true) ∧ ((True) ∧ True) ∧ (fcL a1 a2 a3 s l = []) ∧ ((true = true) ∧ ((Cont.boolss []) = (Cont.boolss []))) ∧ True)) ∧ ((bite (ieq (gsK a1 a2 a3 s 0) (0 : Int)) true (bnot (sceneB l))) = false → ((sceneB l = true) ∧ ((true = true) ∧ ((Cont.ints a1) = (Cont.ints a1)) ∧ ((Cont.ints a2) = (Cont.ints a2)) ∧ ((Cont.ints a3) = (Cont.ints a3)) ∧ True) ∧ ((((gsK a1 a2 a3 s 0) : Int) = gsK a1 a2 a3 s 0)) ∧ ((((gsK a1 a2 a3 s 1) : Int) = gsK a1 a2 a3 s 1)) ∧ True))) = ev sig_oFC xs_oFC Tryd.f10.ntmps (fun b => []) (takeS 2 (dropS 0 (codeOf Tryd.f10))) 0 (initS [.agg [.view (.ints a1), .view (.ints a2), .view (.ints a3)], .s (.int s), .s (.view (.ptss l))]) (fragK2 (fcL a1 a2 a3 s l = []) (sceneB l = true) [(3, .bx [.view (.ints a1), .view (.ints a2), .view (.ints a3)]), (7, .rv (.s (.int (gsK a1 a2 a3 s 0)))), (8, .rv (.s (.int (gsK a1 a2 a3 s 1))))] Tryd.f10.results.toList [.nrow 53 (.boolss [])]) := by kernel_rfl
set_option maxHeartbeats 1000000 in
theorem PA_oFC (a1 : List Int) (a2 : List Int) (a3 : List Int) (s : Int) (l : List (List Pt)) (hl : ilen l ≤ 1048576 ∧ ∀ i, 0 ≤ i → i < ilen l → ilen (getl l i) ≤ 1048576) : ev sig_oFC xs_oFC Tryd.f10.ntmps (fun b => []) (takeS 2 (dropS 0 (codeOf Tryd.f10))) 0 (initS [.agg [.view (.ints a1), .view (.ints a2), .view (.ints a3)], .s (.int s), .s (.view (.ptss l))]) (fragK2 (fcL a1 a2 a3 s l = []) (sceneB l = true) [(3, .bx [.view (.ints a1), .view (.ints a2), .view (.ints a3)]), (7, .rv (.s (.int (gsK a1 a2 a3 s 0)))), (8, .rv (.s (.int (gsK a1 a2 a3 s 1))))] Tryd.f10.results.toList [.nrow 53 (.boolss [])]) := by
  refine Eq.mp (VA_oFC a1 a2 a3 s l) ?_
  simp only [true_and, and_true, implies_true, and_self, forall_const, true_implies, lenA, lenL, SV.lenOK, Cont.lenOK]
  simp only [ilt_t, ilt_f, ile_t, ile_f, ieq_t, ieq_f, bnot_e, band_e, bite_and, bite_or, NLt_e, NLe_e, NNe_e, NIs_e, imax_e, imin_e, irem_e, Bool.not_eq_true', Bool.not_eq_false', Bool.and_eq_true, Bool.or_eq_true, Bool.or_eq_false_iff, Bool.and_eq_false_iff, Cont.pts.injEq, Cont.ints.injEq, Cont.bools.injEq, Cont.ptss.injEq, Cont.intss.injEq, Cont.boolss.injEq, true_and, and_true, implies_true]
  refine ⟨fun h => ?_, fun hs => hs.2⟩
  unfold fcL
  rcases h with h | h
  · rw [h]; split <;> rfl
  · rw [h]; rfl
theorem VB_oFC (n : Int) : ((true = true) ∧ ((True) ∧ (True) ∧ True) ∧ (True) ∧ (((n : Int) = n)) ∧ ((((0 : Int) : Int) = 0)) ∧ True) = ev sig_oFC xs_oFC Tryd.f10.ntmps (fun b => []) (lpA (dropS 4 (codeOf Tryd.f10))) 0 (⟨[(7, .s (.int n))], [], 1⟩) (fragK2 (False) (True) [(26, .rv (.s (.int n))), (27, .rv (.s (.int 0)))] Tryd.f10.results.toList [.nrow 53 (.boolss [])]) := by kernel_rfl
set_option maxHeartbeats 1000000 in
theorem PB_oFC (n : Int)  : ev sig_oFC xs_oFC Tryd.f10.ntmps (fun b => []) (lpA (dropS 4 (codeOf Tryd.f10))) 0 (⟨[(7, .s (.int n))], [], 1⟩) (fragK2 (False) (True) [(26, .rv (.s (.int n))), (27, .rv (.s (.int 0)))] Tryd.f10.results.toList [.nrow 53 (.boolss [])]) := by
  refine Eq.mp (VB_oFC n) ?_
  simp only [true_and, and_true, implies_true, and_self, forall_const, true_implies, lenA, lenL, SV.lenOK, Cont.lenOK]
  skip
theorem VT_oFC (i : Int) (n : Int) : ((true = true) ∧ ((True) ∧ True) ∧ (True) ∧ ((((ilt i n) : Bool) = decide (i < n))) ∧ True) = ev sig_oFC xs_oFC Tryd.f10.ntmps (fun b => []) (lpT (dropS 4 (codeOf Tryd.f10))) 0 (⟨[(26, .s (.int n)), (27, .s (.int i))], [], 1⟩) (fragK2 (False) (True) [(28, .rv (.s (.bool (decide (i < n)))))] Tryd.f10.results.toList [.nrow 53 (.boolss [])]) := by kernel_rfl
set_option maxHeartbeats 1000000 in
theorem PT_oFC (i : Int) (n : Int)  : ev sig_oFC xs_oFC Tryd.f10.ntmps (fun b => []) (lpT (dropS 4 (codeOf Tryd.f10))) 0 (⟨[(26, .s (.int n)), (27, .s (.int i))], [], 1⟩) (fragK2 (False) (True) [(28, .rv (.s (.bool (decide (i < n)))))] Tryd.f10.results.toList [.nrow 53 (.boolss [])]) := by
  refine Eq.mp (VT_oFC i n) ?_
  simp only [true_and, and_true, implies_true, and_self, forall_const, true_implies, lenA, lenL, SV.lenOK, Cont.lenOK]
  unfold ilt; rfl
theorem VC_oFC (i : Int) : ((true = true) ∧ ((True) ∧ (True) ∧ True) ∧ (True) ∧ (((i : Int) = i)) ∧ True) = ev sig_oFC xs_oFC Tryd.f10.ntmps (fun b => []) (takeS 0 (lpX (dropS 4 (codeOf Tryd.f10)))) 0 (⟨[(27, .s (.int i))], [], 1⟩) (fragK2 (False) (True) [(10, .rv (.s (.int i)))] Tryd.f10.results.toList [.nrow 53 (.boolss [])]) := by kernel_rfl
set_option maxHeartbeats 1000000 in
theorem PC_oFC (i : Int)  : ev sig_oFC xs_oFC Tryd.f10.ntmps (fun b => []) (takeS 0 (lpX (dropS 4 (codeOf Tryd.f10)))) 0 (⟨[(27, .s (.int i))], [], 1⟩) (fragK2 (False) (True) [(10, .rv (.s (.int i)))] Tryd.f10.results.toList [.nrow 53 (.boolss [])]) := by
  refine Eq.mp (VC_oFC i) ?_
  simp only [true_and, and_true, implies_true, and_self, forall_const, true_implies, lenA, lenL, SV.lenOK, Cont.lenOK]
  skip
theorem VD_oFC (m : Int) : ((true = true) ∧ ((True) ∧ (True) ∧ True) ∧ (True) ∧ (((m : Int) = m)) ∧ ((((0 : Int) : Int) = 0)) ∧ True) = ev sig_oFC xs_oFC Tryd.f10.ntmps (fun b => []) (lpA (dropS 2 (lpX (dropS 4 (codeOf Tryd.f10))))) 0 (⟨[(8, .s (.int m))], [], 1⟩) (fragK2 (False) (True) [(30, .rv (.s (.int m))), (31, .rv (.s (.int 0)))] Tryd.f10.results.toList [.nrow 53 (.boolss [])]) := by kernel_rfl
set_option maxHeartbeats 1000000 in
theorem PD_oFC (m : Int)  : ev sig_oFC xs_oFC Tryd.f10.ntmps (fun b => []) (lpA (dropS 2 (lpX (dropS 4 (codeOf Tryd.f10))))) 0 (⟨[(8, .s (.int m))], [], 1⟩) (fragK2 (False) (True) [(30, .rv (.s (.int m))), (31, .rv (.s (.int 0)))] Tryd.f10.results.toList [.nrow 53 (.boolss [])]) := by
  refine Eq.mp (VD_oFC m) ?_
  simp only [true_and, and_true, implies_true, and_self, forall_const, true_implies, lenA, lenL, SV.lenOK, Cont.lenOK]
  skip
theorem VU_oFC (k : Int) (m : Int) : ((true = true) ∧ ((True) ∧ True) ∧ (True) ∧ ((((ilt k m) : Bool) = decide (k < m))) ∧ True) = ev sig_oFC xs_oFC Tryd.f10.ntmps (fun b => []) (lpT (dropS 2 (lpX (dropS 4 (codeOf Tryd.f10))))) 0 (⟨[(30, .s (.int m)), (31, .s (.int k))], [], 1⟩) (fragK2 (False) (True) [(32, .rv (.s (.bool (decide (k < m)))))] Tryd.f10.results.toList [.nrow 53 (.boolss [])]) := by kernel_rfl
set_option maxHeartbeats 1000000 in
theorem PU_oFC (k : Int) (m : Int)  : ev sig_oFC xs_oFC Tryd.f10.ntmps (fun b => []) (lpT (dropS 2 (lpX (dropS 4 (codeOf Tryd.f10))))) 0 (⟨[(30, .s (.int m)), (31, .s (.int k))], [], 1⟩) (fragK2 (False) (True) [(32, .rv (.s (.bool (decide (k < m)))))] Tryd.f10.results.toList [.nrow 53 (.boolss [])]) := by
  refine Eq.mp (VU_oFC k m) ?_
  simp only [true_and, and_true, implies_true, and_self, forall_const, true_implies, lenA, lenL, SV.lenOK, Cont.lenOK]
  unfold ilt; rfl
theorem VE_oFC (a1 : List Int) (a2 : List Int) (a3 : List Int) (s : Int) (l : List (List Pt)) (m : Int) (i : Int) (k : Int) : ((true = true) ∧ ((True) ∧ (True) ∧ True) ∧ (true = true) ∧ ((True) ∧ (True) ∧ (True) ∧ (True) ∧ (True) ∧ (True) ∧ (True) ∧ ((True)) ∧ (True) ∧ ((jvB a1 a2 a3 (cjL a1 a2 a3 s i k) = true ∧ sceneB l = true)) ∧ (True) ∧ True) ∧ (NLe (ilen (fcR a1 a2 l s i k)) 1000000000 ∧ NLe (ilen [(acB a1 (cjL a1 a2 a3 s i k) l)]) 1000000000) ∧ (True) ∧ (True) ∧ (((true = true) ∧ ((Cont.bools (iapp (fcR a1 a2 l s i k) [(acB a1 (cjL a1 a2 a3 s i k) l)])) = (Cont.bools (fcR a1 a2 l s i (k + 1)))))) ∧ True) = ev sig_oFC xs_oFC Tryd.f10.ntmps (fun b => []) (lpX (dropS 2 (lpX (dropS 4 (codeOf Tryd.f10))))) 0 (⟨[(1, .s (.int s)), (2, .s (.view (.ptss l))), (3, .s (.vptr (.intss [a1, a2, a3]) (0 : Int) 0)), (10, .s (.int i)), (11, .s (.row 1)), (31, .s (.int k))], [(1, .row 4 (.bools (fcR a1 a2 l s i k)))], 2⟩) (fragK2 (False) (True) [(11, .rv (.nrow 4 (.bools (fcR a1 a2 l s i (k + 1)))))] Tryd.f10.results.toList [.nrow 53 (.boolss [])]) := by kernel_rfl
set_option maxHeartbeats 1000000 in
theorem PE_oFC (a1 : List Int) (a2 : List Int) (a3 : List Int) (s : Int) (l : List (List Pt)) (m : Int) (i : Int) (k : Int) (n : Int) (hl : ilen l ≤ 1048576 ∧ ∀ i, 0 ≤ i → i < ilen l → ilen (getl l i) ≤ 1048576) (hs : sceneB l = true) (hn : gsK a1 a2 a3 s 0 = n) (hm : gsK a1 a2 a3 s 1 = m) (i0 : 0 ≤ i) (hi : i < n) (hm2 : 0 ≤ m ∧ m ≤ 20) (k0 : 0 ≤ k) (hk : k < m) : ev sig_oFC xs_oFC Tryd.f10.ntmps (fun b => []) (lpX (dropS 2 (lpX (dropS 4 (codeOf Tryd.f10))))) 0 (⟨[(1, .s (.int s)), (2, .s (.view (.ptss l))), (3, .s (.vptr (.intss [a1, a2, a3]) (0 : Int) 0)), (10, .s (.int i)), (11, .s (.row 1)), (31, .s (.int k))], [(1, .row 4 (.bools (fcR a1 a2 l s i k)))], 2⟩) (fragK2 (False) (True) [(11, .rv (.nrow 4 (.bools (fcR a1 a2 l s i (k + 1)))))] Tryd.f10.results.toList [.nrow 53 (.boolss [])]) := by
  refine Eq.mp (VE_oFC a1 a2 a3 s l m i k) ?_
  simp only [true_and, and_true, implies_true, and_self, forall_const, true_implies, lenA, lenL, SV.lenOK, Cont.lenOK]
  simp only [ilt_t, ilt_f, ile_t, ile_f, ieq_t, ieq_f, bnot_e, band_e, bite_and, bite_or, NLt_e, NLe_e, NNe_e, NIs_e, imax_e, imin_e, irem_e, Bool.not_eq_true', Bool.not_eq_false', Bool.and_eq_true, Bool.or_eq_true, Bool.or_eq_false_iff, Bool.and_eq_false_iff, Cont.pts.injEq, Cont.ints.injEq, Cont.bools.injEq, Cont.ptss.injEq, Cont.intss.injEq, Cont.boolss.injEq, true_and, and_true, implies_true]
  obtain ⟨hb, he, _⟩ := cj_in (a1 := a1) (a2 := a2) (a3 := a3) (s := s) i0 (by omega) k0 (by omega)
  have hj := cj_jv hb
  rw [he] at hj
  rw [he]
  rw [fcR_len k0]
  exact ⟨⟨hj, hs⟩, ⟨by omega, by rw [ilen_one]; omega⟩, fcR_s k0⟩
theorem VG_oFC (k : Int) : ((true = true) ∧ ((True) ∧ (True) ∧ True) ∧ (True) ∧ ((((iadd k (1 : Int)) : Int) = k + 1)) ∧ True) = ev sig_oFC xs_oFC Tryd.f10.ntmps (fun b => []) (lpS (dropS 2 (lpX (dropS 4 (codeOf Tryd.f10))))) 0 (⟨[(31, .s (.int k))], [], 1⟩) (fragK2 (False) (True) [(31, .rv (.s (.int (k + 1))))] Tryd.f10.results.toList [.nrow 53 (.boolss [])]) := by kernel_rfl
set_option maxHeartbeats 1000000 in
theorem PG_oFC (k : Int) (hk : 0 ≤ k ∧ k ≤ 1000000) : ev sig_oFC xs_oFC Tryd.f10.ntmps (fun b => []) (lpS (dropS 2 (lpX (dropS 4 (codeOf Tryd.f10))))) 0 (⟨[(31, .s (.int k))], [], 1⟩) (fragK2 (False) (True) [(31, .rv (.s (.int (k + 1))))] Tryd.f10.results.toList [.nrow 53 (.boolss [])]) := by
  refine Eq.mp (VG_oFC k) ?_
  simp only [true_and, and_true, implies_true, and_self, forall_const, true_implies, lenA, lenL, SV.lenOK, Cont.lenOK]
  exact iadd_e (by omega) (by omega)
theorem VS_oFC (i : Int) : ((true = true) ∧ ((True) ∧ (True) ∧ True) ∧ (True) ∧ ((((iadd i (1 : Int)) : Int) = i + 1)) ∧ True) = ev sig_oFC xs_oFC Tryd.f10.ntmps (fun b => []) (lpS (dropS 4 (codeOf Tryd.f10))) 0 (⟨[(27, .s (.int i))], [], 1⟩) (fragK2 (False) (True) [(27, .rv (.s (.int (i + 1))))] Tryd.f10.results.toList [.nrow 53 (.boolss [])]) := by kernel_rfl
set_option maxHeartbeats 1000000 in
theorem PS_oFC (i : Int) (hk : 0 ≤ i ∧ i ≤ 1000000) : ev sig_oFC xs_oFC Tryd.f10.ntmps (fun b => []) (lpS (dropS 4 (codeOf Tryd.f10))) 0 (⟨[(27, .s (.int i))], [], 1⟩) (fragK2 (False) (True) [(27, .rv (.s (.int (i + 1))))] Tryd.f10.results.toList [.nrow 53 (.boolss [])]) := by
  refine Eq.mp (VS_oFC i) ?_
  simp only [true_and, and_true, implies_true, and_self, forall_const, true_implies, lenA, lenL, SV.lenOK, Cont.lenOK]
  exact iadd_e (by omega) (by omega)
theorem tab_noneB {α : Type} {base : Nat} {e e' : TypeId} {sz : Nat} {fl : List α → List Value} {w : World} {v : Value} {ys : List Value} (h : w.ownsRow base e 1 v 0 ys) : Tab base e e' sz fl w v [] ([] : List (List α)) := by
  have hl : ys = [] := List.eq_nil_of_length_eq_zero (by have := h.1; omega)
  subst hl
  exact ⟨h, fun i u m h => by simp at h, fun i j u u' b h => by simp at h⟩
theorem info_oFC : (Tryd.prog.info? 53).map (fun i => (i.zero, i.size, i.bytes)) = some (some (.slice none 0 0), 1, 24) := by kernel_rfl
set_option maxHeartbeats 1000000 in
theorem FreeCells_own {w : World} {v0 v1 v2 : Value} {a1 a2 a3 : List Int} {s : Int} {l : List (List Pt)} (hI : GInv w) (hl : ilen l ≤ 1048576 ∧ ∀ i, 0 ≤ i → i < ilen l → ilen (getl l i) ≤ 1048576) (hA : hasA (EL fun _ => False) w [v0, v1, v2] [.agg [.view (.ints a1), .view (.ints a2), .view (.ints a3)], .s (.int s), .s (.view (.ptss l))]) :
    Calls Tryd.prog 10 #[v0, v1, v2] w fun e w' => ∃ u xs, e = .returned u ∧ Tab w.heap.size 53 4 1 fB w' u xs (fcL a1 a2 a3 s l) ∧ Bel w w' := by
  refine calls_of_wp Tryd.func10 (c := dropS 0 (codeOf Tryd.f10)) rfl ?_
  have h1 : v1 = .int .i64 s := hA.2.1
  have h2 : Reads (fun _ => False) w v2 (.ptss l) := hA.2.2.1
  refine frag_wpL (ds := inS (wrL (takeS 2 (dropS 0 (codeOf Tryd.f10))))) sig_oFC_ok xs_oFC_ok (by kernel_rfl) 2 _ 0 _ _ _ _ _ _ (by kernel_rfl) (init_rel0 hI hA (by kernel_rfl)) (PA_oFC a1 a2 a3 s l hl) ?_
  intro e σ1 E1 b1 w1 hR1 hk hs1
  cases e with
  | exit i => exact hk.elim
  | ret =>
    obtain ⟨hf, hk⟩ := hk
    obtain ⟨hd, v, hv1, ys, hv2, -⟩ := frag_retV hR1 hk (by kernel_rfl)
    refine ⟨hd, v, hv1, v, [], rfl, ?_, rel_bel hR1⟩
    rw [hf]
    exact tab_noneB hv2
  | normal =>
    obtain ⟨hok, hend⟩ := hk
    have hB1 : Bel w w1 := rel_bel hR1
    have hI1 := ginv_bel hI hB1
    obtain ⟨g3, ⟨l3⟩, t3, p3, -, q3, r3⟩ := mEnd_ok hR1 hend 3 (.bx [.view (.ints a1), .view (.ints a2), .view (.ints a3)]) (by simp)
    have s7 : b1.tmps.getD 7 undef = .int .i64 (gsK a1 a2 a3 s 0) := mEnd_ok hR1 hend 7 (.rv (.s (.int (gsK a1 a2 a3 s 0)))) (by simp)
    have s8 : b1.tmps.getD 8 undef = .int .i64 (gsK a1 a2 a3 s 1) := mEnd_ok hR1 hend 8 (.rv (.s (.int (gsK a1 a2 a3 s 1)))) (by simp)
    match l3, r3 with
    | [x1, x2, x3], r3 =>
    have hc20 : (0 ≤ gsK a1 a2 a3 s 0 ∧ gsK a1 a2 a3 s 0 ≤ 20) ∧ (0 ≤ gsK a1 a2 a3 s 1 ∧ gsK a1 a2 a3 s 1 ≤ 20) := by
      rcases gsK_cases a1 a2 a3 s with ⟨h0, h1⟩ | ⟨hB, g0, g1, e0, e1, m0, m1⟩ <;> omega
    have hF : fcL a1 a2 a3 s l = fcT a1 a2 l s (gsK a1 a2 a3 s 1) (gsK a1 a2 a3 s 0) := by unfold fcL; rw [if_pos hok]
    rw [hF]
    have hN1 := hR1.size
    have hd1 := hR1.defers
    have s1 := ((hs1 1 (by kernel_rfl)).trans (init_get rfl)).trans h1
    have s2 := (hs1 2 (by kernel_rfl)).trans (init_get rfl)
    clear hs1 hR1 hend
    obtain ⟨n, hn⟩ : ∃ n, gsK a1 a2 a3 s 0 = n := ⟨_, rfl⟩
    obtain ⟨m, hm⟩ : ∃ m, gsK a1 a2 a3 s 1 = m := ⟨_, rfl⟩
    rw [hn] at s7 hc20
    rw [hm] at s8 hc20
    rw [hn, hm]
    refine item_wp (by kernel_rfl) ?_
    refine nil_item (e := 9) (N := Tryd.f10.ntmps) (by kernel_rfl) hN1 ?_
    intro b1' hN1' hd1' hs1' s9
    have s1 := (hs1' 1 (by kernel_rfl)).trans s1
    have s2 := (hs1' 2 (by kernel_rfl)).trans s2
    have s3 := (hs1' 3 (by kernel_rfl)).trans p3
    have s7 := (hs1' 7 (by kernel_rfl)).trans s7
    have s8 := (hs1' 8 (by kernel_rfl)).trans s8
    have hd1' := hd1'.trans hd1
    clear hs1'
    have v3 : ∀ {w' : World}, Bel w1 w' → SV.has (EL fun _ => False) w' (.pointer (some ⟨g3, 0, none⟩)) (.vptr (.intss [a1, a2, a3]) 0 0) := fun hb => vptr3_of rfl ((hb.block g3 (heap_lt q3)).trans q3) r3 hb (fun h => h) (fun _ h => h.elim)
    refine loop_item (c := dropS 4 (codeOf Tryd.f10)) (q := 28) (by kernel_rfl) (fun nn a w' => ∃ (i : Int) (v : Value) (xs : List Value), nn = (n - i).toNat ∧ 0 ≤ i ∧ i ≤ n ∧ a.tmps.size = Tryd.f10.ntmps ∧ a.defers = [] ∧ Bel w1 w' ∧ a.tmps.getD 1 undef = .int .i64 s ∧ a.tmps.getD 2 undef = v2 ∧ a.tmps.getD 3 undef = .pointer (some ⟨g3, 0, none⟩) ∧ a.tmps.getD 8 undef = .int .i64 m ∧ a.tmps.getD 9 undef = v ∧ a.tmps.getD 26 undef = .int .i64 n ∧ a.tmps.getD 27 undef = .int .i64 i ∧ Tab w1.heap.size 53 4 1 fB w' v xs (fcT a1 a2 l s m i)) n.toNat ?_ ?_
    · refine ev_okL (ds := inS (wrL (lpA (dropS 4 (codeOf Tryd.f10))))) sig_oFC_ok xs_oFC_ok (by kernel_rfl) _ 0 _ _ _ _ _ _ (fun s hs => inS_iff.2 hs) (rel_part (S := [(7, .s (.int n))]) hI1 hN1' hd1' (by kernel_rfl) ⟨s7, trivial⟩) (PB_oFC n) ?_
      intro e σ2 E2 b2 w2 hR2 hk hs2
      cases e with
      | exit i => exact hk.elim
      | ret => exact hk.1.elim
      | normal =>
        obtain ⟨-, hend⟩ := hk
        have hb2 : Bel w1 w2 := rel_bel hR2
        have e26 : b2.tmps.getD 26 undef = .int .i64 n := mEnd_ok hR2 hend 26 (.rv (.s (.int n))) (by simp)
        have e27 : b2.tmps.getD 27 undef = .int .i64 0 := mEnd_ok hR2 hend 27 (.rv (.s (.int 0))) (by simp)
        exact ⟨rfl, 0, _, [], by rw [Int.sub_zero], by omega, by omega, hR2.size, hR2.defers, hb2, (hs2 1 (by kernel_rfl)).trans s1, (hs2 2 (by kernel_rfl)).trans s2, (hs2 3 (by kernel_rfl)).trans s3, (hs2 8 (by kernel_rfl)).trans s8, (hs2 9 (by kernel_rfl)).trans s9, e26, e27, Tab.nil w2⟩
    · rintro nn a w' ⟨i, v, xs, rfl, i0, i1, hN, hdf, hB, g1, g2, g3', g8, g9, g26, g27, hT⟩
      have hI' := ginv_bel hI1 hB
      refine ev_okL (ds := inS (wrL (lpT (dropS 4 (codeOf Tryd.f10))))) sig_oFC_ok xs_oFC_ok (by kernel_rfl) _ 0 _ _ _ _ _ _ (fun s hs => inS_iff.2 hs) (rel_part (S := [(26, .s (.int n)), (27, .s (.int i))]) hI' hN hdf (by kernel_rfl) ⟨g26, g27, trivial⟩) (PT_oFC i n) ?_
      intro e σ2 E2 b2 w2 hR2 hk hs2
      cases e with
      | exit i => exact hk.elim
      | ret => exact hk.1.elim
      | normal =>
        obtain ⟨-, hend⟩ := hk
        have hb2 : Bel w' w2 := rel_bel hR2
        have e28 : b2.tmps.getD 28 undef = .bool (decide (i < n)) := mEnd_ok hR2 hend 28 (.rv (.s (.bool (decide (i < n))))) (by simp)
        have hN := hR2.size
        have hdf := hR2.defers
        have g1 := (hs2 1 (by kernel_rfl)).trans g1
        have g2 := (hs2 2 (by kernel_rfl)).trans g2
        have g3' := (hs2 3 (by kernel_rfl)).trans g3'
        have g8 := (hs2 8 (by kernel_rfl)).trans g8
        have g9 := (hs2 9 (by kernel_rfl)).trans g9
        have g26 := (hs2 26 (by kernel_rfl)).trans g26
        have g27 := (hs2 27 (by kernel_rfl)).trans g27
        have hT := hT.bel hb2
        have hB := hB.trans hb2
        have hI' := ginv_bel hI1 hB
        clear hs2 hend hR2 hb2
        refine ⟨rfl, _, e28, fun hlt => ?_, fun hge => ?_⟩
        · have hc : i < n := by simpa using hlt
          have z01 := hB1.size
          have z12 := hB.size
          have gA : Reads (fun _ => False) w2 v2 (.ptss l) := reads_old (reads_old h2 hB1) hB
          -- x := i
          refine frag_wpL (ds := inS (wrL (takeS 0 (lpX (dropS 4 (codeOf Tryd.f10)))))) sig_oFC_ok xs_oFC_ok (by kernel_rfl) 0 _ 0 _ _ _ _ _ _ (by kernel_rfl) (rel_part (S := [(27, .s (.int i))]) hI' hN hdf (by kernel_rfl) ⟨g27, trivial⟩) (PC_oFC i) ?_
          intro e σ3 E3 b3 w3 hR3 hk hs3
          cases e with
          | exit i => exact hk.elim
          | ret => exact hk.1.elim
          | normal =>
            obtain ⟨-, hend⟩ := hk
            have hb3 : Bel w2 w3 := rel_bel hR3
            have f10 : b3.tmps.getD 10 undef = .int .i64 i := mEnd_ok hR3 hend 10 (.rv (.s (.int i))) (by simp)
            have hN3 := hR3.size
            have hd3 := hR3.defers
            have f1 := (hs3 1 (by kernel_rfl)).trans g1
            have f2 := (hs3 2 (by kernel_rfl)).trans g2
            have f3 := (hs3 3 (by kernel_rfl)).trans g3'
            have f8 := (hs3 8 (by kernel_rfl)).trans g8
            have f9 := (hs3 9 (by kernel_rfl)).trans g9
            have f26 := (hs3 26 (by kernel_rfl)).trans g26
            have f27 := (hs3 27 (by kernel_rfl)).trans g27
            clear hs3 hR3 hend
            refine item_wp (by kernel_rfl) ?_
            refine nil_item (e := 11) (N := Tryd.f10.ntmps) (by kernel_rfl) hN3 ?_
            intro b4 hN4 hd4 hs4 f11
            have f1 := (hs4 1 (by kernel_rfl)).trans f1
            have f2 := (hs4 2 (by kernel_rfl)).trans f2
            have f3 := (hs4 3 (by kernel_rfl)).trans f3
            have f8 := (hs4 8 (by kernel_rfl)).trans f8
            have f9 := (hs4 9 (by kernel_rfl)).trans f9
            have f10 := (hs4 10 (by kernel_rfl)).trans f10
            have f26 := (hs4 26 (by kernel_rfl)).trans f26
            have f27 := (hs4 27 (by kernel_rfl)).trans f27
            have hd4 := hd4.trans hd3
            clear hs4
            refine loop_item (c := dropS 2 (lpX (dropS 4 (codeOf Tryd.f10)))) (q := 32) (by kernel_rfl) (fun nn a w' => ∃ (k : Int) (v11 : Value), nn = (m - k).toNat ∧ 0 ≤ k ∧ k ≤ m ∧ a.tmps.size = Tryd.f10.ntmps ∧ a.defers = [] ∧ Bel w2 w' ∧ (a.tmps.getD 1 undef = .int .i64 s ∧ a.tmps.getD 2 undef = v2 ∧ a.tmps.getD 3 undef = .pointer (some ⟨g3, 0, none⟩) ∧ a.tmps.getD 8 undef = .int .i64 m ∧ a.tmps.getD 9 undef = v ∧ a.tmps.getD 10 undef = .int .i64 i ∧ a.tmps.getD 26 undef = .int .i64 n ∧ a.tmps.getD 27 undef = .int .i64 i) ∧ a.tmps.getD 11 undef = v11 ∧ a.tmps.getD 30 undef = .int .i64 m ∧ a.tmps.getD 31 undef = .int .i64 k ∧ w'.ownsRow w2.heap.size 4 1 v11 (fcR a1 a2 l s i k).length (fB (fcR a1 a2 l s i k))) m.toNat ?_ ?_
            · refine ev_okL (ds := inS (wrL (lpA (dropS 2 (lpX (dropS 4 (codeOf Tryd.f10))))))) sig_oFC_ok xs_oFC_ok (by kernel_rfl) _ 0 _ _ _ _ _ _ (fun s hs => inS_iff.2 hs) (rel_part (S := [(8, .s (.int m))]) (ginv_bel hI' hb3) hN4 hd4 (by kernel_rfl) ⟨f8, trivial⟩) (PD_oFC m) ?_
              intro e σ5 E5 b5 w5 hR5 hk hs5
              cases e with
              | exit i => exact hk.elim
              | ret => exact hk.1.elim
              | normal =>
                obtain ⟨-, hend⟩ := hk
                have hb5 : Bel w3 w5 := rel_bel hR5
                have e30 : b5.tmps.getD 30 undef = .int .i64 m := mEnd_ok hR5 hend 30 (.rv (.s (.int m))) (by simp)
                have e31 : b5.tmps.getD 31 undef = .int .i64 0 := mEnd_ok hR5 hend 31 (.rv (.s (.int 0))) (by simp)
                exact ⟨rfl, 0, _, by rw [Int.sub_zero], by omega, by omega, hR5.size, hR5.defers, hb3.trans hb5, ⟨(hs5 1 (by kernel_rfl)).trans f1, (hs5 2 (by kernel_rfl)).trans f2, (hs5 3 (by kernel_rfl)).trans f3, (hs5 8 (by kernel_rfl)).trans f8, (hs5 9 (by kernel_rfl)).trans f9, (hs5 10 (by kernel_rfl)).trans f10, (hs5 26 (by kernel_rfl)).trans f26, (hs5 27 (by kernel_rfl)).trans f27⟩, (hs5 11 (by kernel_rfl)).trans f11, e30, e31, World.ownsRow_nil ..⟩
            · rintro nn a w' ⟨k, v11, rfl, k0, k1, hNk, hdk, hBk, ⟨f1, f2, f3, f8, f9, f10, f26, f27⟩, f11, f30, f31, o11⟩
              have hIk := ginv_bel hI' hBk
              refine ev_okL (ds := inS (wrL (lpT (dropS 2 (lpX (dropS 4 (codeOf Tryd.f10))))))) sig_oFC_ok xs_oFC_ok (by kernel_rfl) _ 0 _ _ _ _ _ _ (fun s hs => inS_iff.2 hs) (rel_part (S := [(30, .s (.int m)), (31, .s (.int k))]) hIk hNk hdk (by kernel_rfl) ⟨f30, f31, trivial⟩) (PU_oFC k m) ?_
              intro e σ5 E5 b5 w5 hR5 hk hs5
              cases e with
              | exit i => exact hk.elim
              | ret => exact hk.1.elim
              | normal =>
                obtain ⟨-, hend⟩ := hk
                have hb5 : Bel w' w5 := rel_bel hR5
                have e32 : b5.tmps.getD 32 undef = .bool (decide (k < m)) := mEnd_ok hR5 hend 32 (.rv (.s (.bool (decide (k < m))))) (by simp)
                have hN5 := hR5.size
                have hd5 := hR5.defers
                have f1 := (hs5 1 (by kernel_rfl)).trans f1
                have f2 := (hs5 2 (by kernel_rfl)).trans f2
                have f3 := (hs5 3 (by kernel_rfl)).trans f3
                have f8 := (hs5 8 (by kernel_rfl)).trans f8
                have f9 := (hs5 9 (by kernel_rfl)).trans f9
                have f10 := (hs5 10 (by kernel_rfl)).trans f10
                have f11 := (hs5 11 (by kernel_rfl)).trans f11
                have f26 := (hs5 26 (by kernel_rfl)).trans f26
                have f27 := (hs5 27 (by kernel_rfl)).trans f27
                have f30 := (hs5 30 (by kernel_rfl)).trans f30
                have f31 := (hs5 31 (by kernel_rfl)).trans f31
                have o11 := own_bel o11 hb5
                have hBk := hBk.trans hb5
                have hIk := ginv_bel hI' hBk
                clear hs5 hend hR5 hb5
                refine ⟨rfl, _, e32, fun hlt2 => ?_, fun hge2 => ?_⟩
                · have hc2 : k < m := by simpa using hlt2
                  have hob : ∀ b, blk v11 = some b → v11.ownBlock = some b := fun b hb => by
                    rcases o11.2 with ⟨rfl, _⟩ | ⟨g, cap, cur, rfl, _⟩
                    · cases hb
                    · exact hb
                  have hlv : ∀ b, (ER [(4, .bools (fcR a1 a2 l s i k), v11)]).lv b → w2.heap.size ≤ b := fun b hb => by
                    obtain ⟨r, hr, hb⟩ := hb
                    simp only [List.mem_singleton] at hr
                    subst hr
                    exact (o11.lt b (hob b hb)).1
                  have hg3 := heap_lt q3
                  have hR6 := rel_fragR (w0 := w2) (w := w5) (a := b5) (N := Tryd.f10.ntmps) (R := [(4, .bools (fcR a1 a2 l s i k), v11)]) (S := [(1, .s (.int s)), (2, .s (.view (.ptss l))), (3, .s (.vptr (.intss [a1, a2, a3]) 0 0)), (10, .s (.int i)), (11, .s (.row 1)), (31, .s (.int k))])
                    hI' hIk hN5 hd5 hBk (fun r hr => by
                      simp only [List.mem_singleton] at hr
                      subst hr
                      exact ⟨_, o11, rfl⟩) (fun i j r r' b hi hj _ _ => by
                      have h1 := (List.getElem?_eq_some_iff.1 hi).1
                      have h2 := (List.getElem?_eq_some_iff.1 hj).1
                      simp at h1 h2; omega)
                    (hasS_all ⟨f1, (by rw [f2]; exact reads_late gA hBk (fun b hb => hlv b hb)), vptr3_of f3 (((hB.trans hBk).block g3 hg3).trans q3) r3 (hB.trans hBk) (fun hb => by have := hlv g3 hb; omega) (fun b hb => by have := hlv b hb; omega), f10, f11, f31, trivial⟩)
                    (fun p hp k hk => by
                      simp only [List.mem_cons, List.not_mem_nil, or_false] at hp
                      rcases hp with rfl | rfl | rfl | rfl | rfl | rfl
                      all_goals first
                        | (cases hk; done)
                        | (have : 1 = k := (by simpa [AV.on, SV.on] using hk); simp; omega))
                  refine ev_okL (ds := inS (wrL (lpX (dropS 2 (lpX (dropS 4 (codeOf Tryd.f10))))))) sig_oFC_ok xs_oFC_ok (by kernel_rfl) _ 0 _ _ _ _ _ _ (fun s hs => inS_iff.2 hs) hR6 (PE_oFC a1 a2 a3 s l m i k n hl hok hn hm i0 hc hc20.2 k0 hc2) ?_
                  intro e σ7 E7 b7 w7 hR7 hk hs7
                  cases e with
                  | exit i => exact hk.elim
                  | ret => exact hk.1.elim
                  | normal =>
                    obtain ⟨-, hend⟩ := hk
                    have hb27 : Bel w2 w7 := rel_bel hR7
                    obtain ⟨ys, e11, hys⟩ : Owned w2.heap.size (fun b => False ∨ blk (b7.tmps.getD 11 undef) = some b) w7 (b7.tmps.getD 11 undef) 4 (.bools (fcR a1 a2 l s i (k + 1))) := mEnd_ok hR7 hend 11 (.rv (.nrow 4 (.bools (fcR a1 a2 l s i (k + 1))))) (by simp)
                    have hys' : ys = fB (fcR a1 a2 l s i (k + 1)) := hys
                    subst hys'
                    refine ⟨rfl, ?_⟩
                    refine ev_okL (ds := inS (wrL (lpS (dropS 2 (lpX (dropS 4 (codeOf Tryd.f10))))))) sig_oFC_ok xs_oFC_ok (by kernel_rfl) _ 0 _ _ _ _ _ _ (fun s hs => inS_iff.2 hs) (rel_part (S := [(31, .s (.int k))]) (ginv_bel hI' hb27) hR7.size hR7.defers (by kernel_rfl) ⟨(hs7 31 (by kernel_rfl)).trans f31, trivial⟩) (PG_oFC k ⟨k0, by omega⟩) ?_
                    intro e σ8 E8 b8 w8 hR8 hk hs8
                    cases e with
                    | exit i => exact hk.elim
                    | ret => exact hk.1.elim
                    | normal =>
                      obtain ⟨-, hend8⟩ := hk
                      have hb8 : Bel w7 w8 := rel_bel hR8
                      have e31 : b8.tmps.getD 31 undef = .int .i64 (k + 1) := mEnd_ok hR8 hend8 31 (.rv (.s (.int (k + 1)))) (by simp)
                      have o11' := own_bel e11 hb8
                      rw [← hs8 11 (by kernel_rfl)] at o11'
                      exact ⟨rfl, _, (by omega : (m - (k + 1)).toNat < (m - k).toNat), k + 1, _, rfl, by omega, by omega, hR8.size, hR8.defers, hb27.trans hb8, ⟨((hs8 1 (by kernel_rfl)).trans (hs7 1 (by kernel_rfl))).trans f1, ((hs8 2 (by kernel_rfl)).trans (hs7 2 (by kernel_rfl))).trans f2, ((hs8 3 (by kernel_rfl)).trans (hs7 3 (by kernel_rfl))).trans f3, ((hs8 8 (by kernel_rfl)).trans (hs7 8 (by kernel_rfl))).trans f8, ((hs8 9 (by kernel_rfl)).trans (hs7 9 (by kernel_rfl))).trans f9, ((hs8 10 (by kernel_rfl)).trans (hs7 10 (by kernel_rfl))).trans f10, ((hs8 26 (by kernel_rfl)).trans (hs7 26 (by kernel_rfl))).trans f26, ((hs8 27 (by kernel_rfl)).trans (hs7 27 (by kernel_rfl))).trans f27⟩, rfl, ((hs8 30 (by kernel_rfl)).trans (hs7 30 (by kernel_rfl))).trans f30, e31, o11'⟩
                have ek2 : k = m := by have : ¬ k < m := by simpa using hge2
                                       omega
                rw [ek2] at o11
                have hT3 := hT.bel hBk
                refine push_item (tt := 28) (e := 53) (e' := 4) (ct := .boolss []) (p := 9) (q := 11) (N := Tryd.f10.ntmps) (by kernel_rfl) hN5 (by rfl) (by rfl) (by decide) info_oFC f9 f11 hT3 (own_base o11 hB.size) (fun b hb ht => (by have := (hT.lt b ht).2; have := (o11.lt b hb).1; omega)) (Nat.le_trans hB.size hBk.size) (by have h := fcT_len (a1 := a1) (a2 := a2) (l := l) (s := s) (n := m) i0; have h2 : i ≤ 20 := (by omega); unfold ilen at h; omega) ?_
                intro b9 w9 v9' hN9 hd9 hs9 q9 hT9 hg9
                refine ⟨rfl, ?_⟩
                have hB9 : Bel w1 w9 := bel_step (hB.trans hBk) hg9 (fun b hb => (hT3.lt b (.inl hb)).1)
                have hI9 := ginv_bel hI1 hB9
                refine ev_okL (ds := inS (wrL (lpS (dropS 4 (codeOf Tryd.f10))))) sig_oFC_ok xs_oFC_ok (by kernel_rfl) _ 0 _ _ _ _ _ _ (fun s hs => inS_iff.2 hs) (rel_part (S := [(27, .s (.int i))]) hI9 hN9 (hd9.trans hd5) (by kernel_rfl) ⟨(hs9 27 (by kernel_rfl)).trans f27, trivial⟩) (PS_oFC i ⟨i0, by omega⟩) ?_
                intro e σa Ea ba wa hRa hk hsa
                cases e with
                | exit i => exact hk.elim
                | ret => exact hk.1.elim
                | normal =>
                  obtain ⟨-, hend5⟩ := hk
                  have hba : Bel w9 wa := rel_bel hRa
                  have e27 : ba.tmps.getD 27 undef = .int .i64 (i + 1) := mEnd_ok hRa hend5 27 (.rv (.s (.int (i + 1)))) (by simp)
                  have hms := fcT_s (a1 := a1) (a2 := a2) (l := l) (s := s) (n := m) i0
                  unfold iapp at hms
                  rw [hms] at hT9
                  refine ⟨rfl, _, (by omega : (n - (i + 1)).toNat < (n - i).toNat), i + 1, v9', _, rfl, by omega, by omega, hRa.size, hRa.defers, hB9.trans hba, ?_, ?_, ?_, ?_, (hsa 9 (by kernel_rfl)).trans q9, ?_, e27, hT9.bel hba⟩
                  · exact ((hsa 1 (by kernel_rfl)).trans (hs9 1 (by kernel_rfl))).trans f1
                  · exact ((hsa 2 (by kernel_rfl)).trans (hs9 2 (by kernel_rfl))).trans f2
                  · exact ((hsa 3 (by kernel_rfl)).trans (hs9 3 (by kernel_rfl))).trans f3
                  · exact ((hsa 8 (by kernel_rfl)).trans (hs9 8 (by kernel_rfl))).trans f8
                  · exact ((hsa 26 (by kernel_rfl)).trans (hs9 26 (by kernel_rfl))).trans f26
        · have ek : i = n := by have : ¬ i < n := by simpa using hge
                                omega
          subst ek
          refine item_wp (by kernel_rfl) ?_
          refine mv2_item (p := 9) (e := 6) (N := Tryd.f10.ntmps) (by kernel_rfl) hN g9 ?_
          intro b3 hN3 hd3 hs3 q6
          exact wp_ret ⟨hd3.trans hdf, v, ret_one rfl q6, v, xs, rfl, hT.base hB1.size, hB1.trans hB⟩
theorem hsB_e : ∀ {a a' : List (List Bool)} {k k' : Int}, MkBool k a a' k' → 0 ≤ k → hsB a' k = k'
  | [], [], k, k', h, _ => by
    have h' : k' = k := h
    subst h'; rfl
  | m :: ms, m' :: ms', k, k', h, k0 => by
    obtain ⟨⟨h1, h2⟩, h3⟩ := h
    have hh : heldBF m' k = k + 1 * ilen m := by rw [heldBF_e h2, h1]; omega
    have h0 := ilen_0 m
    show (if heldBF m' k < 0 then -1 else hsB ms' (heldBF m' k)) = k'
    rw [hh, if_neg (by omega)]
    exact hsB_e h3 (by omega)
  | [], _ :: _, _, _, h, _ => h.elim
  | _ :: _, [], _, _, h, _ => h.elim
theorem MkBool.sz : ∀ {a a' : List (List Bool)} {k k' M : Int}, MkBool k a a' k' → (∀ m ∈ a, ilen m ≤ M) → a'.length = a.length ∧ ∀ m' ∈ a', ilen m' ≤ M
  | [], [], _, _, _, _, _ => ⟨rfl, fun m h => by cases h⟩
  | m :: ms, m' :: ms', _, _, _, h, hm => by
    obtain ⟨⟨h1, h2⟩, h3⟩ := h
    obtain ⟨q1, q2⟩ := h3.sz fun x hx => hm x (List.mem_cons_of_mem _ hx)
    refine ⟨by simp [q1], fun x hx => ?_⟩
    rcases List.mem_cons.1 hx with rfl | hx
    · rw [h1]; exact hm m (List.mem_cons_self ..)
    · exact q2 x hx
  | [], _ :: _, _, _, _, h, _ => h.elim
  | _ :: _, [], _, _, _, h, _ => h.elim
theorem bdB {l : List (List Bool)} {M : Int} (h : ∀ m ∈ l, ilen m ≤ M) : ∀ i, 0 ≤ i → i < ilen l → ilen (getl l i) ≤ M := fun i i0 i1 => by
  unfold ilen at i1
  have hn : i.toNat < l.length := by omega
  have g : getl l i = l[i.toNat] := by unfold getl; simp [List.getD_eq_getElem?_getD, hn]
  rw [g]; exact h _ (List.getElem_mem hn)
theorem VA_laws_FnExactFreeCells (a1 : List Int) (a2 : List Int) (a3 : List Int) (s : Int) (l : List (List Pt)) : ((true = true) ∧ ((True) ∧ (True) ∧ True) ∧ (true = true) ∧ ((True) ∧ True) ∧ (true = true) ∧ ((True) ∧ (True) ∧ True) ∧ (true = true) ∧ ((0 ≤ (1048576 : Int) ∧ (1048576 : Int) ≤ 1048576)) ∧ (∀ k_1 : Int, ((k_1 < 0 ∨ (0 ≤ k_1 ∧ k_1 ≤ (1048576 : Int) ∧ ilen a1 ≤ (1048576 : Int) ∧ ilen a2 ≤ (1048576 : Int) ∧ ilen a3 ≤ (1048576 : Int))) → ((True) ∧ (true = true) ∧ ((True) ∧ (True) ∧ True) ∧ ((ilt (k_1) (0 : Int)) = true → ((true = true) ∧ ((True) ∧ True) ∧ ((true : Bool) = true) ∧ True)) ∧ ((ilt (k_1) (0 : Int)) = false → ((true = true) ∧ ((True) ∧ (True) ∧ True) ∧ (true = true) ∧ ((0 ≤ (k_1) ∧ (k_1) ≤ 1048576)) ∧ (∀ k_2 : Int, ((k_2 < 0 ∨ (0 ≤ k_2 ∧ k_2 ≤ (k_1) ∧ ilen l ≤ (k_1) ∧ ∀ i, 0 ≤ i → i < ilen l → ilen (getl l i) ≤ (k_1))) → ((True) ∧ (true = true) ∧ ((True) ∧ (True) ∧ True) ∧ ((ilt (k_2) (0 : Int)) = true → ((true = true) ∧ ((True) ∧ True) ∧ ((true : Bool) = true) ∧ True)) ∧ ((ilt (k_2) (0 : Int)) = false → ((true = true) ∧ ((True) ∧ ((ilen a1 ≤ 100000000 ∧ ilen a2 ≤ 100000000 ∧ ilen a3 ≤ 100000000)) ∧ (True) ∧ (True) ∧ ((ilen l ≤ 100000000 ∧ ∀ i, 0 ≤ i → i < ilen l → ilen (getl l i) ≤ 100000000)) ∧ ((True)) ∧ (True) ∧ True) ∧ (ilen a1 ≤ 1048576 ∧ ilen a2 ≤ 1048576 ∧ ilen a3 ≤ 1048576 ∧ ilen l ≤ 1048576 ∧ ∀ i, 0 ≤ i → i < ilen l → ilen (getl l i) ≤ 1048576) ∧ ((true = true) ∧ ((Cont.ints a1) = (Cont.ints a1)) ∧ ((Cont.ints a2) = (Cont.ints a2)) ∧ ((Cont.ints a3) = (Cont.ints a3)) ∧ True) ∧ (((true = true) ∧ ((Cont.boolss (fcL (a1) (a2) (a3) s (l))) = (Cont.boolss (fcL a1 a2 a3 s l))))) ∧ True))))))))))) = ev sig_laws_FnExactFreeCells xs_laws_FnExactFreeCells Tryd.f3.ntmps (fun b => []) (takeS 6 (dropS 0 (codeOf Tryd.f3))) 0 (initS [.agg [.view (.ints a1), .view (.ints a2), .view (.ints a3)], .s (.int s), .s (.view (.ptss l))]) (fragK (ilen a1 ≤ 1048576 ∧ ilen a2 ≤ 1048576 ∧ ilen a3 ≤ 1048576 ∧ ilen l ≤ 1048576 ∧ ∀ i, 0 ≤ i → i < ilen l → ilen (getl l i) ≤ 1048576) [(3, .bx [.view (.ints a1), .view (.ints a2), .view (.ints a3)]), (8, .rv (.s (.view (.boolss (fcL a1 a2 a3 s l)))))] Tryd.f3.results.toList [.s (.bool true)]) := by kernel_rfl
set_option maxHeartbeats 1000000 in
theorem PA_laws_FnExactFreeCells (a1 : List Int) (a2 : List Int) (a3 : List Int) (s : Int) (l : List (List Pt))  : ev sig_laws_FnExactFreeCells xs_laws_FnExactFreeCells Tryd.f3.ntmps (fun b => []) (takeS 6 (dropS 0 (codeOf Tryd.f3))) 0 (initS [.agg [.view (.ints a1), .view (.ints a2), .view (.ints a3)], .s (.int s), .s (.view (.ptss l))]) (fragK (ilen a1 ≤ 1048576 ∧ ilen a2 ≤ 1048576 ∧ ilen a3 ≤ 1048576 ∧ ilen l ≤ 1048576 ∧ ∀ i, 0 ≤ i → i < ilen l → ilen (getl l i) ≤ 1048576) [(3, .bx [.view (.ints a1), .view (.ints a2), .view (.ints a3)]), (8, .rv (.s (.view (.boolss (fcL a1 a2 a3 s l)))))] Tryd.f3.results.toList [.s (.bool true)]) := by
  refine Eq.mp (VA_laws_FnExactFreeCells a1 a2 a3 s l) ?_
  simp only [true_and, and_true, implies_true, and_self, forall_const, true_implies, lenA, lenL, SV.lenOK, Cont.lenOK]
  simp only [ilt_t, ilt_f, ile_t, ile_f, ieq_t, ieq_f, bnot_e, band_e, bite_and, bite_or, NLt_e, NLe_e, NNe_e, NIs_e, imax_e, imin_e, irem_e, Bool.not_eq_true', Bool.not_eq_false', Bool.and_eq_true, Bool.or_eq_true, Bool.or_eq_false_iff, Bool.and_eq_false_iff, Cont.pts.injEq, Cont.ints.injEq, Cont.bools.injEq, Cont.ptss.injEq, Cont.intss.injEq, Cont.boolss.injEq, true_and, and_true, implies_true]
  refine ⟨by omega, fun k hk h0 => ?_⟩
  rcases hk with hk | ⟨k0, k1, k2, k3, k4⟩
  · omega
  refine ⟨⟨by omega, by omega⟩, fun k2' hk2 h02 => ?_⟩
  rcases hk2 with hk2 | ⟨q0, q1, q2, q3⟩
  · omega
  exact ⟨⟨⟨by omega, by omega, by omega⟩, by omega, fun i i0 i1 => by have := q3 i i0 i1; omega⟩, by omega, by omega, by omega, by omega, fun i i0 i1 => by have := q3 i i0 i1; omega⟩
theorem VB_laws_FnExactFreeCells (a1 : List Int) (a2 : List Int) (a3 : List Int) (s : Int) (l : List (List Pt)) : ((true = true) ∧ ((True) ∧ (True) ∧ ((True)) ∧ (True) ∧ True) ∧ ((bnot (eqBB (fcL a1 a2 a3 s l) (fcL a1 a2 a3 s l))) = true → ((true = true) ∧ ((True) ∧ True) ∧ ((false : Bool) = true) ∧ True)) ∧ ((bnot (eqBB (fcL a1 a2 a3 s l) (fcL a1 a2 a3 s l))) = false → ((true = true) ∧ ((True) ∧ (True) ∧ ((ilen a1 ≤ 100000000 ∧ ilen a2 ≤ 100000000 ∧ ilen a3 ≤ 100000000)) ∧ ((True)) ∧ (True) ∧ True) ∧ ((bnot (eqI a1 (a1) && eqI a2 (a2) && eqI a3 (a3))) = true → ((true = true) ∧ ((True) ∧ True) ∧ ((false : Bool) = true) ∧ True)) ∧ ((bnot (eqI a1 (a1) && eqI a2 (a2) && eqI a3 (a3))) = false → ((true = true) ∧ ((True) ∧ (True) ∧ ((ilen l ≤ 100000000 ∧ ∀ i, 0 ≤ i → i < ilen l → ilen (getl l i) ≤ 100000000)) ∧ ((True)) ∧ (True) ∧ True) ∧ ((bnot (eqLL l (l))) = true → ((true = true) ∧ ((True) ∧ True) ∧ ((false : Bool) = true) ∧ True)) ∧ ((bnot (eqLL l (l))) = false → ((true = true) ∧ ((True) ∧ True) ∧ (True) ∧ ((((1 : Int) : Int) = 1)) ∧ True))))))) = ev sig_laws_FnExactFreeCells xs_laws_FnExactFreeCells Tryd.f3.ntmps (fun b => []) (takeS 3 (dropS 10 (codeOf Tryd.f3))) 0 (⟨[(2, .s (.view (.ptss l))), (3, .s (.vptr (.intss [a1, a2, a3]) (0 : Int) 0)), (8, .s (.view (.boolss (fcL a1 a2 a3 s l)))), (9, .s (.vptr (.intss [a1, a2, a3]) (0 : Int) 0)), (10, .s (.view (.ptss l))), (11, .s (.view (.boolss (fcL a1 a2 a3 s l))))], [], 1⟩) (fragK (True) [(12, .rv (.s (.int 1)))] Tryd.f3.results.toList [.s (.bool true)]) := by kernel_rfl
set_option maxHeartbeats 1000000 in
theorem PB_laws_FnExactFreeCells (a1 : List Int) (a2 : List Int) (a3 : List Int) (s : Int) (l : List (List Pt)) (hl : ilen a1 ≤ 1048576 ∧ ilen a2 ≤ 1048576 ∧ ilen a3 ≤ 1048576 ∧ ilen l ≤ 1048576 ∧ ∀ i, 0 ≤ i → i < ilen l → ilen (getl l i) ≤ 1048576) : ev sig_laws_FnExactFreeCells xs_laws_FnExactFreeCells Tryd.f3.ntmps (fun b => []) (takeS 3 (dropS 10 (codeOf Tryd.f3))) 0 (⟨[(2, .s (.view (.ptss l))), (3, .s (.vptr (.intss [a1, a2, a3]) (0 : Int) 0)), (8, .s (.view (.boolss (fcL a1 a2 a3 s l)))), (9, .s (.vptr (.intss [a1, a2, a3]) (0 : Int) 0)), (10, .s (.view (.ptss l))), (11, .s (.view (.boolss (fcL a1 a2 a3 s l))))], [], 1⟩) (fragK (True) [(12, .rv (.s (.int 1)))] Tryd.f3.results.toList [.s (.bool true)]) := by
  refine Eq.mp (VB_laws_FnExactFreeCells a1 a2 a3 s l) ?_
  simp only [true_and, and_true, implies_true, and_self, forall_const, true_implies, lenA, lenL, SV.lenOK, Cont.lenOK]
  simp only [ilt_t, ilt_f, ile_t, ile_f, ieq_t, ieq_f, bnot_e, band_e, bite_and, bite_or, NLt_e, NLe_e, NNe_e, NIs_e, imax_e, imin_e, irem_e, Bool.not_eq_true', Bool.not_eq_false', Bool.and_eq_true, Bool.or_eq_true, Bool.or_eq_false_iff, Bool.and_eq_false_iff, Cont.pts.injEq, Cont.ints.injEq, Cont.bools.injEq, Cont.ptss.injEq, Cont.intss.injEq, Cont.boolss.injEq, true_and, and_true, implies_true, eqBB_same, eqLL_same, eqI_same]
  obtain ⟨hl1, hl2, hl3, hl4, hl5⟩ := hl
  exact ⟨fun h => by simp at h, fun _ => ⟨⟨by omega, by omega, by omega⟩, fun h => by simp at h, fun _ => ⟨⟨by omega, fun i i0 i1 => by have := hl5 i i0 i1; omega⟩, fun h => by simp at h⟩⟩⟩
theorem VD_laws_FnExactFreeCells (a1 : List Int) (a2 : List Int) (a3 : List Int) (s : Int) (l : List (List Pt)) (k : Int) : ((true = true) ∧ ((True) ∧ (True) ∧ (True) ∧ (NIs (ilt k (0 : Int)) false → True) ∧ (NIs (ilt k (0 : Int)) false → True) ∧ (NIs (ilt k (0 : Int)) false → (True)) ∧ (NIs (ilt k (0 : Int)) false → True) ∧ (True) ∧ True) ∧ ((bite (ilt k (0 : Int)) true (bnot (eqBB (fcL a1 a2 a3 s l) (fcL a1 a2 a3 s l)))) = true → ((true = true) ∧ ((True) ∧ True) ∧ ((false : Bool) = true) ∧ True)) ∧ ((bite (ilt k (0 : Int)) true (bnot (eqBB (fcL a1 a2 a3 s l) (fcL a1 a2 a3 s l)))) = false → ((true = true) ∧ ((True) ∧ True) ∧ (True) ∧ ((((1 : Int) : Int) = 1)) ∧ True))) = ev sig_laws_FnExactFreeCells xs_laws_FnExactFreeCells Tryd.f3.ntmps (fun b => []) (takeS 1 (dropS 16 (codeOf Tryd.f3))) 0 (⟨[(8, .s (.view (.boolss (fcL a1 a2 a3 s l)))), (11, .s (.view (.boolss (fcL a1 a2 a3 s l)))), (12, .s (.int k))], [], 1⟩) (fragK (True) [(13, .rv (.s (.int 1)))] Tryd.f3.results.toList [.s (.bool true)]) := by kernel_rfl
set_option maxHeartbeats 1000000 in
theorem PD_laws_FnExactFreeCells (a1 : List Int) (a2 : List Int) (a3 : List Int) (s : Int) (l : List (List Pt)) (k : Int) (hl : ilen a1 ≤ 1048576 ∧ ilen a2 ≤ 1048576 ∧ ilen a3 ≤ 1048576 ∧ ilen l ≤ 1048576 ∧ ∀ i, 0 ≤ i → i < ilen l → ilen (getl l i) ≤ 1048576) (hk : 0 ≤ k ∧ k ≤ 10000000000000) : ev sig_laws_FnExactFreeCells xs_laws_FnExactFreeCells Tryd.f3.ntmps (fun b => []) (takeS 1 (dropS 16 (codeOf Tryd.f3))) 0 (⟨[(8, .s (.view (.boolss (fcL a1 a2 a3 s l)))), (11, .s (.view (.boolss (fcL a1 a2 a3 s l)))), (12, .s (.int k))], [], 1⟩) (fragK (True) [(13, .rv (.s (.int 1)))] Tryd.f3.results.toList [.s (.bool true)]) := by
  refine Eq.mp (VD_laws_FnExactFreeCells a1 a2 a3 s l k) ?_
  simp only [true_and, and_true, implies_true, and_self, forall_const, true_implies, lenA, lenL, SV.lenOK, Cont.lenOK]
  simp only [ilt_t, ilt_f, ile_t, ile_f, ieq_t, ieq_f, bnot_e, band_e, bite_and, bite_or, NLt_e, NLe_e, NNe_e, NIs_e, imax_e, imin_e, irem_e, Bool.not_eq_true', Bool.not_eq_false', Bool.and_eq_true, Bool.or_eq_true, Bool.or_eq_false_iff, Bool.and_eq_false_iff, Cont.pts.injEq, Cont.ints.injEq, Cont.bools.injEq, Cont.ptss.injEq, Cont.intss.injEq, Cont.boolss.injEq, true_and, and_true, implies_true, eqBB_same]
  exact fun h => (by rcases h with h | h; omega; simp at h)
theorem VE_laws_FnExactFreeCells (a1 : List Int) (a2 : List Int) (a3 : List Int) (s : Int) (l : List (List Pt)) (R : List (List Bool)) (q : Int) : ((true = true) ∧ ((True) ∧ True) ∧ (true = true) ∧ ((True) ∧ (True) ∧ ((0 ≤ (1 : Int) ∧ (1 : Int) ≤ 1000000 ∧ ilen R ≤ 1048576 ∧ ∀ i, 0 ≤ i → i < ilen R → ilen (getl R i) ≤ 1048576)) ∧ (True) ∧ True) ∧ (true = true) ∧ ((True) ∧ (True) ∧ True) ∧ ((ilt (hsB R (1 : Int)) (0 : Int)) = true → ((true = true) ∧ ((True) ∧ True) ∧ ((false : Bool) = true) ∧ True)) ∧ ((ilt (hsB R (1 : Int)) (0 : Int)) = false → ((true = true) ∧ ((True) ∧ (True) ∧ (True) ∧ True) ∧ ((bnot (ieq (hsB R (1 : Int)) q)) = true → ((true = true) ∧ ((True) ∧ True) ∧ ((false : Bool) = true) ∧ True)) ∧ ((bnot (ieq (hsB R (1 : Int)) q)) = false → ((true = true) ∧ ((True) ∧ ((ilen a1 ≤ 100000000 ∧ ilen a2 ≤ 100000000 ∧ ilen a3 ≤ 100000000)) ∧ (True) ∧ (True) ∧ ((ilen l ≤ 100000000 ∧ ∀ i, 0 ≤ i → i < ilen l → ilen (getl l i) ≤ 100000000)) ∧ ((True)) ∧ (True) ∧ True) ∧ (true = true) ∧ ((True) ∧ (True) ∧ ((True)) ∧ (True) ∧ True) ∧ ((bnot (eqBB (fcL (a1) (a2) (a3) s (l)) (fcL a1 a2 a3 s l))) = true → ((true = true) ∧ ((True) ∧ True) ∧ ((false : Bool) = true) ∧ True)) ∧ ((bnot (eqBB (fcL (a1) (a2) (a3) s (l)) (fcL a1 a2 a3 s l))) = false → ((true = true) ∧ ((True) ∧ True) ∧ (true = true) ∧ ((True) ∧ (True) ∧ ((0 ≤ (1 : Int) ∧ (1 : Int) ≤ 1000000 ∧ ilen R ≤ 1048576 ∧ ∀ i, 0 ≤ i → i < ilen R → ilen (getl R i) ≤ 1048576)) ∧ (True) ∧ True) ∧ (true = true) ∧ ((True) ∧ (True) ∧ True) ∧ ((ilt (hsB R (1 : Int)) (0 : Int)) = true → ((true = true) ∧ ((True) ∧ True) ∧ ((false : Bool) = true) ∧ True)) ∧ ((ilt (hsB R (1 : Int)) (0 : Int)) = false → ((true = true) ∧ ((True) ∧ (True) ∧ (True) ∧ True) ∧ ((bnot (ieq (hsB R (1 : Int)) q)) = true → ((true = true) ∧ ((True) ∧ True) ∧ ((false : Bool) = true) ∧ True)) ∧ ((bnot (ieq (hsB R (1 : Int)) q)) = false → ((true = true) ∧ ((True) ∧ True) ∧ ((true : Bool) = true) ∧ True))))))))))) = ev sig_laws_FnExactFreeCells xs_laws_FnExactFreeCells Tryd.f3.ntmps (fun b => []) (dropS 19 (codeOf Tryd.f3)) 0 (⟨[(1, .s (.int s)), (2, .s (.view (.ptss l))), (3, .s (.vptr (.intss [a1, a2, a3]) (0 : Int) 0)), (8, .s (.view (.boolss (fcL a1 a2 a3 s l)))), (11, .s (.view (.boolss R))), (13, .s (.int q))], [], 1⟩) (retK Tryd.f3.results.toList [.s (.bool true)]) := by kernel_rfl
set_option maxHeartbeats 1000000 in
theorem PE_laws_FnExactFreeCells (a1 : List Int) (a2 : List Int) (a3 : List Int) (s : Int) (l : List (List Pt)) (R : List (List Bool)) (q : Int) (hl : ilen a1 ≤ 1048576 ∧ ilen a2 ≤ 1048576 ∧ ilen a3 ≤ 1048576 ∧ ilen l ≤ 1048576 ∧ ∀ i, 0 ≤ i → i < ilen l → ilen (getl l i) ≤ 1048576) (hq : hsB R 1 = q) (hq1 : 0 ≤ q ∧ q ≤ 10000000000) (hR : ilen R ≤ 1000 ∧ ∀ i, 0 ≤ i → i < ilen R → ilen (getl R i) ≤ 1000) : ev sig_laws_FnExactFreeCells xs_laws_FnExactFreeCells Tryd.f3.ntmps (fun b => []) (dropS 19 (codeOf Tryd.f3)) 0 (⟨[(1, .s (.int s)), (2, .s (.view (.ptss l))), (3, .s (.vptr (.intss [a1, a2, a3]) (0 : Int) 0)), (8, .s (.view (.boolss (fcL a1 a2 a3 s l)))), (11, .s (.view (.boolss R))), (13, .s (.int q))], [], 1⟩) (retK Tryd.f3.results.toList [.s (.bool true)]) := by
  refine Eq.mp (VE_laws_FnExactFreeCells a1 a2 a3 s l R q) ?_
  simp only [true_and, and_true, implies_true, and_self, forall_const, true_implies, lenA, lenL, SV.lenOK, Cont.lenOK]
  simp only [ilt_t, ilt_f, ile_t, ile_f, ieq_t, ieq_f, bnot_e, band_e, bite_and, bite_or, NLt_e, NLe_e, NNe_e, NIs_e, imax_e, imin_e, irem_e, Bool.not_eq_true', Bool.not_eq_false', Bool.and_eq_true, Bool.or_eq_true, Bool.or_eq_false_iff, Bool.and_eq_false_iff, Cont.pts.injEq, Cont.ints.injEq, Cont.bools.injEq, Cont.ptss.injEq, Cont.intss.injEq, Cont.boolss.injEq, true_and, and_true, implies_true, eqBB_same]
  rw [hq]
  obtain ⟨hl1, hl2, hl3, hl4, hl5⟩ := hl
  have hR2 : ∀ i, 0 ≤ i → i < ilen R → ilen (getl R i) ≤ 1048576 := fun i i0 i1 => by have := hR.2 i i0 i1; omega
  have hR1 := hR.1
  exact ⟨⟨by omega, by omega, by omega, hR2⟩, fun h => by omega, fun _ => ⟨fun h => absurd rfl h, fun _ => ⟨⟨⟨by omega, by omega, by omega⟩, by omega, fun i i0 i1 => by have := hl5 i i0 i1; omega⟩, fun h => by simp at h, fun _ => ⟨⟨by omega, by omega, by omega, hR2⟩, fun h => by omega, fun _ h => absurd rfl h⟩⟩⟩⟩
theorem fcL_bd {a1 a2 a3 : List Int} {s : Int} {l : List (List Pt)} : ilen (fcL a1 a2 a3 s l) ≤ 1000 ∧ ∀ m ∈ fcL a1 a2 a3 s l, ilen m ≤ 1000 := by
  have hc20 : (0 ≤ gsK a1 a2 a3 s 0 ∧ gsK a1 a2 a3 s 0 ≤ 20) ∧ (0 ≤ gsK a1 a2 a3 s 1 ∧ gsK a1 a2 a3 s 1 ≤ 20) := by
    rcases gsK_cases a1 a2 a3 s with ⟨h0, h1⟩ | ⟨hB, g0, g1, e0, e1, m0, m1⟩ <;> omega
  unfold fcL
  split
  · rw [fcT_len hc20.1.1]
    refine ⟨by omega, fun m hm' => ?_⟩
    unfold fcT at hm'
    obtain ⟨j, -, rfl⟩ := List.mem_map.1 hm'
    rw [fcR_len hc20.2.1]; omega
  · exact ⟨by rw [ilen_nil]; omega, fun m hm => by cases hm⟩
set_option maxHeartbeats 2000000 in
theorem fefc_x {w : World} {v0 v1 v2 : Value} {a1 a2 a3 : List Int} {s : Int} {l : List (List Pt)} (hI : GInv w) (hA : hasA (EL fun _ => False) w [v0, v1, v2] [.agg [.view (.ints a1), .view (.ints a2), .view (.ints a3)], .s (.int s), .s (.view (.ptss l))]) :
    Calls Tryd.prog 3 #[v0, v1, v2] w fun e w' => e = .returned (.bool true) ∧ Bel w w' := by
  have h1 : v1 = .int .i64 s := hA.2.1
  have r2 : Reads (fun _ => False) w v2 (.ptss l) := hA.2.2.1
  refine calls_of_wp Tryd.func3 (c := dropS 0 (codeOf Tryd.f3)) rfl ?_
  refine frag_wpK (ds := inS (wrS (takeS 6 (dropS 0 (codeOf Tryd.f3))))) sig_laws_FnExactFreeCells_ok xs_laws_FnExactFreeCells_ok (by kernel_rfl) 6 _ 0 _ _ _ _ _ _ (by kernel_rfl) (init_rel0 hI hA (by kernel_rfl)) (PA_laws_FnExactFreeCells a1 a2 a3 s l) ?_
  intro e σ1 E1 b1 w1 hR1 hk hs1
  cases e with
  | exit i => exact hk.elim
  | ret => exact frag_ret hR1 hk (Bel.refl w) (by kernel_rfl)
  | normal =>
    obtain ⟨⟨hl1, hl2, hl3, hl⟩, hend⟩ := hk
    have hB1 : Bel w w1 := rel_bel hR1
    have hI1 := ginv_bel hI hB1
    obtain ⟨g5, ⟨l5⟩, t5, p5, -, q5, r5⟩ := mEnd_ok hR1 hend 3 (.bx [.view (.ints a1), .view (.ints a2), .view (.ints a3)]) (by simp)
    have e12 : Reads (fun _ => False) w1 (b1.tmps.getD 8 undef) (.boolss (fcL a1 a2 a3 s l)) := mEnd_ok hR1 hend 8 (.rv (.s (.view (.boolss (fcL a1 a2 a3 s l))))) (by simp)
    match l5, r5 with
    | [x1, x2, x3], r5 =>
    have s1 : b1.tmps.getD 1 undef = .int .i64 s := ((hs1 rfl 1 (by kernel_rfl)).trans (init_get rfl)).trans h1
    have s2 : b1.tmps.getD 2 undef = v2 := (hs1 rfl 2 (by kernel_rfl)).trans (init_get rfl)
    obtain ⟨v12, s12⟩ : ∃ v, b1.tmps.getD 8 undef = v := ⟨_, rfl⟩
    rw [s12] at e12
    have r2 := reads_old r2 hB1
    have hd1 := hR1.defers
    refine item_wp (by kernel_rfl) ?_
    refine arm_item (tl := 24) (ti := 30) (f := 8) (p := 3) (e := 9) (N := Tryd.f3.ntmps) (by kernel_rfl) hR1.size (enters_of Tryd.func8 (by kernel_rfl) rfl) rfl rfl p5 q5 ?_
    clear hR1 hend hs1
    refine (toArm_own hI1 r5.1 r5.2.1 r5.2.2.1 (by omega) (by omega) (by omega)).mono ?_
    rintro en w2' ⟨y1, y2, y3, rfl, hT', hb2'⟩
    refine ⟨y1, y2, y3, rfl, ⟨own_one hT'.o1, own_one hT'.o2, own_one hT'.o3⟩, fun b2 w2 g9 hN2 hd2 hs2 s13 hg9 q9 hb2'' => ?_⟩
    have hb2 := hb2'.trans hb2''
    have hT := hT'.bel hb2''
    have hI2 := ginv_bel hI1 hb2
    have s1 := (hs2 1 (by kernel_rfl)).trans s1
    have s2 := (hs2 2 (by kernel_rfl)).trans s2
    have s5 := (hs2 3 (by kernel_rfl)).trans p5
    have s12 := (hs2 8 (by kernel_rfl)).trans s12
    have hd2 := hd2.trans hd1
    clear hs2 hT' hb2' hb2''
    -- x2
    refine item_wp (by kernel_rfl) ?_
    refine call_item (f := 9) (srcs := [2]) (e := 10) (N := Tryd.f3.ntmps) (by kernel_rfl) hN2 (enters_of Tryd.func9 (by kernel_rfl) rfl) ?_
    simp only [List.map_cons, List.map_nil, s2]
    refine (toPointSS_own hI2 (reads_old r2 hb2) hl.1 (fun i i0 i1 => by have := hl.2 i i0 i1; omega)).mono ?_
    rintro en w4 ⟨u10, x10, rfl, hP, hb3⟩
    refine ⟨_, rfl, fun b4 hN4 hd4 hs4 s10 => ?_⟩
    have l10 : ∀ b, TabB u10 x10 b → w2.heap.size ≤ b ∧ b < w4.heap.size := fun b hb => hP.lt b hb
    have hb14 := hb2.trans hb3
    have hI4 := ginv_bel hI1 hb14
    have s1 := (hs4 1 (by kernel_rfl)).trans s1
    have s2 := (hs4 2 (by kernel_rfl)).trans s2
    have s5 := (hs4 3 (by kernel_rfl)).trans s5
    have s12 := (hs4 8 (by kernel_rfl)).trans s12
    have s13 := (hs4 9 (by kernel_rfl)).trans s13
    have hd4 := hd4.trans hd2
    clear hs4
    -- g0
    have hT4 := hT.bel hb3
    have q9 := (hb3.block g9 (heap_lt q9)).trans q9
    have rf : ∀ {w' : World} {base : Nat} {v : Value} {m : List Int}, w'.ownsRow base 3 1 v m.length (fI m) → Reads (fun _ => False) w' v (.ints m) := fun h => ⟨_, Owned.flat h (fun _ _ h => h), rfl⟩
    refine item_wp (by kernel_rfl) ?_
    refine armcall_item (ti := 30) (f := 10) (p := 9) (srcs := [1, 10]) (e := 11) (N := Tryd.f3.ntmps) (by kernel_rfl) hN4 (enters_of Tryd.func10 (by kernel_rfl) rfl) rfl s13 q9 ?_
    simp only [List.map_cons, List.map_nil, s1, s10]
    refine (FreeCells_own (s := s) hI4 hl ⟨⟨#[y1, y2, y3], rfl, rf hT4.o1, rf hT4.o2, rf hT4.o3, trivial⟩, rfl, hP.readsP (fun _ _ h => h), trivial⟩).mono ?_
    rintro en w5 ⟨u16, xs, rfl, hTab, hb5⟩
    refine ⟨_, rfl, fun b5 hN5 hd5 hs5 s16 => ?_⟩
    have hb15 := hb14.trans hb5
    have hI5 := ginv_bel hI1 hb15
    have s1 := (hs5 1 (by kernel_rfl)).trans s1
    have s2 := (hs5 2 (by kernel_rfl)).trans s2
    have s5 := (hs5 3 (by kernel_rfl)).trans s5
    have s10 := (hs5 10 (by kernel_rfl)).trans s10
    have s12 := (hs5 8 (by kernel_rfl)).trans s12
    have s13 := (hs5 9 (by kernel_rfl)).trans s13
    have hd5 := hd5.trans hd4
    clear hs5
    have hT5 := hT4.bel hb5
    have q9 := (hb5.block g9 (heap_lt q9)).trans q9
    have hP := hP.bel hb5
    have z12 := hb2.size
    have z24 := hb3.size
    have z45 := hb5.size
    -- compare
    have rT : hasL (EL fun _ => False) w5 [y1, y2, y3] [.view (.ints a1), .view (.ints a2), .view (.ints a3)] := ⟨rf hT5.o1, rf hT5.o2, rf hT5.o3, trivial⟩
    have v5 : ∀ {w' : World}, Bel w1 w' → SV.has (EL fun _ => False) w' (.pointer (some ⟨g5, 0, none⟩)) (.vptr (.intss [a1, a2, a3]) 0 0) := fun hb => vptr3_of rfl ((hb.block g5 (heap_lt q5)).trans q5) r5 hb (fun h => h) (fun _ h => h.elim)
    refine frag_wpK (ds := inS (wrS (takeS 3 (dropS 10 (codeOf Tryd.f3))))) sig_laws_FnExactFreeCells_ok xs_laws_FnExactFreeCells_ok (by kernel_rfl) 3 (dropS 10 (codeOf Tryd.f3)) 0 _ _ _ _ _ _ (by kernel_rfl)
      (rel_part (S := [(2, .s (.view (.ptss l))), (3, .s (.vptr (.intss [a1, a2, a3]) 0 0)), (8, .s (.view (.boolss (fcL a1 a2 a3 s l)))), (9, .s (.vptr (.intss [a1, a2, a3]) 0 0)), (10, .s (.view (.ptss l))), (11, .s (.view (.boolss (fcL a1 a2 a3 s l))))]) hI5 hN5 hd5 (by kernel_rfl)
        ⟨(by rw [s2]; exact reads_old r2 hb15), (by rw [s5]; exact v5 hb15), (by rw [s12]; exact reads_old e12 hb15), vptr3_of s13 q9 rT (Bel.refl _) (fun h => h) (fun _ h => h.elim), (by rw [s10]; exact hP.readsP (fun _ _ h => h)), (by rw [s16]; exact hTab.readsB (fun _ _ h => h)), trivial⟩) (PB_laws_FnExactFreeCells a1 a2 a3 s l ⟨hl1, hl2, hl3, hl⟩) ?_
    intro e σ6 E6 b6 w6 hR6 hk hs6
    cases e with
    | exit i => exact hk.elim
    | ret => exact frag_ret hR6 hk (hB1.trans hb15) (by kernel_rfl)
    | normal =>
      obtain ⟨-, hend6⟩ := hk
      have hb6 : Bel w5 w6 := rel_bel hR6
      have s17 : b6.tmps.getD 12 undef = .int .i64 1 := mEnd_ok hR6 hend6 12 (.rv (.s (.int 1))) (by simp)
      have hb16 := hb15.trans hb6
      have hI6 := ginv_bel hI1 hb16
      have s1 := (hs6 rfl 1 (by kernel_rfl)).trans s1
      have s2 := (hs6 rfl 2 (by kernel_rfl)).trans s2
      have s5 := (hs6 rfl 3 (by kernel_rfl)).trans s5
      have s10 := (hs6 rfl 10 (by kernel_rfl)).trans s10
      have s12 := (hs6 rfl 8 (by kernel_rfl)).trans s12
      have s13 := (hs6 rfl 9 (by kernel_rfl)).trans s13
      have s16 := (hs6 rfl 11 (by kernel_rfl)).trans s16
      have hN6 := hR6.size
      have hd6 := hR6.defers
      clear hs6 hR6 hend6 rT
      have hT6 := hT5.bel hb6
      have q9 := (hb6.block g9 (heap_lt q9)).trans q9
      have hP := hP.bel hb6
      have hTab := hTab.bel hb6
      have z56 := hb6.size
      -- k = markArm(x0, k)
      refine item_wp (by kernel_rfl) ?_
      refine mark_item (ti := 30) (f := 14) (p := 9) (q := 12) (e := 12) (N := Tryd.f3.ntmps) (by kernel_rfl) hN6 (enters_of Tryd.func14 (by kernel_rfl) rfl) rfl s13 q9 s17 ?_
      refine (markArm_own hI6 hI1.ng hT6 (by omega) (by omega) (by omega) (by omega) (by omega)).mono ?_
      rintro en w7 ⟨k', rfl, hk1, hC⟩
      have hxb : ∀ (i : Nat) (x : Value) b, [y1, y2, y3][i]? = some x → x.ownBlock = some b → w1.heap.size ≤ b ∧ b < w2.heap.size := fun i x b hx hb => by
        match i, hx with
        | 0, hx => injection hx with hx; subst hx; exact hT.o1.lt b hb
        | 1, hx => injection hx with hx; subst hx; exact hT.o2.lt b hb
        | 2, hx => injection hx with hx; subst hx; exact hT.o3.lt b hb
        | i + 3, hx => simp at hx
      have hb17 : Bel w1 w7 := hC.bel hb16 (fun i x b hx hb => (hxb i x b hx hb).1)
      have hI7 := ginv_bel hI1 hb17
      refine ⟨_, rfl, fun b7 hN7 hd7 hs7 s17 => ?_⟩
      have s1 := (hs7 1 (by kernel_rfl)).trans s1
      have s2 := (hs7 2 (by kernel_rfl)).trans s2
      have s5 := (hs7 3 (by kernel_rfl)).trans s5
      have s10 := (hs7 10 (by kernel_rfl)).trans s10
      have s12 := (hs7 8 (by kernel_rfl)).trans s12
      have s16 := (hs7 11 (by kernel_rfl)).trans s16
      have hd7 := hd7.trans hd6
      clear hs7 s13 q9
      have hP := hP.mch hC (fun i x b hx hb hv => by have := (hxb i x b hx hb).2; have := (l10 b hv).1; omega)
      have hTab := hTab.mch hC (fun i x b hx hb hv => by have := (hxb i x b hx hb).2; have := (hTab.lt b hv).1; omega)
      -- k = markPointSS(x2, k)
      have hlm : ∀ m ∈ l, ilen m ≤ 1048576 := fun m hm => by
        obtain ⟨j, hj, e⟩ := List.getElem_of_mem hm
        have h2 := hl.2 (j : Int) (by omega) (by unfold ilen; omega)
        have g : getl l (j : Int) = l[j] := by unfold getl; simp [List.getD_eq_getElem?_getD, hj]
        rw [g, e] at h2
        exact h2
      refine item_wp (by kernel_rfl) ?_
      refine call_item (f := 15) (srcs := [10, 12]) (e := 12) (N := Tryd.f3.ntmps) (by kernel_rfl) hN7 (enters_of Tryd.func15 (by kernel_rfl) rfl) ?_
      simp only [List.map_cons, List.map_nil, s10, s17]
      refine (markPointSS_own hI7 (Nat.le_trans hI1.ng z12) hP (by omega) (by omega) hl.1 hlm).mono ?_
      rintro en w9 ⟨P', kk, rfl, -, hMP, hCP⟩
      refine ⟨_, rfl, fun b9 hN9 hd9 hs9 s17 => ?_⟩
      have s1 := (hs9 1 (by kernel_rfl)).trans s1
      have s2 := (hs9 2 (by kernel_rfl)).trans s2
      have s5 := (hs9 3 (by kernel_rfl)).trans s5
      have s12 := (hs9 8 (by kernel_rfl)).trans s12
      have s16 := (hs9 11 (by kernel_rfl)).trans s16
      have hd9 := hd9.trans hd7
      clear hs9
      have hb19 : Bel w1 w9 := hCP.bel hb17 (fun i x b hx hb => by have := (l10 b (.inr ⟨i, x, hx, hb⟩)).1; omega)
      have hI9 := ginv_bel hI1 hb19
      have hTab := hTab.mch hCP (fun i x b hx hb hv => by have := (l10 b (.inr ⟨i, x, hx, hb⟩)).2; have := (hTab.lt b hv).1; omega)
      have hleP := hMP.le hlm
      have hll : (l.length : Int) ≤ 1048576 := by have := hl.1; unfold ilen at this; exact this
      refine frag_wpK (ds := inS (wrS (takeS 1 (dropS 16 (codeOf Tryd.f3))))) sig_laws_FnExactFreeCells_ok xs_laws_FnExactFreeCells_ok (by kernel_rfl) 1 (dropS 16 (codeOf Tryd.f3)) 0 _ _ _ _ _ _ (by kernel_rfl)
        (rel_part (S := [(8, .s (.view (.boolss (fcL a1 a2 a3 s l)))), (11, .s (.view (.boolss (fcL a1 a2 a3 s l)))), (12, .s (.int kk))]) hI9 hN9 hd9 (by kernel_rfl)
          ⟨(by rw [s12]; exact reads_old e12 hb19), (by rw [s16]; exact hTab.readsB (fun _ _ h => h)), s17, trivial⟩) (PD_laws_FnExactFreeCells a1 a2 a3 s l kk ⟨hl1, hl2, hl3, hl⟩ ⟨by omega, by omega⟩) ?_
      intro e σ10 E10 b10 w10 hR10 hk hs10
      cases e with
      | exit i => exact hk.elim
      | ret => exact frag_ret hR10 hk (hB1.trans hb19) (by kernel_rfl)
      | normal =>
        obtain ⟨-, hend10⟩ := hk
        have hb10 : Bel w9 w10 := rel_bel hR10
        have s18 : b10.tmps.getD 13 undef = .int .i64 1 := mEnd_ok hR10 hend10 13 (.rv (.s (.int 1))) (by simp)
        have hb1a := hb19.trans hb10
        have hI10 := ginv_bel hI1 hb1a
        have s1 := (hs10 rfl 1 (by kernel_rfl)).trans s1
        have s2 := (hs10 rfl 2 (by kernel_rfl)).trans s2
        have s5 := (hs10 rfl 3 (by kernel_rfl)).trans s5
        have s12 := (hs10 rfl 8 (by kernel_rfl)).trans s12
        have s16 := (hs10 rfl 11 (by kernel_rfl)).trans s16
        have hN10 := hR10.size
        have hd10 := hR10.defers
        clear hs10 hR10 hend10
        have hTab := hTab.bel hb10
        have hbd := fcL_bd (a1 := a1) (a2 := a2) (a3 := a3) (s := s) (l := l)
        -- m = markBoolSS(g0, m)
        refine item_wp (by kernel_rfl) ?_
        refine call_item (f := 16) (srcs := [11, 13]) (e := 13) (N := Tryd.f3.ntmps) (by kernel_rfl) hN10 (enters_of Tryd.func16 (by kernel_rfl) rfl) ?_
        simp only [List.map_cons, List.map_nil, s16, s18]
        refine (markBoolSS_own hI10 (Nat.le_trans hI1.ng (Nat.le_trans z12 z24)) hTab (by omega) (by omega) (by omega) (fun m hm => by have := hbd.2 m hm; omega)).mono ?_
        rintro en w11 ⟨R, q, rfl, hTR, hM, hCR⟩
        refine ⟨_, rfl, fun b11 hN11 hd11 hs11 s18 => ?_⟩
        have s1 := (hs11 1 (by kernel_rfl)).trans s1
        have s2 := (hs11 2 (by kernel_rfl)).trans s2
        have s5 := (hs11 3 (by kernel_rfl)).trans s5
        have s12 := (hs11 8 (by kernel_rfl)).trans s12
        have s16 := (hs11 11 (by kernel_rfl)).trans s16
        have hd11 := hd11.trans hd10
        clear hs11
        have hb1b : Bel w1 w11 := hCR.bel hb1a (fun i x b hx hb => by have := (hTab.lt b (.inr ⟨i, x, hx, hb⟩)).1; omega)
        have hI11 := ginv_bel hI1 hb1b
        have hq := hsB_e hM (by omega)
        have hle := hM.le (fun m hm => by have := hbd.2 m hm; omega)
        obtain ⟨z1, z2⟩ := hM.sz hbd.2
        have hln : ilen (fcL a1 a2 a3 s l) ≤ 1000 := hbd.1
        have hRl : ilen R ≤ 1000 := by unfold ilen at hln ⊢; omega
        have hq1 : 0 ≤ q ∧ q ≤ 10000000000 := by unfold ilen at hln; omega
        refine ev_ok sig_laws_FnExactFreeCells_ok xs_laws_FnExactFreeCells_ok (by kernel_rfl) (dropS 19 (codeOf Tryd.f3)) 0 _ _ _ _ _ _
          (rel_part (S := [(1, .s (.int s)), (2, .s (.view (.ptss l))), (3, .s (.vptr (.intss [a1, a2, a3]) 0 0)), (8, .s (.view (.boolss (fcL a1 a2 a3 s l)))), (11, .s (.view (.boolss R))), (13, .s (.int q))]) hI11 hN11 hd11 (by kernel_rfl)
            ⟨s1, (by rw [s2]; exact reads_old r2 hb1b), (by rw [s5]; exact v5 hb1b), (by rw [s12]; exact reads_old e12 hb1b), (by rw [s16]; exact hTR.readsB (fun _ _ h => h)), s18, trivial⟩) (PE_laws_FnExactFreeCells a1 a2 a3 s l R q ⟨hl1, hl2, hl3, hl⟩ hq hq1 ⟨hRl, bdB z2⟩) ?_
        intro e σ12 E12 b12 w12 hR12 hk
        cases e with
        | exit i => exact hk.elim
        | ret => exact frag_ret hR12 hk (hB1.trans hb1b) (by kernel_rfl)
        | normal => exact frag_ret hR12 hk (hB1.trans hb1b) (by kernel_rfl)
theorem F_laws_FnExactFreeCells : FunOK 3 g_laws_FnExactFreeCells := by
  intro avs sg hg hn L0 args w hL hA
  refine ⟨callFunc_enter Tryd.func3 (by kernel_rfl) (by kernel_rfl) _ w, ?_⟩
  unfold g_laws_FnExactFreeCells at hg
  split at hg
  · rename_i a1 a2 a3 s l
    injection hg with hg; subst hg
    have hA2 := hasA_less (L' := fun _ => False) (fun _ h => h.elim) (by rfl) hA
    obtain ⟨al⟩ := args
    match al, hA2 with
    | [v0, v1, v2], hA2 =>
      refine (fefc_x hL.inv hA2).mono ?_
      rintro e w' ⟨rfl, hb⟩
      exact ⟨_, rfl, rfl, hb⟩
  · cases hg
theorem fnExactFreeCells_walk (w : World) (v0 : Value) (x0 : List Int × List Int × List Int) (w0 : ArmArg w v0 x0) (v1 : Value) (x1 : Int) (w1 : IntArg v1 x1) (v2 : Value) (x2 : List (List Pt)) (w2 : PointSSArg w v2 x2) (hI : GInv w) : Calls Tryd.prog 3 #[v0, v1, v2] w fun e w' => e = .returned (.bool true) ∧ Bel w w' :=
  walk_of F_laws_FnExactFreeCells (avs := [.agg [.view (.ints x0.1), .view (.ints x0.2.1), .view (.ints x0.2.2)], .s (.int x1), .s (.view (.ptss x2))]) rfl trivial ⟨arm_reads w0, w1.1, ptss_reads w2, trivial⟩
set_option maxRecDepth 100000 in
theorem fnExactFreeCells_lifted (os : Os) (started : os.Started) (H : Type) (enc : TypeId × Value → H) :
    ReturnsInHanded {} Tryd.checked os 3 .any (fun w args => (Rows.fnExactFreeCellsSpec.pre enc Tryd.prog Tryd.f3 [] false w args ∧ laidMetH Tryd.prog laid3 w) ∧ sizedMet enc Tryd.prog Tryd.f3 (OpenSpec.ofChange Rows.fnExactFreeCellsSpec) false w args) (Rows.fnExactFreeCellsSpec.post enc Tryd.prog Tryd.f3 false true false false) := by
  have own : ownKnob Tryd.prog.godebug = none := by kernel_rfl
  have laidOut : laidOutB Tryd.prog = true := by kernel_rfl
  refine returnsInHanded_of_change_and (C := Tryd.checked) (X := fun w _ => laidMetH Tryd.prog laid3 w) (fun _ _ _ hh h => h.of_heap hh) own started (by kernel_rfl) Tryd.func3
    (ChangeSpec.witness_shaped (enc := enc) (C := Tryd.checked) (os := os) (X := fun w _ => laidMetH Tryd.prog laid3 w) false (World.doorLaid Tryd.prog 400 os) #[.agg #[.slice none 0 0, .slice none 0 0, .slice none 0 0], .int .i64 0, .slice none 0 0] 8 rfl (World.shaped_of_RefB (by kernel_rfl) (by kernel_rfl)) (by kernel_rfl) (by kernel_rfl) (by kernel_rfl) (door_met os _)) ?_
  intro W base args ds gs before hval0 hW _ _ hL _
  have hI := of_laid hL
  have hval : ∀ (j : Nat) t v, Tryd.f3.params[j]? = some t → args[j]? = some v → Value.okWide Tryd.prog W .any base t v := hval0
  have hW' := hW
  obtain ⟨p, q, hA0, hV, rfl, hfz, hnd⟩ := hW
  have hA : DataW.TrodAll enc Tryd.prog W 0 (fun _ => true) true Tryd.f3.params.toList args.toList ds p := hA0
  rw [Tryd.params3] at hA hval
  obtain ⟨v0, vs0, d0, ds0, p0, q0, hargs, rfl, rfl, h0, r0⟩ := trodAll_cons hA
  obtain ⟨v1, vs1, d1, ds1, p1, q1, rfl, rfl, rfl, h1, r1⟩ := trodAll_cons r0
  obtain ⟨v2, vs2, d2, ds2, p2, q2, rfl, rfl, rfl, h2, r2⟩ := trodAll_cons r1
  obtain ⟨rfl, rfl, rfl⟩ := trodAll_nil r2
  obtain rfl : args = #[v0, v1, v2] := by cases args; simp_all
  obtain ⟨rfl, rfl⟩ := trodVars_none hV
  have k0 := h0
  have lt0 : ∀ x ∈ p0, x.block < W.heap.size := by obtain ⟨m, hm⟩ := k0; exact DataW.trod_lt m _ _ _ hm
  have k1 := h1
  have lt1 : ∀ x ∈ p1, x.block < W.heap.size := by obtain ⟨m, hm⟩ := k1; exact DataW.trod_lt m _ _ _ hm
  have k2 := h2
  have lt2 : ∀ x ∈ p2, x.block < W.heap.size := by obtain ⟨m, hm⟩ := k2; exact DataW.trod_lt m _ _ _ hm
  obtain ⟨x0, w0⟩ := opn_Arm (hval 0 24 v0 rfl rfl) h0
  obtain ⟨x1, w1⟩ := opn_int (hval 1 3 v1 rfl rfl) h1
  obtain ⟨x2, w2⟩ := opn_PointSS (hval 2 25 v2 rfl rfl) h2
  clear hA0 hval0
  refine (fnExactFreeCells_walk W v0 x0 w0 v1 x1 w1 v2 x2 w2 hI).mono fun e W' ⟨he, bel⟩ => ?_
  subst he
  exact ⟨_, rfl, _, _, _, [], _, [], hW', trodAll_mk1 (shut_bool Tryd.underlying4 _), (trodAll_cons_mk (Below.trod laidOut (by kernel_rfl) (of_decide_eq_true (by kernel_rfl)) k0 bel lt0) (trodAll_cons_mk (Below.trod laidOut (by kernel_rfl) (of_decide_eq_true (by kernel_rfl)) k1 bel lt1) (trodAll_cons_mk (Below.trod laidOut (by kernel_rfl) (of_decide_eq_true (by kernel_rfl)) k2 bel lt2) trodAll_mk0))), rfl, Below.frame bel _, fun h => by cases h⟩
theorem fnExactFreeCells_over : Rows.fnExactFreeCellsRow.holds Tryd.pinned (OpenSpec.ofChange Rows.fnExactFreeCellsSpec) :=
  OpenClaim.holds_of_wide 3 Tryd.f3 rfl rfl rfl rfl rfl rfl rfl ⟨rfl, rfl, rfl, rfl, rfl⟩ rfl rfl rfl rfl rfl (by kernel_rfl) Tryd.func3 (by kernel_rfl)
    (of_decide_eq_true (by kernel_rfl)) (by unfold Func.isWrapper; first | (rw [if_pos (by decide +kernel)]; kernel_rfl) | (rw [if_neg (by decide +kernel)]; exact ⟨rfl, rfl⟩))
    (fun os started H enc _ => fnExactFreeCells_lifted os started H enc)
theorem fnExactFreeCells_proved : Rows.FnExactFreeCellsCardSaid :=
  Claim7.holds_tied_plain_at .later [] [.data, .data, .data] true (true, "4a182926ec762b0eb94bef2fbdcd0ced45a6d22b8d887d494e258833d06e4fa5") false
    fnExactFreeCells_over (fun _ h => by cases h) (by kernel_rfl) (fun _ h => by cases h) fnExactFreeCells_row_tie rfl ⟨rfl, rfl⟩ (by kernel_rfl) rfl
    (fun f fn hf hfn => by
      obtain rfl : f = 3 := Option.some.inj ((show Tryd.prog.funcNamed "loop.example/robotcell/laws.FnExactFreeCells" = some 3 by kernel_rfl).symm.trans hf) |>.symm
      obtain rfl : fn = Tryd.f3 := (Option.some.inj (Tryd.func3.symm.trans hfn)).symm
      exact ⟨by kernel_rfl, fun j t ht => by
        rw [Tryd.params3] at ht
        have hm : t ∈ [24, 3, 25] := by simpa using Array.mem_of_getElem? ht
        have hall : ([24, 3, 25].all fun u => !Tryd.prog.wantsStandIn u) = true := by kernel_rfl
        exact (show Tryd.prog.wantsStandIn t = false by simpa using List.all_eq_true.1 hall t hm)⟩)
    (by kernel_rfl)
#print axioms fnExactFreeCells_proved
end Go.Proofs.YtejiomhoflnboaaDoor

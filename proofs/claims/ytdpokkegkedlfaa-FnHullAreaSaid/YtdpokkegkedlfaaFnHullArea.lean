/- 'FnHullArea': for every code both sides tell the same hull of the drawn points; the doubled area of the hull of all but the last of them is at most that of the hull. Conditions: none. -/
import Derived.Test.YtdpokkegkedlfaaFnHullAreaP1
namespace Go.Proofs.Ytdpokkegkedlfaa
open Go.ChangeShapes Go.WideShapes Go.ChangeAt Go.RowKit
set_option maxRecDepth 100000
set_option linter.unusedSimpArgs false
set_option linter.unusedVariables false
def g_impl_halfHull : List AV → Option Sg
  | [.s (.view (.pts l))] => some ⟨allB l = true ∧ ilen l ≤ 16, [.nrow 74 (.pts (halfL l))]⟩
  | _ => none
def sig_impl_halfHull : FuncId → List AV → Option Sg := sigL [(103, g_impl_cross)]
def xs_impl_halfHull : XS := ⟨xsigL [], ysigL []⟩
theorem sig_impl_halfHull_ok : SigOK sig_impl_halfHull := sigL_cons F_impl_cross sigL_nil
theorem xs_impl_halfHull_ok : XSigOK xs_impl_halfHull := ⟨xsigL_nil, ysigL_nil⟩
theorem V_impl_halfHull (l : List Pt) : ((true = true) ∧ ((True) ∧ True) ∧ (true = true) ∧ ((True) ∧ True) ∧ (true = true) ∧ ((True) ∧ (True) ∧ (True) ∧ True) ∧ ∃ (I1 : List GV → Prop) (μ1 : List GV → Nat), (((true = true) ∧ ((((0 : Int) : Int) = (0 : Int)) ∧ ((Cont.pts l) = (Cont.pts l)) ∧ (((ilen l) : Int) = (ilen l)) ∧ (true = true) ∧ (true = true) ∧ ((Cont.pts l) = (Cont.pts l)) ∧ True) ∧ (((true = true) ∧ ((Cont.pts []) = (Cont.pts []))) ∧ ((true = true) ∧ ((Cont.pts []) = (Cont.pts []))) ∧ True)) ∧ (([GK.int, GK.pts] : List GK) = ([GK.int, GK.pts] : List GK)) ∧ I1 [GV.int (0 : Int), GV.pts []]) ∧ (∀ i1_0 : Int, ∀ l1_1 : List Pt, I1 [GV.int i1_0, GV.pts l1_1] → ((true = true) ∧ ((True) ∧ True) ∧ ((ilt i1_0 (ilen l)) = true → ((true = true) ∧ ((NLe 0 i1_0 ∧ NLt i1_0 (ilen l)) ∧ (True) ∧ (True) ∧ True) ∧ (True) ∧ ∃ (I2 : List GV → Prop) (μ2 : List GV → Nat), (((true = true) ∧ (((((getx l i1_0) : Int) = (getx l i1_0)) ∧ (((gety l i1_0) : Int) = (gety l i1_0)) ∧ True) ∧ (true = true) ∧ (((ilt i1_0 (ilen l)) : Bool) = (ilt i1_0 (ilen l))) ∧ ((i1_0 : Int) = i1_0) ∧ ((Cont.pts l) = (Cont.pts l)) ∧ (((ilen l) : Int) = (ilen l)) ∧ (true = true) ∧ (true = true) ∧ ((Cont.pts l) = (Cont.pts l)) ∧ True) ∧ (((true = true) ∧ ((Cont.pts l1_1) = (Cont.pts l1_1))) ∧ ((((getx l i1_0) : Int) = (getx l i1_0)) ∧ (((gety l i1_0) : Int) = (gety l i1_0)) ∧ True) ∧ ((true = true) ∧ ((Cont.pts []) = (Cont.pts []))) ∧ True)) ∧ (([GK.pts] : List GK) = ([GK.pts] : List GK)) ∧ I2 [GV.pts l1_1]) ∧ (∀ l2_0 : List Pt, I2 [GV.pts l2_0] → ((true = true) ∧ ((True) ∧ (True) ∧ (True) ∧ (True) ∧ (NIs (ilt (1 : Int) (ilen l2_0)) true → True) ∧ (NIs (ilt (1 : Int) (ilen l2_0)) true → True) ∧ (NIs (ilt (1 : Int) (ilen l2_0)) true → True) ∧ (NIs (ilt (1 : Int) (ilen l2_0)) true → True) ∧ (NIs (ilt (1 : Int) (ilen l2_0)) true → (NLe 0 (isub (ilen l2_0) (2 : Int)) ∧ NLt (isub (ilen l2_0) (2 : Int)) (ilen l2_0))) ∧ (NIs (ilt (1 : Int) (ilen l2_0)) true → NLt (isub (ilen l2_0) (2 : Int)) (ilen l2_0)) ∧ (NIs (ilt (1 : Int) (ilen l2_0)) true → True) ∧ (NIs (ilt (1 : Int) (ilen l2_0)) true → True) ∧ (NIs (ilt (1 : Int) (ilen l2_0)) true → True) ∧ (NIs (ilt (1 : Int) (ilen l2_0)) true → True) ∧ (NIs (ilt (1 : Int) (ilen l2_0)) true → (NLe 0 (isub (ilen l2_0) (1 : Int)) ∧ NLt (isub (ilen l2_0) (1 : Int)) (ilen l2_0))) ∧ (NIs (ilt (1 : Int) (ilen l2_0)) true → NLt (isub (ilen l2_0) (1 : Int)) (ilen l2_0)) ∧ (NIs (ilt (1 : Int) (ilen l2_0)) true → True) ∧ (NIs (ilt (1 : Int) (ilen l2_0)) true → (True)) ∧ (NIs (ilt (1 : Int) (ilen l2_0)) true → True) ∧ (True) ∧ True) ∧ ((bite (ilt (1 : Int) (ilen l2_0)) (ile (crW (getx l2_0 (isub (ilen l2_0) (2 : Int))) (gety l2_0 (isub (ilen l2_0) (2 : Int))) (getx l2_0 (isub (ilen l2_0) (1 : Int))) (gety l2_0 (isub (ilen l2_0) (1 : Int))) (getx l i1_0) (gety l i1_0)) (0 : Int)) false) = true → ((true = true) ∧ ((True) ∧ (True) ∧ (True) ∧ (True) ∧ True) ∧ (NLe 0 (isub (ilen l2_0) (1 : Int)) ∧ NLe (isub (ilen l2_0) (1 : Int)) (ilen l2_0)) ∧ (True) ∧ ((true = true) ∧ (((((getx l i1_0) : Int) = (getx l i1_0)) ∧ (((gety l i1_0) : Int) = (gety l i1_0)) ∧ True) ∧ (true = true) ∧ (((ilt i1_0 (ilen l)) : Bool) = (ilt i1_0 (ilen l))) ∧ ((i1_0 : Int) = i1_0) ∧ ((Cont.pts l) = (Cont.pts l)) ∧ (((ilen l) : Int) = (ilen l)) ∧ (true = true) ∧ (true = true) ∧ ((Cont.pts l) = (Cont.pts l)) ∧ True) ∧ (((true = true) ∧ ((Cont.pts (itake l2_0 (isub (ilen l2_0) (1 : Int)))) = (Cont.pts (itake l2_0 (isub (ilen l2_0) (1 : Int)))))) ∧ ((((getx l i1_0) : Int) = (getx l i1_0)) ∧ (((gety l i1_0) : Int) = (gety l i1_0)) ∧ True) ∧ ((true = true) ∧ ((Cont.pts []) = (Cont.pts []))) ∧ True)) ∧ ((([GK.pts] : List GK) = ([GK.pts] : List GK)) ∧ I2 [GV.pts (itake l2_0 (isub (ilen l2_0) (1 : Int)))] ∧ μ2 [GV.pts (itake l2_0 (isub (ilen l2_0) (1 : Int)))] < μ2 [GV.pts l2_0]))) ∧ ((bite (ilt (1 : Int) (ilen l2_0)) (ile (crW (getx l2_0 (isub (ilen l2_0) (2 : Int))) (gety l2_0 (isub (ilen l2_0) (2 : Int))) (getx l2_0 (isub (ilen l2_0) (1 : Int))) (gety l2_0 (isub (ilen l2_0) (1 : Int))) (getx l i1_0) (gety l i1_0)) (0 : Int)) false) = false → ((true = true) ∧ ((True) ∧ (True) ∧ (True) ∧ True) ∧ (NLe (ilen l2_0) 1000000000 ∧ NLe (ilen [((getx l i1_0), (gety l i1_0))]) 1000000000) ∧ (True) ∧ (true = true) ∧ ((True) ∧ (True) ∧ True) ∧ ((true = true) ∧ ((((iadd i1_0 (1 : Int)) : Int) = (iadd i1_0 (1 : Int))) ∧ ((Cont.pts l) = (Cont.pts l)) ∧ (((ilen l) : Int) = (ilen l)) ∧ (true = true) ∧ (true = true) ∧ ((Cont.pts l) = (Cont.pts l)) ∧ True) ∧ (((true = true) ∧ ((Cont.pts (iapp l2_0 [((getx l i1_0), (gety l i1_0))])) = (Cont.pts (iapp l2_0 [((getx l i1_0), (gety l i1_0))])))) ∧ ((true = true) ∧ ((Cont.pts []) = (Cont.pts []))) ∧ True)) ∧ ((([GK.int, GK.pts] : List GK) = ([GK.int, GK.pts] : List GK)) ∧ I1 [GV.int (iadd i1_0 (1 : Int)), GV.pts (iapp l2_0 [((getx l i1_0), (gety l i1_0))])] ∧ μ1 [GV.int (iadd i1_0 (1 : Int)), GV.pts (iapp l2_0 [((getx l i1_0), (gety l i1_0))])] < μ1 [GV.int i1_0, GV.pts l1_1]))))))) ∧ ((ilt i1_0 (ilen l)) = false → ((true = true) ∧ ((True) ∧ (True) ∧ True) ∧ ((true = true) ∧ ((Cont.pts l1_1) = (Cont.pts (halfL l)))) ∧ True))))) = ev sig_impl_halfHull xs_impl_halfHull Try.f96.ntmps (fun b => if b == 0 then [.v 8, .b 3] else if b == 2 then [.b 3] else []) (codeOf Try.f96) 0 (initS [.s (.view (.pts l))]) (retK Try.f96.results.toList [.nrow 74 (.pts (halfL l))]) := by kernel_rfl
set_option maxHeartbeats 400000 in
theorem F_impl_halfHull : FunOK 96 g_impl_halfHull := by
  refine fun_F (by kernel_rfl) Try.func96 rfl (by kernel_rfl) sig_impl_halfHull_ok xs_impl_halfHull_ok ?_
  intro avs sg h hn hl
  unfold g_impl_halfHull at h
  split at h
  · rename_i l
    injection h with h; subst h
    refine ⟨by kernel_rfl, fun b => if b == 0 then [.v 8, .b 3] else if b == 2 then [.b 3] else [], Eq.mp (V_impl_halfHull l) ?_⟩
    simp only [true_and, and_true, implies_true, and_self, forall_const, true_implies, lenA, lenL, SV.lenOK, Cont.lenOK] at hn hl ⊢
    obtain ⟨hA, h16⟩ := hn
    have h0 := ilen_0 l
    have hll : ilen l = (l.length : Int) := ilen_nat l
    simp only [ilt_t, ilt_f, ile_t, ile_f, ieq_t, ieq_f, bnot_e, band_e, bite_and, bite_or, NLt_e, NLe_e, NNe_e, NIs_e, imax_e, imin_e, irem_e, Bool.not_eq_true', Bool.not_eq_false', Bool.and_eq_true, Bool.or_eq_true, Bool.or_eq_false_iff, Bool.and_eq_false_iff, Cont.pts.injEq, Cont.ints.injEq, Cont.bools.injEq, Cont.ptss.injEq, Cont.intss.injEq, Cont.boolss.injEq, true_and, and_true, implies_true]
    refine ⟨fun | [.int k, .pts o] => 0 ≤ k ∧ k ≤ ilen l ∧ o = (Hst l k.toNat).reverse | _ => False, fun | .int k :: _ => (ilen l - k).toNat | _ => 0, ⟨by omega, by omega, rfl⟩, ?_⟩
    rintro k o ⟨k0, k1, rfl⟩
    obtain ⟨n, rfl⟩ := Int.eq_ofNat_of_zero_le k0
    have ek : ((n : Int)).toNat = n := by omega
    rw [ek]
    refine ⟨fun hk => ⟨⟨k0, hk⟩, ?_⟩, fun hk => ?_⟩
    · have hn : n < l.length := by omega
      obtain ⟨hs1, hs2⟩ := Hst_sub l n (by omega)
      have hpl : gp l n ∈ l := by rw [gp_get hn]; exact List.getElem_mem hn
      have hp := allB_mem hA hpl
      have hS := Hst_s hn
      have ex : getx l (n : Int) = (gp l n).1 := rfl
      have ey : gety l (n : Int) = (gp l n).2 := rfl
      rw [ex, ey]
      generalize gp l n = p at *
      refine ⟨fun | [.pts m] => ∃ st, m = st.reverse ∧ Pl.popH st p = Pl.popH (Hst l n) p ∧ (∀ q ∈ st, q ∈ l) ∧ st.length ≤ n | _ => False, fun | .pts m :: _ => m.length | _ => 0, ⟨_, rfl, rfl, hs1, hs2⟩, ?_⟩
      rintro m ⟨st, rfl, hpop, hm, hlen⟩
      have fin : Pl.popH st p = st → (ilen st.reverse ≤ 1000000000 ∧ ilen [(p.1, p.2)] ≤ 1000000000) ∧ (0 ≤ iadd (n : Int) 1 ∧ iadd (n : Int) 1 ≤ ilen l ∧ iapp st.reverse [(p.1, p.2)] = (Hst l (iadd (n : Int) 1).toNat).reverse) ∧ (ilen l - iadd (n : Int) 1).toNat < (ilen l - (n : Int)).toNat := fun h => by
        have e1 : iadd (n : Int) 1 = ((n + 1 : Nat) : Int) := iadd_e (by omega) (by omega)
        have e2 : ilen st.reverse = (st.length : Int) := by unfold ilen; rw [List.length_reverse]
        rw [e1, e2]
        refine ⟨⟨by omega, by rw [ilen_one]; omega⟩, ⟨by omega, by omega, ?_⟩, by omega⟩
        rw [show ((n + 1 : Nat) : Int).toNat = n + 1 by omega, hS]
        unfold Pl.pushH iapp
        rw [← hpop, h]
        simp
      match st, hpop, hm, hlen, fin with
      | [], _, _, _, fin =>
        have e0 : ilen ([] : List Pt).reverse = 0 := by rw [List.reverse_nil]; exact ilen_nil
        exact ⟨⟨fun h => by omega, fun h => by omega, fun h => by omega, fun h => by omega⟩, fun ⟨h, _⟩ => by omega, fun _ => fin rfl⟩
      | [b], _, _, _, fin =>
        have e0 : ilen [b].reverse = 1 := by rw [ilen_nat, List.length_reverse]; rfl
        exact ⟨⟨fun h => by omega, fun h => by omega, fun h => by omega, fun h => by omega⟩, fun ⟨h, _⟩ => by omega, fun _ => fin rfl⟩
      | b :: a :: s, hpop, hm, hlen, fin =>
        obtain ⟨r1, r2, r3, r4⟩ := rev_two b a s
        have hlen' : s.length + 2 ≤ n := by simpa using hlen
        have hva := allB_mem hA (hm a (by simp))
        have hvb := allB_mem hA (hm b (by simp))
        rw [r1, show isub ((s.length : Int) + 2) 2 = (s.length : Int) by rw [isub_e (by omega) (by omega)]; omega, show isub ((s.length : Int) + 2) 1 = (s.length : Int) + 1 by rw [isub_e (by omega) (by omega)]; omega]
        have ga : getx (b :: a :: s).reverse (s.length : Int) = a.1 ∧ gety (b :: a :: s).reverse (s.length : Int) = a.2 := ⟨congrArg Prod.fst r2, congrArg Prod.snd r2⟩
        have gb : getx (b :: a :: s).reverse ((s.length : Int) + 1) = b.1 ∧ gety (b :: a :: s).reverse ((s.length : Int) + 1) = b.2 := ⟨congrArg Prod.fst r3, congrArg Prod.snd r3⟩
        rw [ga.1, ga.2, gb.1, gb.2, crW_e hva hvb hp, r4]
        rw [r1] at fin
        refine ⟨⟨fun _ => ⟨by omega, by omega⟩, fun _ => by omega, fun _ => ⟨by omega, by omega⟩, fun _ => by omega⟩, fun h => ⟨⟨by omega, by omega⟩, ⟨a :: s, rfl, ?_, fun q hq => hm q (List.mem_cons_of_mem _ hq), by simp; omega⟩, by simp⟩, fun h => ?_⟩
        · rw [← hpop]
          show _ = if crs a b p ≤ 0 then Pl.popH (a :: s) p else b :: a :: s
          rw [if_pos h.2]
        · refine fin ?_
          show (if crs a b p ≤ 0 then Pl.popH (a :: s) p else b :: a :: s) = _
          rw [if_neg]
          rcases h with h | h
          · omega
          · have h' : 0 < crs a b p := h
            omega
    · rw [show n = l.length by omega]; exact Hst_all l
  · cases h
theorem own_blk2 {w : World} {base : Nat} {e : TypeId} {sz : Nat} {v : Value} {n : Nat} {xs : List Value} (h : w.ownsRow base e sz v n xs) (b : Nat) : blk v = some b ↔ v.ownBlock = some b := by
  rcases h.2 with ⟨h0, _⟩ | ⟨g, cap, cur, h0, _⟩
  · rw [h0]; simp [blk, Value.ownBlock]
  · rw [h0]; simp [blk, Value.ownBlock]
theorem own_capN {w : World} {base : Nat} {e : TypeId} {sz : Nat} {A : Option Addr} {n c : Nat} {xs : List Value} (h : w.ownsRow base e sz (.slice A n c) n xs) : n ≤ c := by
  rcases h.2 with ⟨h0, h1⟩ | ⟨g, cap, cur, h0, _, _, h1, _⟩
  · omega
  · injection h0 with _ _ h2; omega
theorem pt_one {l : List Pt} {u : Value} (hu : u ∈ ptCells l) : u.oneCell' = true := by
  obtain ⟨j, hj⟩ := List.mem_iff_getElem?.1 hu
  obtain ⟨i, hi, ⟨_, rfl⟩ | ⟨_, rfl⟩⟩ := ptCells_get hj <;> rfl
theorem reads_on {L : Nat → Prop} {w w' : World} {v : Value} {c : Cont} (h : Reads L w v c) (hb : Bel w w') : Reads L w' v c :=
  h.step (bel_grown hb) (fun b e => by cases e)
theorem all_x {L : Nat → Prop} {w : World} {v : Value} {l : List Pt} (hL : LtI L w) (hv : Reads L w v (.pts l)) : Calls Try.prog 89 #[v] w fun e w' => e = .returned (.bool (allB l)) ∧ Bel w w' := by
  refine (F_impl_allPoints [.s (.view (.pts l))] _ rfl trivial L #[v] w hL ⟨hv, trivial⟩).2.mono ?_
  rintro e w' ⟨v', rfl, hr, hb⟩
  have hr' : v' = .bool (allB l) := hr
  exact ⟨by rw [hr'], hb⟩
theorem half_x {w : World} {base : Nat} {u : Value} {l : List Pt} (hI : GInv w) (ho : w.ownsRow base 74 2 u l.length (ptCells l)) (hA : allB l = true) (hn : l.length ≤ 16) :
    Calls Try.prog 96 #[u] w fun e w' => ∃ u', e = .returned u' ∧ w'.ownsRow w.heap.size 74 2 u' (halfL l).length (ptCells (halfL l)) ∧ Bel w w' := by
  refine (F_impl_halfHull [.s (.view (.pts l))] _ rfl ⟨hA, by rw [ilen_nat]; omega⟩ (fun _ => False) #[u] w ⟨fun b h => h.elim, hI⟩ ⟨⟨_, Owned.flat ho (fun _ _ h => h), rfl⟩, trivial⟩).2.mono ?_
  rintro e w' ⟨v', rfl, ⟨xs, h1, h2⟩, hb⟩
  have h2' : xs = ptCells (halfL l) := h2
  subst h2'
  exact ⟨_, rfl, h1, hb⟩
theorem hull_x {L : Nat → Prop} {w : World} {A : Option Addr} {cap : Nat} {l : List Pt} (hL : LtI L w) (hv : Reads L w (.slice A l.length cap) (.pts l)) :
    Calls Try.prog 46 #[.slice A l.length cap] w fun e w' => ∃ u, e = .returned u ∧ w'.ownsRow w.heap.size 74 2 u (hulF l).length (ptCells (hulF l)) ∧ Bel w w' := by
  have mixed : Try.prog.follows .mixedOrders = true := by kernel_rfl
  have HL := Lib.hid hL
  have HV := Lib.hid hv
  clear hL hv
  by_cases h16 : 16 < l.length
  · have hF : hulF l = [] := by unfold hulF; rw [if_neg (by rw [ilen_nat]; omega)]
    rw [hF]
    go_enter Try.func46, Try.ntmps46
    go_wp2
    go_ret
    exact ⟨_, rfl, ⟨rfl, .inl ⟨rfl, rfl⟩⟩, Bel.refl _⟩
  · have HA := all_x HL.out HV.out
    cases hA : allB l with
    | false =>
      have hF : hulF l = [] := by unfold hulF; rw [if_neg (by rw [hA]; simp)]
      rw [hF]
      rw [hA] at HA
      go_enter Try.func46, Try.ntmps46
      go_wp2_with (go_at_call 89; refine HA.mono ?_; rintro e w1 ⟨rfl, hb1⟩)
      go_ret
      exact ⟨_, rfl, ⟨rfl, .inl ⟨rfl, rfl⟩⟩, hb1⟩
    | true =>
      rw [hA] at HA
      have hps := Pl.srt_len l
      have hpA : allB (Pl.srt l) = true := allB_sub hA fun x hx => (Pl.srt_mem l x).1 hx
      have hrA : allB (Pl.srt l).reverse = true := allB_sub hpA fun x hx => List.mem_reverse.1 hx
      have hrl : (Pl.srt l).reverse.length ≤ 16 := by rw [List.length_reverse]; omega
      have hF : hulF l = if (Pl.hullH (Pl.srt l)).length < 3 then [] else Pl.hullH (Pl.srt l) := by unfold hulF; rw [if_pos ⟨by rw [ilen_nat]; omega, hA⟩]; rfl
      have h5 := hull_five (Pl.srt l)
      have hcut := hull_cut (Pl.srt l)
      have hl1 := half_len (p := Pl.srt l)
      have hl2 := half_len (p := (Pl.srt l).reverse)
      have hsx := @comp_srt
      have key : ∀ (m : List Pt), m.Perm l → (∀ i j, i < j → j < m.length → ¬ (m[j]!.1 < m[i]!.1 ∨ (m[j]!.1 = m[i]!.1 ∧ m[j]!.2 < m[i]!.2))) → Lib.compactUpTo m.toArray m.length = Pl.srt l := fun m a b => comp_srt a b
      rw [hF, hcut]
      rw [hcut] at h5
      have KEY := Lib.hid key
      have F5 := Lib.hid h5
      have PA := Lib.hid (show allB (Pl.srt l) = true ∧ allB (Pl.srt l).reverse = true ∧ (Pl.srt l).length ≤ 16 ∧ (Pl.srt l).reverse.length ≤ 16 from ⟨hpA, hrA, by omega, hrl⟩)
      have PL := Lib.hid (show (halfL (Pl.srt l)).length ≤ 16 ∧ (halfL (Pl.srt l).reverse).length ≤ 16 from ⟨by omega, by omega⟩)
      clear hF hcut key hpA hrA h5 hsx hps hrl hl1 hl2
      generalize Pl.srt l = p at *
      have hw12 : IntKind.i64.wrap (((halfL p).length : Int) + ((halfL p.reverse).length : Int)) = ((halfL p).length : Int) + ((halfL p.reverse).length : Int) := by have := PL.out; rw [IntKind.wrap_i64]; omega
      by_cases h5 : (halfL p).length + (halfL p.reverse).length < 5
      · rw [if_pos (F5.out.1 h5)]
        have h5' : ((halfL p).length : Int) + ((halfL p.reverse).length : Int) < 5 := by omega
        clear h5
        go_enter Try.func46, Try.ntmps46
        go_wp2_with (first
          | (go_at_call 89; refine HA.mono ?_; rintro e w1 ⟨rfl, hb1⟩)
          | (go_at_call 90; refine (clone_x (reads_on HV.out hb1) (by omega)).mono ?_; rintro e w2 ⟨u, rfl, O, hb2⟩; have O2 := own_base O hb1.size; have B2 := hb1.trans hb2; clear O hb1 hb2)
          | (go_at_call 91; refine (sort_x O2 (by omega)).mono ?_; rintro e w3 ⟨rfl, m, hm1, hm2, hm3, O3, hg3⟩; have B3 := bel_step B2 hg3 (fun b e => (O2.lt b ((own_blk2 O2 b).1 e)).1); have K3 := KEY.out m hm2 hm3; clear O2 B2 hg3 hm2 hm3)
          | (go_at_call 95; refine (compact_x O3 (by omega)).mono ?_; rintro e w4 ⟨u4, rfl, O4, hg4, hbu⟩; rw [K3] at O4; have B4 := bel_step B3 hg4 (fun b e => (O3.lt b ((own_blk2 O3 b).1 e)).1); clear O3 B3 hg4 K3 hm1 hbu)
          | (go_at_call 97; refine (rev_x O5 (by have := PA.out.2.2.1; omega)).mono ?_; rintro e w6 ⟨rfl, O6, hg6⟩; have R6 := R5.kept hg6 (none_or fun b e hv => (by have h1 := (R5.lt b hv).1; have h2 := O5s b e; omega)); have B6 := bel_step B5 hg6 (fun b e => (O5.lt b ((own_blk2 O5 b).1 e)).1); clear O5 O5s R5 B5 hg6)
          | (go_at_call 96; first
              | (refine (half_x (ginv_bel HL.out.inv B6) O6 PA.out.2.1 PA.out.2.2.2).mono ?_; rintro e w7 ⟨v2, rfl, U7, hb7⟩; have R7 := own_bel R6 hb7; have B7 := B6.trans hb7; clear O6 R6 hb7; obtain ⟨A1, c1, rfl⟩ := own_form R7; obtain ⟨A2, c2, rfl⟩ := own_form U7; have hc1 := own_capN R7; have hc2 := own_capN U7)
              | (refine (half_x (ginv_bel HL.out.inv B4) O4 PA.out.1 PA.out.2.2.1).mono ?_; rintro e w5 ⟨v1, rfl, R5, hb5⟩; have O5 := own_bel O4 hb5; have O5s : ∀ b, blk u4 = some b → b < w4.heap.size := (fun b e => (O4.lt b ((own_blk2 O4 b).1 e)).2); have B5 := B4.trans hb5; clear O4 B4 hb5)))
        go_ret
        exact ⟨_, rfl, ⟨rfl, .inl ⟨rfl, rfl⟩⟩, B7⟩
      · rw [if_neg (fun h => h5 (F5.out.2 h))]
        have h5' : ¬ (((halfL p).length : Int) + ((halfL p.reverse).length : Int) < 5) := by omega
        have hpn : p ≠ [] := by
          rintro rfl
          exact h5 (by decide)
        have hn1 := List.length_pos_iff.2 (half_ne hpn)
        have hn2 := List.length_pos_iff.2 (half_ne (p := p.reverse) (fun e => hpn (List.reverse_eq_nil_iff.1 e)))
        obtain ⟨k1, hk1⟩ : ∃ k, (halfL p).length = k + 1 := ⟨(halfL p).length - 1, by omega⟩
        obtain ⟨k2, hk2⟩ : ∃ k, (halfL p.reverse).length = k + 1 := ⟨(halfL p.reverse).length - 1, by omega⟩
        have hs1 : IntKind.i64.wrap (((halfL p).length : Int) - 1) = (k1 : Int) := by have := PL.out; rw [IntKind.wrap_i64]; omega
        have hs2 : IntKind.i64.wrap (((halfL p.reverse).length : Int) - 1) = (k2 : Int) := by have := PL.out; rw [IntKind.wrap_i64]; omega
        have HK := Lib.hid (show (halfL p).length = k1 + 1 ∧ (halfL p.reverse).length = k2 + 1 from ⟨hk1, hk2⟩)
        have H5 := Lib.hid h5
        clear h5 hpn hk1 hk2
        go_enter Try.func46, Try.ntmps46
        go_wp2_with (first
          | (go_at_call 89; refine HA.mono ?_; rintro e w1 ⟨rfl, hb1⟩)
          | (go_at_call 90; refine (clone_x (reads_on HV.out hb1) (by omega)).mono ?_; rintro e w2 ⟨u, rfl, O, hb2⟩; have O2 := own_base O hb1.size; have B2 := hb1.trans hb2; clear O hb1 hb2)
          | (go_at_call 91; refine (sort_x O2 (by omega)).mono ?_; rintro e w3 ⟨rfl, m, hm1, hm2, hm3, O3, hg3⟩; have B3 := bel_step B2 hg3 (fun b e => (O2.lt b ((own_blk2 O2 b).1 e)).1); have K3 := KEY.out m hm2 hm3; clear O2 B2 hg3 hm2 hm3)
          | (go_at_call 95; refine (compact_x O3 (by omega)).mono ?_; rintro e w4 ⟨u4, rfl, O4, hg4, hbu⟩; rw [K3] at O4; have B4 := bel_step B3 hg4 (fun b e => (O3.lt b ((own_blk2 O3 b).1 e)).1); clear O3 B3 hg4 K3 hm1 hbu)
          | (go_at_call 97; refine (rev_x O5 (by have := PA.out.2.2.1; omega)).mono ?_; rintro e w6 ⟨rfl, O6, hg6⟩; have R6 := R5.kept hg6 (none_or fun b e hv => (by have h1 := (R5.lt b hv).1; have h2 := O5s b e; omega)); have B6 := bel_step B5 hg6 (fun b e => (O5.lt b ((own_blk2 O5 b).1 e)).1); clear O5 O5s R5 B5 hg6)
          | (go_at_call 96; first
              | (refine (half_x (ginv_bel HL.out.inv B6) O6 PA.out.2.1 PA.out.2.2.2).mono ?_; rintro e w7 ⟨v2, rfl, U7, hb7⟩; have R7 := own_bel R6 hb7; have B7 := B6.trans hb7; clear O6 R6 hb7; obtain ⟨A1, c1, rfl⟩ := own_form R7; obtain ⟨A2, c2, rfl⟩ := own_form U7; have hc1 := own_capN R7; have hc2 := own_capN U7)
              | (refine (half_x (ginv_bel HL.out.inv B4) O4 PA.out.1 PA.out.2.2.1).mono ?_; rintro e w5 ⟨v1, rfl, R5, hb5⟩; have O5 := own_bel O4 hb5; have O5s : ∀ b, blk u4 = some b → b < w4.heap.size := (fun b e => (O4.lt b ((own_blk2 O4 b).1 e)).2); have B5 := B4.trans hb5; clear O4 B4 hb5)))
        have hkc1 : k1 ≤ c1 := by have := HK.out; omega
        have hkc2 : k2 ≤ c2 := by have := HK.out; omega
        obtain ⟨g1, rfl, hg1⟩ := own_some R7 hn1
        obtain ⟨g2, rfl, hg2⟩ := own_some U7 hn2
        obtain ⟨W8, hW8⟩ : ∃ W8, w7.drew = W8 := ⟨_, rfl⟩
        have hb8 : Bel w7 W8 := hW8 ▸ ⟨rfl, rfl, rfl, Nat.le_refl _, fun _ _ => rfl⟩
        refine wp_region_still_tail 10 mixed (by kernel_rfl) ?_
        change wpStill Try.prog _ (World.drew _) (fun a' => wpList _ _ _ _ _ (World.drew _)) _ _
        rw [hW8]
        simp only [List.take_succ_cons, List.take_zero, List.drop_succ_cons, List.drop_zero]
        have hbA : Bel w7 (W8.alloc (.cells #[.slice (some ⟨g1, 0, none⟩) k1 c1, .slice (some ⟨g2, 0, none⟩) k2 c2] 65)) := hb8.alloc _
        have b2 : (W8.alloc (.cells #[.slice (some ⟨g1, 0, none⟩) k1 c1, .slice (some ⟨g2, 0, none⟩) k2 c2] 65)).heap[W8.heap.size]? = some (.cells #[.slice (some ⟨g1, 0, none⟩) k1 c1, .slice (some ⟨g2, 0, none⟩) k2 c2] 65 (0, 0)) := heap_alloc_new W8 _
        have e0 := cell_of_row _ _ 0 _ _ _ b2
        have e1 := cell_of_row _ _ 1 _ _ _ b2
        have T1 := own_take (own_bel R7 hbA) (k := k1) (by have := HK.out; omega)
        have T2 := own_take (own_bel U7 hbA) (k := k2) (by have := HK.out; omega)
        have CAT := Lib.hid (concat_x e0 e1 T1.1 T2.1 (T1.cells (g := g1) rfl) (T2.cells (g := g2) rfl) (fun u hu => pt_one (List.mem_of_mem_take hu)) (fun u hu => pt_one (List.mem_of_mem_take hu)) (by have := HK.out; have := H5.out; omega) (by have := HK.out; have := PL.out; omega))
        have BA := B7.trans hbA
        clear hW8 hb8 hbA b2 e0 e1 T1 T2 R7 U7 B7
        repeat still_step
        refine wpStill_nil ?_
        go_wp2_with (go_at_call 98; refine CAT.out.mono ?_; rintro e w9 ⟨u9, rfl, O9, hb9⟩)
        go_ret
        obtain ⟨hk1, hk2⟩ := HK.out
        rw [hk1, hk2, Nat.add_sub_cancel, Nat.add_sub_cancel]
        have el : ((halfL p).take k1 ++ (halfL p.reverse).take k2).length = k1 + k2 := by rw [List.length_append, List.length_take, List.length_take]; omega
        have ec : ptCells ((halfL p).take k1 ++ (halfL p.reverse).take k2) = (ptCells (halfL p)).take (k1 * 2) ++ (ptCells (halfL p.reverse)).take (k2 * 2) := by rw [ptCells_take, ptCells_take]; simp [ptCells]
        rw [el, ec]
        exact ⟨_, rfl, own_base O9 BA.size, BA.trans hb9⟩
theorem F_impl_HullOf : FunOK 46 g_impl_HullOf := by
  intro avs sg hg hn L0 args w hL hA
  refine ⟨callFunc_enter Try.func46 (by kernel_rfl) (by kernel_rfl) _ w, ?_⟩
  unfold g_impl_HullOf at hg
  split at hg
  · rename_i l
    injection hg with hg; subst hg
    obtain ⟨al⟩ := args
    match al, hA with
    | [v], ⟨hv, _⟩ =>
      have hv0 : Reads L0 w v (.pts l) := hv
      obtain ⟨xs, ⟨A, cap, rfl, _⟩, _⟩ := hv
      refine (hull_x hL hv0).mono ?_
      rintro e w' ⟨u, rfl, ho, hb⟩
      exact ⟨u, rfl, ⟨_, ho, rfl⟩, hb⟩
  · cases hg
def g_spec_l1In : List AV → Option Sg
  | [.s (.int n), .s (.int lo), .s (.int hi)] => some ⟨True, [.s (.bool (inB n lo hi))]⟩
  | _ => none
def sig_spec_l1In : FuncId → List AV → Option Sg := sigL []
def xs_spec_l1In : XS := ⟨xsigL [], ysigL []⟩
theorem sig_spec_l1In_ok : SigOK sig_spec_l1In := sigL_nil
theorem xs_spec_l1In_ok : XSigOK xs_spec_l1In := ⟨xsigL_nil, ysigL_nil⟩
theorem V_spec_l1In (n : Int) (lo : Int) (hi : Int) : ((true = true) ∧ ((True) ∧ True) ∧ (true = true) ∧ ((True) ∧ (True) ∧ (True) ∧ (True) ∧ (NIs (ile lo n) true → True) ∧ (NIs (ile lo n) true → True) ∧ (NIs (ile lo n) true → True) ∧ (True) ∧ (True) ∧ True) ∧ (((bite (ile lo n) (ile n hi) false) : Bool) = (inB n lo hi)) ∧ True) = ev sig_spec_l1In xs_spec_l1In Try.f73.ntmps (fun b => []) (codeOf Try.f73) 0 (initS [.s (.int n), .s (.int lo), .s (.int hi)]) (retK Try.f73.results.toList [.s (.bool (inB n lo hi))]) := by kernel_rfl
set_option maxHeartbeats 400000 in
theorem F_spec_l1In : FunOK 73 g_spec_l1In := by
  refine fun_F (by kernel_rfl) Try.func73 rfl (by kernel_rfl) sig_spec_l1In_ok xs_spec_l1In_ok ?_
  intro avs sg h hn hl
  unfold g_spec_l1In at h
  split at h
  · rename_i n lo hi
    injection h with h; subst h
    refine ⟨by kernel_rfl, fun b => [], Eq.mp (V_spec_l1In n lo hi) ?_⟩
    simp only [true_and, and_true, implies_true, and_self, forall_const, true_implies, lenA, lenL, SV.lenOK, Cont.lenOK] at hn hl ⊢
    simp only [bite_and, inB_eq]
  · cases h
def g_spec_PointValid : List AV → Option Sg
  | [.agg [.int p1, .int p2]] => some ⟨True, [.s (.bool (vB p1 p2))]⟩
  | _ => none
def sig_spec_PointValid : FuncId → List AV → Option Sg := sigL [(73, g_spec_l1In)]
def xs_spec_PointValid : XS := ⟨xsigL [], ysigL []⟩
theorem sig_spec_PointValid_ok : SigOK sig_spec_PointValid := sigL_cons F_spec_l1In sigL_nil
theorem xs_spec_PointValid_ok : XSigOK xs_spec_PointValid := ⟨xsigL_nil, ysigL_nil⟩
theorem V_spec_PointValid (p1 : Int) (p2 : Int) : ((true = true) ∧ ((True) ∧ (True) ∧ True) ∧ (true = true) ∧ ((True) ∧ (True) ∧ ((True)) ∧ (True) ∧ (NIs (inB p1 (-10000 : Int) (10000 : Int)) true → True) ∧ (NIs (inB p1 (-10000 : Int) (10000 : Int)) true → True) ∧ (NIs (inB p1 (-10000 : Int) (10000 : Int)) true → (True)) ∧ (True) ∧ (True) ∧ True) ∧ (((bite (inB p1 (-10000 : Int) (10000 : Int)) (inB p2 (-10000 : Int) (10000 : Int)) false) : Bool) = (vB p1 p2)) ∧ True) = ev sig_spec_PointValid xs_spec_PointValid Try.f85.ntmps (fun b => []) (codeOf Try.f85) 0 (initS [.agg [.int p1, .int p2]]) (retK Try.f85.results.toList [.s (.bool (vB p1 p2))]) := by kernel_rfl
set_option maxHeartbeats 400000 in
theorem F_spec_PointValid : FunOK 85 g_spec_PointValid := by
  refine fun_F (by kernel_rfl) Try.func85 rfl (by kernel_rfl) sig_spec_PointValid_ok xs_spec_PointValid_ok ?_
  intro avs sg h hn hl
  unfold g_spec_PointValid at h
  split at h
  · rename_i p1 p2
    injection h with h; subst h
    refine ⟨by kernel_rfl, fun b => [], Eq.mp (V_spec_PointValid p1 p2) ?_⟩
    simp only [true_and, and_true, implies_true, and_self, forall_const, true_implies, lenA, lenL, SV.lenOK, Cont.lenOK] at hn hl ⊢
    simp only [bite_and, vB]
  · cases h
def g_spec_l2Cross : List AV → Option Sg
  | [.agg [.int a1, .int a2], .agg [.int b1, .int b2], .agg [.int c1, .int c2]] => some ⟨True, [.s (.int (crW a1 a2 b1 b2 c1 c2))]⟩
  | _ => none
def sig_spec_l2Cross : FuncId → List AV → Option Sg := sigL []
def xs_spec_l2Cross : XS := ⟨xsigL [], ysigL []⟩
theorem sig_spec_l2Cross_ok : SigOK sig_spec_l2Cross := sigL_nil
theorem xs_spec_l2Cross_ok : XSigOK xs_spec_l2Cross := ⟨xsigL_nil, ysigL_nil⟩
theorem V_spec_l2Cross (a1 : Int) (a2 : Int) (b1 : Int) (b2 : Int) (c1 : Int) (c2 : Int) : ((true = true) ∧ ((True) ∧ (True) ∧ (True) ∧ (True) ∧ True) ∧ (true = true) ∧ ((True) ∧ (True) ∧ (True) ∧ (True) ∧ (True) ∧ (True) ∧ (True) ∧ (True) ∧ (True) ∧ (True) ∧ (True) ∧ (True) ∧ (True) ∧ (True) ∧ (True) ∧ (True) ∧ (True) ∧ (True) ∧ (True) ∧ (True) ∧ (True) ∧ (True) ∧ (True) ∧ (True) ∧ True) ∧ (((isub (imul (isub b1 a1) (isub c2 a2)) (imul (isub b2 a2) (isub c1 a1))) : Int) = (crW a1 a2 b1 b2 c1 c2)) ∧ True) = ev sig_spec_l2Cross xs_spec_l2Cross Try.f86.ntmps (fun b => []) (codeOf Try.f86) 0 (initS [.agg [.int a1, .int a2], .agg [.int b1, .int b2], .agg [.int c1, .int c2]]) (retK Try.f86.results.toList [.s (.int (crW a1 a2 b1 b2 c1 c2))]) := by kernel_rfl
set_option maxHeartbeats 400000 in
theorem F_spec_l2Cross : FunOK 86 g_spec_l2Cross := by
  refine fun_F (by kernel_rfl) Try.func86 rfl (by kernel_rfl) sig_spec_l2Cross_ok xs_spec_l2Cross_ok ?_
  intro avs sg h hn hl
  unfold g_spec_l2Cross at h
  split at h
  · rename_i a1 a2 b1 b2 c1 c2
    injection h with h; subst h
    refine ⟨by kernel_rfl, fun b => [], Eq.mp (V_spec_l2Cross a1 a2 b1 b2 c1 c2) ?_⟩
    simp only [true_and, and_true, implies_true, and_self, forall_const, true_implies, lenA, lenL, SV.lenOK, Cont.lenOK] at hn hl ⊢
    simp only [crW]
  · cases h
def g_spec_l2Square : List AV → Option Sg
  | [.agg [.int a1, .int a2], .agg [.int b1, .int b2]] => some ⟨vB a1 a2 = true ∧ vB b1 b2 = true, [.s (.int (sqE a1 a2 b1 b2))]⟩
  | _ => none
def sig_spec_l2Square : FuncId → List AV → Option Sg := sigL []
def xs_spec_l2Square : XS := ⟨xsigL [], ysigL []⟩
theorem sig_spec_l2Square_ok : SigOK sig_spec_l2Square := sigL_nil
theorem xs_spec_l2Square_ok : XSigOK xs_spec_l2Square := ⟨xsigL_nil, ysigL_nil⟩
theorem V_spec_l2Square (a1 : Int) (a2 : Int) (b1 : Int) (b2 : Int) : ((true = true) ∧ ((True) ∧ (True) ∧ (True) ∧ True) ∧ (true = true) ∧ ((True) ∧ (True) ∧ (True) ∧ (True) ∧ (True) ∧ (True) ∧ (True) ∧ (True) ∧ (True) ∧ (True) ∧ (True) ∧ (True) ∧ (True) ∧ (True) ∧ (True) ∧ (True) ∧ (True) ∧ (True) ∧ (True) ∧ (True) ∧ (True) ∧ (True) ∧ (True) ∧ (True) ∧ True) ∧ (((iadd (imul (isub a1 b1) (isub a1 b1)) (imul (isub a2 b2) (isub a2 b2))) : Int) = (sqE a1 a2 b1 b2)) ∧ True) = ev sig_spec_l2Square xs_spec_l2Square Try.f87.ntmps (fun b => []) (codeOf Try.f87) 0 (initS [.agg [.int a1, .int a2], .agg [.int b1, .int b2]]) (retK Try.f87.results.toList [.s (.int (sqE a1 a2 b1 b2))]) := by kernel_rfl
set_option maxHeartbeats 400000 in
theorem F_spec_l2Square : FunOK 87 g_spec_l2Square := by
  refine fun_F (by kernel_rfl) Try.func87 rfl (by kernel_rfl) sig_spec_l2Square_ok xs_spec_l2Square_ok ?_
  intro avs sg h hn hl
  unfold g_spec_l2Square at h
  split at h
  · rename_i a1 a2 b1 b2
    injection h with h; subst h
    refine ⟨by kernel_rfl, fun b => [], Eq.mp (V_spec_l2Square a1 a2 b1 b2) ?_⟩
    simp only [true_and, and_true, implies_true, and_self, forall_const, true_implies, lenA, lenL, SV.lenOK, Cont.lenOK] at hn hl ⊢
    exact (sq_v hn.1 hn.2).1
  · cases h
def g_spec_HullOf : List AV → Option Sg
  | [.s (.view (.pts l))] => some ⟨True, [.nrow 74 (.pts (hulF l))]⟩
  | _ => none
def sig_spec_HullOf : FuncId → List AV → Option Sg := sigL [(85, g_spec_PointValid), (86, g_spec_l2Cross), (87, g_spec_l2Square)]
def xs_spec_HullOf : XS := ⟨xsigL [], ysigL []⟩
theorem sig_spec_HullOf_ok : SigOK sig_spec_HullOf := sigL_cons F_spec_PointValid (sigL_cons F_spec_l2Cross (sigL_cons F_spec_l2Square sigL_nil))
theorem xs_spec_HullOf_ok : XSigOK xs_spec_HullOf := ⟨xsigL_nil, ysigL_nil⟩
theorem V_spec_HullOf (l : List Pt) : ((true = true) ∧ ((True) ∧ True) ∧ (true = true) ∧ ((True) ∧ (True) ∧ True) ∧ (true = true) ∧ ((True) ∧ (True) ∧ (True) ∧ (True) ∧ (NIs (ilt (16 : Int) (ilen l)) false → True) ∧ (NIs (ilt (16 : Int) (ilen l)) false → True) ∧ (NIs (ilt (16 : Int) (ilen l)) false → True) ∧ (True) ∧ True) ∧ ((bite (ilt (16 : Int) (ilen l)) true (ieq (ilen l) (0 : Int))) = true → ((true = true) ∧ ((True) ∧ (True) ∧ True) ∧ ((true = true) ∧ ((Cont.pts []) = (Cont.pts (hulF l)))) ∧ True)) ∧ ((bite (ilt (16 : Int) (ilen l)) true (ieq (ilen l) (0 : Int))) = false → ((true = true) ∧ ((True) ∧ (NLe 0 (0 : Int) ∧ NLt (0 : Int) (ilen l)) ∧ (True) ∧ (True) ∧ True) ∧ (True) ∧ (true = true) ∧ ((True) ∧ True) ∧ ∃ (I1 : List GV → Prop) (μ1 : List GV → Nat), (((true = true) ∧ ((((0 : Int) : Int) = (0 : Int)) ∧ ((Cont.pts l) = (Cont.pts l)) ∧ ((((getx l (0 : Int)) : Int) = (getx l (0 : Int))) ∧ (((gety l (0 : Int)) : Int) = (gety l (0 : Int))) ∧ True) ∧ (true = true) ∧ ((Cont.pts l) = (Cont.pts l)) ∧ (((ilen l) : Int) = (ilen l)) ∧ (((ilt (16 : Int) (ilen l)) : Bool) = (ilt (16 : Int) (ilen l))) ∧ (((ilt (16 : Int) (ilen l)) : Bool) = (ilt (16 : Int) (ilen l))) ∧ (((bite (ilt (16 : Int) (ilen l)) true (ieq (ilen l) (0 : Int))) : Bool) = (bite (ilt (16 : Int) (ilen l)) true (ieq (ilen l) (0 : Int)))) ∧ (true = true) ∧ (true = true) ∧ (true = true) ∧ ((Cont.pts l) = (Cont.pts l)) ∧ True) ∧ (((((getx l (0 : Int)) : Int) = (getx l (0 : Int))) ∧ (((gety l (0 : Int)) : Int) = (gety l (0 : Int))) ∧ True) ∧ ((true = true) ∧ ((Cont.pts []) = (Cont.pts []))) ∧ ((true = true) ∧ ((Cont.pts []) = (Cont.pts []))) ∧ True)) ∧ (([GK.int, GK.pts, GK.int, GK.int] : List GK) = ([GK.int, GK.pts, GK.int, GK.int] : List GK)) ∧ I1 [GV.int (0 : Int), GV.pts [], GV.int (getx l (0 : Int)), GV.int (gety l (0 : Int))]) ∧ (∀ i1_0 : Int, ∀ l1_1 : List Pt, ∀ i1_2 : Int, ∀ i1_3 : Int, I1 [GV.int i1_0, GV.pts l1_1, GV.int i1_2, GV.int i1_3] → ((true = true) ∧ ((True) ∧ (True) ∧ (True) ∧ (True) ∧ True) ∧ ((ilt i1_0 (ilen l)) = true → ((true = true) ∧ ((True) ∧ (True) ∧ (NLe 0 i1_0 ∧ NLt i1_0 (ilen l)) ∧ (True) ∧ ((True)) ∧ (True) ∧ True) ∧ ((bnot (vB (getx l i1_0) (gety l i1_0))) = true → ((true = true) ∧ ((True) ∧ (True) ∧ True) ∧ ((true = true) ∧ ((Cont.pts []) = (Cont.pts (hulF l)))) ∧ True)) ∧ ((bnot (vB (getx l i1_0) (gety l i1_0))) = false → ((true = true) ∧ ((True) ∧ (True) ∧ (NLe 0 i1_0 ∧ NLt i1_0 (ilen l)) ∧ (True) ∧ (True) ∧ (True) ∧ (True) ∧ (True) ∧ (True) ∧ (NIs (ilt (getx l i1_0) i1_2) false → True) ∧ (NIs (ilt (getx l i1_0) i1_2) false → True) ∧ (NIs (ilt (getx l i1_0) i1_2) false → (NLe 0 i1_0 ∧ NLt i1_0 (ilen l))) ∧ (NIs (ilt (getx l i1_0) i1_2) false → True) ∧ (NIs (ilt (getx l i1_0) i1_2) false → True) ∧ (NIs (ilt (getx l i1_0) i1_2) false → True) ∧ (NIs (ilt (getx l i1_0) i1_2) false → True) ∧ (NIs (ilt (getx l i1_0) i1_2) false → True) ∧ (NIs (ilt (getx l i1_0) i1_2) false → True) ∧ (NIs (ilt (getx l i1_0) i1_2) false → (NIs (ieq (getx l i1_0) i1_2) true → True)) ∧ (NIs (ilt (getx l i1_0) i1_2) false → (NIs (ieq (getx l i1_0) i1_2) true → True)) ∧ (NIs (ilt (getx l i1_0) i1_2) false → (NIs (ieq (getx l i1_0) i1_2) true → (NLe 0 i1_0 ∧ NLt i1_0 (ilen l)))) ∧ (NIs (ilt (getx l i1_0) i1_2) false → (NIs (ieq (getx l i1_0) i1_2) true → True)) ∧ (NIs (ilt (getx l i1_0) i1_2) false → (NIs (ieq (getx l i1_0) i1_2) true → True)) ∧ (NIs (ilt (getx l i1_0) i1_2) false → (NIs (ieq (getx l i1_0) i1_2) true → True)) ∧ (NIs (ilt (getx l i1_0) i1_2) false → (NIs (ieq (getx l i1_0) i1_2) true → True)) ∧ (NIs (ilt (getx l i1_0) i1_2) false → (NIs (ieq (getx l i1_0) i1_2) true → True)) ∧ (NIs (ilt (getx l i1_0) i1_2) false → True) ∧ (True) ∧ True) ∧ ((bite (ilt (getx l i1_0) i1_2) true (bite (ieq (getx l i1_0) i1_2) (ilt (gety l i1_0) i1_3) false)) = true → ((true = true) ∧ ((True) ∧ (True) ∧ (NLe 0 i1_0 ∧ NLt i1_0 (ilen l)) ∧ (True) ∧ True) ∧ (True) ∧ (true = true) ∧ ((True) ∧ (True) ∧ (True) ∧ True) ∧ ((true = true) ∧ ((((iadd i1_0 (1 : Int)) : Int) = (iadd i1_0 (1 : Int))) ∧ ((Cont.pts l) = (Cont.pts l)) ∧ ((((getx l (0 : Int)) : Int) = (getx l (0 : Int))) ∧ (((gety l (0 : Int)) : Int) = (gety l (0 : Int))) ∧ True) ∧ (true = true) ∧ ((Cont.pts l) = (Cont.pts l)) ∧ (((ilen l) : Int) = (ilen l)) ∧ (((ilt (16 : Int) (ilen l)) : Bool) = (ilt (16 : Int) (ilen l))) ∧ (((ilt (16 : Int) (ilen l)) : Bool) = (ilt (16 : Int) (ilen l))) ∧ (((bite (ilt (16 : Int) (ilen l)) true (ieq (ilen l) (0 : Int))) : Bool) = (bite (ilt (16 : Int) (ilen l)) true (ieq (ilen l) (0 : Int)))) ∧ (true = true) ∧ (true = true) ∧ (true = true) ∧ ((Cont.pts l) = (Cont.pts l)) ∧ True) ∧ (((((getx l i1_0) : Int) = (getx l i1_0)) ∧ (((gety l i1_0) : Int) = (gety l i1_0)) ∧ True) ∧ ((true = true) ∧ ((Cont.pts l1_1) = (Cont.pts l1_1))) ∧ ((true = true) ∧ ((Cont.pts []) = (Cont.pts []))) ∧ True)) ∧ ((([GK.int, GK.pts, GK.int, GK.int] : List GK) = ([GK.int, GK.pts, GK.int, GK.int] : List GK)) ∧ I1 [GV.int (iadd i1_0 (1 : Int)), GV.pts l1_1, GV.int (getx l i1_0), GV.int (gety l i1_0)] ∧ μ1 [GV.int (iadd i1_0 (1 : Int)), GV.pts l1_1, GV.int (getx l i1_0), GV.int (gety l i1_0)] < μ1 [GV.int i1_0, GV.pts l1_1, GV.int i1_2, GV.int i1_3]))) ∧ ((bite (ilt (getx l i1_0) i1_2) true (bite (ieq (getx l i1_0) i1_2) (ilt (gety l i1_0) i1_3) false)) = false → ((true = true) ∧ ((True) ∧ (True) ∧ (True) ∧ True) ∧ ((true = true) ∧ ((((iadd i1_0 (1 : Int)) : Int) = (iadd i1_0 (1 : Int))) ∧ ((Cont.pts l) = (Cont.pts l)) ∧ ((((getx l (0 : Int)) : Int) = (getx l (0 : Int))) ∧ (((gety l (0 : Int)) : Int) = (gety l (0 : Int))) ∧ True) ∧ (true = true) ∧ ((Cont.pts l) = (Cont.pts l)) ∧ (((ilen l) : Int) = (ilen l)) ∧ (((ilt (16 : Int) (ilen l)) : Bool) = (ilt (16 : Int) (ilen l))) ∧ (((ilt (16 : Int) (ilen l)) : Bool) = (ilt (16 : Int) (ilen l))) ∧ (((bite (ilt (16 : Int) (ilen l)) true (ieq (ilen l) (0 : Int))) : Bool) = (bite (ilt (16 : Int) (ilen l)) true (ieq (ilen l) (0 : Int)))) ∧ (true = true) ∧ (true = true) ∧ (true = true) ∧ ((Cont.pts l) = (Cont.pts l)) ∧ True) ∧ ((((i1_2 : Int) = i1_2) ∧ ((i1_3 : Int) = i1_3) ∧ True) ∧ ((true = true) ∧ ((Cont.pts l1_1) = (Cont.pts l1_1))) ∧ ((true = true) ∧ ((Cont.pts []) = (Cont.pts []))) ∧ True)) ∧ ((([GK.int, GK.pts, GK.int, GK.int] : List GK) = ([GK.int, GK.pts, GK.int, GK.int] : List GK)) ∧ I1 [GV.int (iadd i1_0 (1 : Int)), GV.pts l1_1, GV.int i1_2, GV.int i1_3] ∧ μ1 [GV.int (iadd i1_0 (1 : Int)), GV.pts l1_1, GV.int i1_2, GV.int i1_3] < μ1 [GV.int i1_0, GV.pts l1_1, GV.int i1_2, GV.int i1_3]))))))) ∧ ((ilt i1_0 (ilen l)) = false → ((true = true) ∧ ((True) ∧ (True) ∧ True) ∧ (True) ∧ ∃ (I2 : List GV → Prop) (μ2 : List GV → Nat), (((true = true) ∧ ((((i1_2 : Int) = i1_2) ∧ ((i1_3 : Int) = i1_3) ∧ True) ∧ (true = true) ∧ ((i1_0 : Int) = i1_0) ∧ ((Cont.pts l) = (Cont.pts l)) ∧ (((ilen l) : Int) = (ilen l)) ∧ (((ilt i1_0 (ilen l)) : Bool) = (ilt i1_0 (ilen l))) ∧ ((i1_0 : Int) = i1_0) ∧ ((Cont.pts l) = (Cont.pts l)) ∧ ((((getx l (0 : Int)) : Int) = (getx l (0 : Int))) ∧ (((gety l (0 : Int)) : Int) = (gety l (0 : Int))) ∧ True) ∧ (true = true) ∧ ((Cont.pts l) = (Cont.pts l)) ∧ (((ilen l) : Int) = (ilen l)) ∧ (((ilt (16 : Int) (ilen l)) : Bool) = (ilt (16 : Int) (ilen l))) ∧ (((ilt (16 : Int) (ilen l)) : Bool) = (ilt (16 : Int) (ilen l))) ∧ (((bite (ilt (16 : Int) (ilen l)) true (ieq (ilen l) (0 : Int))) : Bool) = (bite (ilt (16 : Int) (ilen l)) true (ieq (ilen l) (0 : Int)))) ∧ (true = true) ∧ (true = true) ∧ ((Cont.pts l) = (Cont.pts l)) ∧ True) ∧ ((((i1_2 : Int) = i1_2) ∧ ((i1_3 : Int) = i1_3) ∧ True) ∧ ((true = true) ∧ ((Cont.pts []) = (Cont.pts []))) ∧ (((i1_2 : Int) = i1_2) ∧ ((i1_3 : Int) = i1_3) ∧ True) ∧ ((true = true) ∧ ((Cont.pts l1_1) = (Cont.pts l1_1))) ∧ True)) ∧ (([GK.pts, GK.int, GK.int] : List GK) = ([GK.pts, GK.int, GK.int] : List GK)) ∧ I2 [GV.pts [], GV.int i1_2, GV.int i1_3]) ∧ (∀ l2_0 : List Pt, ∀ i2_1 : Int, ∀ i2_2 : Int, I2 [GV.pts l2_0, GV.int i2_1, GV.int i2_2] → ((true = true) ∧ ((True) ∧ (True) ∧ (True) ∧ True) ∧ (NLe (ilen l2_0) 1000000000 ∧ NLe (ilen [(i2_1, i2_2)]) 1000000000) ∧ (True) ∧ (true = true) ∧ ((True) ∧ (True) ∧ True) ∧ (True) ∧ (true = true) ∧ ((True) ∧ True) ∧ ∃ (I3 : List GV → Prop) (μ3 : List GV → Nat), (((true = true) ∧ ((((0 : Int) : Int) = (0 : Int)) ∧ (((i2_1 : Int) = i2_1) ∧ ((i2_2 : Int) = i2_2) ∧ True) ∧ (true = true) ∧ (true = true) ∧ (true = true) ∧ (((i2_1 : Int) = i2_1) ∧ ((i2_2 : Int) = i2_2) ∧ True) ∧ (true = true) ∧ (((i1_2 : Int) = i1_2) ∧ ((i1_3 : Int) = i1_3) ∧ True) ∧ (true = true) ∧ ((i1_0 : Int) = i1_0) ∧ ((Cont.pts l) = (Cont.pts l)) ∧ (((ilen l) : Int) = (ilen l)) ∧ (((ilt i1_0 (ilen l)) : Bool) = (ilt i1_0 (ilen l))) ∧ ((i1_0 : Int) = i1_0) ∧ ((Cont.pts l) = (Cont.pts l)) ∧ ((((getx l (0 : Int)) : Int) = (getx l (0 : Int))) ∧ (((gety l (0 : Int)) : Int) = (gety l (0 : Int))) ∧ True) ∧ (true = true) ∧ ((Cont.pts l) = (Cont.pts l)) ∧ (((ilen l) : Int) = (ilen l)) ∧ (((ilt (16 : Int) (ilen l)) : Bool) = (ilt (16 : Int) (ilen l))) ∧ (((ilt (16 : Int) (ilen l)) : Bool) = (ilt (16 : Int) (ilen l))) ∧ (((bite (ilt (16 : Int) (ilen l)) true (ieq (ilen l) (0 : Int))) : Bool) = (bite (ilt (16 : Int) (ilen l)) true (ieq (ilen l) (0 : Int)))) ∧ (true = true) ∧ ((Cont.pts l) = (Cont.pts l)) ∧ True) ∧ ((((i2_1 : Int) = i2_1) ∧ ((i2_2 : Int) = i2_2) ∧ True) ∧ ((true = true) ∧ ((Cont.pts (iapp l2_0 [(i2_1, i2_2)])) = (Cont.pts (iapp l2_0 [(i2_1, i2_2)])))) ∧ ((true = true) ∧ ((Cont.pts [(i2_1, i2_2)]) = (Cont.pts [(i2_1, i2_2)]))) ∧ (((i2_1 : Int) = i2_1) ∧ ((i2_2 : Int) = i2_2) ∧ True) ∧ (((i1_2 : Int) = i1_2) ∧ ((i1_3 : Int) = i1_3) ∧ True) ∧ ((true = true) ∧ ((Cont.pts l1_1) = (Cont.pts l1_1))) ∧ True)) ∧ (([GK.int, GK.int, GK.int] : List GK) = ([GK.int, GK.int, GK.int] : List GK)) ∧ I3 [GV.int (0 : Int), GV.int i2_1, GV.int i2_2]) ∧ (∀ i3_0 : Int, ∀ i3_1 : Int, ∀ i3_2 : Int, I3 [GV.int i3_0, GV.int i3_1, GV.int i3_2] → ((true = true) ∧ ((True) ∧ (True) ∧ (True) ∧ (True) ∧ True) ∧ ((ilt i3_0 (ilen l)) = true → ((true = true) ∧ ((True) ∧ (True) ∧ (NLe 0 i3_0 ∧ NLt i3_0 (ilen l)) ∧ (True) ∧ (True) ∧ (True) ∧ True) ∧ ((band (ieq (getx l i3_0) i2_1) (ieq (gety l i3_0) i2_2)) = true → ((true = true) ∧ ((True) ∧ (True) ∧ (True) ∧ True) ∧ ((true = true) ∧ ((((iadd i3_0 (1 : Int)) : Int) = (iadd i3_0 (1 : Int))) ∧ (((i2_1 : Int) = i2_1) ∧ ((i2_2 : Int) = i2_2) ∧ True) ∧ (true = true) ∧ (true = true) ∧ (true = true) ∧ (((i2_1 : Int) = i2_1) ∧ ((i2_2 : Int) = i2_2) ∧ True) ∧ (true = true) ∧ (((i1_2 : Int) = i1_2) ∧ ((i1_3 : Int) = i1_3) ∧ True) ∧ (true = true) ∧ ((i1_0 : Int) = i1_0) ∧ ((Cont.pts l) = (Cont.pts l)) ∧ (((ilen l) : Int) = (ilen l)) ∧ (((ilt i1_0 (ilen l)) : Bool) = (ilt i1_0 (ilen l))) ∧ ((i1_0 : Int) = i1_0) ∧ ((Cont.pts l) = (Cont.pts l)) ∧ ((((getx l (0 : Int)) : Int) = (getx l (0 : Int))) ∧ (((gety l (0 : Int)) : Int) = (gety l (0 : Int))) ∧ True) ∧ (true = true) ∧ ((Cont.pts l) = (Cont.pts l)) ∧ (((ilen l) : Int) = (ilen l)) ∧ (((ilt (16 : Int) (ilen l)) : Bool) = (ilt (16 : Int) (ilen l))) ∧ (((ilt (16 : Int) (ilen l)) : Bool) = (ilt (16 : Int) (ilen l))) ∧ (((bite (ilt (16 : Int) (ilen l)) true (ieq (ilen l) (0 : Int))) : Bool) = (bite (ilt (16 : Int) (ilen l)) true (ieq (ilen l) (0 : Int)))) ∧ (true = true) ∧ ((Cont.pts l) = (Cont.pts l)) ∧ True) ∧ ((((i3_1 : Int) = i3_1) ∧ ((i3_2 : Int) = i3_2) ∧ True) ∧ ((true = true) ∧ ((Cont.pts (iapp l2_0 [(i2_1, i2_2)])) = (Cont.pts (iapp l2_0 [(i2_1, i2_2)])))) ∧ ((true = true) ∧ ((Cont.pts [(i2_1, i2_2)]) = (Cont.pts [(i2_1, i2_2)]))) ∧ (((i2_1 : Int) = i2_1) ∧ ((i2_2 : Int) = i2_2) ∧ True) ∧ (((i1_2 : Int) = i1_2) ∧ ((i1_3 : Int) = i1_3) ∧ True) ∧ ((true = true) ∧ ((Cont.pts l1_1) = (Cont.pts l1_1))) ∧ True)) ∧ ((([GK.int, GK.int, GK.int] : List GK) = ([GK.int, GK.int, GK.int] : List GK)) ∧ I3 [GV.int (iadd i3_0 (1 : Int)), GV.int i3_1, GV.int i3_2] ∧ μ3 [GV.int (iadd i3_0 (1 : Int)), GV.int i3_1, GV.int i3_2] < μ3 [GV.int i3_0, GV.int i3_1, GV.int i3_2]))) ∧ ((band (ieq (getx l i3_0) i2_1) (ieq (gety l i3_0) i2_2)) = false → ((true = true) ∧ ((True) ∧ (True) ∧ (True) ∧ (True) ∧ (NLe 0 i3_0 ∧ NLt i3_0 (ilen l)) ∧ (True) ∧ ((True)) ∧ (True) ∧ True) ∧ (true = true) ∧ ((True) ∧ (True) ∧ (True) ∧ (True) ∧ (NIs (band (ieq i3_1 i2_1) (ieq i3_2 i2_2)) false → True) ∧ (NIs (band (ieq i3_1 i2_1) (ieq i3_2 i2_2)) false → True) ∧ (True) ∧ (True) ∧ (NIs (bite (band (ieq i3_1 i2_1) (ieq i3_2 i2_2)) true (ilt (crW i2_1 i2_2 i3_1 i3_2 (getx l i3_0) (gety l i3_0)) (0 : Int))) false → True) ∧ (NIs (bite (band (ieq i3_1 i2_1) (ieq i3_2 i2_2)) true (ilt (crW i2_1 i2_2 i3_1 i3_2 (getx l i3_0) (gety l i3_0)) (0 : Int))) false → True) ∧ (NIs (bite (band (ieq i3_1 i2_1) (ieq i3_2 i2_2)) true (ilt (crW i2_1 i2_2 i3_1 i3_2 (getx l i3_0) (gety l i3_0)) (0 : Int))) false → True) ∧ (NIs (bite (band (ieq i3_1 i2_1) (ieq i3_2 i2_2)) true (ilt (crW i2_1 i2_2 i3_1 i3_2 (getx l i3_0) (gety l i3_0)) (0 : Int))) false → (NIs (ieq (crW i2_1 i2_2 i3_1 i3_2 (getx l i3_0) (gety l i3_0)) (0 : Int)) true → True)) ∧ (NIs (bite (band (ieq i3_1 i2_1) (ieq i3_2 i2_2)) true (ilt (crW i2_1 i2_2 i3_1 i3_2 (getx l i3_0) (gety l i3_0)) (0 : Int))) false → (NIs (ieq (crW i2_1 i2_2 i3_1 i3_2 (getx l i3_0) (gety l i3_0)) (0 : Int)) true → True)) ∧ (NIs (bite (band (ieq i3_1 i2_1) (ieq i3_2 i2_2)) true (ilt (crW i2_1 i2_2 i3_1 i3_2 (getx l i3_0) (gety l i3_0)) (0 : Int))) false → (NIs (ieq (crW i2_1 i2_2 i3_1 i3_2 (getx l i3_0) (gety l i3_0)) (0 : Int)) true → True)) ∧ (NIs (bite (band (ieq i3_1 i2_1) (ieq i3_2 i2_2)) true (ilt (crW i2_1 i2_2 i3_1 i3_2 (getx l i3_0) (gety l i3_0)) (0 : Int))) false → (NIs (ieq (crW i2_1 i2_2 i3_1 i3_2 (getx l i3_0) (gety l i3_0)) (0 : Int)) true → (NLe 0 i3_0 ∧ NLt i3_0 (ilen l)))) ∧ (NIs (bite (band (ieq i3_1 i2_1) (ieq i3_2 i2_2)) true (ilt (crW i2_1 i2_2 i3_1 i3_2 (getx l i3_0) (gety l i3_0)) (0 : Int))) false → (NIs (ieq (crW i2_1 i2_2 i3_1 i3_2 (getx l i3_0) (gety l i3_0)) (0 : Int)) true → True)) ∧ (NIs (bite (band (ieq i3_1 i2_1) (ieq i3_2 i2_2)) true (ilt (crW i2_1 i2_2 i3_1 i3_2 (getx l i3_0) (gety l i3_0)) (0 : Int))) false → (NIs (ieq (crW i2_1 i2_2 i3_1 i3_2 (getx l i3_0) (gety l i3_0)) (0 : Int)) true → ((vB i2_1 i2_2 = true ∧ vB (getx l i3_0) (gety l i3_0) = true)))) ∧ (NIs (bite (band (ieq i3_1 i2_1) (ieq i3_2 i2_2)) true (ilt (crW i2_1 i2_2 i3_1 i3_2 (getx l i3_0) (gety l i3_0)) (0 : Int))) false → (NIs (ieq (crW i2_1 i2_2 i3_1 i3_2 (getx l i3_0) (gety l i3_0)) (0 : Int)) true → True)) ∧ (NIs (bite (band (ieq i3_1 i2_1) (ieq i3_2 i2_2)) true (ilt (crW i2_1 i2_2 i3_1 i3_2 (getx l i3_0) (gety l i3_0)) (0 : Int))) false → (NIs (ieq (crW i2_1 i2_2 i3_1 i3_2 (getx l i3_0) (gety l i3_0)) (0 : Int)) true → True)) ∧ (NIs (bite (band (ieq i3_1 i2_1) (ieq i3_2 i2_2)) true (ilt (crW i2_1 i2_2 i3_1 i3_2 (getx l i3_0) (gety l i3_0)) (0 : Int))) false → (NIs (ieq (crW i2_1 i2_2 i3_1 i3_2 (getx l i3_0) (gety l i3_0)) (0 : Int)) true → ((vB i2_1 i2_2 = true ∧ vB i3_1 i3_2 = true)))) ∧ (NIs (bite (band (ieq i3_1 i2_1) (ieq i3_2 i2_2)) true (ilt (crW i2_1 i2_2 i3_1 i3_2 (getx l i3_0) (gety l i3_0)) (0 : Int))) false → (NIs (ieq (crW i2_1 i2_2 i3_1 i3_2 (getx l i3_0) (gety l i3_0)) (0 : Int)) true → True)) ∧ (NIs (bite (band (ieq i3_1 i2_1) (ieq i3_2 i2_2)) true (ilt (crW i2_1 i2_2 i3_1 i3_2 (getx l i3_0) (gety l i3_0)) (0 : Int))) false → True) ∧ (True) ∧ True) ∧ ((bite (bite (band (ieq i3_1 i2_1) (ieq i3_2 i2_2)) true (ilt (crW i2_1 i2_2 i3_1 i3_2 (getx l i3_0) (gety l i3_0)) (0 : Int))) true (bite (ieq (crW i2_1 i2_2 i3_1 i3_2 (getx l i3_0) (gety l i3_0)) (0 : Int)) (ilt (sqE i2_1 i2_2 i3_1 i3_2) (sqE i2_1 i2_2 (getx l i3_0) (gety l i3_0))) false)) = true → ((true = true) ∧ ((True) ∧ (True) ∧ (NLe 0 i3_0 ∧ NLt i3_0 (ilen l)) ∧ (True) ∧ True) ∧ (True) ∧ (true = true) ∧ ((True) ∧ (True) ∧ (True) ∧ True) ∧ ((true = true) ∧ ((((iadd i3_0 (1 : Int)) : Int) = (iadd i3_0 (1 : Int))) ∧ (((i2_1 : Int) = i2_1) ∧ ((i2_2 : Int) = i2_2) ∧ True) ∧ (true = true) ∧ (true = true) ∧ (true = true) ∧ (((i2_1 : Int) = i2_1) ∧ ((i2_2 : Int) = i2_2) ∧ True) ∧ (true = true) ∧ (((i1_2 : Int) = i1_2) ∧ ((i1_3 : Int) = i1_3) ∧ True) ∧ (true = true) ∧ ((i1_0 : Int) = i1_0) ∧ ((Cont.pts l) = (Cont.pts l)) ∧ (((ilen l) : Int) = (ilen l)) ∧ (((ilt i1_0 (ilen l)) : Bool) = (ilt i1_0 (ilen l))) ∧ ((i1_0 : Int) = i1_0) ∧ ((Cont.pts l) = (Cont.pts l)) ∧ ((((getx l (0 : Int)) : Int) = (getx l (0 : Int))) ∧ (((gety l (0 : Int)) : Int) = (gety l (0 : Int))) ∧ True) ∧ (true = true) ∧ ((Cont.pts l) = (Cont.pts l)) ∧ (((ilen l) : Int) = (ilen l)) ∧ (((ilt (16 : Int) (ilen l)) : Bool) = (ilt (16 : Int) (ilen l))) ∧ (((ilt (16 : Int) (ilen l)) : Bool) = (ilt (16 : Int) (ilen l))) ∧ (((bite (ilt (16 : Int) (ilen l)) true (ieq (ilen l) (0 : Int))) : Bool) = (bite (ilt (16 : Int) (ilen l)) true (ieq (ilen l) (0 : Int)))) ∧ (true = true) ∧ ((Cont.pts l) = (Cont.pts l)) ∧ True) ∧ (((((getx l i3_0) : Int) = (getx l i3_0)) ∧ (((gety l i3_0) : Int) = (gety l i3_0)) ∧ True) ∧ ((true = true) ∧ ((Cont.pts (iapp l2_0 [(i2_1, i2_2)])) = (Cont.pts (iapp l2_0 [(i2_1, i2_2)])))) ∧ ((true = true) ∧ ((Cont.pts [(i2_1, i2_2)]) = (Cont.pts [(i2_1, i2_2)]))) ∧ (((i2_1 : Int) = i2_1) ∧ ((i2_2 : Int) = i2_2) ∧ True) ∧ (((i1_2 : Int) = i1_2) ∧ ((i1_3 : Int) = i1_3) ∧ True) ∧ ((true = true) ∧ ((Cont.pts l1_1) = (Cont.pts l1_1))) ∧ True)) ∧ ((([GK.int, GK.int, GK.int] : List GK) = ([GK.int, GK.int, GK.int] : List GK)) ∧ I3 [GV.int (iadd i3_0 (1 : Int)), GV.int (getx l i3_0), GV.int (gety l i3_0)] ∧ μ3 [GV.int (iadd i3_0 (1 : Int)), GV.int (getx l i3_0), GV.int (gety l i3_0)] < μ3 [GV.int i3_0, GV.int i3_1, GV.int i3_2]))) ∧ ((bite (bite (band (ieq i3_1 i2_1) (ieq i3_2 i2_2)) true (ilt (crW i2_1 i2_2 i3_1 i3_2 (getx l i3_0) (gety l i3_0)) (0 : Int))) true (bite (ieq (crW i2_1 i2_2 i3_1 i3_2 (getx l i3_0) (gety l i3_0)) (0 : Int)) (ilt (sqE i2_1 i2_2 i3_1 i3_2) (sqE i2_1 i2_2 (getx l i3_0) (gety l i3_0))) false)) = false → ((true = true) ∧ ((True) ∧ (True) ∧ (True) ∧ True) ∧ ((true = true) ∧ ((((iadd i3_0 (1 : Int)) : Int) = (iadd i3_0 (1 : Int))) ∧ (((i2_1 : Int) = i2_1) ∧ ((i2_2 : Int) = i2_2) ∧ True) ∧ (true = true) ∧ (true = true) ∧ (true = true) ∧ (((i2_1 : Int) = i2_1) ∧ ((i2_2 : Int) = i2_2) ∧ True) ∧ (true = true) ∧ (((i1_2 : Int) = i1_2) ∧ ((i1_3 : Int) = i1_3) ∧ True) ∧ (true = true) ∧ ((i1_0 : Int) = i1_0) ∧ ((Cont.pts l) = (Cont.pts l)) ∧ (((ilen l) : Int) = (ilen l)) ∧ (((ilt i1_0 (ilen l)) : Bool) = (ilt i1_0 (ilen l))) ∧ ((i1_0 : Int) = i1_0) ∧ ((Cont.pts l) = (Cont.pts l)) ∧ ((((getx l (0 : Int)) : Int) = (getx l (0 : Int))) ∧ (((gety l (0 : Int)) : Int) = (gety l (0 : Int))) ∧ True) ∧ (true = true) ∧ ((Cont.pts l) = (Cont.pts l)) ∧ (((ilen l) : Int) = (ilen l)) ∧ (((ilt (16 : Int) (ilen l)) : Bool) = (ilt (16 : Int) (ilen l))) ∧ (((ilt (16 : Int) (ilen l)) : Bool) = (ilt (16 : Int) (ilen l))) ∧ (((bite (ilt (16 : Int) (ilen l)) true (ieq (ilen l) (0 : Int))) : Bool) = (bite (ilt (16 : Int) (ilen l)) true (ieq (ilen l) (0 : Int)))) ∧ (true = true) ∧ ((Cont.pts l) = (Cont.pts l)) ∧ True) ∧ ((((i3_1 : Int) = i3_1) ∧ ((i3_2 : Int) = i3_2) ∧ True) ∧ ((true = true) ∧ ((Cont.pts (iapp l2_0 [(i2_1, i2_2)])) = (Cont.pts (iapp l2_0 [(i2_1, i2_2)])))) ∧ ((true = true) ∧ ((Cont.pts [(i2_1, i2_2)]) = (Cont.pts [(i2_1, i2_2)]))) ∧ (((i2_1 : Int) = i2_1) ∧ ((i2_2 : Int) = i2_2) ∧ True) ∧ (((i1_2 : Int) = i1_2) ∧ ((i1_3 : Int) = i1_3) ∧ True) ∧ ((true = true) ∧ ((Cont.pts l1_1) = (Cont.pts l1_1))) ∧ True)) ∧ ((([GK.int, GK.int, GK.int] : List GK) = ([GK.int, GK.int, GK.int] : List GK)) ∧ I3 [GV.int (iadd i3_0 (1 : Int)), GV.int i3_1, GV.int i3_2] ∧ μ3 [GV.int (iadd i3_0 (1 : Int)), GV.int i3_1, GV.int i3_2] < μ3 [GV.int i3_0, GV.int i3_1, GV.int i3_2]))))))) ∧ ((ilt i3_0 (ilen l)) = false → ((true = true) ∧ ((True) ∧ (True) ∧ (True) ∧ (True) ∧ (NIs (band (ieq i3_1 i1_2) (ieq i3_2 i1_3)) false → True) ∧ (NIs (band (ieq i3_1 i1_2) (ieq i3_2 i1_3)) false → True) ∧ (NIs (band (ieq i3_1 i1_2) (ieq i3_2 i1_3)) false → True) ∧ (True) ∧ (True) ∧ (NIs (bite (band (ieq i3_1 i1_2) (ieq i3_2 i1_3)) true (band (ieq i3_1 i2_1) (ieq i3_2 i2_2))) false → True) ∧ (NIs (bite (band (ieq i3_1 i1_2) (ieq i3_2 i1_3)) true (band (ieq i3_1 i2_1) (ieq i3_2 i2_2))) false → True) ∧ (NIs (bite (band (ieq i3_1 i1_2) (ieq i3_2 i1_3)) true (band (ieq i3_1 i2_1) (ieq i3_2 i2_2))) false → True) ∧ (True) ∧ True) ∧ ((bite (bite (band (ieq i3_1 i1_2) (ieq i3_2 i1_3)) true (band (ieq i3_1 i2_1) (ieq i3_2 i2_2))) true (ilt (16 : Int) (ilen (iapp l2_0 [(i2_1, i2_2)])))) = true → ((true = true) ∧ ((True) ∧ (True) ∧ (True) ∧ True) ∧ ((ilt (ilen (iapp l2_0 [(i2_1, i2_2)])) (3 : Int)) = true → ((true = true) ∧ ((True) ∧ (True) ∧ True) ∧ ((true = true) ∧ ((Cont.pts []) = (Cont.pts (hulF l)))) ∧ True)) ∧ ((ilt (ilen (iapp l2_0 [(i2_1, i2_2)])) (3 : Int)) = false → ((true = true) ∧ ((True) ∧ (True) ∧ True) ∧ ((true = true) ∧ ((Cont.pts (iapp l2_0 [(i2_1, i2_2)])) = (Cont.pts (hulF l)))) ∧ True)))) ∧ ((bite (bite (band (ieq i3_1 i1_2) (ieq i3_2 i1_3)) true (band (ieq i3_1 i2_1) (ieq i3_2 i2_2))) true (ilt (16 : Int) (ilen (iapp l2_0 [(i2_1, i2_2)])))) = false → ((true = true) ∧ ((True) ∧ True) ∧ (True) ∧ ((true = true) ∧ ((((i1_2 : Int) = i1_2) ∧ ((i1_3 : Int) = i1_3) ∧ True) ∧ (true = true) ∧ ((i1_0 : Int) = i1_0) ∧ ((Cont.pts l) = (Cont.pts l)) ∧ (((ilen l) : Int) = (ilen l)) ∧ (((ilt i1_0 (ilen l)) : Bool) = (ilt i1_0 (ilen l))) ∧ ((i1_0 : Int) = i1_0) ∧ ((Cont.pts l) = (Cont.pts l)) ∧ ((((getx l (0 : Int)) : Int) = (getx l (0 : Int))) ∧ (((gety l (0 : Int)) : Int) = (gety l (0 : Int))) ∧ True) ∧ (true = true) ∧ ((Cont.pts l) = (Cont.pts l)) ∧ (((ilen l) : Int) = (ilen l)) ∧ (((ilt (16 : Int) (ilen l)) : Bool) = (ilt (16 : Int) (ilen l))) ∧ (((ilt (16 : Int) (ilen l)) : Bool) = (ilt (16 : Int) (ilen l))) ∧ (((bite (ilt (16 : Int) (ilen l)) true (ieq (ilen l) (0 : Int))) : Bool) = (bite (ilt (16 : Int) (ilen l)) true (ieq (ilen l) (0 : Int)))) ∧ (true = true) ∧ (true = true) ∧ ((Cont.pts l) = (Cont.pts l)) ∧ True) ∧ ((((i3_1 : Int) = i3_1) ∧ ((i3_2 : Int) = i3_2) ∧ True) ∧ ((true = true) ∧ ((Cont.pts (iapp l2_0 [(i2_1, i2_2)])) = (Cont.pts (iapp l2_0 [(i2_1, i2_2)])))) ∧ (((i1_2 : Int) = i1_2) ∧ ((i1_3 : Int) = i1_3) ∧ True) ∧ ((true = true) ∧ ((Cont.pts l1_1) = (Cont.pts l1_1))) ∧ True)) ∧ ((([GK.pts, GK.int, GK.int] : List GK) = ([GK.pts, GK.int, GK.int] : List GK)) ∧ I2 [GV.pts (iapp l2_0 [(i2_1, i2_2)]), GV.int i3_1, GV.int i3_2] ∧ μ2 [GV.pts (iapp l2_0 [(i2_1, i2_2)]), GV.int i3_1, GV.int i3_2] < μ2 [GV.pts l2_0, GV.int i2_1, GV.int i2_2])))))))))))))))) = ev sig_spec_HullOf xs_spec_HullOf Try.f44.ntmps (fun b => if b == 0 then [.v 5, .b 2, .b 4] else if b == 2 then [.b 3, .b 4] else if b == 4 then [.v 8, .b 7] else []) (codeOf Try.f44) 0 (initS [.s (.view (.pts l))]) (retK Try.f44.results.toList [.nrow 74 (.pts (hulF l))]) := by kernel_rfl
set_option maxHeartbeats 400000 in
theorem F_spec_HullOf : FunOK 44 g_spec_HullOf := by
  refine fun_F (by kernel_rfl) Try.func44 rfl (by kernel_rfl) sig_spec_HullOf_ok xs_spec_HullOf_ok ?_
  intro avs sg h hn hl
  unfold g_spec_HullOf at h
  split at h
  · rename_i l
    injection h with h; subst h
    refine ⟨by kernel_rfl, fun b => if b == 0 then [.v 5, .b 2, .b 4] else if b == 2 then [.b 3, .b 4] else if b == 4 then [.v 8, .b 7] else [], Eq.mp (V_spec_HullOf l) ?_⟩
    simp only [true_and, and_true, implies_true, and_self, forall_const, true_implies, lenA, lenL, SV.lenOK, Cont.lenOK] at hn hl ⊢
    have h0 := ilen_0 l
    have hll : ilen l = (l.length : Int) := ilen_nat l
    simp only [ilt_t, ilt_f, ile_t, ile_f, ieq_t, ieq_f, bnot_e, band_e, bite_and, bite_or, NLt_e, NLe_e, NNe_e, NIs_e, imax_e, imin_e, irem_e, Bool.not_eq_true', Bool.not_eq_false', Bool.and_eq_true, Bool.or_eq_true, Bool.or_eq_false_iff, Bool.and_eq_false_iff, Cont.pts.injEq, Cont.ints.injEq, Cont.bools.injEq, Cont.ptss.injEq, Cont.intss.injEq, Cont.boolss.injEq, true_and, and_true, implies_true]
    refine ⟨fun h => ?_, fun ⟨h16, hne⟩ => ⟨⟨by omega, by omega⟩, ?_⟩⟩
    · unfold hulF
      rcases h with h | h
      · rw [if_neg (by omega)]
      · have : l = [] := List.eq_nil_of_length_eq_zero (by omega)
        subst this
        split <;> rfl
    have hp0 : gp l 0 ∈ l := gp_mem (by omega) (by omega)
    refine ⟨fun | [.int k, .pts _, .int x, .int y] => 0 ≤ k ∧ k ≤ ilen l ∧ (x, y) ∈ l ∧ ∀ j, 0 ≤ j → j < k → vB (getx l j) (gety l j) = true ∧ Pl.lexLe (x, y) (gp l j) | _ => False, fun | .int k :: _ => (ilen l - k).toNat | _ => 0, ⟨by omega, by omega, hp0, fun j a b => by omega⟩, ?_⟩
    rintro k m x y ⟨k0, k1, hm, hv⟩
    refine ⟨fun hk => ?_, fun hk => ?_⟩
    · have e1 : iadd k 1 = k + 1 := iadd_e (by omega) (by omega)
      have hg : gp l k ∈ l := gp_mem k0 hk
      have hmu : (ilen l - (k + 1)).toNat < (ilen l - k).toNat := by omega
      rw [e1]
      refine ⟨⟨k0, hk⟩, fun hf => ?_, fun hvk => ⟨⟨⟨k0, hk⟩, fun _ => ⟨k0, hk⟩, fun _ _ => ⟨k0, hk⟩⟩, fun hlt => ⟨⟨k0, hk⟩, ⟨by omega, by omega, hg, fun j a b => ?_⟩, hmu⟩, fun hge => ⟨⟨by omega, by omega, hm, fun j a b => ?_⟩, hmu⟩⟩⟩
      · unfold hulF
        rw [if_neg]
        rintro ⟨_, h⟩
        have h2 : vB (getx l k) (gety l k) = true := allB_mem h hg
        rw [hf] at h2; cases h2
      · by_cases e : j = k
        · subst e; exact ⟨hvk, Pl.lexLe.refl _⟩
        · obtain ⟨v1, v2⟩ := hv j a (by omega)
          refine ⟨v1, Pl.lexLe.trans ?_ v2⟩
          unfold Pl.lexLe; simp only; omega
      · by_cases e : j = k
        · subst e
          refine ⟨hvk, ?_⟩
          unfold Pl.lexLe gp; simp only; omega
        · exact hv j a (by omega)
    have hk' : k = ilen l := by omega
    subst hk'
    have hA : allB l = true := by rw [allB_N]; exact allN_mk fun j a b => (hv j a b).1
    have hmin : ∀ q ∈ l, Pl.lexLe (x, y) q := fun q hq => by
      obtain ⟨i, hi, rfl⟩ := List.mem_iff_getElem.1 hq
      have := (hv i (by omega) (by omega)).2
      rwa [gp_get hi] at this
    have hG := Pl.gift_G hm hmin (by omega)
    have hF : hulF l = if (Pl.gift (x, y) l 17 (x, y) []).length < 3 then [] else Pl.gift (x, y) l 17 (x, y) [] := by unfold hulF; rw [if_pos ⟨h16, hA⟩, hG]
    rw [hF]
    clear hF hG hv
    refine ⟨fun | [.pts o, .int a, .int b] => (a, b) ∈ l ∧ o.length ≤ 16 ∧ Pl.gift (x, y) l 17 (x, y) [] = Pl.gift (x, y) l (17 - o.length) (a, b) o | _ => False, fun | .pts o :: _ => 20 - o.length | _ => 0, ⟨hm, by simp, rfl⟩, ?_⟩
    rintro o a b ⟨hab, ho, hgo⟩
    have hlo : ilen o = (o.length : Int) := ilen_nat o
    have hvab := allB_mem hA hab
    refine ⟨⟨by omega, by rw [ilen_one]; omega⟩, ?_⟩
    have hio : ilen (iapp o [(a, b)]) = (o.length : Int) + 1 := by rw [ilen_app, ilen_one]; omega
    have hapl : iapp o [(a, b)] = o ++ [(a, b)] := by unfold iapp; rfl
    refine ⟨fun | [.int k, .int c, .int d] => 0 ≤ k ∧ k ≤ ilen l ∧ (c, d) = selK l (a, b) k.toNat | _ => False, fun | .int k :: _ => (ilen l - k).toNat | _ => 0, ⟨by omega, by omega, rfl⟩, ?_⟩
    rintro k c d ⟨k0, k1, hcd⟩
    have hcl : (c, d) ∈ l := by rw [hcd]; exact selK_mem hab _ (by omega)
    have hvc := allB_mem hA hcl
    refine ⟨fun hk => ?_, fun hk => ?_⟩
    · obtain ⟨n, rfl⟩ := Int.eq_ofNat_of_zero_le k0
      have hn : n < l.length := by omega
      have hS := selK_s (h := (a, b)) hn
      rw [show ((n : Int)).toNat = n by omega] at hcd
      rw [← hcd] at hS
      have hpl : gp l n ∈ l := by rw [gp_get hn]; exact List.getElem_mem hn
      have hp := allB_mem hA hpl
      have ex : getx l (n : Int) = (gp l n).1 := rfl
      have ey : gety l (n : Int) = (gp l n).2 := rfl
      have e1 : iadd (n : Int) 1 = (n : Int) + 1 := iadd_e (by omega) (by omega)
      rw [e1, ex, ey]
      generalize gp l n = p at *
      obtain ⟨p1, p2⟩ := p
      rw [crW_e hvab hvc hp]
      have step : ∀ z1 z2 : Int, (z1, z2) = selK l (a, b) (n + 1) → (0 ≤ (n : Int) + 1 ∧ (n : Int) + 1 ≤ ilen l ∧ (z1, z2) = selK l (a, b) ((n : Int) + 1).toNat) ∧ (ilen l - ((n : Int) + 1)).toNat < (ilen l - (n : Int)).toNat := fun z1 z2 hz => ⟨⟨by omega, by omega, by rw [hz]; rfl⟩, by omega⟩
      refine ⟨⟨k0, hk⟩, fun he => step c d ?_, fun hne => ⟨⟨k0, hk⟩, ⟨fun _ _ => ⟨k0, hk⟩, fun _ _ => ⟨hvab, hp⟩, fun _ _ => ⟨hvab, hvc⟩⟩, fun h => ⟨⟨k0, hk⟩, step p1 p2 ?_⟩, fun h => step c d ?_⟩⟩
      · rw [hS, if_pos (Prod.ext he.1 he.2)]
      · rw [hS, if_neg (pne hne), if_pos]
        rcases h with (h | h) | h
        · exact .inl (Prod.ext h.1 h.2)
        · exact .inr (.inl h)
        · exact .inr (.inr h)
      · rw [hS, if_neg (pne hne), if_neg]
        rintro (e | e | e)
        · exact pne h.1.1 e
        · have h3 : 0 ≤ crs (a, b) (c, d) (p1, p2) := h.1.2
          omega
        · have h2 := h.2
          have e2 : sqE a b c d < sqE a b p1 p2 := e.2
          rcases h2 with h2 | h2
          · exact h2 e.1
          · have h3 : sqE a b p1 p2 ≤ sqE a b c d := h2
            omega
    · have hk' : k = ilen l := by omega
      subst hk'
      rw [hll, show ((l.length : Int)).toNat = l.length by omega, selK_all] at hcd
      have hun : Pl.gift (x, y) l (17 - o.length) (a, b) o = if Pl.selN (a, b) l = (x, y) ∨ Pl.selN (a, b) l = (a, b) ∨ 16 < (o ++ [(a, b)]).length then o ++ [(a, b)] else Pl.gift (x, y) l (16 - o.length) (Pl.selN (a, b) l) (o ++ [(a, b)]) := by
        rw [show 17 - o.length = (16 - o.length) + 1 by omega]; rfl
      rw [← hcd] at hun
      have hl2 : (o ++ [(a, b)]).length = o.length + 1 := by simp
      rw [hgo, hun, hl2, hio, hapl]
      have hiff : (((c = x ∧ d = y) ∨ (c = a ∧ d = b)) ∨ 16 < (o.length : Int) + 1) ↔ ((c, d) = (x, y) ∨ (c, d) = (a, b) ∨ 16 < o.length + 1) := by
        constructor
        · rintro ((h | h) | h)
          · exact .inl (Prod.ext h.1 h.2)
          · exact .inr (.inl (Prod.ext h.1 h.2))
          · exact .inr (.inr (by omega))
        · rintro (h | h | h)
          · exact .inl (.inl ⟨congrArg Prod.fst h, congrArg Prod.snd h⟩)
          · exact .inl (.inr ⟨congrArg Prod.fst h, congrArg Prod.snd h⟩)
          · exact .inr (by omega)
      refine ⟨fun h => ?_, fun ⟨⟨h1, h2⟩, h3⟩ => ⟨⟨hcl, by rw [hl2]; omega, ?_⟩, by show 20 - (o ++ [(a, b)]).length < 20 - o.length; rw [hl2]; omega⟩⟩
      · rw [if_pos (hiff.1 h), hl2]
        exact ⟨fun h3 => by rw [if_pos (by omega)], fun h3 => by rw [if_neg (by omega)]⟩
      · rw [if_neg, hl2, show 17 - (o.length + 1) = 16 - o.length by omega]
        rintro (e | e | e)
        · exact pne h1 e
        · exact pne h2 e
        · omega
  · cases h
def eqPt (p1 p2 q1 q2 : Int) : Bool := decide (p1 = q1) && decide (p2 = q2)
theorem eqPt_same (p q : Int) : eqPt p q p q = true := by simp [eqPt]
def eqL (l m : List Pt) : Bool := decide (ilen l = ilen m) && allN (ilen l) fun j => eqPt (getx l j) (gety l j) (getx m j) (gety m j)
theorem eqL_same (l : List Pt) : eqL l l = true := by
  unfold eqL
  rw [allN_mk fun j _ _ => eqPt_same _ _]
  simp
def g_laws_samePoints : List AV → Option Sg
  | [.s (.view (.pts l)), .s (.view (.pts m))] => some ⟨True, [.s (.bool (eqL l m))]⟩
  | _ => none
def sig_laws_samePoints : FuncId → List AV → Option Sg := sigL []
def xs_laws_samePoints : XS := ⟨xsigL [], ysigL []⟩
theorem sig_laws_samePoints_ok : SigOK sig_laws_samePoints := sigL_nil
theorem xs_laws_samePoints_ok : XSigOK xs_laws_samePoints := ⟨xsigL_nil, ysigL_nil⟩
theorem V_laws_samePoints (l : List Pt) (m : List Pt) : ((true = true) ∧ ((True) ∧ True) ∧ (true = true) ∧ ((True) ∧ (True) ∧ (True) ∧ (True) ∧ (True) ∧ True) ∧ ((bnot (ieq (ilen l) (ilen m))) = true → ((true = true) ∧ ((True) ∧ True) ∧ ((false : Bool) = (eqL l m)) ∧ True)) ∧ ((bnot (ieq (ilen l) (ilen m))) = false → ((true = true) ∧ ((True) ∧ True) ∧ ∃ (I1 : List GV → Prop) (μ1 : List GV → Nat), (((true = true) ∧ (((false : Bool) = false) ∧ (((0 : Int) : Int) = (0 : Int)) ∧ ((Cont.pts l) = (Cont.pts l)) ∧ (((ilen l) : Int) = (ilen l)) ∧ ((Cont.pts m) = (Cont.pts m)) ∧ (((ilen m) : Int) = (ilen m)) ∧ (((bnot (ieq (ilen l) (ilen m))) : Bool) = (bnot (ieq (ilen l) (ilen m)))) ∧ ((Cont.pts l) = (Cont.pts l)) ∧ ((Cont.pts m) = (Cont.pts m)) ∧ True) ∧ (True)) ∧ (([GK.int, GK.bool] : List GK) = ([GK.int, GK.bool] : List GK)) ∧ I1 [GV.int (0 : Int), GV.bool false]) ∧ (∀ i1_0 : Int, ∀ b1_1 : Bool, I1 [GV.int i1_0, GV.bool b1_1] → ((true = true) ∧ ((True) ∧ (True) ∧ (True) ∧ (True) ∧ True) ∧ ((ilt i1_0 (ilen l)) = true → ((true = true) ∧ ((True) ∧ (True) ∧ (NLe 0 i1_0 ∧ NLt i1_0 (ilen l)) ∧ (True) ∧ (True) ∧ (True) ∧ (NLe 0 i1_0 ∧ NLt i1_0 (ilen m)) ∧ (True) ∧ (True) ∧ True) ∧ ((bnot (band (ieq (getx l i1_0) (getx m i1_0)) (ieq (gety l i1_0) (gety m i1_0)))) = true → ((true = true) ∧ ((True) ∧ True) ∧ ((false : Bool) = (eqL l m)) ∧ True)) ∧ ((bnot (band (ieq (getx l i1_0) (getx m i1_0)) (ieq (gety l i1_0) (gety m i1_0)))) = false → ((true = true) ∧ ((True) ∧ (True) ∧ (True) ∧ True) ∧ ((true = true) ∧ (((b1_1 : Bool) = b1_1) ∧ (((iadd i1_0 (1 : Int)) : Int) = (iadd i1_0 (1 : Int))) ∧ ((Cont.pts l) = (Cont.pts l)) ∧ (((ilen l) : Int) = (ilen l)) ∧ ((Cont.pts m) = (Cont.pts m)) ∧ (((ilen m) : Int) = (ilen m)) ∧ (((bnot (ieq (ilen l) (ilen m))) : Bool) = (bnot (ieq (ilen l) (ilen m)))) ∧ ((Cont.pts l) = (Cont.pts l)) ∧ ((Cont.pts m) = (Cont.pts m)) ∧ True) ∧ (True)) ∧ ((([GK.int, GK.bool] : List GK) = ([GK.int, GK.bool] : List GK)) ∧ I1 [GV.int (iadd i1_0 (1 : Int)), GV.bool b1_1] ∧ μ1 [GV.int (iadd i1_0 (1 : Int)), GV.bool b1_1] < μ1 [GV.int i1_0, GV.bool b1_1]))))) ∧ ((ilt i1_0 (ilen l)) = false → ((true = true) ∧ ((True) ∧ True) ∧ ((true : Bool) = (eqL l m)) ∧ True))))))) = ev sig_laws_samePoints xs_laws_samePoints Try.f51.ntmps (fun b => if b == 0 then [.v 5, .v 4] else []) (codeOf Try.f51) 0 (initS [.s (.view (.pts l)), .s (.view (.pts m))]) (retK Try.f51.results.toList [.s (.bool (eqL l m))]) := by kernel_rfl
set_option maxHeartbeats 400000 in
theorem F_laws_samePoints : FunOK 51 g_laws_samePoints := by
  refine fun_F (by kernel_rfl) Try.func51 rfl (by kernel_rfl) sig_laws_samePoints_ok xs_laws_samePoints_ok ?_
  intro avs sg h hn hl
  unfold g_laws_samePoints at h
  split at h
  · rename_i l m
    injection h with h; subst h
    refine ⟨by kernel_rfl, fun b => if b == 0 then [.v 5, .v 4] else [], Eq.mp (V_laws_samePoints l m) ?_⟩
    simp only [true_and, and_true, implies_true, and_self, forall_const, true_implies, lenA, lenL, SV.lenOK, Cont.lenOK] at hn hl ⊢
    have h0 := ilen_0 l
    simp only [ilt_t, ilt_f, ile_t, ile_f, ieq_t, ieq_f, bnot_e, band_e, bite_and, bite_or, NLt_e, NLe_e, NNe_e, NIs_e, imax_e, imin_e, irem_e, Bool.not_eq_true', Bool.not_eq_false', Bool.and_eq_true, Bool.or_eq_true, Bool.or_eq_false_iff, Bool.and_eq_false_iff, Cont.pts.injEq, Cont.ints.injEq, Cont.bools.injEq, Cont.ptss.injEq, Cont.intss.injEq, Cont.boolss.injEq, true_and, and_true, implies_true]
    unfold eqL
    refine ⟨fun h => by simp [h], fun h => ?_⟩
    refine ⟨fun | .int k :: _ => 0 ≤ k ∧ k ≤ ilen l ∧ ∀ j, 0 ≤ j → j < k → eqPt (getx l j) (gety l j) (getx m j) (gety m j) = true | _ => False, fun | .int k :: _ => (ilen l - k).toNat | _ => 0, ?_, ?_⟩
    · exact ⟨Int.le_refl 0, h0, fun j h0 h1 => absurd h1 (by omega)⟩
    · rintro k _ ⟨hk0, hk1, hk⟩
      simp only [ilt_t, ilt_f, ile_t, ile_f, ieq_t, ieq_f, bnot_e, band_e, bite_and, bite_or, NLt_e, NLe_e, NNe_e, NIs_e, imax_e, imin_e, irem_e, Bool.not_eq_true', Bool.not_eq_false', Bool.and_eq_true, Bool.or_eq_true, Bool.or_eq_false_iff, Bool.and_eq_false_iff, Cont.pts.injEq, Cont.ints.injEq, Cont.bools.injEq, Cont.ptss.injEq, Cont.intss.injEq, Cont.boolss.injEq, true_and, and_true, implies_true]
      refine ⟨fun hc => ⟨⟨⟨hk0, hc⟩, hk0, by omega⟩, fun hv => ?_, fun hv => ?_⟩, fun hc => ?_⟩
      · rw [allN_no k hk0 hc (by unfold eqPt; rcases hv with h | h <;> simp [h])]; simp
      · rw [iadd_1 hk0 hc hl.1]
        exact ⟨⟨by omega, by omega, allN_up hk (by unfold eqPt; simp [hv])⟩, by omega⟩
      · rw [allN_mk fun j h0 h1 => hk j h0 (by omega)]; simp [h]
  · cases h
def degW (d : Int) : Int := irem (iadd (irem d 360) 360) 360
def g_impl_Degrees : List AV → Option Sg
  | [.s (.int d)] => some ⟨True, [.s (.int (degW d))]⟩
  | _ => none
def sig_impl_Degrees : FuncId → List AV → Option Sg := sigL []
def xs_impl_Degrees : XS := ⟨xsigL [], ysigL []⟩
theorem sig_impl_Degrees_ok : SigOK sig_impl_Degrees := sigL_nil
theorem xs_impl_Degrees_ok : XSigOK xs_impl_Degrees := ⟨xsigL_nil, ysigL_nil⟩
theorem V_impl_Degrees (d : Int) : ((true = true) ∧ ((True) ∧ True) ∧ (true = true) ∧ ((True) ∧ (NNe (360 : Int) 0) ∧ (True) ∧ (NNe (360 : Int) 0) ∧ (True) ∧ True) ∧ (((irem (iadd (irem d (360 : Int)) (360 : Int)) (360 : Int)) : Int) = (degW d)) ∧ True) = ev sig_impl_Degrees xs_impl_Degrees Try.f70.ntmps (fun b => []) (codeOf Try.f70) 0 (initS [.s (.int d)]) (retK Try.f70.results.toList [.s (.int (degW d))]) := by kernel_rfl
set_option maxHeartbeats 400000 in
theorem F_impl_Degrees : FunOK 70 g_impl_Degrees := by
  refine fun_F (by kernel_rfl) Try.func70 rfl (by kernel_rfl) sig_impl_Degrees_ok xs_impl_Degrees_ok ?_
  intro avs sg h hn hl
  unfold g_impl_Degrees at h
  split at h
  · rename_i d
    injection h with h; subst h
    refine ⟨by kernel_rfl, fun b => [], Eq.mp (V_impl_Degrees d) ?_⟩
    simp only [true_and, and_true, implies_true, and_self, forall_const, true_implies, lenA, lenL, SV.lenOK, Cont.lenOK] at hn hl ⊢
    simp only [ilt_t, ilt_f, ile_t, ile_f, ieq_t, ieq_f, bnot_e, band_e, bite_and, bite_or, NLt_e, NLe_e, NNe_e, NIs_e, imax_e, imin_e, irem_e, Bool.not_eq_true', Bool.not_eq_false', Bool.and_eq_true, Bool.or_eq_true, Bool.or_eq_false_iff, Bool.and_eq_false_iff, Cont.pts.injEq, Cont.ints.injEq, Cont.bools.injEq, Cont.ptss.injEq, Cont.intss.injEq, Cont.boolss.injEq, true_and, and_true, implies_true]
    exact ⟨by decide, by simp [degW, irem_e]⟩
  · cases h
def g_laws_alive : List AV → Option Sg
  | [] => some ⟨True, [.s (.bool (true))]⟩
  | _ => none
def sig_laws_alive : FuncId → List AV → Option Sg := sigL [(70, g_impl_Degrees)]
def xs_laws_alive : XS := ⟨xsigL [], ysigL []⟩
theorem sig_laws_alive_ok : SigOK sig_laws_alive := sigL_cons F_impl_Degrees sigL_nil
theorem xs_laws_alive_ok : XSigOK xs_laws_alive := ⟨xsigL_nil, ysigL_nil⟩
theorem V_laws_alive  : ((true = true) ∧ ((True) ∧ True) ∧ (true = true) ∧ (((True)) ∧ (True) ∧ (True) ∧ True) ∧ (((ieq (degW (-1 : Int)) (359 : Int)) : Bool) = (true)) ∧ True) = ev sig_laws_alive xs_laws_alive Try.f23.ntmps (fun b => []) (codeOf Try.f23) 0 (initS []) (retK Try.f23.results.toList [.s (.bool (true))]) := by kernel_rfl
set_option maxHeartbeats 400000 in
theorem F_laws_alive : FunOK 23 g_laws_alive := by
  refine fun_F (by kernel_rfl) Try.func23 rfl (by kernel_rfl) sig_laws_alive_ok xs_laws_alive_ok ?_
  intro avs sg h hn hl
  unfold g_laws_alive at h
  split at h
  ·
    injection h with h; subst h
    refine ⟨by kernel_rfl, fun b => [], Eq.mp (V_laws_alive ) ?_⟩
    simp only [true_and, and_true, implies_true, and_self, forall_const, true_implies, lenA, lenL, SV.lenOK, Cont.lenOK] at hn hl ⊢
    unfold ieq degW
    rw [irem_e, irem_e, iadd_e (by decide) (by decide)]
    decide
  · cases h
def g_impl_ConvexValid : List AV → Option Sg
  | [.s (.view (.pts l))] => some ⟨True, [.s (.bool (convB l))]⟩
  | _ => none
def sig_impl_ConvexValid : FuncId → List AV → Option Sg := sigL [(71, g_impl_within), (89, g_impl_allPoints), (103, g_impl_cross)]
def xs_impl_ConvexValid : XS := ⟨xsigL [], ysigL []⟩
theorem sig_impl_ConvexValid_ok : SigOK sig_impl_ConvexValid := sigL_cons F_impl_within (sigL_cons F_impl_allPoints (sigL_cons F_impl_cross sigL_nil))
theorem xs_impl_ConvexValid_ok : XSigOK xs_impl_ConvexValid := ⟨xsigL_nil, ysigL_nil⟩
theorem V_impl_ConvexValid (l : List Pt) : ((true = true) ∧ ((True) ∧ True) ∧ (true = true) ∧ ((True) ∧ (True) ∧ ((True)) ∧ (True) ∧ (True) ∧ (NIs (bnot (inB (ilen l) (3 : Int) (8 : Int))) false → True) ∧ (NIs (bnot (inB (ilen l) (3 : Int) (8 : Int))) false → (True)) ∧ (NIs (bnot (inB (ilen l) (3 : Int) (8 : Int))) false → True) ∧ (True) ∧ True) ∧ ((bite (bnot (inB (ilen l) (3 : Int) (8 : Int))) true (bnot (allB l))) = true → ((true = true) ∧ ((True) ∧ True) ∧ ((false : Bool) = (convB l)) ∧ True)) ∧ ((bite (bnot (inB (ilen l) (3 : Int) (8 : Int))) true (bnot (allB l))) = false → ((true = true) ∧ ((True) ∧ (True) ∧ (True) ∧ True) ∧ ∃ (I1 : List GV → Prop) (μ1 : List GV → Nat), (((true = true) ∧ (((false : Bool) = false) ∧ (((0 : Int) : Int) = (0 : Int)) ∧ ((Cont.pts l) = (Cont.pts l)) ∧ (((ilen l) : Int) = (ilen l)) ∧ ((Cont.pts l) = (Cont.pts l)) ∧ (((ilen l) : Int) = (ilen l)) ∧ (((inB (ilen l) (3 : Int) (8 : Int)) : Bool) = (inB (ilen l) (3 : Int) (8 : Int))) ∧ (((bnot (inB (ilen l) (3 : Int) (8 : Int))) : Bool) = (bnot (inB (ilen l) (3 : Int) (8 : Int)))) ∧ (((bnot (inB (ilen l) (3 : Int) (8 : Int))) : Bool) = (bnot (inB (ilen l) (3 : Int) (8 : Int)))) ∧ (((bite (bnot (inB (ilen l) (3 : Int) (8 : Int))) true (bnot (allB l))) : Bool) = (bite (bnot (inB (ilen l) (3 : Int) (8 : Int))) true (bnot (allB l)))) ∧ ((Cont.pts l) = (Cont.pts l)) ∧ True) ∧ (True)) ∧ (([GK.int, GK.bool] : List GK) = ([GK.int, GK.bool] : List GK)) ∧ I1 [GV.int (0 : Int), GV.bool false]) ∧ (∀ i1_0 : Int, ∀ b1_1 : Bool, I1 [GV.int i1_0, GV.bool b1_1] → ((true = true) ∧ ((True) ∧ True) ∧ ((ilt i1_0 (ilen l)) = true → ((true = true) ∧ ((True) ∧ (NLe 0 i1_0 ∧ NLt i1_0 (ilen l)) ∧ (True) ∧ (True) ∧ (True) ∧ True) ∧ (True) ∧ (true = true) ∧ ((True) ∧ (True) ∧ (True) ∧ (True) ∧ (NNe (ilen l) 0) ∧ (True) ∧ True) ∧ (true = true) ∧ ((True) ∧ (True) ∧ (True) ∧ True) ∧ ∃ (I2 : List GV → Prop) (μ2 : List GV → Nat), (((true = true) ∧ (((b1_1 : Bool) = b1_1) ∧ (((0 : Int) : Int) = (0 : Int)) ∧ ((Cont.pts l) = (Cont.pts l)) ∧ (((ilen l) : Int) = (ilen l)) ∧ ((i1_0 : Int) = i1_0) ∧ (((iadd i1_0 (1 : Int)) : Int) = (iadd i1_0 (1 : Int))) ∧ ((Cont.pts l) = (Cont.pts l)) ∧ (((ilen l) : Int) = (ilen l)) ∧ (((irem (iadd i1_0 (1 : Int)) (ilen l)) : Int) = (irem (iadd i1_0 (1 : Int)) (ilen l))) ∧ (((irem (iadd i1_0 (1 : Int)) (ilen l)) : Int) = (irem (iadd i1_0 (1 : Int)) (ilen l))) ∧ ((i1_0 : Int) = i1_0) ∧ ((((getx l i1_0) : Int) = (getx l i1_0)) ∧ (((gety l i1_0) : Int) = (gety l i1_0)) ∧ True) ∧ (true = true) ∧ ((i1_0 : Int) = i1_0) ∧ (((ilt i1_0 (ilen l)) : Bool) = (ilt i1_0 (ilen l))) ∧ ((i1_0 : Int) = i1_0) ∧ ((Cont.pts l) = (Cont.pts l)) ∧ (((ilen l) : Int) = (ilen l)) ∧ ((Cont.pts l) = (Cont.pts l)) ∧ (((ilen l) : Int) = (ilen l)) ∧ (((inB (ilen l) (3 : Int) (8 : Int)) : Bool) = (inB (ilen l) (3 : Int) (8 : Int))) ∧ (((bnot (inB (ilen l) (3 : Int) (8 : Int))) : Bool) = (bnot (inB (ilen l) (3 : Int) (8 : Int)))) ∧ (((bnot (inB (ilen l) (3 : Int) (8 : Int))) : Bool) = (bnot (inB (ilen l) (3 : Int) (8 : Int)))) ∧ (((bite (bnot (inB (ilen l) (3 : Int) (8 : Int))) true (bnot (allB l))) : Bool) = (bite (bnot (inB (ilen l) (3 : Int) (8 : Int))) true (bnot (allB l)))) ∧ ((Cont.pts l) = (Cont.pts l)) ∧ True) ∧ (((((getx l i1_0) : Int) = (getx l i1_0)) ∧ (((gety l i1_0) : Int) = (gety l i1_0)) ∧ True) ∧ True)) ∧ (([GK.int, GK.bool] : List GK) = ([GK.int, GK.bool] : List GK)) ∧ I2 [GV.int (0 : Int), GV.bool b1_1]) ∧ (∀ i2_0 : Int, ∀ b2_1 : Bool, I2 [GV.int i2_0, GV.bool b2_1] → ((true = true) ∧ ((True) ∧ True) ∧ ((ilt i2_0 (ilen l)) = true → ((true = true) ∧ ((True) ∧ (NLe 0 i2_0 ∧ NLt i2_0 (ilen l)) ∧ (True) ∧ (True) ∧ (True) ∧ True) ∧ (True) ∧ (true = true) ∧ ((True) ∧ (True) ∧ (True) ∧ (True) ∧ (NIs (bnot (ieq i2_0 i1_0)) true → True) ∧ (NIs (bnot (ieq i2_0 i1_0)) true → True) ∧ (NIs (bnot (ieq i2_0 i1_0)) true → True) ∧ (True) ∧ (True) ∧ (NIs (bite (bnot (ieq i2_0 i1_0)) (bnot (ieq i2_0 (irem (iadd i1_0 (1 : Int)) (ilen l)))) false) true → True) ∧ (NIs (bite (bnot (ieq i2_0 i1_0)) (bnot (ieq i2_0 (irem (iadd i1_0 (1 : Int)) (ilen l)))) false) true → True) ∧ (NIs (bite (bnot (ieq i2_0 i1_0)) (bnot (ieq i2_0 (irem (iadd i1_0 (1 : Int)) (ilen l)))) false) true → True) ∧ (NIs (bite (bnot (ieq i2_0 i1_0)) (bnot (ieq i2_0 (irem (iadd i1_0 (1 : Int)) (ilen l)))) false) true → (NLe 0 (irem (iadd i1_0 (1 : Int)) (ilen l)) ∧ NLt (irem (iadd i1_0 (1 : Int)) (ilen l)) (ilen l))) ∧ (NIs (bite (bnot (ieq i2_0 i1_0)) (bnot (ieq i2_0 (irem (iadd i1_0 (1 : Int)) (ilen l)))) false) true → True) ∧ (NIs (bite (bnot (ieq i2_0 i1_0)) (bnot (ieq i2_0 (irem (iadd i1_0 (1 : Int)) (ilen l)))) false) true → True) ∧ (NIs (bite (bnot (ieq i2_0 i1_0)) (bnot (ieq i2_0 (irem (iadd i1_0 (1 : Int)) (ilen l)))) false) true → (True)) ∧ (NIs (bite (bnot (ieq i2_0 i1_0)) (bnot (ieq i2_0 (irem (iadd i1_0 (1 : Int)) (ilen l)))) false) true → True) ∧ (True) ∧ True) ∧ ((bite (bite (bnot (ieq i2_0 i1_0)) (bnot (ieq i2_0 (irem (iadd i1_0 (1 : Int)) (ilen l)))) false) (ile (crW (getx l i1_0) (gety l i1_0) (getx l (irem (iadd i1_0 (1 : Int)) (ilen l))) (gety l (irem (iadd i1_0 (1 : Int)) (ilen l))) (getx l i2_0) (gety l i2_0)) (0 : Int)) false) = true → ((true = true) ∧ ((True) ∧ True) ∧ ((false : Bool) = (convB l)) ∧ True)) ∧ ((bite (bite (bnot (ieq i2_0 i1_0)) (bnot (ieq i2_0 (irem (iadd i1_0 (1 : Int)) (ilen l)))) false) (ile (crW (getx l i1_0) (gety l i1_0) (getx l (irem (iadd i1_0 (1 : Int)) (ilen l))) (gety l (irem (iadd i1_0 (1 : Int)) (ilen l))) (getx l i2_0) (gety l i2_0)) (0 : Int)) false) = false → ((true = true) ∧ ((True) ∧ (True) ∧ True) ∧ ((true = true) ∧ (((b2_1 : Bool) = b2_1) ∧ (((iadd i2_0 (1 : Int)) : Int) = (iadd i2_0 (1 : Int))) ∧ ((Cont.pts l) = (Cont.pts l)) ∧ (((ilen l) : Int) = (ilen l)) ∧ ((i1_0 : Int) = i1_0) ∧ (((iadd i1_0 (1 : Int)) : Int) = (iadd i1_0 (1 : Int))) ∧ ((Cont.pts l) = (Cont.pts l)) ∧ (((ilen l) : Int) = (ilen l)) ∧ (((irem (iadd i1_0 (1 : Int)) (ilen l)) : Int) = (irem (iadd i1_0 (1 : Int)) (ilen l))) ∧ (((irem (iadd i1_0 (1 : Int)) (ilen l)) : Int) = (irem (iadd i1_0 (1 : Int)) (ilen l))) ∧ ((i1_0 : Int) = i1_0) ∧ ((((getx l i1_0) : Int) = (getx l i1_0)) ∧ (((gety l i1_0) : Int) = (gety l i1_0)) ∧ True) ∧ (true = true) ∧ ((i1_0 : Int) = i1_0) ∧ (((ilt i1_0 (ilen l)) : Bool) = (ilt i1_0 (ilen l))) ∧ ((i1_0 : Int) = i1_0) ∧ ((Cont.pts l) = (Cont.pts l)) ∧ (((ilen l) : Int) = (ilen l)) ∧ ((Cont.pts l) = (Cont.pts l)) ∧ (((ilen l) : Int) = (ilen l)) ∧ (((inB (ilen l) (3 : Int) (8 : Int)) : Bool) = (inB (ilen l) (3 : Int) (8 : Int))) ∧ (((bnot (inB (ilen l) (3 : Int) (8 : Int))) : Bool) = (bnot (inB (ilen l) (3 : Int) (8 : Int)))) ∧ (((bnot (inB (ilen l) (3 : Int) (8 : Int))) : Bool) = (bnot (inB (ilen l) (3 : Int) (8 : Int)))) ∧ (((bite (bnot (inB (ilen l) (3 : Int) (8 : Int))) true (bnot (allB l))) : Bool) = (bite (bnot (inB (ilen l) (3 : Int) (8 : Int))) true (bnot (allB l)))) ∧ ((Cont.pts l) = (Cont.pts l)) ∧ True) ∧ (((((getx l i1_0) : Int) = (getx l i1_0)) ∧ (((gety l i1_0) : Int) = (gety l i1_0)) ∧ True) ∧ True)) ∧ ((([GK.int, GK.bool] : List GK) = ([GK.int, GK.bool] : List GK)) ∧ I2 [GV.int (iadd i2_0 (1 : Int)), GV.bool b2_1] ∧ μ2 [GV.int (iadd i2_0 (1 : Int)), GV.bool b2_1] < μ2 [GV.int i2_0, GV.bool b2_1]))))) ∧ ((ilt i2_0 (ilen l)) = false → ((true = true) ∧ ((True) ∧ (True) ∧ True) ∧ ((true = true) ∧ (((b2_1 : Bool) = b2_1) ∧ (((iadd i1_0 (1 : Int)) : Int) = (iadd i1_0 (1 : Int))) ∧ ((Cont.pts l) = (Cont.pts l)) ∧ (((ilen l) : Int) = (ilen l)) ∧ ((Cont.pts l) = (Cont.pts l)) ∧ (((ilen l) : Int) = (ilen l)) ∧ (((inB (ilen l) (3 : Int) (8 : Int)) : Bool) = (inB (ilen l) (3 : Int) (8 : Int))) ∧ (((bnot (inB (ilen l) (3 : Int) (8 : Int))) : Bool) = (bnot (inB (ilen l) (3 : Int) (8 : Int)))) ∧ (((bnot (inB (ilen l) (3 : Int) (8 : Int))) : Bool) = (bnot (inB (ilen l) (3 : Int) (8 : Int)))) ∧ (((bite (bnot (inB (ilen l) (3 : Int) (8 : Int))) true (bnot (allB l))) : Bool) = (bite (bnot (inB (ilen l) (3 : Int) (8 : Int))) true (bnot (allB l)))) ∧ ((Cont.pts l) = (Cont.pts l)) ∧ True) ∧ (True)) ∧ ((([GK.int, GK.bool] : List GK) = ([GK.int, GK.bool] : List GK)) ∧ I1 [GV.int (iadd i1_0 (1 : Int)), GV.bool b2_1] ∧ μ1 [GV.int (iadd i1_0 (1 : Int)), GV.bool b2_1] < μ1 [GV.int i1_0, GV.bool b1_1]))))))) ∧ ((ilt i1_0 (ilen l)) = false → ((true = true) ∧ ((True) ∧ True) ∧ ((true : Bool) = (convB l)) ∧ True))))))) = ev sig_impl_ConvexValid xs_impl_ConvexValid Try.f54.ntmps (fun b => if b == 0 then [.v 19, .v 2] else if b == 2 then [.v 31, .v 2] else []) (codeOf Try.f54) 0 (initS [.s (.view (.pts l))]) (retK Try.f54.results.toList [.s (.bool (convB l))]) := by kernel_rfl
set_option maxHeartbeats 400000 in
theorem F_impl_ConvexValid : FunOK 54 g_impl_ConvexValid := by
  refine fun_F (by kernel_rfl) Try.func54 rfl (by kernel_rfl) sig_impl_ConvexValid_ok xs_impl_ConvexValid_ok ?_
  intro avs sg h hn hl
  unfold g_impl_ConvexValid at h
  split at h
  · rename_i l
    injection h with h; subst h
    refine ⟨by kernel_rfl, fun b => if b == 0 then [.v 19, .v 2] else if b == 2 then [.v 31, .v 2] else [], Eq.mp (V_impl_ConvexValid l) ?_⟩
    simp only [true_and, and_true, implies_true, and_self, forall_const, true_implies, lenA, lenL, SV.lenOK, Cont.lenOK] at hn hl ⊢
    have h0 := ilen_0 l
    simp only [ilt_t, ilt_f, ile_t, ile_f, ieq_t, ieq_f, bnot_e, band_e, bite_and, bite_or, NLt_e, NLe_e, NNe_e, NIs_e, imax_e, imin_e, irem_e, Bool.not_eq_true', Bool.not_eq_false', Bool.and_eq_true, Bool.or_eq_true, Bool.or_eq_false_iff, Bool.and_eq_false_iff, Cont.pts.injEq, Cont.ints.injEq, Cont.bools.injEq, Cont.ptss.injEq, Cont.intss.injEq, Cont.boolss.injEq, true_and, and_true, implies_true]
    refine ⟨?_, fun hc => ?_⟩
    · rintro (h | h) <;> simp [convB, h]
    · obtain ⟨hv1, hv2⟩ : inB (ilen l) 3 8 = true ∧ allB l = true := by simpa using hc
      have hlen := inB_true hv1
      refine ⟨fun | [.int k, .bool _] => 0 ≤ k ∧ k ≤ ilen l ∧ (∀ i, 0 ≤ i → i < k → allN (ilen l) (convE l i) = true) | _ => False, fun | [.int k, .bool _] => (ilen l - k).toNat | _ => 0, ?_, ?_⟩
      · exact ⟨Int.le_refl 0, h0, fun j h0 h1 => absurd h1 (by omega)⟩
      · rintro k b ⟨hk0, hk1, hk⟩
        simp only [ilt_t, ilt_f, ile_t, ile_f, ieq_t, ieq_f, bnot_e, band_e, bite_and, bite_or, NLt_e, NLe_e, NNe_e, NIs_e, imax_e, imin_e, irem_e, Bool.not_eq_true', Bool.not_eq_false', Bool.and_eq_true, Bool.or_eq_true, Bool.or_eq_false_iff, Bool.and_eq_false_iff, Cont.pts.injEq, Cont.ints.injEq, Cont.bools.injEq, Cont.ptss.injEq, Cont.intss.injEq, Cont.boolss.injEq, true_and, and_true, implies_true]
        refine ⟨fun hkn => ⟨⟨hk0, hkn⟩, by omega, ?_⟩, fun hkn => ?_⟩
        · have e1 := iadd_1 hk0 hkn hl
          obtain ⟨n0, n1, _⟩ := nx_in hk0 hkn
          have e2 : (k + 1).tmod (ilen l) = nx l k := rfl
          simp only [e1, e2]
          refine ⟨fun | [.int j, .bool _] => 0 ≤ j ∧ j ≤ ilen l ∧ (∀ i, 0 ≤ i → i < j → convE l k i = true) | _ => False, fun | [.int j, .bool _] => (ilen l - j).toNat | _ => 0, ?_, ?_⟩
          · exact ⟨Int.le_refl 0, h0, fun j h0 h1 => absurd h1 (by omega)⟩
          · rintro j b ⟨hj0, hj1, hj⟩
            simp only [ilt_t, ilt_f, ile_t, ile_f, ieq_t, ieq_f, bnot_e, band_e, bite_and, bite_or, NLt_e, NLe_e, NNe_e, NIs_e, imax_e, imin_e, irem_e, Bool.not_eq_true', Bool.not_eq_false', Bool.and_eq_true, Bool.or_eq_true, Bool.or_eq_false_iff, Bool.and_eq_false_iff, Cont.pts.injEq, Cont.ints.injEq, Cont.bools.injEq, Cont.ptss.injEq, Cont.intss.injEq, Cont.boolss.injEq, true_and, and_true, implies_true]
            refine ⟨fun hjn => ⟨⟨hj0, hjn⟩, fun _ => ⟨n0, n1⟩, fun hx => ?_, fun hx => ?_⟩, fun hjn => ?_⟩
            · have hE : convE l k j = false := by
                unfold convE cr
                simp only [decide_eq_false_iff_not]
                omega
              unfold convB
              rw [allN_no k hk0 hkn (allN_no j hj0 hjn hE)]
              simp
            · have hE : convE l k j = true := by
                unfold convE cr
                simp only [decide_eq_true_eq]
                omega
              rw [iadd_1 hj0 hjn hl]
              exact ⟨⟨by omega, by omega, allN_up hj hE⟩, by omega⟩
            · exact ⟨⟨by omega, by omega, allN_up hk (allN_mk fun i h0 h1 => hj i h0 (by omega))⟩, by omega⟩
        · unfold convB
          rw [hv1, hv2, allN_mk fun i h0 h1 => hk i h0 (by omega)]
          rfl
  · cases h
def hitE (l : List Pt) (a1 a2 b1 b2 i : Int) : Bool := meetB (a1, a2) (b1, b2) (getx l i, gety l i) (getx l (nx l i), gety l (nx l i))
def hitB (l : List Pt) (a1 a2 b1 b2 : Int) : Bool := insB l a1 a2 || insB l b1 b2 || anyN (ilen l) (hitE l a1 a2 b1 b2)
theorem allB_at {l : List Pt} (h : allB l = true) {i : Int} (h0 : 0 ≤ i) (h1 : i < ilen l) : vB (getx l i) (gety l i) = true := by
  rw [allB_N] at h; exact allN_iff.1 h i h0 h1
theorem convB_all {l : List Pt} (h : convB l = true) : 3 ≤ ilen l ∧ ilen l ≤ 8 ∧ allB l = true := by
  unfold convB at h
  simp only [Bool.and_eq_true] at h
  exact ⟨(inB_true h.1.1).1, (inB_true h.1.1).2, h.1.2⟩
theorem allB_2 (a1 a2 b1 b2 : Int) : allB [(a1, a2), (b1, b2)] = (vB a1 a2 && vB b1 b2) := by simp [allB]
def dt (l : List Pt) (i j : Int) : Int := getx l i * gety l j - gety l i * getx l j
def shoe (l : List Pt) (k : Int) : Int := foldN k (fun s i => s + dt l i (nx l i)) 0
def areaB (l : List Pt) : Int := if convB l then shoe l (ilen l) else 0
theorem shoe_1 {l : List Pt} {k : Int} (h : 0 ≤ k) : shoe l (k + 1) = shoe l k + dt l k (nx l k) := by unfold shoe; rw [foldN_1 h]
theorem dt_bd {l : List Pt} {i j : Int} (hi : vB (getx l i) (gety l i) = true) (hj : vB (getx l j) (gety l j) = true) :
    imul (getx l i) (gety l j) = getx l i * gety l j ∧ imul (gety l i) (getx l j) = gety l i * getx l j ∧ isub (getx l i * gety l j) (gety l i * getx l j) = dt l i j ∧ -800000000 ≤ dt l i j ∧ dt l i j ≤ 800000000 := by
  unfold vB at hi hj
  simp only [Bool.and_eq_true] at hi hj
  have a1 := inB_true hi.1; have a2 := inB_true hi.2; have b1 := inB_true hj.1; have b2 := inB_true hj.2
  have m1 := mul20 (x := getx l i) (y := gety l j) (by omega) (by omega)
  have m2 := mul20 (x := gety l i) (y := getx l j) (by omega) (by omega)
  unfold dt
  exact ⟨imul_e (by omega) (by omega), imul_e (by omega) (by omega), isub_e (by omega) (by omega), by omega, by omega⟩
theorem crs_dt (l : List Pt) (i j k : Int) : crs (getx l i, gety l i) (getx l j, gety l j) (getx l k, gety l k) = dt l i j + dt l j k + dt l k i := by unfold crs dt; grind
def g_impl_DoubleArea : List AV → Option Sg
  | [.s (.view (.pts l))] => some ⟨True, [.s (.int (areaB l))]⟩
  | _ => none
def sig_impl_DoubleArea : FuncId → List AV → Option Sg := sigL [(54, g_impl_ConvexValid)]
def xs_impl_DoubleArea : XS := ⟨xsigL [], ysigL []⟩
theorem sig_impl_DoubleArea_ok : SigOK sig_impl_DoubleArea := sigL_cons F_impl_ConvexValid sigL_nil
theorem xs_impl_DoubleArea_ok : XSigOK xs_impl_DoubleArea := ⟨xsigL_nil, ysigL_nil⟩
theorem V_impl_DoubleArea (l : List Pt) : ((true = true) ∧ ((True) ∧ True) ∧ (true = true) ∧ ((True) ∧ ((True)) ∧ (True) ∧ True) ∧ ((bnot (convB l)) = true → ((true = true) ∧ ((True) ∧ True) ∧ (((0 : Int) : Int) = (areaB l)) ∧ True)) ∧ ((bnot (convB l)) = false → ((true = true) ∧ ((True) ∧ True) ∧ (true = true) ∧ ((True) ∧ (True) ∧ (True) ∧ True) ∧ ∃ (I1 : List GV → Prop) (μ1 : List GV → Nat), (((true = true) ∧ ((((0 : Int) : Int) = (0 : Int)) ∧ (((0 : Int) : Int) = (0 : Int)) ∧ ((Cont.pts l) = (Cont.pts l)) ∧ (((ilen l) : Int) = (ilen l)) ∧ ((Cont.pts l) = (Cont.pts l)) ∧ (((convB l) : Bool) = (convB l)) ∧ (((bnot (convB l)) : Bool) = (bnot (convB l))) ∧ (((0 : Int) : Int) = (0 : Int)) ∧ ((Cont.pts l) = (Cont.pts l)) ∧ True) ∧ (True)) ∧ (([GK.int, GK.int] : List GK) = ([GK.int, GK.int] : List GK)) ∧ I1 [GV.int (0 : Int), GV.int (0 : Int)]) ∧ (∀ i1_0 : Int, ∀ i1_1 : Int, I1 [GV.int i1_0, GV.int i1_1] → ((true = true) ∧ ((True) ∧ True) ∧ ((ilt i1_0 (ilen l)) = true → ((true = true) ∧ ((True) ∧ (NLe 0 i1_0 ∧ NLt i1_0 (ilen l)) ∧ (True) ∧ (True) ∧ (True) ∧ True) ∧ (True) ∧ (true = true) ∧ ((True) ∧ (True) ∧ (True) ∧ (True) ∧ (True) ∧ (NNe (ilen l) 0) ∧ (NLe 0 (irem (iadd i1_0 (1 : Int)) (ilen l)) ∧ NLt (irem (iadd i1_0 (1 : Int)) (ilen l)) (ilen l)) ∧ (True) ∧ (True) ∧ True) ∧ (True) ∧ (true = true) ∧ ((True) ∧ (True) ∧ (True) ∧ (True) ∧ (True) ∧ (True) ∧ (True) ∧ (True) ∧ (True) ∧ (True) ∧ (True) ∧ (True) ∧ (True) ∧ (True) ∧ True) ∧ (true = true) ∧ ((True) ∧ (True) ∧ True) ∧ ((true = true) ∧ ((((iadd i1_1 (isub (imul (getx l i1_0) (gety l (irem (iadd i1_0 (1 : Int)) (ilen l)))) (imul (gety l i1_0) (getx l (irem (iadd i1_0 (1 : Int)) (ilen l)))))) : Int) = (iadd i1_1 (isub (imul (getx l i1_0) (gety l (irem (iadd i1_0 (1 : Int)) (ilen l)))) (imul (gety l i1_0) (getx l (irem (iadd i1_0 (1 : Int)) (ilen l))))))) ∧ (((iadd i1_0 (1 : Int)) : Int) = (iadd i1_0 (1 : Int))) ∧ ((Cont.pts l) = (Cont.pts l)) ∧ (((ilen l) : Int) = (ilen l)) ∧ ((Cont.pts l) = (Cont.pts l)) ∧ (((convB l) : Bool) = (convB l)) ∧ (((bnot (convB l)) : Bool) = (bnot (convB l))) ∧ (((0 : Int) : Int) = (0 : Int)) ∧ ((Cont.pts l) = (Cont.pts l)) ∧ True) ∧ (True)) ∧ ((([GK.int, GK.int] : List GK) = ([GK.int, GK.int] : List GK)) ∧ I1 [GV.int (iadd i1_0 (1 : Int)), GV.int (iadd i1_1 (isub (imul (getx l i1_0) (gety l (irem (iadd i1_0 (1 : Int)) (ilen l)))) (imul (gety l i1_0) (getx l (irem (iadd i1_0 (1 : Int)) (ilen l))))))] ∧ μ1 [GV.int (iadd i1_0 (1 : Int)), GV.int (iadd i1_1 (isub (imul (getx l i1_0) (gety l (irem (iadd i1_0 (1 : Int)) (ilen l)))) (imul (gety l i1_0) (getx l (irem (iadd i1_0 (1 : Int)) (ilen l))))))] < μ1 [GV.int i1_0, GV.int i1_1]))) ∧ ((ilt i1_0 (ilen l)) = false → ((true = true) ∧ ((True) ∧ (True) ∧ True) ∧ ((i1_1 : Int) = (areaB l)) ∧ True))))))) = ev sig_impl_DoubleArea xs_impl_DoubleArea Try.f52.ntmps (fun b => if b == 0 then [.v 12, .v 3] else []) (codeOf Try.f52) 0 (initS [.s (.view (.pts l))]) (retK Try.f52.results.toList [.s (.int (areaB l))]) := by kernel_rfl
set_option maxHeartbeats 400000 in
theorem F_impl_DoubleArea : FunOK 52 g_impl_DoubleArea := by
  refine fun_F (by kernel_rfl) Try.func52 rfl (by kernel_rfl) sig_impl_DoubleArea_ok xs_impl_DoubleArea_ok ?_
  intro avs sg h hn hl
  unfold g_impl_DoubleArea at h
  split at h
  · rename_i l
    injection h with h; subst h
    refine ⟨by kernel_rfl, fun b => if b == 0 then [.v 12, .v 3] else [], Eq.mp (V_impl_DoubleArea l) ?_⟩
    simp only [true_and, and_true, implies_true, and_self, forall_const, true_implies, lenA, lenL, SV.lenOK, Cont.lenOK] at hn hl ⊢
    have h0 := ilen_0 l
    simp only [ilt_t, ilt_f, ile_t, ile_f, ieq_t, ieq_f, bnot_e, band_e, bite_and, bite_or, NLt_e, NLe_e, NNe_e, NIs_e, imax_e, imin_e, irem_e, Bool.not_eq_true', Bool.not_eq_false', Bool.and_eq_true, Bool.or_eq_true, Bool.or_eq_false_iff, Bool.and_eq_false_iff, Cont.pts.injEq, Cont.ints.injEq, Cont.bools.injEq, Cont.ptss.injEq, Cont.intss.injEq, Cont.boolss.injEq, true_and, and_true, implies_true]
    refine ⟨fun h => by simp [areaB, h], fun h => ?_⟩
    obtain ⟨c1, c2, c3⟩ := convB_all h
    refine ⟨fun | .int k :: .int s :: _ => 0 ≤ k ∧ k ≤ ilen l ∧ s = shoe l k ∧ -1000000000 * k ≤ s ∧ s ≤ 1000000000 * k | _ => False, fun | .int k :: _ => (ilen l - k).toNat | _ => 0, ?_, ?_⟩
    · exact ⟨Int.le_refl 0, h0, rfl, by omega, by omega⟩
    · rintro k s ⟨hk0, hk1, hs, hb1, hb2⟩
      refine ⟨fun hkn => ?_, fun hkn => ?_⟩
      · have e1 := iadd_1 hk0 hkn hl
        obtain ⟨n0, n1, _⟩ := nx_in hk0 hkn
        have e2 : (k + 1).tmod (ilen l) = nx l k := rfl
        obtain ⟨d1, d2, d3, d4, d5⟩ := dt_bd (allB_at c3 hk0 hkn) (allB_at c3 n0 n1)
        simp only [e1, e2, d1, d2, d3]
        rw [iadd_e (by omega) (by omega)]
        exact ⟨⟨hk0, hkn⟩, ⟨by omega, n0, n1⟩, ⟨by omega, by omega, by rw [shoe_1 hk0, hs], by omega, by omega⟩, by omega⟩
      · have : k = ilen l := by omega
        subst this
        simp [areaB, h, hs]
  · cases h
theorem bxor_self (a : Bool) : bxor a a = false := by cases a <;> simp [bxor]
def orB (a1 a2 b1 b2 c1 c2 : Int) : Int := if vB a1 a2 && vB b1 b2 && vB c1 c2 then sgn (crW a1 a2 b1 b2 c1 c2) else 0
def orI (l : List Pt) (i j : Int) : Int := orB (getx l i) (gety l i) (getx l (nx l i)) (gety l (nx l i)) (getx l j) (gety l j)
def convF (l : List Pt) (i j : Int) : Bool := decide (j = i ∨ j = nx l i ∨ orI l i j = 1)
def convS (l : List Pt) : Bool := inB (ilen l) 3 8 && allN (ilen l) fun i => allN (ilen l) fun j => convF l i j
theorem convS_eq (l : List Pt) : convS l = convB l := by
  unfold convS convB
  cases h1 : inB (ilen l) 3 8 with
  | false => rfl
  | true =>
    have hl := inB_true h1
    simp only [Bool.true_and]
    cases h2 : allB l with
    | true =>
      simp only [Bool.true_and]
      refine allN_congr fun i i0 i1 => allN_congr fun j j0 j1 => ?_
      rw [allB_N] at h2
      have hv := allN_iff.1 h2
      obtain ⟨n0, n1, _⟩ := nx_in i0 i1
      have e : orI l i j = sgn (cr l i (nx l i) j) := by unfold orI orB cr; rw [hv i i0 i1, hv _ n0 n1, hv j j0 j1]; rfl
      unfold convF convE
      rw [e]
      have : (sgn (cr l i (nx l i) j) = 1) ↔ 0 < cr l i (nx l i) j := by unfold sgn; split <;> (try split) <;> omega
      simp only [this]
    | false =>
      simp only [Bool.false_and]
      rw [allB_N] at h2
      obtain ⟨j, j0, j1, hj⟩ : ∃ j, 0 ≤ j ∧ j < ilen l ∧ vB (getx l j) (gety l j) = false := by
        apply Classical.byContradiction
        intro hn
        rw [allN_mk fun j j0 j1 => by cases e : vB (getx l j) (gety l j) with | true => rfl | false => exact absurd ⟨j, j0, j1, e⟩ hn] at h2
        cases h2
      obtain ⟨n0, n1, n2⟩ := nx_in j0 j1
      obtain ⟨m0, m1, m2⟩ := nx_in n0 n1
      refine allN_no (nx l j) n0 n1 (allN_no j j0 j1 ?_)
      have e : orI l (nx l j) j = 0 := by unfold orI orB; rw [hj]; simp
      unfold convF
      rw [e]
      simp only [decide_eq_false_iff_not]
      omega
theorem vat {l : List Pt} (h : allB l = true) {i : Nat} (hi : i < l.length) : vB (getx l i) (gety l i) = true := by
  rw [allB_N] at h; exact allN_iff.1 h i (by omega) (by rw [ilen_nat]; omega)
theorem ins_iff {l : List Pt} (hA : allB l = true) {p1 p2 : Int} (hp : vB p1 p2 = true) : insB l p1 p2 = true ↔ Pl.insP l (p1, p2) := by
  have e : ∀ i : Nat, i < l.length → (insE l p1 p2 i = true ↔ 0 ≤ crs (Pl.nth l i) (Pl.nth l (Pl.nx l i)) (p1, p2)) := by
    intro i hi
    unfold insE
    rw [nx_nat hi, crW_e (vat hA hi) (vat hA (Pl.nx_lt hi)) hp, nth_get, nth_get, decide_eq_true_eq]
  unfold insB
  rw [allN_iff, ilen_nat]
  constructor
  · intro h i hi
    exact (e i hi).1 (h i (by omega) (by omega))
  · intro h j j0 j1
    obtain ⟨j, rfl⟩ := Int.eq_ofNat_of_zero_le j0
    exact (e j (by omega)).2 (h j (by omega))
theorem hul_ne {l : List Pt} (h : ilen (hulF l) ≠ 0) : ilen l ≤ 16 ∧ allB l = true ∧ hulF l = Pl.hullG l ∧ Pl.hullG l ≠ [] := by
  unfold hulF at h ⊢
  split at h
  · rename_i hc
    rw [if_pos hc]
    refine ⟨hc.1, hc.2, rfl, fun e => ?_⟩
    rw [e, ilen_nil] at h
    exact h rfl
  · rw [ilen_nil] at h; exact absurd rfl h
theorem hul_sub {l : List Pt} (h : ilen (hulF l) ≠ 0) : ∀ x ∈ hulF l, x ∈ l := by
  obtain ⟨_, _, e, hne⟩ := hul_ne h
  rw [e]
  exact (Pl.hullG_ring hne).1.mem
theorem hul_conv {l : List Pt} (h : ilen (hulF l) ≠ 0) (h8 : ilen (hulF l) ≤ 8) : convB (hulF l) = true := by
  obtain ⟨_, hA, e, hne⟩ := hul_ne h
  have hs := hul_sub h
  rw [e] at hs h8 ⊢
  refine (conv_iff _).2 ⟨(Pl.hullG_ring hne).1.three, by rw [ilen_nat] at h8; omega, allB_sub hA hs, (Pl.hull_in hne).1⟩
theorem hul_ins {l : List Pt} (h : ilen (hulF l) ≠ 0) {k : Int} (h0 : 0 ≤ k) (h1 : k < ilen l) : vB (getx l k) (gety l k) = true ∧ insB (hulF l) (getx l k) (gety l k) = true := by
  obtain ⟨_, hA, e, hne⟩ := hul_ne h
  have hs := hul_sub h
  rw [e] at hs ⊢
  have hm := gp_mem h0 h1
  have hv := allB_mem hA hm
  exact ⟨hv, (ins_iff (allB_sub hA hs) hv).2 ((Pl.hull_in hne).2 _ hm)⟩
theorem hul_idem {l : List Pt} (h : ilen (hulF l) ≠ 0) : hulF (hulF l) = hulF l := by
  obtain ⟨h16, hA, e, hne⟩ := hul_ne h
  have hs := hul_sub h
  have hl := hul_len l
  have hA2 := allB_sub hA hs
  have e2 : hulF (hulF l) = Pl.hullG (hulF l) := by
    show (if ilen (hulF l) ≤ 16 ∧ allB (hulF l) = true then Pl.hullG (hulF l) else []) = _
    rw [if_pos ⟨hl, hA2⟩]
  rw [e2, e]
  exact Pl.hull_idem hne (by rw [ilen_nat] at h16; omega)
theorem getx_nth (l : List Pt) (i : Nat) : getx l i = (Pl.nth l i).1 := by rw [← nth_get]
theorem gety_nth (l : List Pt) (i : Nat) : gety l i = (Pl.nth l i).2 := by rw [← nth_get]
theorem shoe_nat {l : List Pt} : ∀ k : Nat, k ≤ l.length → shoe l k = Pl.sumN (fun i => (Pl.nth l i).1 * (Pl.nth l (Pl.nx l i)).2 - (Pl.nth l i).2 * (Pl.nth l (Pl.nx l i)).1) k
  | 0, _ => rfl
  | k + 1, h => by
    rw [show ((k + 1 : Nat) : Int) = (k : Int) + 1 by omega, shoe_1 (by omega), shoe_nat k (by omega), nx_nat (by omega)]
    show _ + dt l k (Pl.nx l k) = Pl.sumN _ k + _
    unfold dt
    rw [getx_nth, gety_nth, getx_nth, gety_nth]
theorem area_eq {l : List Pt} (h : convB l = true) : areaB l = Pl.area2 l := by
  unfold areaB
  rw [if_pos h, ilen_nat, shoe_nat _ (Nat.le_refl _)]
  rfl
theorem area_pos' {l : List Pt} (h : convB l = true) : 0 < areaB l := by
  rw [area_eq h]
  obtain ⟨h1, _, _, h4⟩ := (conv_iff l).1 h
  exact Pl.area_pos h4 h1
theorem area_turn' {l : List Pt} (h : convB l = true) : areaB (Pl.turn l) = areaB l := by
  rw [area_eq h, area_eq (conv_turn h), Pl.area_turn]
theorem area_less {l : List Pt} (h : convB l = true) : areaB (idrop l 1) < areaB l := by
  have hp := area_pos' h
  cases hc : convB (idrop l 1) with
  | false => unfold areaB at hp ⊢; rw [hc]; simpa using hp
  | true =>
    rw [area_eq hc, area_eq h]
    obtain ⟨h1, _, _, h4⟩ := (conv_iff l).1 h
    have e : idrop l 1 = l.drop 1 := by unfold idrop; rfl
    rw [e]
    match l, h1, h4 with
    | a :: b :: c :: m, h1, h4 =>
      have := Pl.area_tail a b (c :: m) (by simp)
      rw [show (a :: b :: c :: m).drop 1 = b :: c :: m from rfl, this]
      have hl : (a :: b :: c :: m).length = m.length + 3 := rfl
      have hx : Pl.nx (a :: b :: c :: m) (m.length + 2) = 0 := by unfold Pl.nx; rw [hl, Nat.mod_self]
      have := h4 (m.length + 2) (by rw [hl]; omega) 1 (by rw [hl]; omega) (by omega) (by rw [hx]; omega)
      rw [hx] at this
      have e0 : Pl.nth (a :: b :: c :: m) 0 = a := rfl
      have e1 : Pl.nth (a :: b :: c :: m) 1 = b := rfl
      rw [e0, e1] at this
      have e2 : (c :: m).length + 1 = m.length + 2 := by simp
      rw [e2]
      omega
theorem hul_area {m : List Pt} {p : Pt} (h : ilen (hulF (m ++ [p])) ≠ 0) (h8 : ilen (hulF (m ++ [p])) ≤ 8) (h9 : ilen (hulF m) ≤ 8) : areaB (hulF m) ≤ areaB (hulF (m ++ [p])) := by
  have hc := hul_conv h h8
  obtain ⟨h16, hA, e, hne⟩ := hul_ne h
  rw [area_eq hc]
  by_cases h0 : ilen (hulF m) = 0
  · have hn : hulF m = [] := List.eq_nil_of_length_eq_zero (by rw [ilen_nat] at h0; omega)
    have hz : areaB [] = 0 := by
      unfold areaB
      rw [if_neg]
      intro h
      have := ((conv_iff []).1 h).1
      simp at this
    rw [hn, hz]
    have hs := (conv_iff _).1 hc
    exact Int.le_of_lt (Pl.area_pos hs.2.2.2 hs.1)
  · have hc' := hul_conv h0 h9
    obtain ⟨_, _, e', hne'⟩ := hul_ne h0
    rw [area_eq hc', e, e']
    exact Pl.hull_more hne hne'
def g_laws_FnHullArea : List AV → Option Sg
  | [.s (.rdr n)] => some ⟨True, [.s (.bool (true))]⟩
  | _ => none
def sig_laws_FnHullArea : FuncId → List AV → Option Sg := sigL [(46, g_impl_HullOf), (44, g_spec_HullOf), (51, g_laws_samePoints), (23, g_laws_alive), (52, g_impl_DoubleArea)]
def xs_laws_FnHullArea : XS := ⟨xsigL [], ysigL [(50, g_spec_DrawHullOf)]⟩
theorem sig_laws_FnHullArea_ok : SigOK sig_laws_FnHullArea := sigL_cons F_impl_HullOf (sigL_cons F_spec_HullOf (sigL_cons F_laws_samePoints (sigL_cons F_laws_alive (sigL_cons F_impl_DoubleArea sigL_nil))))
theorem xs_laws_FnHullArea_ok : XSigOK xs_laws_FnHullArea := ⟨xsigL_nil, ysigL_cons F_spec_DrawHullOf ysigL_nil⟩
theorem V_laws_FnHullArea (n : Int) : ((true = true) ∧ ((True) ∧ True) ∧ (true = true) ∧ ((True) ∧ (True) ∧ (True) ∧ True) ∧ ((ilt (1048576 : Int) n) = true → ((true = true) ∧ ((True) ∧ True) ∧ ((true : Bool) = (true)) ∧ True)) ∧ ((ilt (1048576 : Int) n) = false → ((true = true) ∧ ((True) ∧ True) ∧ (true = true) ∧ ((n ≤ 1048576)) ∧ (∀ l_40 : List Pt, ((ilen l_40 ≤ 20) → ((True) ∧ (true = true) ∧ ((True) ∧ ((True)) ∧ (True) ∧ True) ∧ (true = true) ∧ ((True) ∧ (True) ∧ ((True)) ∧ ((True)) ∧ (True) ∧ True) ∧ ((bnot (eqL (hulF (l_40)) (hulF (l_40)))) = true → ((true = true) ∧ ((True) ∧ True) ∧ ((false : Bool) = (true)) ∧ True)) ∧ ((bnot (eqL (hulF (l_40)) (hulF (l_40)))) = false → ((true = true) ∧ ((True) ∧ (True) ∧ (True) ∧ (True) ∧ (NIs (ieq (ilen (hulF (l_40))) (0 : Int)) false → True) ∧ (NIs (ieq (ilen (hulF (l_40))) (0 : Int)) false → True) ∧ (NIs (ieq (ilen (hulF (l_40))) (0 : Int)) false → True) ∧ (True) ∧ True) ∧ ((bite (ieq (ilen (hulF (l_40))) (0 : Int)) true (ilt (8 : Int) (ilen (hulF (l_40))))) = true → ((true = true) ∧ (((True)) ∧ (True) ∧ True) ∧ (((true) : Bool) = (true)) ∧ True)) ∧ ((bite (ieq (ilen (hulF (l_40))) (0 : Int)) true (ilt (8 : Int) (ilen (hulF (l_40))))) = false → ((true = true) ∧ ((True) ∧ (True) ∧ (True) ∧ (True) ∧ (NLe 0 (isub (ilen (l_40)) (1 : Int)) ∧ NLe (isub (ilen (l_40)) (1 : Int)) (ilen (l_40))) ∧ ((True)) ∧ (True) ∧ True) ∧ (true = true) ∧ ((True) ∧ (True) ∧ (True) ∧ (True) ∧ (NIs (ilt (8 : Int) (ilen (hulF (itake (l_40) (isub (ilen (l_40)) (1 : Int)))))) false → True) ∧ (NIs (ilt (8 : Int) (ilen (hulF (itake (l_40) (isub (ilen (l_40)) (1 : Int)))))) false → (True)) ∧ (NIs (ilt (8 : Int) (ilen (hulF (itake (l_40) (isub (ilen (l_40)) (1 : Int)))))) false → True) ∧ (NIs (ilt (8 : Int) (ilen (hulF (itake (l_40) (isub (ilen (l_40)) (1 : Int)))))) false → (True)) ∧ (NIs (ilt (8 : Int) (ilen (hulF (itake (l_40) (isub (ilen (l_40)) (1 : Int)))))) false → True) ∧ (True) ∧ (True) ∧ True) ∧ (((bite (ilt (8 : Int) (ilen (hulF (itake (l_40) (isub (ilen (l_40)) (1 : Int)))))) true (ile (areaB (hulF (itake (l_40) (isub (ilen (l_40)) (1 : Int))))) (areaB (hulF (l_40))))) : Bool) = (true)) ∧ True)))))))))) = ev sig_laws_FnHullArea xs_laws_FnHullArea Try.f10.ntmps (fun b => []) (codeOf Try.f10) 0 (initS [.s (.rdr n)]) (retK Try.f10.results.toList [.s (.bool (true))]) := by kernel_rfl
set_option maxHeartbeats 400000 in
theorem F_laws_FnHullArea : FunOK 10 g_laws_FnHullArea := by
  refine fun_F (by kernel_rfl) Try.func10 rfl (by kernel_rfl) sig_laws_FnHullArea_ok xs_laws_FnHullArea_ok ?_
  intro avs sg h hn hl
  unfold g_laws_FnHullArea at h
  split at h
  · rename_i n
    injection h with h; subst h
    refine ⟨by kernel_rfl, fun b => [], Eq.mp (V_laws_FnHullArea n) ?_⟩
    simp only [true_and, and_true, implies_true, and_self, forall_const, true_implies, lenA, lenL, SV.lenOK, Cont.lenOK] at hn hl ⊢
    simp only [ilt_t, ilt_f, ile_t, ile_f, ieq_t, ieq_f, bnot_e, band_e, bite_and, bite_or, NLt_e, NLe_e, NNe_e, NIs_e, imax_e, imin_e, irem_e, Bool.not_eq_true', Bool.not_eq_false', Bool.and_eq_true, Bool.or_eq_true, Bool.or_eq_false_iff, Bool.and_eq_false_iff, Cont.pts.injEq, Cont.ints.injEq, Cont.bools.injEq, Cont.ptss.injEq, Cont.intss.injEq, Cont.boolss.injEq, true_and, and_true, implies_true, eqL_same]
    intro h
    refine ⟨h, fun l hl => ⟨fun h => by simp at h, fun _ hH => ?_⟩⟩
    obtain ⟨hne, h8⟩ := hH
    have h0 := ilen_0 l
    have hpos : ilen l ≠ 0 := fun e => by
      have : l = [] := List.eq_nil_of_length_eq_zero (by rw [ilen_nat] at e; omega)
      subst this
      have hz : hulF [] = [] := by unfold hulF; split <;> rfl
      exact hne (by rw [hz, ilen_nil])
    have e1 : isub (ilen l) 1 = ilen l - 1 := isub_e (by omega) (by omega)
    rw [e1]
    refine ⟨⟨by omega, by omega⟩, ?_⟩
    rcases List.eq_nil_or_concat l with e | ⟨m, p, e⟩
    · subst e; exact absurd ilen_nil hpos
    · rw [List.concat_eq_append] at e
      subst e
      have e2 : itake (m ++ [p]) (ilen (m ++ [p]) - 1) = m := by
        unfold itake
        rw [ilen_nat, show (((m ++ [p]).length : Int) - 1).toNat = m.length by rw [List.length_append]; simp]
        simp
      rw [e2]
      by_cases h9 : ilen (hulF m) ≤ 8
      · exact .inr (hul_area hne h8 h9)
      · exact .inl (by omega)
  · cases h
theorem fnHullArea_walk (w : World) (v0 : Value) (x0 : Nat) (w0 : BytesArg w v0 x0) : Calls Try.prog 10 #[v0] w fun e w' => e = .returned (.bool true) ∧ Bel w w' :=
  walk_of F_laws_FnHullArea (avs := [.s (.rdr x0)]) rfl trivial ⟨bytes_reads w0, trivial⟩
set_option maxRecDepth 100000 in
theorem fnHullArea_lifted (os : Os) (started : os.Started) (H : Type) (enc : TypeId × Value → H) :
    ReturnsInHanded {} Try.checked os 10 .any (Rows.fnHullAreaSpec.pre6 enc Try.prog Try.f10 Rows.fnHullAreaRow.domain false) (Rows.fnHullAreaSpec.post enc Try.prog Try.f10 false true false false) := by
  have own : ownKnob Try.prog.godebug = none := by kernel_rfl
  have laidOut : laidOutB Try.prog = true := by kernel_rfl
  refine returnsInHanded_of_change (C := Try.checked) own started (by kernel_rfl) Try.func10
    (ChangeSpec.witness6 (enc := enc) (C := Try.checked) false ⟨#[], #[.slice none 0 0], []⟩ 8 (by kernel_rfl) (by kernel_rfl) (by kernel_rfl) (by kernel_rfl)) ?_
  intro W base args ds gs before hval0 hW hcnd _
  have hval : ∀ (j : Nat) t v, Try.f10.params[j]? = some t → args[j]? = some v → Value.okWide Try.prog W .any base t v := hval0
  have hW' := hW
  obtain ⟨p, q, hA0, hV, rfl, hfz, hnd⟩ := hW
  have hA : DataW.TrodAll enc Try.prog W 0 (fun _ => true) true Try.f10.params.toList args.toList ds p := hA0
  rw [Try.params10] at hA hval
  obtain ⟨v0, vs0, d0, ds0, p0, q0, hargs, rfl, rfl, h0, r0⟩ := trodAll_cons hA
  obtain ⟨rfl, rfl, rfl⟩ := trodAll_nil r0
  obtain rfl : args = #[v0] := by cases args; simp_all
  obtain ⟨rfl, rfl⟩ := trodVars_none hV
  have k0 := h0
  have lt0 : ∀ x ∈ p0, x.block < W.heap.size := by obtain ⟨m, hm⟩ := k0; exact DataW.trod_lt m _ _ _ hm
  obtain ⟨x0, w0⟩ := opn_bytes (hval 0 35 v0 rfl rfl) h0
  clear hA0 hval0
  refine (fnHullArea_walk W v0 x0 w0).mono fun e W' ⟨he, bel⟩ => ?_
  subst he
  exact ⟨_, rfl, _, _, _, [], _, [], hW', trodAll_mk1 (shut_bool Try.underlying4 _), (trodAll_cons_mk (Below.trod laidOut (by kernel_rfl) (of_decide_eq_true (by kernel_rfl)) k0 bel lt0) trodAll_mk0), rfl, Below.frame bel _, fun h => by cases h⟩
theorem fnHullArea_over : Rows.fnHullAreaRow.holds Try.pinned (OpenSpec.ofChange Rows.fnHullAreaSpec) :=
  OpenClaim.holds_of_wide 10 Try.f10 rfl rfl rfl rfl rfl rfl rfl ⟨rfl, rfl, rfl, rfl, rfl⟩ rfl rfl rfl rfl rfl (by kernel_rfl) Try.func10 (by kernel_rfl)
    (of_decide_eq_true (by kernel_rfl)) (by unfold Func.isWrapper; first | (rw [if_pos (by decide +kernel)]; kernel_rfl) | (rw [if_neg (by decide +kernel)]; exact ⟨rfl, rfl⟩))
    (fun os started H enc _ => fnHullArea_lifted os started H enc)
theorem fnHullArea_proved : Rows.FnHullAreaSaid := fnHullArea_over
#print axioms fnHullArea_proved
end Go.Proofs.Ytdpokkegkedlfaa

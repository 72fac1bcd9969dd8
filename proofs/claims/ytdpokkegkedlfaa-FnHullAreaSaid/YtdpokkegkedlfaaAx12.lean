/- Stores hold; memory that is no more written; all operations that write in one. -/
import Derived.Test.YtdpokkegkedlfaaAx11
namespace Go.Proofs.Ytdpokkegkedlfaa
open Go.RowKit
set_option maxRecDepth 10000
section
variable {sig : FuncId → List AV → Option Sg} {σ : St} {base : Base} {N : Nat} {E : Env} {a : Act} {w : World} {Q : Exit → Act → World → Prop} {K : Act → World → Prop} {p : Prop} {σ' : St}
  (ty : TypeId) (pos : String) (af : Array Edge)
theorem wp_skip_run {o : Oper} {w' : World} (h : (execOp a.eval o).run Try.prog w = .ok .skip w') (hk : K (a.put o.dst undef) w') : o.wp Try.prog a w K Q := by
  unfold Oper.wp; rw [h]; exact hk
theorem cellR_one {v : Value} {s : SV} (h : Rel base N σ E a w) (hs : s.has E w v) (hc : s.cellR = true) (hr : ∀ k, s = .row k → ∃ e c, lookB σ.b k = some (.row e c)) : v.oneCell' = true := by
  cases s with
  | int n => rw [show v = _ from hs]; rfl
  | bool n => rw [show v = _ from hs]; rfl
  | nil => rw [show v = _ from hs]; rfl
  | view c => obtain ⟨A, cap, h⟩ := reads_form hs; rw [h]; rfl
  | row k =>
    obtain ⟨e, c, hb⟩ := hr k rfl
    obtain ⟨xs, h1, _⟩ := h.mem.ok k _ hb
    rw [show v = E.hd k from hs]
    rcases h1.2 with ⟨e1, _⟩ | ⟨g, cap, cur, e1, _⟩ <;> rw [e1] <;> rfl
  | _ => cases hc
theorem mStRAgg_ok {t : TypeId} {x y : Operand} {j : Nat} {i : Int} {e : TypeId} {l : List Pt} {z : List SV} {x' y' : Int} (h : Rel base N σ E a w) (hb : lookB σ.b j = some (.row e (.pts l))) (ht : tyOf t = some (.st z)) (hz2 : z.length = 2)
    (ex : a.eval x = ptrIn (E.hd j) (i.toNat * 2 + 0)) (hi0 : 0 ≤ i) (ey : a.eval y = .agg #[.int .i64 x', .int .i64 y']) (hm : some (NLt i (ilen l), σ.setB j (.row e (.pts (setp l i x' y')))) = some (p, σ')) (hp : p)
    (key : ∀ w', (Instr.storeAt t (a.eval x) (a.eval y)).run Try.prog w = .ok () w' → Rel base N σ' E a w' → Oper.wp Try.prog ⟨none, .store t x y, ty, pos, af, none⟩ a w K Q) :
    Oper.wp Try.prog ⟨none, .store t x y, ty, pos, af, none⟩ a w K Q := by
  injection hm with hm; injection hm with h1 h2; subst h1 h2
  have hil := hp.out
  have hil' : i < l.length := by simpa [ilen] using hil
  obtain ⟨xs, hown, hC⟩ := h.mem.ok j _ hb
  have hC' : xs = ptCells l := hC
  have hown0 := hown
  rcases hown.2 with ⟨_, hz⟩ | ⟨g, cap, cur, e1, hbg, hgg, hnc, hcm, hcs, htake⟩
  · have : l.length = 0 := hz
    omega
  · rw [e1] at hown
    obtain ⟨_, _, _, _, hsz, _⟩ := ty_st ht
    have hszl : cur.size = cap * 2 := hcs
    have hlc : l.length ≤ cap := hnc
    have hthere : w.there g (i.toNat * 2 + 0) 2 := fun k hk => by
      refine ⟨?_, by simp [World.frozen?, hgg]⟩
      rw [cell_of_row w g _ cur e (0, 0) hgg, Array.getElem?_eq_getElem (by omega)]
      rfl
    have hrun := run_storeAt_mid (P := Try.prog) w g (i.toNat * 2 + 0) t #[.int .i64 x', .int .i64 y'] hthere (by rw [hsz, hz2]; rfl) (by simp [Value.oneCell'])
    have s1 := hown.stored (i.toNat * 2) (.int .i64 x')
    have s2 := s1.1.stored (i.toNat * 2 + 1) (.int .i64 y')
    have hg : w.grownBy ((w.setCell ⟨g, i.toNat * 2, none⟩ (.int .i64 x')).setCell ⟨g, i.toNat * 2 + 1, none⟩ (.int .i64 y')) (some g) :=
      ⟨s2.2.os.trans s1.2.os, s2.2.tape.trans s1.2.tape, s2.2.output.trans s1.2.output, Nat.le_trans s1.2.size s2.2.size, fun k hk hne => (s2.2.block k (Nat.lt_of_lt_of_le hk s1.2.size) hne).trans (s1.2.block k hk hne)⟩
    refine key _ ?_ (h.write (bx := .row e (.pts (setp l i x' y'))) hb (by rw [e1]; rfl) hg ⟨(xs.set (i.toNat * 2) (.int .i64 x')).set (i.toNat * 2 + 1) (.int .i64 y'), ?_, ?_⟩ rfl)
    · rw [ex, e1, ey]
      simp only [ptrIn, Nat.zero_add]
      exact hrun
    · rw [e1]
      have : (setp l i x' y').length = l.length := by simp [setp]
      show World.ownsRow _ _ _ 2 _ (setp l i x' y').length _
      rw [this]
      exact s2.1
    · show _ = ptCells (setp l i x' y')
      subst hC'
      have hin : i.toNat < l.length := by omega
      apply List.ext_getElem?
      intro k
      rw [List.getElem?_set, List.getElem?_set]
      have hpl : (setp l i x' y').length = l.length := by simp [setp]
      have hi' := ptCells_x (setp l i x' y') i.toNat (by omega)
      have hget : (setp l i x' y')[i.toNat]'(by omega) = (x', y') := by simp [setp]
      rw [hget] at hi'
      by_cases hk1 : i.toNat * 2 + 1 = k
      · rw [if_pos hk1, if_pos (by simp [ptCells_length]; omega), ← hk1, hi'.2]
      · rw [if_neg hk1]
        by_cases hk0 : i.toNat * 2 = k
        · rw [if_pos hk0, if_pos (by rw [ptCells_length]; omega), ← hk0, hi'.1]
        · rw [if_neg hk0]
          by_cases hkl : k < l.length * 2
          · have q := ptCells_x l (k / 2) (by omega)
            have q' := ptCells_x (setp l i x' y') (k / 2) (by omega)
            have hne : i.toNat ≠ k / 2 := by omega
            have hg2 : (setp l i x' y')[k / 2]'(by omega) = l[k / 2]'(by omega) := by simp [setp, List.getElem_set, hne]
            rw [hg2] at q'
            rcases (show k = k / 2 * 2 ∨ k = k / 2 * 2 + 1 by omega) with e | e
            · rw [e, q.1, q'.1]
            · rw [e, q.2, q'.2]
          · rw [List.getElem?_eq_none (by rw [ptCells_length]; omega), List.getElem?_eq_none (by rw [ptCells_length]; omega)]
theorem mStore_ok {t : TypeId} {x y : Operand} {dst : Option Tmp} (h : Rel base N σ E a w) (hd : dst = none) (hm : mStore σ t (gS σ x) (gS σ y) = some (p, σ')) (hp : p) (hK : ∀ E' a' w', Rel base N σ' E' a' w' → K a' w') :
    Oper.wp Try.prog ⟨dst, .store t x y, ty, pos, af, none⟩ a w K Q := by
  subst hd
  have hx := gS_has h x
  have hy := gS_has h y
  have hony := gS_on h y
  have key : ∀ w', (Instr.storeAt t (a.eval x) (a.eval y)).run Try.prog w = .ok () w' → Rel base N σ' E a w' → Oper.wp Try.prog ⟨none, .store t x y, ty, pos, af, none⟩ a w K Q := fun w' hr hR => by
    refine wp_skip_run (w' := w') ?_ (hK E a w' hR)
    unfold execOp
    generalize a.eval = ρ at *
    simp [hr]
  generalize gS σ x = gx at *
  generalize gS σ y = gy at *
  unfold mStore at hm
  split at hm
  · rename_i j o m
    have ex : a.eval x = ptrIn (E.hd j) o := hx
    unfold mStAgg at hm
    split at hm
    · rename_i l z hb ht
      split at hm
      · rename_i hk
        simp only [Bool.and_eq_true, beq_iff_eq] at hk
        obtain ⟨⟨k1, k2⟩, k3⟩ := hk
        have k1' := Nat.le_of_ble_eq_true k1
        injection hm with hm; injection hm with h1 h2; subst h1 h2
        obtain ⟨g, cur, e, e1, hbg, hgg, hl⟩ := h.mem.ok j _ hb
        obtain ⟨cs, ey, hcs⟩ := hy
        obtain ⟨q1, q2⟩ := hasL_get hl
        obtain ⟨r1, r2⟩ := hasL_get hcs
        have hcur : cur.size = l.length := by simpa using q1
        have hcsz : cs.size = m.length := by simpa using r1
        obtain ⟨hsz, _⟩ := ty_z ht
        have hone : cs.all (·.oneCell') = true := by
          refine Array.all_eq_true_iff_forall_mem.2 fun v hv => ?_
          obtain ⟨i, hi⟩ := List.getElem?_of_mem (Array.mem_toList_iff.2 hv)
          have hil : i < m.length := by have := (List.getElem?_eq_some_iff.1 hi).1; omega
          obtain ⟨u, hu, hh⟩ := r2 i _ (List.getElem?_eq_getElem hil)
          rw [hi] at hu; injection hu with hu; subst hu
          have hk := List.all_eq_true.1 k3 _ (List.getElem_mem hil)
          simp only [Bool.and_eq_true] at hk
          refine cellR_one h hh hk.1 fun k hs => ?_
          have h2 := hk.2
          rw [hs] at h2
          simp only [rowOK] at h2
          split at h2
          · rename_i e' c' hb'; exact ⟨e', c', hb'⟩
          · cases h2
        have hthere : w.there g o cs.size := fun i hi => by
          refine ⟨?_, by simp [World.frozen?, hgg]⟩
          rw [cell_of_row w g (o + i) cur e (0, 0) hgg, Array.getElem?_eq_getElem (by omega)]
          rfl
        have hrun := run_storeAt_mid (P := Try.prog) w g o t cs hthere (by rw [hsz]; congr 1; omega) hone
        obtain ⟨cur', s1, s2, s3, s4, s5⟩ := setCells_heap cs.toList o w cur hgg
        have hlen : cs.toList.length = m.length := r1
        refine key (w.setCells g o cs.toList) ?_ (h.write hb (by rw [e1]; rfl) s5 ⟨g, cur', e, e1, hbg, s1, ?_⟩ ?_)
        · rw [ex, e1, ey]
          simp only [ptrIn, Nat.zero_add]
          exact hrun
        · have hlv := h.mem.lv j _ g hb (by rw [e1]; rfl)
          have hev : Evo E E w (w.setCells g o cs.toList) := ⟨s5.size, fun b hb hn => s5.block b hb (fun e => by injection e with e; subst e; exact hn hlv), fun _ _ h => h, fun _ h => h⟩
          refine hasL_mk (by simp [s2, hcur]; omega) fun i s u hs hu => ?_
          have hu' : cur'[i]? = some u := by simpa using hu
          rw [List.append_assoc, List.getElem?_append] at hs
          by_cases hi : i < o
          · rw [if_pos (by simp; omega), List.getElem?_take, if_pos hi] at hs
            rw [s3 i (.inl hi)] at hu'
            obtain ⟨u', hu2, hh⟩ := q2 i s hs
            have : u' = u := by rw [← Array.getElem?_toList, hu2] at hu'; injection hu'
            subst this
            exact SV.has_evo hev (fun _ _ => rfl) hh
          · rw [if_neg (by simp; omega), List.getElem?_append] at hs
            have hol : (l.take o).length = o := by simp; omega
            rw [hol] at hs
            by_cases hi2 : i - o < m.length
            · rw [if_pos hi2] at hs
              have := s4 (i - o) (by omega) (by omega)
              rw [show o + (i - o) = i by omega, hu'] at this
              obtain ⟨u', hu2, hh⟩ := r2 (i - o) s hs
              rw [hu2] at this; injection this with this; subst this
              exact SV.has_evo hev (fun _ _ => rfl) hh
            · rw [if_neg hi2, List.getElem?_drop] at hs
              rw [show o + z.length + (i - o - m.length) = i by omega] at hs
              rw [s3 i (.inr (by omega))] at hu'
              obtain ⟨u', hu2, hh⟩ := q2 i s hs
              have : u' = u := by rw [← Array.getElem?_toList, hu2] at hu'; injection hu'
              subst this
              exact SV.has_evo hev (fun _ _ => rfl) hh
        · have hbi := (h.bids j _ hb).2
          refine List.all_eq_true.2 fun s hs => ?_
          simp only [List.mem_append] at hs
          rcases hs with (hs | hs) | hs
          · exact List.all_eq_true.1 hbi s (List.mem_of_mem_take hs)
          · have hs' := List.all_eq_true.1 k3 s hs
            cases s with
            | row k => exact blt_iff.2 (hony k (List.any_eq_true.2 ⟨_, hs, by simp [SV.on]⟩))
            | ptr k o => cases hs'
            | rptr k a b c => cases hs'
            | _ => rfl
          · exact List.all_eq_true.1 hbi s (List.mem_of_mem_drop hs)
      · cases hm
    · cases hm
  · rename_i j o s
    have ex : a.eval x = ptrIn (E.hd j) o := hx
    unfold mStOne at hm
    split at hm
    · rename_i l tt hb ht
      split at hm
      · rename_i hk
        simp only [Bool.and_eq_true] at hk
        obtain ⟨⟨⟨htt, k1⟩, k2⟩, k3⟩ := hk
        have k1' := blt_iff.1 k1
        injection hm with hm; injection hm with h1 h2; subst h1 h2
        have hrow : ∀ k, s = .row k → ∃ e c, lookB σ.b k = some (.row e c) := by
          rintro k rfl
          simp only [rowOK] at k3
          split at k3
          · rename_i e c hb'; exact ⟨e, c, hb'⟩
          · cases k3
        obtain ⟨g, cur, e, e1, hbg, hgg, hl⟩ := h.mem.ok j _ hb
        obtain ⟨q1, q2⟩ := hasL_get hl
        have hcur : cur.size = l.length := by simpa using q1
        have hyv : s.has E w (a.eval y) := hy
        have hone := cellR_one h hyv k2 hrow
        have hrun := run_storeAt_one (w := w) ht htt (g := g) (o := o) (v := a.eval y) (by rw [cell_of_row w g o cur e (0, 0) hgg, Array.getElem?_eq_getElem (by omega)]; rfl) (by simp [World.frozen?, hgg]) hone
        obtain ⟨cur', s1, s2, s3, s4, s5⟩ := setCells_heap [a.eval y] o w cur hgg
        refine key (w.setCell ⟨g, o, none⟩ (a.eval y)) ?_ (h.write hb (by rw [e1]; rfl) s5 ⟨g, cur', e, e1, hbg, s1, ?_⟩ ?_)
        · rw [ex, e1]
          simp only [ptrIn, Nat.zero_add]
          exact hrun
        · have hlv := h.mem.lv j _ g hb (by rw [e1]; rfl)
          have hev : Evo E E w (w.setCells g o [a.eval y]) := ⟨s5.size, fun b hb hn => s5.block b hb (fun e => by injection e with e; subst e; exact hn hlv), fun _ _ h => h, fun _ h => h⟩
          refine hasL_mk (by simp [s2, hcur]) fun i s' u hs hu => ?_
          have hu' : cur'[i]? = some u := by simpa using hu
          rw [List.getElem?_set] at hs
          by_cases hi : o = i
          · subst hi
            rw [if_pos rfl, if_pos k1'] at hs
            injection hs with hs; subst hs
            have := s4 0 (by simp) (by omega)
            rw [Nat.add_zero, hu'] at this
            injection this with this
            rw [this]
            exact SV.has_evo hev (fun _ _ => rfl) hyv
          · rw [if_neg hi] at hs
            rw [s3 i (by simp; omega)] at hu'
            obtain ⟨u', hu2, hh⟩ := q2 i s' hs
            have : u' = u := by rw [← Array.getElem?_toList, hu2] at hu'; injection hu'
            subst this
            exact SV.has_evo hev (fun _ _ => rfl) hh
        · have hbi := (h.bids j _ hb).2
          refine List.all_eq_true.2 fun s' hs => ?_
          rcases List.mem_or_eq_of_mem_set hs with hs | hs
          · exact List.all_eq_true.1 hbi s' hs
          · subst hs
            cases s' <;> first | rfl | (cases k2; done) | exact blt_iff.2 (hony _ (by simp [FV.on, AV.on, SV.on]))
      · cases hm
    · cases hm
  · rename_i j sz i o m
    obtain ⟨ex, hi0⟩ := hx
    unfold mStRAgg at hm
    split at hm
    · rename_i x' y'
      split at hm
      · rename_i e l z hb ht
        split at hm
        · rename_i hk
          simp only [Bool.and_eq_true, beq_iff_eq] at hk
          obtain ⟨⟨hz2, rfl⟩, rfl⟩ := hk
          exact mStRAgg_ok _ _ _ h hb ht hz2 ex hi0 (agg2_form hy) hm hp key
        · cases hm
      · cases hm
    · cases hm
  · rename_i j sz i o s
    obtain ⟨ex, hi0⟩ := hx
    unfold mStROne at hm
    split at hm
    · rename_i e c tt hb ht
      split at hm
      · rename_i hk
        simp only [Bool.and_eq_true, beq_iff_eq] at hk
        obtain ⟨htt, rfl⟩ := hk
        split at hm
        · rename_i c' hc'
          injection hm with hm; injection hm with h1 h2; subst h1 h2
          have hil := hp.out
          rw [Cont.ilen_eq] at hil
          obtain ⟨xs, hown, hC⟩ := h.mem.ok j _ hb
          have hyv : s.has E w (a.eval y) := hy
          obtain ⟨r1, r2, r3, r4⟩ := cells_put (L := E.lv) hC hown.1 hi0 hil hc' hyv
          rcases hown.2 with ⟨_, hz⟩ | ⟨g, cap, cur, e1, hbg, hgg, hnc, hcm, hcs, htake⟩
          · omega
          · have ho : o < c.sz := by
              unfold Cont.put at hc'
              split at hc' <;> first | (simp [Cont.sz]; done) | cases hc'
            have hpos : i.toNat * c.sz + o < cur.size := by
              have h1 : (i.toNat + 1) * c.sz ≤ cap * c.sz := Nat.mul_le_mul_right _ (by omega)
              rw [Nat.add_mul] at h1
              omega
            rw [e1] at hown
            have hrun := run_storeAt_one (w := w) ht htt (g := g) (o := i.toNat * c.sz + o) (v := a.eval y) (by rw [cell_of_row w g _ cur e (0, 0) hgg, Array.getElem?_eq_getElem hpos]; rfl) (by simp [World.frozen?, hgg]) r4
            have s1 := hown.stored (i.toNat * c.sz + o) (a.eval y)
            have hlv := h.mem.lv j _ g hb (by rw [e1]; rfl)
            have hev : Evo E E w (w.setCell ⟨g, i.toNat * c.sz + o, none⟩ (a.eval y)) := ⟨s1.2.size, fun b hb hn => s1.2.block b hb (fun e => by injection e with e; subst e; exact hn hlv), fun _ _ h => h, fun _ h => h⟩
            refine key _ ?_ (h.write (bx := .row e c') hb (by rw [e1]; rfl) s1.2 ⟨xs.set (i.toNat * c.sz + o) (a.eval y), ?_, r1.evo hev⟩ rfl)
            · rw [ex, e1]
              simp only [ptrIn, Nat.zero_add]
              exact hrun
            · rw [e1, r2, r3]
              exact s1.1
        · cases hm
      · cases hm
    · cases hm
  · cases hm
end
end Go.Proofs.Ytdpokkegkedlfaa

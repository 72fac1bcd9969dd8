/- 'FnInsideConvex': for every code both sides tell the same of the drawn point; all corners of a convex polygon are inside; a valid point is inside exactly if the areas of the triangles over the edges sum up to the polygon's; the first corner does not matter. Conditions: none. -/
import Derived.Test.YtlngpnmenmdlmaaFnInsideConvexP2
namespace Go.Proofs.Ytlngpnmenmdlmaa
open Go.ChangeShapes Go.WideShapes Go.ChangeAt Go.RowKit
set_option maxRecDepth 100000
set_option linter.unusedSimpArgs false
set_option linter.unusedVariables false
theorem bxor_self (a : Bool) : bxor a a = false := by cases a <;> simp [bxor]
namespace Pl
theorem min_exists {al be : Nat → Int} : ∀ n, (∃ i, i < n ∧ be i < 0) → ∃ i, i < n ∧ be i < 0 ∧ ∀ j, j < n → be j < 0 → al i * (-be j) ≤ al j * (-be i)
  | 0, h => by obtain ⟨i, hi, _⟩ := h; omega
  | n + 1, h => by
    by_cases hn : ∃ i, i < n ∧ be i < 0
    · obtain ⟨i, hi, hb, hm⟩ := min_exists n hn
      by_cases hbn : be n < 0
      · by_cases hc : al i * (-be n) ≤ al n * (-be i)
        · exact ⟨i, by omega, hb, fun j hj hbj => by
            rcases Nat.lt_or_ge j n with h | h
            · exact hm j h hbj
            · have : j = n := by omega
              subst this; exact hc⟩
        · refine ⟨n, by omega, hbn, fun j hj hbj => ?_⟩
          rcases Nat.lt_or_ge j n with h | h
          · have h1 := hm j h hbj
            have p1 : al n * (-be i) * (-be j) ≤ al i * (-be n) * (-be j) := Int.mul_le_mul_of_nonneg_right (by omega) (by omega)
            have p2 : al i * (-be j) * (-be n) ≤ al j * (-be i) * (-be n) := Int.mul_le_mul_of_nonneg_right h1 (by omega)
            have p3 : (-be i) * (al n * (-be j)) ≤ (-be i) * (al j * (-be n)) := by
              have e1 : (-be i) * (al n * (-be j)) = al n * (-be i) * (-be j) := by grind
              have e2 : al i * (-be n) * (-be j) = al i * (-be j) * (-be n) := by grind
              have e3 : (-be i) * (al j * (-be n)) = al j * (-be i) * (-be n) := by grind
              omega
            exact Int.le_of_mul_le_mul_left p3 (by omega)
          · have : j = n := by omega
            subst this; exact Int.le_refl _
      · exact ⟨i, by omega, hb, fun j hj hbj => by
          rcases Nat.lt_or_ge j n with h | h
          · exact hm j h hbj
          · have : j = n := by omega
            subst this; omega⟩
    · obtain ⟨i, hi, hb⟩ := h
      have : i = n := by
        rcases Nat.lt_or_ge i n with h | h
        · exact absurd ⟨i, h, hb⟩ hn
        · omega
      subst this
      refine ⟨i, hi, hb, fun j hj hbj => ?_⟩
      rcases Nat.lt_or_ge j i with h | h
      · exact absurd ⟨j, h, hbj⟩ hn
      · have : j = i := by omega
        subst this; exact Int.le_refl _
theorem crs_lin (a b p q : Pt) (s t : Int) : s * crs a b p + t * crs a b q = (b.1 - a.1) * ((s * p.2 + t * q.2) - (s + t) * a.2) - (b.2 - a.2) * ((s * p.1 + t * q.1) - (s + t) * a.1) := by unfold crs; grind
/-- Where a segment leaves a convex polygon it meets an edge. -/
theorem exit_edge {ps : List Pt} (hs : Strict ps) (hn : 3 ≤ ps.length) {p q : Pt} (hp : insP ps p) (hq : ¬ insP ps q) :
    ∃ i, i < ps.length ∧ Com p q (nth ps i) (nth ps (nx ps i)) := by
  have hex : ∃ i, i < ps.length ∧ crs (nth ps i) (nth ps (nx ps i)) q < 0 := by
    apply Classical.byContradiction
    intro h
    apply hq
    intro i hi
    apply Int.not_lt.1
    intro hlt
    exact h ⟨i, hi, hlt⟩
  obtain ⟨i, hi, hb, hm⟩ := min_exists (al := fun i => crs (nth ps i) (nth ps (nx ps i)) p) (be := fun i => crs (nth ps i) (nth ps (nx ps i)) q) ps.length hex
  refine ⟨i, hi, ?_⟩
  obtain ⟨h0, hh0, hhi⟩ := nx_onto hi
  have ha := hp i hi
  -- the point where it leaves is on the left of every edge
  have hall : ∀ j, j < ps.length → 0 ≤ (- crs (nth ps i) (nth ps (nx ps i)) q) * crs (nth ps j) (nth ps (nx ps j)) p + crs (nth ps i) (nth ps (nx ps i)) p * crs (nth ps j) (nth ps (nx ps j)) q := by
    intro j hj
    have hpj := hp j hj
    rcases (show crs (nth ps j) (nth ps (nx ps j)) q < 0 ∨ 0 ≤ crs (nth ps j) (nth ps (nx ps j)) q by omega) with hq' | hq'
    · have := hm j hj hq'
      rw [Int.mul_neg] at this
      have e : (- crs (nth ps i) (nth ps (nx ps i)) q) * crs (nth ps j) (nth ps (nx ps j)) p = crs (nth ps j) (nth ps (nx ps j)) p * (- crs (nth ps i) (nth ps (nx ps i)) q) := Int.mul_comm _ _
      omega
    · have p1 := Int.mul_nonneg (show 0 ≤ - crs (nth ps i) (nth ps (nx ps i)) q by omega) hpj
      have p2 := Int.mul_nonneg ha hq'
      omega
  have hk := hall (nx ps i) (nx_lt hi)
  have hz := hall h0 hh0
  rw [hhi] at hz
  -- the edge before and the edge behind
  have hnn : nx ps (nx ps i) ≠ i := by
    intro e
    unfold nx at e
    by_cases h1 : i + 1 < ps.length
    · rw [Nat.mod_eq_of_lt h1] at e
      by_cases h2 : i + 1 + 1 < ps.length
      · rw [Nat.mod_eq_of_lt h2] at e; omega
      · rw [show i + 1 + 1 = ps.length by omega, Nat.mod_self] at e; omega
    · rw [show i + 1 = ps.length by omega, Nat.mod_self, Nat.zero_add, Nat.mod_eq_of_lt (by omega)] at e; omega
  have hni : nx ps i ≠ i := by
    intro e
    unfold nx at e
    by_cases h1 : i + 1 < ps.length
    · rw [Nat.mod_eq_of_lt h1] at e; omega
    · rw [show i + 1 = ps.length by omega, Nat.mod_self] at e; omega
  have hC0 := hs (nx ps i) (nx_lt hi) i hi (fun e => hni e.symm) (fun e => hnn e.symm)
  have hE0 := hs h0 hh0 (nx ps i) (nx_lt hi) (by
    intro e
    have : nx ps (nx ps i) = i := by rw [e, hhi]
    exact hnn this) (by rw [hhi]; exact hni)
  rw [hhi] at hE0
  generalize nth ps i = a at *
  generalize nth ps (nx ps i) = b at *
  generalize nth ps (nx ps (nx ps i)) = c at *
  generalize nth ps h0 = z at *
  clear hm hall hex
  generalize hal : crs a b p = al at *
  generalize hbe : crs a b q = be at *
  generalize hC1 : (-be) * crs b c p + al * crs b c q = C1 at *
  generalize hE1 : (-be) * crs z a p + al * crs z a q = E1 at *
  generalize hC0' : crs b c a = C0 at *
  generalize hE0' : crs z a b = E0 at *
  have key : E0 * ((al - be) * C0 - C1) = C0 * E1 := by
    subst hC1 hE1 hC0' hE0'
    rw [← hal, ← hbe]
    unfold crs; grind
  have hv : 0 ≤ (al - be) * C0 - C1 := by
    have := Int.mul_nonneg (show 0 ≤ C0 by omega) hz
    rw [← key] at this
    apply Int.not_lt.1
    intro hlt
    have h1 := Int.mul_pos hE0 (show 0 < -((al - be) * C0 - C1) by omega)
    rw [Int.mul_neg] at h1
    omega
  refine ⟨(-be) * C0, al * C0, C1, (al - be) * C0 - C1, Int.mul_nonneg (by omega) (by omega), Int.mul_nonneg ha (by omega), hk, hv, ?_, ?_, ?_, ?_⟩
  · have e : (-be) * C0 + al * C0 = (al - be) * C0 := by grind
    rw [e]; exact Int.mul_pos (by omega) hC0
  · grind
  · subst hC1 hC0'
    rw [← hal, ← hbe]
    unfold crs; grind
  · subst hC1 hC0'
    rw [← hal, ← hbe]
    unfold crs; grind
/-- A segment and a convex polygon. -/
def hitsP (ps : List Pt) (a b : Pt) : Prop := insP ps a ∨ insP ps b ∨ ∃ i, i < ps.length ∧ meetB a b (nth ps i) (nth ps (nx ps i)) = true
def cmeetP (a b : List Pt) : Prop := (∃ i, i < a.length ∧ hitsP b (nth a i) (nth a (nx a i))) ∨ insP a (nth b 0)
theorem hitsP_flip {ps : List Pt} {a b : Pt} : hitsP ps a b ↔ hitsP ps b a := by
  unfold hitsP
  constructor
  · rintro (h | h | ⟨i, hi, h⟩)
    · exact .inr (.inl h)
    · exact .inl h
    · exact .inr (.inr ⟨i, hi, by rw [meetB_flip]; exact h⟩)
  · rintro (h | h | ⟨i, hi, h⟩)
    · exact .inr (.inl h)
    · exact .inl h
    · exact .inr (.inr ⟨i, hi, by rw [meetB_flip]; exact h⟩)
/-- Going round from a corner with a property to one without, some edge leads out. -/
theorem leaves {ps : List Pt} {P : Pt → Prop} {m : Nat} (hm : m < ps.length) (hP : P (nth ps m)) {k : Nat} (hk : k < ps.length) (hn : ¬ P (nth ps k)) : ∃ i, i < ps.length ∧ P (nth ps i) ∧ ¬ P (nth ps (nx ps i)) := by
  apply Classical.byContradiction
  intro hno
  have step : ∀ i, i < ps.length → P (nth ps i) → P (nth ps (nx ps i)) := by
    intro i hi h
    apply Classical.byContradiction
    intro h2
    exact hno ⟨i, hi, h, h2⟩
  have all : ∀ n, P (nth ps ((m + n) % ps.length)) := by
    intro n
    induction n with
    | zero => rw [Nat.add_zero, Nat.mod_eq_of_lt hm]; exact hP
    | succ n ih =>
      have := step _ (Nat.mod_lt _ (by omega)) ih
      unfold nx at this
      rw [Nat.mod_add_mod] at this
      exact this
  apply hn
  have := all (ps.length - m + k)
  rw [show m + (ps.length - m + k) = ps.length + k by omega, Nat.add_mod_left, Nat.mod_eq_of_lt hk] at this
  exact this
theorem cmeet_half {a b : List Pt} (hb : Strict b) (hbn : 3 ≤ b.length) (han : 0 < a.length) (h : cmeetP a b) : cmeetP b a := by
  rcases h with ⟨i, hi, h⟩ | h
  · have hcor : (∃ m, m < a.length ∧ insP b (nth a m)) → cmeetP b a := by
      rintro ⟨m, hm, hin⟩
      by_cases h0 : insP b (nth a 0)
      · exact .inr h0
      · obtain ⟨k, hk, h1, h2⟩ := leaves (P := insP b) hm hin han h0
        obtain ⟨j, hj, hc⟩ := exit_edge hb hbn h1 h2
        exact .inl ⟨j, hj, .inr (.inr ⟨k, hk, meetB_iff.2 (com_swap hc)⟩)⟩
    rcases h with h | h | ⟨j, hj, h⟩
    · exact hcor ⟨i, hi, h⟩
    · exact hcor ⟨nx a i, nx_lt hi, h⟩
    · exact .inl ⟨j, hj, .inr (.inr ⟨i, hi, by rw [← meetB_swap]; exact h⟩)⟩
  · exact .inl ⟨0, by omega, .inl h⟩
theorem cmeet_symm {a b : List Pt} (ha : Strict a) (han : 3 ≤ a.length) (hb : Strict b) (hbn : 3 ≤ b.length) : cmeetP a b ↔ cmeetP b a :=
  ⟨cmeet_half hb hbn (by omega), cmeet_half ha han (by omega)⟩

end Pl
theorem vat {l : List Pt} (h : allB l = true) {i : Nat} (hi : i < l.length) : vB (getx l i) (gety l i) = true := by
  rw [allB_N] at h; exact allN_iff.1 h i (by omega) (by rw [ilen_nat]; omega)
theorem ins_iff {l : List Pt} (hA : allB l = true) {p1 p2 : Int} (hp : vB p1 p2 = true) : insB l p1 p2 = true ↔ Pl.insP l (p1, p2) := by
  have e : ∀ i : Nat, i < l.length → (insE l p1 p2 i = true ↔ 0 ≤ crs (Pl.nth l i) (Pl.nth l (Pl.nx l i)) (p1, p2)) := by
    intro i hi
    unfold insE
    rw [nx_nat hi, crW_e (vat hA hi) (vat hA (Pl.nx_lt hi)) hp, nth_get, nth_get, decide_eq_true_eq]
  unfold insB
  rw [allN_iff, ilen_nat]
  constructor
  · intro h i hi
    exact (e i hi).1 (h i (by omega) (by omega))
  · intro h j j0 j1
    obtain ⟨j, rfl⟩ := Int.eq_ofNat_of_zero_le j0
    exact (e j (by omega)).2 (h j (by omega))
theorem hit_iff {l : List Pt} (hA : allB l = true) {a1 a2 b1 b2 : Int} (ha : vB a1 a2 = true) (hb : vB b1 b2 = true) : hitB l a1 a2 b1 b2 = true ↔ Pl.hitsP l (a1, a2) (b1, b2) := by
  unfold hitB Pl.hitsP
  simp only [Bool.or_eq_true, ins_iff hA ha, ins_iff hA hb, or_assoc]
  have e : ∀ i : Nat, i < l.length → hitE l a1 a2 b1 b2 i = meetB (a1, a2) (b1, b2) (Pl.nth l i) (Pl.nth l (Pl.nx l i)) := by
    intro i hi
    unfold hitE
    rw [nx_nat hi, nth_get, nth_get]
  have e2 : anyN (ilen l) (hitE l a1 a2 b1 b2) = true ↔ ∃ i, i < l.length ∧ meetB (a1, a2) (b1, b2) (Pl.nth l i) (Pl.nth l (Pl.nx l i)) = true := by
    rw [anyN_iff, ilen_nat]
    constructor
    · rintro ⟨j, j0, j1, h⟩
      obtain ⟨j, rfl⟩ := Int.eq_ofNat_of_zero_le j0
      exact ⟨j, by omega, by rw [← e j (by omega)]; exact h⟩
    · rintro ⟨i, hi, h⟩
      exact ⟨i, by omega, by omega, by rw [e i hi]; exact h⟩
  rw [e2]
theorem hit_flip (l : List Pt) (a1 a2 b1 b2 : Int) : hitB l b1 b2 a1 a2 = hitB l a1 a2 b1 b2 := by
  unfold hitB
  have : hitE l b1 b2 a1 a2 = hitE l a1 a2 b1 b2 := by funext i; unfold hitE; exact meetB_flip _ _ _ _
  rw [this, Bool.or_comm (insB l b1 b2)]
theorem anyN_1 {k : Int} (f : Int → Bool) (h : 0 ≤ k) : anyN (k + 1) f = (anyN k f || f k) := by
  obtain ⟨k, rfl⟩ := Int.eq_ofNat_of_zero_le h
  unfold anyN
  rw [show ((k : Int) + 1).toNat = k + 1 by omega, show (k : Int).toNat = k by omega, List.range_succ, List.any_append]
  simp
theorem getx_nth (l : List Pt) (i : Nat) : getx l i = (Pl.nth l i).1 := by rw [← nth_get]
theorem gety_nth (l : List Pt) (i : Nat) : gety l i = (Pl.nth l i).2 := by rw [← nth_get]
theorem shoe_nat {l : List Pt} : ∀ k : Nat, k ≤ l.length → shoe l k = Pl.sumN (fun i => (Pl.nth l i).1 * (Pl.nth l (Pl.nx l i)).2 - (Pl.nth l i).2 * (Pl.nth l (Pl.nx l i)).1) k
  | 0, _ => rfl
  | k + 1, h => by
    rw [show ((k + 1 : Nat) : Int) = (k : Int) + 1 by omega, shoe_1 (by omega), shoe_nat k (by omega), nx_nat (by omega)]
    show _ + dt l k (Pl.nx l k) = Pl.sumN _ k + _
    unfold dt
    rw [getx_nth, gety_nth, getx_nth, gety_nth]
theorem area_eq {l : List Pt} (h : convB l = true) : areaB l = Pl.area2 l := by
  unfold areaB
  rw [if_pos h, ilen_nat, shoe_nat _ (Nat.le_refl _)]
  rfl
theorem area_pos' {l : List Pt} (h : convB l = true) : 0 < areaB l := by
  rw [area_eq h]
  obtain ⟨h1, _, _, h4⟩ := (conv_iff l).1 h
  exact Pl.area_pos h4 h1
theorem area_turn' {l : List Pt} (h : convB l = true) : areaB (Pl.turn l) = areaB l := by
  rw [area_eq h, area_eq (conv_turn h), Pl.area_turn]
theorem area_less {l : List Pt} (h : convB l = true) : areaB (idrop l 1) < areaB l := by
  have hp := area_pos' h
  cases hc : convB (idrop l 1) with
  | false => unfold areaB at hp ⊢; rw [hc]; simpa using hp
  | true =>
    rw [area_eq hc, area_eq h]
    obtain ⟨h1, _, _, h4⟩ := (conv_iff l).1 h
    have e : idrop l 1 = l.drop 1 := by unfold idrop; rfl
    rw [e]
    match l, h1, h4 with
    | a :: b :: c :: m, h1, h4 =>
      have := Pl.area_tail a b (c :: m) (by simp)
      rw [show (a :: b :: c :: m).drop 1 = b :: c :: m from rfl, this]
      have hl : (a :: b :: c :: m).length = m.length + 3 := rfl
      have hx : Pl.nx (a :: b :: c :: m) (m.length + 2) = 0 := by unfold Pl.nx; rw [hl, Nat.mod_self]
      have := h4 (m.length + 2) (by rw [hl]; omega) 1 (by rw [hl]; omega) (by omega) (by rw [hx]; omega)
      rw [hx] at this
      have e0 : Pl.nth (a :: b :: c :: m) 0 = a := rfl
      have e1 : Pl.nth (a :: b :: c :: m) 1 = b := rfl
      rw [e0, e1] at this
      have e2 : (c :: m).length + 1 = m.length + 2 := by simp
      rw [e2]
      omega
theorem crs_vb {a1 a2 b1 b2 c1 c2 : Int} (ha : vB a1 a2 = true) (hb : vB b1 b2 = true) (hc : vB c1 c2 = true) : -800000000 ≤ crs (a1, a2) (b1, b2) (c1, c2) ∧ crs (a1, a2) (b1, b2) (c1, c2) ≤ 800000000 := by
  unfold vB at ha hb hc
  simp only [Bool.and_eq_true] at ha hb hc
  have a1' := inB_true ha.1; have a2' := inB_true ha.2; have b1' := inB_true hb.1; have b2' := inB_true hb.2; have c1' := inB_true hc.1; have c2' := inB_true hc.2
  unfold crs
  have m1 := mul20 (x := b1 - a1) (y := c2 - a2) (by omega) (by omega)
  have m2 := mul20 (x := b2 - a2) (y := c1 - a1) (by omega) (by omega)
  simp only
  omega
def tri (l : List Pt) (x y : Int) (i : Nat) : Int := Pl.absI (crs (x, y) (Pl.nth l i) (Pl.nth l (Pl.nx l i)))
theorem tri_bd {l : List Pt} (hA : allB l = true) {x y : Int} (hp : vB x y = true) {i : Nat} (hi : i < l.length) : 0 ≤ tri l x y i ∧ tri l x y i ≤ 800000000 := by
  have := crs_vb hp (vat hA hi) (vat hA (Pl.nx_lt hi))
  rw [nth_get, nth_get] at this
  unfold tri Pl.absI
  omega
theorem ins_turn {l : List Pt} (hc : convB l = true) {x y : Int} (hp : vB x y = true) : insB (Pl.turn l) x y = insB l x y := by
  obtain ⟨l1, l2, l3, l4⟩ := (conv_iff l).1 hc
  rw [Bool.eq_iff_iff, ins_iff l3 hp, ins_iff (allB_turn l3) hp]
  exact Pl.insP_turn
theorem ins_area {l : List Pt} (hc : convB l = true) {x y : Int} (hp : vB x y = true) : insB l x y = ieq (Pl.sumN (tri l x y) l.length) (areaB l) := by
  obtain ⟨l1, l2, l3, l4⟩ := (conv_iff l).1 hc
  rw [area_eq hc, Bool.eq_iff_iff, ins_iff l3 hp, Pl.inside_area (by omega)]
  unfold ieq tri
  simp
theorem ins_corner {l : List Pt} (hc : convB l = true) {k : Nat} (hk : k < l.length) : insB l (getx l k) (gety l k) = true := by
  obtain ⟨l1, l2, l3, l4⟩ := (conv_iff l).1 hc
  rw [ins_iff l3 (vat l3 hk), nth_get]
  exact Pl.corner_inside l4 hk
def g_laws_FnInsideConvex : List AV → Option Sg
  | [.s (.rdr n)] => some ⟨True, [.s (.bool (true))]⟩
  | _ => none
def sig_laws_FnInsideConvex : FuncId → List AV → Option Sg := sigL [(26, g_impl_InsideConvex), (27, g_spec_InsideConvex), (16, g_spec_ConvexValid), (28, g_spec_PointValid), (17, g_laws_alive), (29, g_laws_abs), (20, g_impl_DoubleArea), (18, g_laws_turnList)]
def xs_laws_FnInsideConvex : XS := ⟨xsigL [], ysigL [(25, g_spec_DrawInsideConvex)]⟩
theorem sig_laws_FnInsideConvex_ok : SigOK sig_laws_FnInsideConvex := sigL_cons F_impl_InsideConvex (sigL_cons F_spec_InsideConvex (sigL_cons F_spec_ConvexValid (sigL_cons F_spec_PointValid (sigL_cons F_laws_alive (sigL_cons F_laws_abs (sigL_cons F_impl_DoubleArea (sigL_cons F_laws_turnList sigL_nil)))))))
theorem xs_laws_FnInsideConvex_ok : XSigOK xs_laws_FnInsideConvex := ⟨xsigL_nil, ysigL_cons F_spec_DrawInsideConvex ysigL_nil⟩
theorem V_laws_FnInsideConvex (n : Int) : ((true = true) ∧ ((True) ∧ True) ∧ (true = true) ∧ ((True) ∧ (True) ∧ (True) ∧ True) ∧ ((ilt (1048576 : Int) n) = true → ((true = true) ∧ ((True) ∧ True) ∧ ((true : Bool) = (true)) ∧ True)) ∧ ((ilt (1048576 : Int) n) = false → ((true = true) ∧ ((True) ∧ True) ∧ (true = true) ∧ ((n ≤ 1048576)) ∧ (∀ l_96 : List Pt, ∀ x_97 : Int, ∀ y_98 : Int, ((ilen l_96 ≤ 40 ∧ -30000 ≤ x_97 ∧ x_97 ≤ 30000 ∧ -30000 ≤ y_98 ∧ y_98 ≤ 30000) → ((true = true) ∧ ((true = true) ∧ ((true = true) ∧ ((True) ∧ (True) ∧ (True) ∧ (true = true) ∧ ((True) ∧ (True) ∧ ((True)) ∧ (True) ∧ True) ∧ (true = true) ∧ ((True) ∧ (True) ∧ (True) ∧ ((True)) ∧ (True) ∧ True) ∧ ((bxor (convB (l_96) && vB (x_97) (y_98) && insB (l_96) (x_97) (y_98)) (convB (l_96) && vB (x_97) (y_98) && insB (l_96) (x_97) (y_98))) = true → ((true = true) ∧ ((True) ∧ True) ∧ ((false : Bool) = (true)) ∧ True)) ∧ ((bxor (convB (l_96) && vB (x_97) (y_98) && insB (l_96) (x_97) (y_98)) (convB (l_96) && vB (x_97) (y_98) && insB (l_96) (x_97) (y_98))) = false → ((true = true) ∧ ((True) ∧ ((True)) ∧ (True) ∧ (True) ∧ (NIs (bnot (convB (l_96))) false → True) ∧ (NIs (bnot (convB (l_96))) false → (True)) ∧ (NIs (bnot (convB (l_96))) false → True) ∧ (True) ∧ True) ∧ ((bite (bnot (convB (l_96))) true (bnot (vB (x_97) (y_98)))) = true → ((true = true) ∧ ((True) ∧ (True) ∧ (True) ∧ (NIs (bnot (convB (l_96) && vB (x_97) (y_98) && insB (l_96) (x_97) (y_98))) true → (True)) ∧ (True) ∧ (True) ∧ True) ∧ (((bite (bnot (convB (l_96) && vB (x_97) (y_98) && insB (l_96) (x_97) (y_98))) (true) false) : Bool) = (true)) ∧ True)) ∧ ((bite (bnot (convB (l_96))) true (bnot (vB (x_97) (y_98)))) = false → ((true = true) ∧ ((True) ∧ True) ∧ (true = true) ∧ ((True) ∧ True) ∧ ∃ (I1 : List GV → Prop) (μ1 : List GV → Nat), (((true = true) ∧ (((false : Bool) = false) ∧ (((0 : Int) : Int) = (0 : Int)) ∧ (((0 : Int) : Int) = (0 : Int)) ∧ ((Cont.pts (l_96)) = (Cont.pts (l_96))) ∧ (((convB (l_96)) : Bool) = (convB (l_96))) ∧ (((bnot (convB (l_96))) : Bool) = (bnot (convB (l_96)))) ∧ (((bnot (convB (l_96))) : Bool) = (bnot (convB (l_96)))) ∧ (((bite (bnot (convB (l_96))) true (bnot (vB (x_97) (y_98)))) : Bool) = (bite (bnot (convB (l_96))) true (bnot (vB (x_97) (y_98))))) ∧ (((convB (l_96) && vB (x_97) (y_98) && insB (l_96) (x_97) (y_98)) : Bool) = (convB (l_96) && vB (x_97) (y_98) && insB (l_96) (x_97) (y_98))) ∧ ((Cont.pts (l_96)) = (Cont.pts (l_96))) ∧ ((((x_97) : Int) = (x_97)) ∧ (((y_98) : Int) = (y_98)) ∧ True) ∧ (((convB (l_96) && vB (x_97) (y_98) && insB (l_96) (x_97) (y_98)) : Bool) = (convB (l_96) && vB (x_97) (y_98) && insB (l_96) (x_97) (y_98))) ∧ (((bxor (convB (l_96) && vB (x_97) (y_98) && insB (l_96) (x_97) (y_98)) (convB (l_96) && vB (x_97) (y_98) && insB (l_96) (x_97) (y_98))) : Bool) = (bxor (convB (l_96) && vB (x_97) (y_98) && insB (l_96) (x_97) (y_98)) (convB (l_96) && vB (x_97) (y_98) && insB (l_96) (x_97) (y_98)))) ∧ ((Cont.pts (l_96)) = (Cont.pts (l_96))) ∧ ((((x_97) : Int) = (x_97)) ∧ (((y_98) : Int) = (y_98)) ∧ True) ∧ (((convB (l_96) && vB (x_97) (y_98) && insB (l_96) (x_97) (y_98)) : Bool) = (convB (l_96) && vB (x_97) (y_98) && insB (l_96) (x_97) (y_98))) ∧ (((convB (l_96) && vB (x_97) (y_98) && insB (l_96) (x_97) (y_98)) : Bool) = (convB (l_96) && vB (x_97) (y_98) && insB (l_96) (x_97) (y_98))) ∧ ((Cont.pts (l_96)) = (Cont.pts (l_96))) ∧ (true = true) ∧ ((((x_97) : Int) = (x_97)) ∧ (((y_98) : Int) = (y_98)) ∧ True) ∧ ((Cont.pts (l_96)) = (Cont.pts (l_96))) ∧ ((n : Int) = n) ∧ ((n : Int) = n) ∧ ((n : Int) = n) ∧ (((ilt (1048576 : Int) n) : Bool) = (ilt (1048576 : Int) n)) ∧ ((n : Int) = n) ∧ True) ∧ (((((x_97) : Int) = (x_97)) ∧ (((y_98) : Int) = (y_98)) ∧ True) ∧ True)) ∧ (([GK.int, GK.int, GK.bool] : List GK) = ([GK.int, GK.int, GK.bool] : List GK)) ∧ I1 [GV.int (0 : Int), GV.int (0 : Int), GV.bool false]) ∧ (∀ i1_0 : Int, ∀ i1_1 : Int, ∀ b1_2 : Bool, I1 [GV.int i1_0, GV.int i1_1, GV.bool b1_2] → ((true = true) ∧ ((True) ∧ (True) ∧ (True) ∧ (True) ∧ True) ∧ ((ilt i1_0 (ilen (l_96))) = true → ((true = true) ∧ ((True) ∧ (True) ∧ (NLe 0 i1_0 ∧ NLt i1_0 (ilen (l_96))) ∧ (True) ∧ (True) ∧ True) ∧ (True) ∧ (true = true) ∧ ((True) ∧ (True) ∧ (True) ∧ (True) ∧ (True) ∧ (NNe (ilen (l_96)) 0) ∧ (NLe 0 (irem (iadd i1_0 (1 : Int)) (ilen (l_96))) ∧ NLt (irem (iadd i1_0 (1 : Int)) (ilen (l_96))) (ilen (l_96))) ∧ (True) ∧ (True) ∧ True) ∧ (True) ∧ (true = true) ∧ ((True) ∧ (True) ∧ (True) ∧ (True) ∧ (True) ∧ (True) ∧ (True) ∧ (True) ∧ (True) ∧ (True) ∧ (True) ∧ (True) ∧ (True) ∧ (True) ∧ (True) ∧ (True) ∧ (True) ∧ (True) ∧ (True) ∧ (True) ∧ (True) ∧ (True) ∧ (True) ∧ (True) ∧ ((True)) ∧ (True) ∧ (True) ∧ True) ∧ (true = true) ∧ ((True) ∧ (True) ∧ ((True)) ∧ (True) ∧ True) ∧ ((bnot (convB (l_96) && vB (getx (l_96) i1_0) (gety (l_96) i1_0) && insB (l_96) (getx (l_96) i1_0) (gety (l_96) i1_0))) = true → ((true = true) ∧ ((True) ∧ True) ∧ ((false : Bool) = (true)) ∧ True)) ∧ ((bnot (convB (l_96) && vB (getx (l_96) i1_0) (gety (l_96) i1_0) && insB (l_96) (getx (l_96) i1_0) (gety (l_96) i1_0))) = false → ((true = true) ∧ ((True) ∧ (True) ∧ (True) ∧ True) ∧ ((true = true) ∧ (((b1_2 : Bool) = b1_2) ∧ (((iadd i1_1 (max (isub (imul (isub (getx (l_96) i1_0) (x_97)) (isub (gety (l_96) (irem (iadd i1_0 (1 : Int)) (ilen (l_96)))) (y_98))) (imul (isub (gety (l_96) i1_0) (y_98)) (isub (getx (l_96) (irem (iadd i1_0 (1 : Int)) (ilen (l_96)))) (x_97)))) (ineg (isub (imul (isub (getx (l_96) i1_0) (x_97)) (isub (gety (l_96) (irem (iadd i1_0 (1 : Int)) (ilen (l_96)))) (y_98))) (imul (isub (gety (l_96) i1_0) (y_98)) (isub (getx (l_96) (irem (iadd i1_0 (1 : Int)) (ilen (l_96)))) (x_97))))))) : Int) = (iadd i1_1 (max (isub (imul (isub (getx (l_96) i1_0) (x_97)) (isub (gety (l_96) (irem (iadd i1_0 (1 : Int)) (ilen (l_96)))) (y_98))) (imul (isub (gety (l_96) i1_0) (y_98)) (isub (getx (l_96) (irem (iadd i1_0 (1 : Int)) (ilen (l_96)))) (x_97)))) (ineg (isub (imul (isub (getx (l_96) i1_0) (x_97)) (isub (gety (l_96) (irem (iadd i1_0 (1 : Int)) (ilen (l_96)))) (y_98))) (imul (isub (gety (l_96) i1_0) (y_98)) (isub (getx (l_96) (irem (iadd i1_0 (1 : Int)) (ilen (l_96)))) (x_97)))))))) ∧ (((iadd i1_0 (1 : Int)) : Int) = (iadd i1_0 (1 : Int))) ∧ ((Cont.pts (l_96)) = (Cont.pts (l_96))) ∧ (((convB (l_96)) : Bool) = (convB (l_96))) ∧ (((bnot (convB (l_96))) : Bool) = (bnot (convB (l_96)))) ∧ (((bnot (convB (l_96))) : Bool) = (bnot (convB (l_96)))) ∧ (((bite (bnot (convB (l_96))) true (bnot (vB (x_97) (y_98)))) : Bool) = (bite (bnot (convB (l_96))) true (bnot (vB (x_97) (y_98))))) ∧ (((convB (l_96) && vB (x_97) (y_98) && insB (l_96) (x_97) (y_98)) : Bool) = (convB (l_96) && vB (x_97) (y_98) && insB (l_96) (x_97) (y_98))) ∧ ((Cont.pts (l_96)) = (Cont.pts (l_96))) ∧ ((((x_97) : Int) = (x_97)) ∧ (((y_98) : Int) = (y_98)) ∧ True) ∧ (((convB (l_96) && vB (x_97) (y_98) && insB (l_96) (x_97) (y_98)) : Bool) = (convB (l_96) && vB (x_97) (y_98) && insB (l_96) (x_97) (y_98))) ∧ (((bxor (convB (l_96) && vB (x_97) (y_98) && insB (l_96) (x_97) (y_98)) (convB (l_96) && vB (x_97) (y_98) && insB (l_96) (x_97) (y_98))) : Bool) = (bxor (convB (l_96) && vB (x_97) (y_98) && insB (l_96) (x_97) (y_98)) (convB (l_96) && vB (x_97) (y_98) && insB (l_96) (x_97) (y_98)))) ∧ ((Cont.pts (l_96)) = (Cont.pts (l_96))) ∧ ((((x_97) : Int) = (x_97)) ∧ (((y_98) : Int) = (y_98)) ∧ True) ∧ (((convB (l_96) && vB (x_97) (y_98) && insB (l_96) (x_97) (y_98)) : Bool) = (convB (l_96) && vB (x_97) (y_98) && insB (l_96) (x_97) (y_98))) ∧ (((convB (l_96) && vB (x_97) (y_98) && insB (l_96) (x_97) (y_98)) : Bool) = (convB (l_96) && vB (x_97) (y_98) && insB (l_96) (x_97) (y_98))) ∧ ((Cont.pts (l_96)) = (Cont.pts (l_96))) ∧ (true = true) ∧ ((((x_97) : Int) = (x_97)) ∧ (((y_98) : Int) = (y_98)) ∧ True) ∧ ((Cont.pts (l_96)) = (Cont.pts (l_96))) ∧ ((n : Int) = n) ∧ ((n : Int) = n) ∧ ((n : Int) = n) ∧ (((ilt (1048576 : Int) n) : Bool) = (ilt (1048576 : Int) n)) ∧ ((n : Int) = n) ∧ True) ∧ (((((x_97) : Int) = (x_97)) ∧ (((y_98) : Int) = (y_98)) ∧ True) ∧ True)) ∧ ((([GK.int, GK.int, GK.bool] : List GK) = ([GK.int, GK.int, GK.bool] : List GK)) ∧ I1 [GV.int (iadd i1_0 (1 : Int)), GV.int (iadd i1_1 (max (isub (imul (isub (getx (l_96) i1_0) (x_97)) (isub (gety (l_96) (irem (iadd i1_0 (1 : Int)) (ilen (l_96)))) (y_98))) (imul (isub (gety (l_96) i1_0) (y_98)) (isub (getx (l_96) (irem (iadd i1_0 (1 : Int)) (ilen (l_96)))) (x_97)))) (ineg (isub (imul (isub (getx (l_96) i1_0) (x_97)) (isub (gety (l_96) (irem (iadd i1_0 (1 : Int)) (ilen (l_96)))) (y_98))) (imul (isub (gety (l_96) i1_0) (y_98)) (isub (getx (l_96) (irem (iadd i1_0 (1 : Int)) (ilen (l_96)))) (x_97))))))), GV.bool b1_2] ∧ μ1 [GV.int (iadd i1_0 (1 : Int)), GV.int (iadd i1_1 (max (isub (imul (isub (getx (l_96) i1_0) (x_97)) (isub (gety (l_96) (irem (iadd i1_0 (1 : Int)) (ilen (l_96)))) (y_98))) (imul (isub (gety (l_96) i1_0) (y_98)) (isub (getx (l_96) (irem (iadd i1_0 (1 : Int)) (ilen (l_96)))) (x_97)))) (ineg (isub (imul (isub (getx (l_96) i1_0) (x_97)) (isub (gety (l_96) (irem (iadd i1_0 (1 : Int)) (ilen (l_96)))) (y_98))) (imul (isub (gety (l_96) i1_0) (y_98)) (isub (getx (l_96) (irem (iadd i1_0 (1 : Int)) (ilen (l_96)))) (x_97))))))), GV.bool b1_2] < μ1 [GV.int i1_0, GV.int i1_1, GV.bool b1_2]))))) ∧ ((ilt i1_0 (ilen (l_96))) = false → ((true = true) ∧ ((True) ∧ (True) ∧ (True) ∧ ((True)) ∧ (True) ∧ (True) ∧ (True) ∧ (NIs (bnot (bxor (convB (l_96) && vB (x_97) (y_98) && insB (l_96) (x_97) (y_98)) (ieq i1_1 (areaB (l_96))))) true → True) ∧ (NIs (bnot (bxor (convB (l_96) && vB (x_97) (y_98) && insB (l_96) (x_97) (y_98)) (ieq i1_1 (areaB (l_96))))) true → ((1 ≤ ilen (l_96) ∧ ilen (l_96) ≤ 100))) ∧ (NIs (bnot (bxor (convB (l_96) && vB (x_97) (y_98) && insB (l_96) (x_97) (y_98)) (ieq i1_1 (areaB (l_96))))) true → True) ∧ (NIs (bnot (bxor (convB (l_96) && vB (x_97) (y_98) && insB (l_96) (x_97) (y_98)) (ieq i1_1 (areaB (l_96))))) true → (True)) ∧ (NIs (bnot (bxor (convB (l_96) && vB (x_97) (y_98) && insB (l_96) (x_97) (y_98)) (ieq i1_1 (areaB (l_96))))) true → True) ∧ (NIs (bnot (bxor (convB (l_96) && vB (x_97) (y_98) && insB (l_96) (x_97) (y_98)) (ieq i1_1 (areaB (l_96))))) true → True) ∧ (True) ∧ (True) ∧ True) ∧ (((bite (bnot (bxor (convB (l_96) && vB (x_97) (y_98) && insB (l_96) (x_97) (y_98)) (ieq i1_1 (areaB (l_96))))) (bnot (bxor (convB (Pl.turn (l_96)) && vB (x_97) (y_98) && insB (Pl.turn (l_96)) (x_97) (y_98)) (convB (l_96) && vB (x_97) (y_98) && insB (l_96) (x_97) (y_98)))) false) : Bool) = (true)) ∧ True))))))))))))))))) = ev sig_laws_FnInsideConvex xs_laws_FnInsideConvex Try.f6.ntmps (fun b => if b == 0 then [.v 7, .v 6, .v 2] else []) (codeOf Try.f6) 0 (initS [.s (.rdr n)]) (retK Try.f6.results.toList [.s (.bool (true))]) := by kernel_rfl
set_option maxHeartbeats 400000 in
theorem F_laws_FnInsideConvex : FunOK 6 g_laws_FnInsideConvex := by
  refine fun_F (by kernel_rfl) Try.func6 rfl (by kernel_rfl) sig_laws_FnInsideConvex_ok xs_laws_FnInsideConvex_ok ?_
  intro avs sg h hn hl
  unfold g_laws_FnInsideConvex at h
  split at h
  · rename_i n
    injection h with h; subst h
    refine ⟨by kernel_rfl, fun b => if b == 0 then [.v 7, .v 6, .v 2] else [], Eq.mp (V_laws_FnInsideConvex n) ?_⟩
    simp only [true_and, and_true, implies_true, and_self, forall_const, true_implies, lenA, lenL, SV.lenOK, Cont.lenOK] at hn hl ⊢
    simp only [ilt_t, ilt_f, ile_t, ile_f, ieq_t, ieq_f, bnot_e, band_e, bite_and, bite_or, NLt_e, NLe_e, NNe_e, NIs_e, imax_e, imin_e, irem_e, Bool.not_eq_true', Bool.not_eq_false', Bool.and_eq_true, Bool.or_eq_true, Bool.or_eq_false_iff, Bool.and_eq_false_iff, Cont.pts.injEq, Cont.ints.injEq, Cont.bools.injEq, Cont.ptss.injEq, Cont.intss.injEq, Cont.boolss.injEq, true_and, and_true, implies_true, bxor_self]
    intro h
    refine ⟨h, fun l x y hp => ⟨by simp, fun _ => ⟨fun hh => .inl hh, fun hh => ?_⟩⟩⟩
    obtain ⟨hc, hv⟩ := hh
    obtain ⟨l1, l2, l3, l4⟩ := (conv_iff l).1 hc
    have h0 := ilen_nat l
    have hbig : ∀ (k : Nat), k ≤ l.length → 0 ≤ Pl.sumN (tri l x y) k ∧ Pl.sumN (tri l x y) k ≤ 800000000 * k := by
      intro k
      induction k with
      | zero => intro _; exact ⟨Int.le_refl 0, Int.le_refl 0⟩
      | succ k ih =>
        intro hk
        have := ih (by omega)
        have := tri_bd l3 hv (i := k) (by omega)
        show 0 ≤ Pl.sumN (tri l x y) k + tri l x y k ∧ Pl.sumN (tri l x y) k + tri l x y k ≤ _
        omega
    refine ⟨fun | [.int k, .int s, .bool b] => 0 ≤ k ∧ k ≤ ilen l ∧ s = Pl.sumN (tri l x y) k.toNat | _ => False, fun | .int k :: _ => (ilen l - k).toNat | _ => 0, ⟨by omega, by omega, rfl⟩, ?_⟩
    rintro k s b ⟨k0, k1, rfl⟩
    refine ⟨fun hk => ?_, fun hk => ?_⟩
    · have e1 : iadd k 1 = k + 1 := iadd_e (by omega) (by omega)
      obtain ⟨n0, n1, _⟩ := nx_in k0 hk
      have e2 : (k + 1).tmod (ilen l) = nx l k := rfl
      simp only [e1, e2]
      obtain ⟨k, rfl⟩ := Int.eq_ofNat_of_zero_le k0
      have hkl : k < l.length := by omega
      refine ⟨⟨k0, hk⟩, ⟨by omega, n0, n1⟩, fun hh => ?_, fun _ => ⟨⟨by omega, by omega, ?_⟩, by show (ilen l - ((k : Int) + 1)).toNat < (ilen l - k).toNat; omega⟩⟩
      · rw [hc, vat l3 hkl, ins_corner hc hkl] at hh
        simp at hh
      · rw [nx_nat hkl]
        have ec : isub (imul (isub (getx l k) x) (isub (gety l (Pl.nx l k)) y)) (imul (isub (gety l k) y) (isub (getx l (Pl.nx l k)) x)) = crs (x, y) (Pl.nth l k) (Pl.nth l (Pl.nx l k)) := by
          rw [← nth_get, ← nth_get, ← crW_e hv (vat l3 hkl) (vat l3 (Pl.nx_lt hkl))]; rfl
        have bd := crs_vb hv (vat l3 hkl) (vat l3 (Pl.nx_lt hkl))
        rw [nth_get, nth_get] at bd
        rw [ec, show ineg (crs (x, y) (Pl.nth l k) (Pl.nth l (Pl.nx l k))) = -crs (x, y) (Pl.nth l k) (Pl.nth l (Pl.nx l k)) by rw [ineg_u]; omega, show ((k : Int) + 1).toNat = k + 1 by omega, show (k : Int).toNat = k by omega]
        have hb := hbig k (by omega)
        have ht : max (crs (x, y) (Pl.nth l k) (Pl.nth l (Pl.nx l k))) (-crs (x, y) (Pl.nth l k) (Pl.nth l (Pl.nx l k))) = tri l x y k := rfl
        have htb := tri_bd l3 hv hkl
        rw [ht, iadd_e (by omega) (by omega)]
        rfl
    · have e : k.toNat = l.length := by omega
      rw [e, hc, hv, conv_turn hc, ins_turn hc hv, ins_area hc hv, bxor_self]
      simp only [Bool.true_and, bxor_self]
      refine ⟨fun _ => by omega, ?_, ?_⟩ <;> trivial
  · cases h
theorem fnInsideConvex_walk (w : World) (v0 : Value) (x0 : Nat) (w0 : BytesArg w v0 x0) : Calls Try.prog 6 #[v0] w fun e w' => e = .returned (.bool true) ∧ Bel w w' :=
  walk_of F_laws_FnInsideConvex (avs := [.s (.rdr x0)]) rfl trivial ⟨bytes_reads w0, trivial⟩
set_option maxRecDepth 100000 in
theorem fnInsideConvex_lifted (os : Os) (started : os.Started) (H : Type) (enc : TypeId × Value → H) :
    ReturnsInHanded {} Try.checked os 6 .any (Rows.fnInsideConvexSpec.pre6 enc Try.prog Try.f6 Rows.fnInsideConvexRow.domain false) (Rows.fnInsideConvexSpec.post enc Try.prog Try.f6 false true false false) := by
  have own : ownKnob Try.prog.godebug = none := by kernel_rfl
  have laidOut : laidOutB Try.prog = true := by kernel_rfl
  refine returnsInHanded_of_change (C := Try.checked) own started (by kernel_rfl) Try.func6
    (ChangeSpec.witness6 (enc := enc) (C := Try.checked) false ⟨#[], #[.slice none 0 0], []⟩ 8 (by kernel_rfl) (by kernel_rfl) (by kernel_rfl) (by kernel_rfl)) ?_
  intro W base args ds gs before hval0 hW hcnd _
  have hval : ∀ (j : Nat) t v, Try.f6.params[j]? = some t → args[j]? = some v → Value.okWide Try.prog W .any base t v := hval0
  have hW' := hW
  obtain ⟨p, q, hA0, hV, rfl, hfz, hnd⟩ := hW
  have hA : DataW.TrodAll enc Try.prog W 0 (fun _ => true) true Try.f6.params.toList args.toList ds p := hA0
  rw [Try.params6] at hA hval
  obtain ⟨v0, vs0, d0, ds0, p0, q0, hargs, rfl, rfl, h0, r0⟩ := trodAll_cons hA
  obtain ⟨rfl, rfl, rfl⟩ := trodAll_nil r0
  obtain rfl : args = #[v0] := by cases args; simp_all
  obtain ⟨rfl, rfl⟩ := trodVars_none hV
  have k0 := h0
  have lt0 : ∀ x ∈ p0, x.block < W.heap.size := by obtain ⟨m, hm⟩ := k0; exact DataW.trod_lt m _ _ _ hm
  obtain ⟨x0, w0⟩ := opn_bytes (hval 0 22 v0 rfl rfl) h0
  clear hA0 hval0
  refine (fnInsideConvex_walk W v0 x0 w0).mono fun e W' ⟨he, bel⟩ => ?_
  subst he
  exact ⟨_, rfl, _, _, _, [], _, [], hW', trodAll_mk1 (shut_bool Try.underlying4 _), (trodAll_cons_mk (Below.trod laidOut (by kernel_rfl) (of_decide_eq_true (by kernel_rfl)) k0 bel lt0) trodAll_mk0), rfl, Below.frame bel _, fun h => by cases h⟩
theorem fnInsideConvex_over : Rows.fnInsideConvexRow.holds Try.pinned (OpenSpec.ofChange Rows.fnInsideConvexSpec) :=
  OpenClaim.holds_of_wide 6 Try.f6 rfl rfl rfl rfl rfl rfl rfl ⟨rfl, rfl, rfl, rfl, rfl⟩ rfl rfl rfl rfl rfl (by kernel_rfl) Try.func6 (by kernel_rfl)
    (of_decide_eq_true (by kernel_rfl)) (by unfold Func.isWrapper; first | (rw [if_pos (by decide +kernel)]; kernel_rfl) | (rw [if_neg (by decide +kernel)]; exact ⟨rfl, rfl⟩))
    (fun os started H enc _ => fnInsideConvex_lifted os started H enc)
theorem fnInsideConvex_proved : Rows.FnInsideConvexSaid := fnInsideConvex_over
#print axioms fnInsideConvex_proved
end Go.Proofs.Ytlngpnmenmdlmaa

/- Contracts by evaluation, part 1. -/
import Derived.Test.YtdpokkegkedlfaaFrag
namespace Go.Proofs.Ytdpokkegkedlfaa
open Go.ChangeShapes Go.WideShapes Go.ChangeAt Go.RowKit
set_option maxRecDepth 100000
set_option linter.unusedSimpArgs false
set_option linter.unusedVariables false
theorem bxor_self (a : Bool) : bxor a a = false := by cases a <;> simp [bxor]
def tblE (l : List (List Bool)) (i : Int) : Bool := decide (ilen (getl l i) ≤ 20 ∧ ilen (getl l i) = ilen (getl l 0))
def tblB (l : List (List Bool)) : Bool := decide (ilen l ≤ 20) && allN (ilen l) (tblE l)
def freeB (l : List (List Bool)) (c1 c2 : Int) : Bool := decide (0 ≤ c1 ∧ c1 < ilen l) && decide (0 ≤ c2 ∧ c2 < ilen (getl l c1)) && getb (getl l c1) c2
def stepB (p : List Pt) (i : Int) : Bool := decide (max (getx p i - getx p (i - 1)) (getx p (i - 1) - getx p i) + max (gety p i - gety p (i - 1)) (gety p (i - 1) - gety p i) = 1)
def pvE (l : List (List Bool)) (p : List Pt) (i : Int) : Bool := freeB l (getx p i) (gety p i) && (decide (i ≤ 0) || stepB p i)
def pvB (l : List (List Bool)) (p : List Pt) : Bool := tblB l && inB (ilen p) 1 400 && allN (ilen p) (pvE l p)
theorem free_in {l : List (List Bool)} {c1 c2 : Int} (ht : tblB l = true) (h : freeB l c1 c2 = true) : 0 ≤ c1 ∧ c1 < 20 ∧ 0 ≤ c2 ∧ c2 < 20 := by
  unfold freeB at h
  unfold tblB at ht
  simp only [Bool.and_eq_true, decide_eq_true_eq] at h ht
  have := allN_iff.1 ht.2 c1 h.1.1.1 h.1.1.2
  unfold tblE at this
  simp only [decide_eq_true_eq] at this
  omega
theorem sq_1 {d : Int} (h : d * d ≤ 1) : -1 ≤ d ∧ d ≤ 1 := by
  constructor
  · apply Classical.byContradiction; intro hn
    have := Int.mul_le_mul (show 2 ≤ -d by omega) (show 2 ≤ -d by omega) (by decide) (by omega)
    rw [Int.neg_mul_neg] at this; omega
  · apply Classical.byContradiction; intro hn
    have := Int.mul_le_mul (show 2 ≤ d by omega) (show 2 ≤ d by omega) (by decide) (by omega)
    omega
theorem sq_0 (d : Int) : 0 ≤ d * d := by
  rcases Int.le_total 0 d with h | h
  · exact Int.mul_nonneg h h
  · exact Int.mul_nonneg_of_nonpos_of_nonpos h h
theorem step_e {d e : Int} : d * d + e * e = 1 ↔ max d (-d) + max e (-e) = 1 := by
  constructor
  · intro h
    have := sq_0 d; have := sq_0 e
    have h1 := sq_1 (d := d) (by omega)
    have h2 := sq_1 (d := e) (by omega)
    rcases (show d = -1 ∨ d = 0 ∨ d = 1 by omega) with rfl | rfl | rfl <;> rcases (show e = -1 ∨ e = 0 ∨ e = 1 by omega) with rfl | rfl | rfl <;> first | rfl | (exfalso; revert h; decide)
  · intro h
    have : (d = 1 ∧ e = 0) ∨ (d = -1 ∧ e = 0) ∨ (d = 0 ∧ e = 1) ∨ (d = 0 ∧ e = -1) := by omega
    rcases this with ⟨rfl, rfl⟩ | ⟨rfl, rfl⟩ | ⟨rfl, rfl⟩ | ⟨rfl, rfl⟩ <;> decide
theorem getl_any {α : Type} {l : List (List α)} (h : ∀ m ∈ l, ilen m ≤ 9223372036854775807) (j : Int) : ilen (getl l j) ≤ 9223372036854775807 := by
  unfold getl
  rw [List.getD_eq_getElem?_getD]
  by_cases hj : j.toNat < l.length
  · rw [List.getElem?_eq_getElem hj]; exact h _ (List.getElem_mem _)
  · rw [List.getElem?_eq_none (by omega)]; simp [ilen]
def crW (a1 a2 b1 b2 c1 c2 : Int) : Int := isub (imul (isub b1 a1) (isub c2 a2)) (imul (isub b2 a2) (isub c1 a1))
def cr (l : List Pt) (i j k : Int) : Int := crW (getx l i) (gety l i) (getx l j) (gety l j) (getx l k) (gety l k)
def nx (l : List Pt) (i : Int) : Int := (i + 1).tmod (ilen l)
def convE (l : List Pt) (i j : Int) : Bool := decide (j = i ∨ j = nx l i ∨ 0 < cr l i (nx l i) j)
def convB (l : List Pt) : Bool := inB (ilen l) 3 8 && allB l && allN (ilen l) fun i => allN (ilen l) fun j => convE l i j
theorem nx_in {l : List Pt} {i : Int} (h0 : 0 ≤ i) (h1 : i < ilen l) : 0 ≤ nx l i ∧ nx l i < ilen l ∧ ((i + 1 < ilen l ∧ nx l i = i + 1) ∨ (i + 1 = ilen l ∧ nx l i = 0)) := by
  have e : nx l i = (i + 1) % ilen l := Int.tmod_eq_emod_of_nonneg (by omega)
  rcases Int.lt_or_le (i + 1) (ilen l) with h | h
  · rw [e, Int.emod_eq_of_lt (by omega) h]; omega
  · have h2 : i + 1 = ilen l := by omega
    rw [e, h2, Int.emod_self]; omega
theorem allN_up {f : Int → Bool} {k : Int} (h : ∀ j, 0 ≤ j → j < k → f j = true) (hk : f k = true) : ∀ j, 0 ≤ j → j < k + 1 → f j = true := by
  intro j h0 h1
  rcases Int.lt_or_le j k with h2 | h2
  · exact h j h0 h2
  · rw [show j = k by omega]; exact hk
theorem upTo {P : Int → Prop} {k : Int} (h : ∀ j, 0 ≤ j → j < k → P j) (hk : P k) : ∀ j, 0 ≤ j → j < k + 1 → P j := by
  intro j h0 h1
  rcases Int.lt_or_le j k with h2 | h2
  · exact h j h0 h2
  · rw [show j = k by omega]; exact hk
theorem iadd_1 {k n : Int} (h0 : 0 ≤ k) (h1 : k < n) (h2 : n ≤ 9223372036854775807) : iadd k 1 = k + 1 := iadd_e (by omega) (by omega)
def pcE (l : List Pt) (i : Int) : Bool := decide (i = 0 ∨ i = ilen l - 1 ∨ isub (getx l i) (getx l (i - 1)) ≠ isub (getx l (i + 1)) (getx l i) ∨ isub (gety l i) (gety l (i - 1)) ≠ isub (gety l (i + 1)) (gety l i))
def pcL (l : List Pt) (k : Int) : List Pt := foldN k (fun o i => if pcE l i then iapp o [(getx l i, gety l i)] else o) []
def pcF (l : List Pt) : List Pt := if ilen l ≤ 400 then pcL l (ilen l) else []
theorem pcL_1 {l : List Pt} {k : Int} (h : 0 ≤ k) : pcL l (k + 1) = if pcE l k then iapp (pcL l k) [(getx l k, gety l k)] else pcL l k := by unfold pcL; rw [foldN_1 h]
theorem pcL_len {l : List Pt} (k : Nat) : ilen (pcL l k) ≤ k := by
  induction k with
  | zero => show ilen ([] : List Pt) ≤ 0; rw [ilen_nil]; omega
  | succ k ih =>
    rw [show ((k + 1 : Nat) : Int) = (k : Int) + 1 by omega, pcL_1 (by omega)]
    split
    · rw [ilen_app, ilen_one]; omega
    · omega
/-- Every step changes one coordinate at most. -/
def stp1 (l : List Pt) : Prop := (∀ i, 0 ≤ i → i < ilen l → (-1000 ≤ getx l i ∧ getx l i ≤ 1000) ∧ (-1000 ≤ gety l i ∧ gety l i ≤ 1000)) ∧ ∀ i, 1 ≤ i → i < ilen l → getx l i = getx l (i - 1) ∨ gety l i = gety l (i - 1)
def one1 (o : List Pt) : Prop := ∀ i, 1 ≤ i → i < ilen o → getx o i = getx o (i - 1) ∨ gety o i = gety o (i - 1)
structure PcI (l : List Pt) (k : Int) (o : List Pt) (j : Int) : Prop where
  j0 : 0 ≤ j
  jk : j < k
  len : 1 ≤ ilen o ∧ ilen o ≤ k
  hd : getx o 0 = getx l 0 ∧ gety o 0 = gety l 0
  last : getx o (ilen o - 1) = getx l j ∧ gety o (ilen o - 1) = gety l j
  one : one1 o
  gap : ∀ t, j < t → t < k → pcE l t = false
theorem pc_run {l : List Pt} (h : stp1 l) {j k : Int} (j0 : 0 ≤ j) (hjk : j < k) (hk : k < ilen l) (gap : ∀ t, j < t → t < k → pcE l t = false) : getx l k = getx l j ∨ gety l k = gety l j := by
  obtain ⟨hb, hs⟩ := h
  have eqs : ∀ t, j < t → t < k → getx l (t + 1) - getx l t = getx l t - getx l (t - 1) ∧ gety l (t + 1) - gety l t = gety l t - gety l (t - 1) := fun t t0 t1 => by
    have g := gap t t0 t1
    unfold pcE at g
    simp only [decide_eq_false_iff_not, not_or, Decidable.not_not, ne_eq] at g
    have b1 := hb (t - 1) (by omega) (by omega)
    have b2 := hb t (by omega) (by omega)
    have b3 := hb (t + 1) (by omega) (by omega)
    rw [isub_e (by omega) (by omega), isub_e (by omega) (by omega), isub_e (by omega) (by omega), isub_e (by omega) (by omega)] at g
    omega
  have go : ∀ (n : Nat), (n : Int) + 1 ≤ k - j → (getx l (j + n + 1) - getx l (j + n) = getx l (j + 1) - getx l j ∧ gety l (j + n + 1) - gety l (j + n) = gety l (j + 1) - gety l j) := by
    intro n
    induction n with
    | zero => intro _; simp
    | succ n ih =>
      intro hn
      have h1 := ih (by omega)
      have h2 := eqs (j + n + 1) (by omega) (by omega)
      rw [show j + (n : Int) + 1 - 1 = j + n by omega] at h2
      rw [show j + ((n + 1 : Nat) : Int) + 1 = j + n + 1 + 1 by omega, show j + ((n + 1 : Nat) : Int) = j + n + 1 by omega]
      omega
  have h0 := hs (j + 1) (by omega) (by omega)
  rw [show j + 1 - 1 = j by omega] at h0
  have sum : ∀ (n : Nat), (n : Int) ≤ k - j → (getx l (j + 1) = getx l j → getx l (j + n) = getx l j) ∧ (gety l (j + 1) = gety l j → gety l (j + n) = gety l j) := by
    intro n
    induction n with
    | zero => intro _; simp
    | succ n ih =>
      intro hn
      have h1 := ih (by omega)
      have h2 := go n (by omega)
      rw [show j + ((n + 1 : Nat) : Int) = j + n + 1 by omega]
      exact ⟨fun e => by have := h1.1 e; omega, fun e => by have := h1.2 e; omega⟩
  have := sum (k - j).toNat (by omega)
  rw [show j + ((k - j).toNat : Int) = k by omega] at this
  rcases h0 with e | e
  · exact .inl (this.1 e)
  · exact .inr (this.2 e)
theorem pc_inv {l : List Pt} (h : stp1 l) (hl : 1 ≤ ilen l) : ∀ (n : Nat), (n : Int) + 1 ≤ ilen l → ∃ j, PcI l (n + 1) (pcL l (n + 1)) j ∧ (pcE l n = true → j = n)
  | 0, _ => by
    have e0 : pcE l 0 = true := by unfold pcE; simp
    have e : pcL l ((0 : Nat) + 1) = [(getx l 0, gety l 0)] := by
      rw [pcL_1 (k := ((0 : Nat) : Int)) (by omega)]
      simp only [Int.natCast_zero, Int.ofNat_zero]
      rw [if_pos e0]
      show iapp ([] : List Pt) _ = _
      unfold iapp; simp
    refine ⟨0, ⟨by omega, by omega, ?_, ?_, ?_, ?_, fun t t0 t1 => by omega⟩, fun _ => rfl⟩
    · rw [e, ilen_one]; omega
    · rw [e, getx_one, gety_one]; exact ⟨rfl, rfl⟩
    · rw [e, ilen_one, show (1 : Int) - 1 = 0 by omega, getx_one, gety_one]; exact ⟨rfl, rfl⟩
    · rw [e]; intro i i0 i1; rw [ilen_one] at i1; omega
  | n + 1, hn => by
    obtain ⟨j, ih, _⟩ := pc_inv h hl n (by omega)
    have ec : ((n + 1 : Nat) : Int) = (n : Int) + 1 := by omega
    rw [ec]
    have e := pcL_1 (l := l) (k := (n : Int) + 1) (by omega)
    by_cases hE : pcE l ((n : Int) + 1) = true
    · rw [if_pos hE] at e
      refine ⟨n + 1, ⟨by omega, by omega, ?_, ?_, ?_, ?_, fun t t0 t1 => by omega⟩, fun _ => rfl⟩
      · rw [e, ilen_app, ilen_one]; have := ih.len; omega
      · have := ih.len
        rw [e, getx_app (by omega), gety_app (by omega), if_pos (by omega), if_pos (by omega)]; exact ih.hd
      · have := ih.len
        rw [e, ilen_app, ilen_one, getx_app (by omega), gety_app (by omega), if_neg (by omega), if_neg (by omega), show ilen (pcL l ((n : Int) + 1)) + 1 - 1 - ilen (pcL l ((n : Int) + 1)) = 0 by omega, getx_one, gety_one]; exact ⟨rfl, rfl⟩
      · have hlen := ih.len
        intro i i0 i1
        rw [e] at i1 ⊢
        rw [ilen_app, ilen_one] at i1
        rw [getx_app (by omega), gety_app (by omega), getx_app (by omega), gety_app (by omega), if_pos (show i - 1 < ilen (pcL l ((n : Int) + 1)) by omega), if_pos (show i - 1 < ilen (pcL l ((n : Int) + 1)) by omega)]
        by_cases hi : i < ilen (pcL l ((n : Int) + 1))
        · rw [if_pos hi, if_pos hi]; exact ih.one i i0 hi
        · have ei : i = ilen (pcL l ((n : Int) + 1)) := by omega
          rw [if_neg hi, if_neg hi, ei, Int.sub_self, getx_one, gety_one, ih.last.1, ih.last.2]
          exact pc_run h ih.j0 ih.jk (by omega) ih.gap
    · rw [if_neg hE] at e
      refine ⟨j, ⟨ih.j0, by have := ih.jk; omega, ?_, ?_, ?_, ?_, fun t t0 t1 => ?_⟩, fun hh => absurd hh hE⟩
      · rw [e]; have := ih.len; omega
      · rw [e]; exact ih.hd
      · rw [e]; exact ih.last
      · rw [e]; exact ih.one
      · rcases Int.lt_or_le t ((n : Int) + 1) with g | g
        · exact ih.gap t t0 g
        · rw [show t = (n : Int) + 1 by omega]; simpa using hE
theorem pc_fin {l : List Pt} (h : stp1 l) (h1 : 1 ≤ ilen l) (h2 : ilen l ≤ 400) : (1 ≤ ilen (pcF l) ∧ ilen (pcF l) ≤ ilen l) ∧ (getx (pcF l) 0 = getx l 0 ∧ gety (pcF l) 0 = gety l 0) ∧ (getx (pcF l) (ilen (pcF l) - 1) = getx l (ilen l - 1) ∧ gety (pcF l) (ilen (pcF l) - 1) = gety l (ilen l - 1)) ∧ one1 (pcF l) := by
  unfold pcF
  rw [if_pos h2]
  obtain ⟨j, ih, hj⟩ := pc_inv h h1 (ilen l - 1).toNat (by omega)
  rw [show (((ilen l - 1).toNat : Nat) : Int) = ilen l - 1 by omega] at ih hj
  have : pcE l (ilen l - 1) = true := by unfold pcE; simp
  have ej := hj this
  rw [show ilen l - 1 + 1 = ilen l by omega] at ih
  refine ⟨by have := ih.len; omega, ih.hd, ?_, ih.one⟩
  rw [ih.last.1, ih.last.2, ej]; exact ⟨rfl, rfl⟩
def nbs (c : Pt) : List Pt := [(c.1 - 1, c.2), (c.1, c.2 - 1), (c.1, c.2 + 1), (c.1 + 1, c.2)]
def bfN (fr : Pt → Bool) (k : Int) : List Pt → List Pt × List Int → List Pt × List Int
  | [], s => s
  | n :: l, s => bfN fr k l (if !(s.1.contains n) && fr n then (s.1 ++ [n], s.2 ++ [k]) else s)
def bfS (fr : Pt → Bool) (k : Nat) (s : List Pt × List Int) : List Pt × List Int := match s.1[k]? with
  | some c => bfN fr k (nbs c) s
  | none => s
def bfK (fr : Pt → Bool) (a : Pt) : Nat → List Pt × List Int
  | 0 => ([a], [-1])
  | k + 1 => bfS fr k (bfK fr a k)
def adj (c d : Pt) : Prop := d ∈ nbs c
theorem adj_symm {c d : Pt} (h : adj c d) : adj d c := by
  obtain ⟨c1, c2⟩ := c; obtain ⟨d1, d2⟩ := d
  simp only [adj, nbs, List.mem_cons, Prod.mk.injEq, List.not_mem_nil, or_false] at h ⊢
  omega
/-- What holds of the search when the first k cells have been looked at. -/
structure BI (fr : Pt → Bool) (a : Pt) (k : Nat) (s : List Pt × List Int) : Prop where
  len : s.2.length = s.1.length
  pos : 0 < s.1.length
  hd : s.1[0]? = some a
  hb : s.2[0]? = some (-1)
  nd : s.1.Nodup
  free : ∀ c ∈ s.1, fr c = true
  back : ∀ (i : Nat) (b : Int), 0 < i → s.2[i]? = some b → ∃ j : Nat, b = j ∧ j < i ∧ j ≤ k ∧ ∃ c d, s.1[j]? = some c ∧ s.1[i]? = some d ∧ adj c d
  mono : ∀ (i j : Nat) (b c : Int), i ≤ j → s.2[i]? = some b → s.2[j]? = some c → b ≤ c
/-- Cells found from the first k ones. -/
def BC (fr : Pt → Bool) (k : Nat) (s : List Pt × List Int) : Prop := ∀ (j : Nat) (c n : Pt), j < k → s.1[j]? = some c → n ∈ nbs c → fr n = true → ∃ (i : Nat) (b : Int), s.1[i]? = some n ∧ s.2[i]? = some b ∧ b ≤ (j : Int)
def Ext (s t : List Pt × List Int) : Prop := (∃ m, t.1 = s.1 ++ m) ∧ ∃ m, t.2 = s.2 ++ m
theorem Ext.refl (s : List Pt × List Int) : Ext s s := ⟨⟨[], by simp⟩, ⟨[], by simp⟩⟩
theorem Ext.trans {s t u : List Pt × List Int} (h : Ext s t) (g : Ext t u) : Ext s u := by
  obtain ⟨⟨m1, e1⟩, ⟨m2, e2⟩⟩ := h; obtain ⟨⟨m3, e3⟩, ⟨m4, e4⟩⟩ := g
  exact ⟨⟨m1 ++ m3, by rw [e3, e1, List.append_assoc]⟩, ⟨m2 ++ m4, by rw [e4, e2, List.append_assoc]⟩⟩
theorem get_ext {α : Type} {l m : List α} {i : Nat} {x : α} (h : l[i]? = some x) : (l ++ m)[i]? = some x := by
  have := (List.getElem?_eq_some_iff.1 h).1
  rw [List.getElem?_append_left this]; exact h
theorem Ext.q {s t : List Pt × List Int} (h : Ext s t) {i : Nat} {x : Pt} (hx : s.1[i]? = some x) : t.1[i]? = some x := by
  obtain ⟨⟨m1, e1⟩, _⟩ := h; rw [e1]; exact get_ext hx
theorem Ext.b {s t : List Pt × List Int} (h : Ext s t) {i : Nat} {x : Int} (hx : s.2[i]? = some x) : t.2[i]? = some x := by
  obtain ⟨_, ⟨m1, e1⟩⟩ := h; rw [e1]; exact get_ext hx
theorem get_snoc {α : Type} {l : List α} {y : α} {i : Nat} {x : α} (h : (l ++ [y])[i]? = some x) : (i < l.length ∧ l[i]? = some x) ∨ (i = l.length ∧ x = y) := by
  rcases Nat.lt_or_ge i l.length with h1 | h1
  · rw [List.getElem?_append_left h1] at h; exact .inl ⟨h1, h⟩
  · rw [List.getElem?_append_right h1] at h
    rcases Nat.eq_zero_or_pos (i - l.length) with h2 | h2
    · rw [h2] at h; exact .inr ⟨by omega, by simpa using h.symm⟩
    · rw [List.getElem?_eq_none (by simp; omega)] at h; cases h
theorem bi_add {fr : Pt → Bool} {a : Pt} {k : Nat} {s : List Pt × List Int} (h : BI fr a k s) {c n : Pt} (hc : s.1[k]? = some c) (hn : adj c n) (hf : fr n = true) (hq : ¬ n ∈ s.1) : BI fr a k (s.1 ++ [n], s.2 ++ [(k : Int)]) := by
  have hk := (List.getElem?_eq_some_iff.1 hc).1
  have hl := h.len
  refine ⟨by simp [hl], by simp, get_ext h.hd, get_ext h.hb, ?_, ?_, ?_, ?_⟩
  · rw [List.nodup_append]
    exact ⟨h.nd, by simp, fun x hx y hy e => by simp at hy; subst hy; subst e; exact hq hx⟩
  · intro x hx
    rcases List.mem_append.1 hx with hx | hx
    · exact h.free x hx
    · simp at hx; subst hx; exact hf
  · intro i b hi hb
    rcases get_snoc hb with ⟨h1, h2⟩ | ⟨h1, h2⟩
    · obtain ⟨j, e, hj, hjk, x, y, h3, h4, h5⟩ := h.back i b hi h2
      exact ⟨j, e, hj, hjk, x, y, get_ext h3, get_ext h4, h5⟩
    · exact ⟨k, h2, by omega, Nat.le_refl k, c, n, get_ext hc, by rw [h1, hl]; simp, hn⟩
  · intro i j b d hij hb hd
    rcases get_snoc hb with ⟨h1, h2⟩ | ⟨h1, h2⟩ <;> rcases get_snoc hd with ⟨h3, h4⟩ | ⟨h3, h4⟩
    · exact h.mono i j b d hij h2 h4
    · subst h4
      rcases Nat.eq_zero_or_pos i with h0 | h0
      · subst h0; rw [h.hb] at h2; injection h2 with h2; omega
      · obtain ⟨j', e, _, hjk, _⟩ := h.back i b h0 h2; omega
    · omega
    · omega
theorem bfN_ok {fr : Pt → Bool} {a : Pt} {k : Nat} {c : Pt} : ∀ (l : List Pt) (s : List Pt × List Int), BI fr a k s → s.1[k]? = some c → (∀ n ∈ l, adj c n) → BI fr a k (bfN fr k l s) ∧ Ext s (bfN fr k l s) ∧
    ∀ n ∈ l, fr n = true → ∃ (i : Nat) (b : Int), (bfN fr k l s).1[i]? = some n ∧ (bfN fr k l s).2[i]? = some b ∧ b ≤ (k : Int)
  | [], s, h, _, _ => ⟨h, Ext.refl s, fun n hn => by simp at hn⟩
  | n :: l, s, h, hc, ha => by
    have hal : ∀ x ∈ l, adj c x := fun x hx => ha x (List.mem_cons_of_mem _ hx)
    unfold bfN
    by_cases hcond : (!(s.1.contains n) && fr n) = true
    · rw [if_pos hcond]
      simp only [Bool.and_eq_true, Bool.not_eq_true', List.contains_eq_mem, decide_eq_false_iff_not] at hcond
      have h2 := bi_add h hc (ha n (List.mem_cons_self ..)) hcond.2 hcond.1
      obtain ⟨g1, g2, g3⟩ := bfN_ok l (s.1 ++ [n], s.2 ++ [(k : Int)]) h2 (get_ext hc) hal
      refine ⟨g1, Ext.trans ⟨⟨_, rfl⟩, ⟨_, rfl⟩⟩ g2, fun x hx hf => ?_⟩
      rcases List.mem_cons.1 hx with rfl | hx
      · exact ⟨s.1.length, k, g2.q (by simp), g2.b (by rw [← h.len]; simp), by omega⟩
      · exact g3 x hx hf
    · rw [if_neg hcond]
      obtain ⟨g1, g2, g3⟩ := bfN_ok l s h hc hal
      refine ⟨g1, g2, fun x hx hf => ?_⟩
      rcases List.mem_cons.1 hx with rfl | hx
      · simp only [Bool.and_eq_true, Bool.not_eq_true', List.contains_eq_mem, decide_eq_false_iff_not, hf, and_true, Classical.not_not] at hcond
        obtain ⟨i, hi, e⟩ := List.mem_iff_getElem.1 hcond
        have e1 : s.1[i]? = some x := by rw [List.getElem?_eq_getElem hi, e]
        have hi2 : i < s.2.length := by rw [h.len]; exact hi
        refine ⟨i, s.2[i], g2.q e1, g2.b (List.getElem?_eq_getElem hi2), ?_⟩
        rcases Nat.eq_zero_or_pos i with h0 | h0
        · subst h0
          have := h.hb; rw [List.getElem?_eq_getElem hi2] at this; injection this with this; omega
        · obtain ⟨j', e', _, hjk, _⟩ := h.back i _ h0 (List.getElem?_eq_getElem hi2); omega
      · exact g3 x hx hf
theorem BI.up {fr : Pt → Bool} {a : Pt} {k : Nat} {s : List Pt × List Int} (h : BI fr a k s) : BI fr a (k + 1) s :=
  ⟨h.len, h.pos, h.hd, h.hb, h.nd, h.free, fun i b hi hb => by
    obtain ⟨j, e, h1, h2, h3⟩ := h.back i b hi hb
    exact ⟨j, e, h1, by omega, h3⟩, h.mono⟩
theorem bfS_ok {fr : Pt → Bool} {a : Pt} {k : Nat} {s : List Pt × List Int} (h : BI fr a k s) (hC : BC fr k s) : BI fr a (k + 1) (bfS fr k s) ∧ BC fr (k + 1) (bfS fr k s) ∧ Ext s (bfS fr k s) := by
  unfold bfS
  split
  · rename_i c hc
    obtain ⟨g1, g2, g3⟩ := bfN_ok (nbs c) s h hc (fun n hn => hn)
    refine ⟨g1.up, fun j d n hj hd hn hf => ?_, g2⟩
    rcases Nat.lt_or_ge j k with h1 | h1
    · have hd' : s.1[j]? = some d := by
        have hk := (List.getElem?_eq_some_iff.1 hc).1
        have : s.1[j]? = some s.1[j] := List.getElem?_eq_getElem (by omega)
        have e := g2.q this
        rw [hd] at e; injection e with e; rw [e]; exact this
      obtain ⟨i, b, e1, e2, e3⟩ := hC j d n h1 hd' hn hf
      exact ⟨i, b, g2.q e1, g2.b e2, e3⟩
    · have e : j = k := by omega
      subst e
      have e := g2.q hc
      rw [hd] at e; injection e with e; subst e
      exact g3 n hn hf
  · rename_i hc
    refine ⟨h.up, fun j d n hj hd hn hf => ?_, Ext.refl s⟩
    have hj2 := (List.getElem?_eq_some_iff.1 hd).1
    have hk2 : s.1.length ≤ k := by simpa using hc
    exact hC j d n (by omega) hd hn hf
theorem bfK_ok {fr : Pt → Bool} {a : Pt} (ha : fr a = true) : ∀ k, BI fr a k (bfK fr a k) ∧ BC fr k (bfK fr a k)
  | 0 => by
    refine ⟨⟨rfl, by simp [bfK], rfl, rfl, by simp [bfK], fun c hc => ?_, fun i b hi hb => ?_, fun i j b c hij hb hc => ?_⟩, fun j c n hj => by omega⟩
    · simp [bfK] at hc; rw [hc]; exact ha
    · exfalso
      have := (List.getElem?_eq_some_iff.1 hb).1
      simp [bfK] at this; omega
    · have h1 := (List.getElem?_eq_some_iff.1 hb).1
      have h2 := (List.getElem?_eq_some_iff.1 hc).1
      simp [bfK] at h1 h2
      subst h1; subst h2
      rw [hb] at hc; injection hc with hc; omega
  | k + 1 => by
    obtain ⟨h1, h2⟩ := bfK_ok ha k
    obtain ⟨g1, g2, _⟩ := bfS_ok h1 h2
    exact ⟨g1, g2⟩
theorem bfK_ext {fr : Pt → Bool} {a : Pt} (ha : fr a = true) {k m : Nat} (h : k ≤ m) : Ext (bfK fr a k) (bfK fr a m) := by
  induction m with
  | zero => have e : k = 0 := by omega
            subst e; exact Ext.refl _
  | succ m ih =>
    rcases Nat.lt_or_ge k (m + 1) with h1 | h1
    · obtain ⟨h2, h3⟩ := bfK_ok ha m
      exact (ih (by omega)).trans (bfS_ok h2 h3).2.2
    · have e : k = m + 1 := by omega
      subst e; exact Ext.refl _
inductive Dp (b : List Int) : Nat → Nat → Prop
  | z : Dp b 0 0
  | s {i j m : Nat} : 0 < i → b[i]? = some (j : Int) → Dp b j m → Dp b i (m + 1)
inductive Cp (q : List Pt) (b : List Int) : Nat → List Pt → Prop
  | z {a : Pt} : q[0]? = some a → Cp q b 0 [a]
  | s {i j : Nat} {c : Pt} {p : List Pt} : 0 < i → b[i]? = some (j : Int) → q[i]? = some c → Cp q b j p → Cp q b i (p ++ [c])
def Wk (fr : Pt → Bool) (a : Pt) : Nat → Pt → Prop
  | 0, x => x = a
  | m + 1, x => ∃ y, Wk fr a m y ∧ adj y x ∧ fr x = true
section
variable {fr : Pt → Bool} {a : Pt} {k : Nat} {s : List Pt × List Int}
theorem cp_ex (h : BI fr a k s) : ∀ (i : Nat), i < s.1.length → ∃ p m, Cp s.1 s.2 i p ∧ Dp s.2 i m ∧ p.length = m + 1 ∧ p[0]? = some a ∧ p[m]? = s.1[i]? ∧ (∀ c ∈ p, ∃ t, t ≤ i ∧ s.1[t]? = some c) ∧ p.Nodup ∧ (∀ (t : Nat) (c d : Pt), p[t]? = some c → p[t + 1]? = some d → adj c d) ∧ ∀ c, s.1[i]? = some c → Wk fr a m c := by
  intro i
  induction i using Nat.strongRecOn with
  | ind i ih =>
    intro hi
    rcases Nat.eq_zero_or_pos i with h0 | h0
    · subst h0
      refine ⟨[a], 0, .z h.hd, .z, rfl, rfl, by rw [h.hd]; rfl, fun c hc => ?_, by simp, fun t c d hc hd => ?_, fun c hc => ?_⟩
      · simp at hc; subst hc; exact ⟨0, Nat.le_refl 0, h.hd⟩
      · have := (List.getElem?_eq_some_iff.1 hd).1; simp at this
      · rw [h.hd] at hc; injection hc with hc; exact hc.symm
    · have hi2 : i < s.2.length := by rw [h.len]; exact hi
      obtain ⟨j, e, hj, hjk, c, d, hc, hd, hcd⟩ := h.back i _ h0 (List.getElem?_eq_getElem hi2)
      have hb : s.2[i]? = some (j : Int) := by rw [List.getElem?_eq_getElem hi2, e]
      obtain ⟨p, m, p1, p2, p3, p4, p5, p6, p7, p8, p9⟩ := ih j hj (by omega)
      have hm1 : (p ++ [d])[m + 1]? = some d := by rw [List.getElem?_append_right (by omega), p3]; simp
      refine ⟨p ++ [d], m + 1, .s h0 hb hd p1, .s h0 hb p2, by simp [p3], get_ext p4, by rw [hm1, hd], fun x hx => ?_, ?_, fun t x y hx hy => ?_, fun x hx => ?_⟩
      · rcases List.mem_append.1 hx with hx | hx
        · obtain ⟨t, t1, t2⟩ := p6 x hx; exact ⟨t, by omega, t2⟩
        · simp at hx; subst hx; exact ⟨i, Nat.le_refl i, hd⟩
      · rw [List.nodup_append]
        refine ⟨p7, by simp, fun x hx y hy e => ?_⟩
        simp at hy; subst hy; subst e
        obtain ⟨t, t1, t2⟩ := p6 x hx
        have := (List.getElem?_inj (i := t) (j := i) (by omega) h.nd).1 (by rw [t2, hd])
        omega
      · rcases get_snoc hy with ⟨h1, h2⟩ | ⟨h1, h2⟩
        · rcases get_snoc hx with ⟨h3, h4⟩ | ⟨h3, h4⟩
          · exact p8 t x y h4 h2
          · omega
        · subst h2
          have e : t = m := by omega
          subst e
          rcases get_snoc hx with ⟨h3, h4⟩ | ⟨h3, h4⟩
          · rw [p5, hc] at h4; injection h4 with h4; subst h4; exact hcd
          · omega
      · rw [hd] at hx; injection hx with hx; subst hx
        exact ⟨c, p9 c hc, hcd, h.free d (List.mem_of_getElem? hd)⟩
theorem dp_mono (h : BI fr a k s) {i m : Nat} (hd : Dp s.2 i m) : ∀ {i' m' : Nat}, i ≤ i' → Dp s.2 i' m' → m ≤ m' := by
  induction hd with
  | z => intro i' m' _ _; omega
  | s h0 hb _ ih =>
    intro i' m' hi hd'
    cases hd' with
    | z => omega
    | s h0' hb' hd2 =>
      have := h.mono _ _ _ _ hi hb hb'
      have := ih (by omega) hd2
      omega
theorem dp_one {b : List Int} {i m : Nat} (hd : Dp b i m) : ∀ {m' : Nat}, Dp b i m' → m = m' := by
  induction hd with
  | z => intro m' h; cases h with
    | z => rfl
    | s h0 _ _ => omega
  | s h0 hb _ ih =>
    intro m' h
    cases h with
    | z => omega
    | s h0' hb' hd2 =>
      rw [hb] at hb'; injection hb' with hb'
      have := Int.ofNat.inj hb'
      subst this
      rw [ih hd2]
theorem wk_found (h : BI fr a k s) (hC : BC fr k s) (hk : s.1.length ≤ k) : ∀ (m : Nat) (x : Pt), Wk fr a m x → ∃ i n, s.1[i]? = some x ∧ Dp s.2 i n ∧ n ≤ m
  | 0, x, hx => by
    have : x = a := hx
    subst this
    exact ⟨0, 0, h.hd, .z, by omega⟩
  | m + 1, x, hx => by
    obtain ⟨y, hy, hyx, hf⟩ := hx
    obtain ⟨j, n, h1, h2, h3⟩ := wk_found h hC hk m y hy
    have hj := (List.getElem?_eq_some_iff.1 h1).1
    obtain ⟨i, b, e1, e2, e3⟩ := hC j y x (by omega) h1 hyx hf
    rcases Nat.eq_zero_or_pos i with h0 | h0
    · subst h0; exact ⟨0, 0, e1, .z, by omega⟩
    · obtain ⟨j', e, hj', _, c, d, hc, _⟩ := h.back i b h0 e2
      subst e
      obtain ⟨p, n', _, hd, _⟩ := cp_ex h j' (List.getElem?_eq_some_iff.1 hc).1
      have := dp_mono h hd (by omega) h2
      exact ⟨i, n' + 1, e1, .s h0 e2 hd, by omega⟩
theorem wk_pre {x y : Pt} (hxy : adj x y) (hy : fr y = true) : ∀ {n : Nat} {z : Pt}, Wk fr y n z → Wk fr x (n + 1) z
  | 0, z, h => by
    have : z = y := h
    subst this
    exact ⟨x, rfl, hxy, hy⟩
  | n + 1, z, h => by
    obtain ⟨u, h1, h2, h3⟩ := h
    exact ⟨u, wk_pre (z := u) hxy hy h1, h2, h3⟩
theorem wk_rev (ha : fr a = true) : ∀ {n : Nat} {x : Pt}, Wk fr a n x → Wk fr x n a
  | 0, x, h => by
    have : x = a := h
    subst this; exact rfl
  | n + 1, x, h => by
    obtain ⟨y, h1, h2, h3⟩ := h
    have hy : fr y = true := by
      cases n with
      | zero => have : y = a := h1
                rw [this]; exact ha
      | succ n => exact h1.choose_spec.2.2
    exact wk_pre (z := a) (adj_symm h2) hy (wk_rev ha h1)
theorem wk_man : ∀ {n : Nat} {x : Pt}, Wk fr a n x → (x.1 - a.1).natAbs + (x.2 - a.2).natAbs ≤ n
  | 0, x, h => by
    have : x = a := h
    subst this; simp
  | n + 1, x, h => by
    obtain ⟨y, h1, h2, h3⟩ := h
    have ih := wk_man h1
    obtain ⟨y1, y2⟩ := y; obtain ⟨x1, x2⟩ := x
    simp only [adj, nbs, List.mem_cons, Prod.mk.injEq, List.not_mem_nil, or_false] at h2
    simp only at ih ⊢
    omega
theorem wk_cat {x : Pt} {n : Nat} (h : Wk fr a n x) : ∀ {m : Nat} {y : Pt}, Wk fr x m y → Wk fr a (n + m) y
  | 0, y, g => by
    have : y = x := g
    subst this; exact h
  | m + 1, y, g => by
    obtain ⟨u, h1, h2, h3⟩ := g
    exact ⟨u, wk_cat h h1, h2, h3⟩
theorem wk_go1 {X Y : Int} (hf : ∀ c : Pt, 0 ≤ c.1 → c.1 < X → 0 ≤ c.2 → c.2 < Y → fr c = true) : ∀ (n : Nat) (x1 x2 y1 : Int), 0 ≤ x1 → x1 < X → 0 ≤ x2 → x2 < Y → 0 ≤ y1 → y1 < X → (y1 - x1).natAbs = n → Wk fr (x1, x2) n (y1, x2)
  | 0, x1, x2, y1, _, _, _, _, _, _, h => by
    have : y1 = x1 := by omega
    subst this; exact rfl
  | n + 1, x1, x2, y1, a1, a2, a3, a4, a5, a6, h => by
    rcases Int.lt_or_gt_of_ne (show y1 ≠ x1 by omega) with g | g
    · exact ⟨(y1 + 1, x2), wk_go1 hf n x1 x2 (y1 + 1) a1 a2 a3 a4 (by omega) (by omega) (by omega), by simp [adj, nbs], hf _ a5 a6 a3 a4⟩
    · exact ⟨(y1 - 1, x2), wk_go1 hf n x1 x2 (y1 - 1) a1 a2 a3 a4 (by omega) (by omega) (by omega), by simp [adj, nbs], hf _ a5 a6 a3 a4⟩
theorem wk_go2 {X Y : Int} (hf : ∀ c : Pt, 0 ≤ c.1 → c.1 < X → 0 ≤ c.2 → c.2 < Y → fr c = true) : ∀ (n : Nat) (x1 x2 y2 : Int), 0 ≤ x1 → x1 < X → 0 ≤ x2 → x2 < Y → 0 ≤ y2 → y2 < Y → (y2 - x2).natAbs = n → Wk fr (x1, x2) n (x1, y2)
  | 0, x1, x2, y1, _, _, _, _, _, _, h => by
    have : y1 = x2 := by omega
    subst this; exact rfl
  | n + 1, x1, x2, y1, a1, a2, a3, a4, a5, a6, h => by
    rcases Int.lt_or_gt_of_ne (show y1 ≠ x2 by omega) with g | g
    · exact ⟨(x1, y1 + 1), wk_go2 hf n x1 x2 (y1 + 1) a1 a2 a3 a4 (by omega) (by omega) (by omega), by simp [adj, nbs], hf _ a1 a2 a5 a6⟩
    · exact ⟨(x1, y1 - 1), wk_go2 hf n x1 x2 (y1 - 1) a1 a2 a3 a4 (by omega) (by omega) (by omega), by simp [adj, nbs], hf _ a1 a2 a5 a6⟩
theorem wk_go {X Y : Int} (hf : ∀ c : Pt, 0 ≤ c.1 → c.1 < X → 0 ≤ c.2 → c.2 < Y → fr c = true) {x y : Pt} (hx : 0 ≤ x.1 ∧ x.1 < X ∧ 0 ≤ x.2 ∧ x.2 < Y) (hy : 0 ≤ y.1 ∧ y.1 < X ∧ 0 ≤ y.2 ∧ y.2 < Y) : Wk fr x ((y.1 - x.1).natAbs + (y.2 - x.2).natAbs) y :=
  wk_cat (wk_go1 hf _ x.1 x.2 y.1 hx.1 hx.2.1 hx.2.2.1 hx.2.2.2 hy.1 hy.2.1 rfl) (wk_go2 hf _ y.1 x.2 y.2 hy.1 hy.2.1 hx.2.2.1 hx.2.2.2 hy.2.2.1 hy.2.2.2 rfl)
/-- the chain behind a place of the queue -/
def bkL (q : List Pt) (b : List Int) : Nat → Int → List Pt → List Pt
  | 0, _, o => o
  | f + 1, k, o => if k < 0 then o else bkL q b f (b.getD k.toNat 0) (q.getD k.toNat (0, 0) :: o)
theorem bkL_cp (h : BI fr a k s) {i : Nat} {p : List Pt} (hc : Cp s.1 s.2 i p) : ∀ (f : Nat) (o : List Pt), i < f → bkL s.1 s.2 f i o = p ++ o := by
  induction hc with
  | z ha =>
    intro f o hf
    rename_i a'
    cases f with
    | zero => omega
    | succ f =>
      unfold bkL
      have e1 : s.2.getD 0 0 = -1 := by simp [List.getD_eq_getElem?_getD, h.hb]
      have e2 : s.1.getD 0 (0, 0) = a' := by rw [List.getD_eq_getElem?_getD, ha]; rfl
      rw [if_neg (by omega)]
      simp only [Int.ofNat_zero, Int.toNat_zero, Int.natCast_zero, e1, e2, Option.getD_some]
      cases f with
      | zero => rfl
      | succ f => unfold bkL; rw [if_pos (by omega)]; rfl
  | s h0 hb hq _ ih =>
    intro f o hf
    cases f with
    | zero => omega
    | succ f =>
      unfold bkL
      rename_i i j c p _
      rw [if_neg (by omega)]
      have e1 : s.2.getD i 0 = (j : Int) := by simp [List.getD_eq_getElem?_getD, hb]
      have e2 : s.1.getD i (0, 0) = c := by simp [List.getD_eq_getElem?_getD, hq]
      have hj : j < i := by
        obtain ⟨j', e, h1, _⟩ := h.back i _ h0 hb
        omega
      rw [Int.toNat_natCast, e1, e2, ih f (c :: o) (by omega), List.append_assoc]; rfl
theorem Cp.ext {s t : List Pt × List Int} (e : Ext s t) {i : Nat} {p : List Pt} (h : Cp s.1 s.2 i p) : Cp t.1 t.2 i p := by
  induction h with
  | z h0 => exact .z (e.q h0)
  | s h0 h1 h2 _ ih => exact .s h0 (e.b h1) (e.q h2) ih
theorem Dp.ext {s t : List Pt × List Int} (e : Ext s t) {i m : Nat} (h : Dp s.2 i m) : Dp t.2 i m := by
  induction h with
  | z => exact .z
  | s h0 h1 _ ih => exact .s h0 (e.b h1) ih
/-- A list without repetition that lies in another one is not longer. -/
theorem nodup_le {α : Type} [DecidableEq α] : ∀ {l m : List α}, l.Nodup → (∀ x ∈ l, x ∈ m) → l.length ≤ m.length
  | [], m, _, _ => by simp
  | x :: l, m, hl, hs => by
    obtain ⟨h1, h2⟩ := List.nodup_cons.1 hl
    have hx := hs x (List.mem_cons_self ..)
    have := nodup_le (l := l) (m := m.erase x) h2 fun y hy => (List.mem_erase_of_ne (fun e => h1 (by rw [← e]; exact hy))).2 (hs y (List.mem_cons_of_mem _ hy))
    have e := List.length_erase_of_mem hx
    have : 0 < m.length := List.length_pos_of_mem hx
    simp only [List.length_cons]; omega
def grid (n : Nat) : List Pt := (List.range (n * n)).map fun j => (((j / n : Nat) : Int), ((j % n : Nat) : Int))
theorem grid_mem {n : Nat} {c : Pt} (h0 : 0 ≤ c.1) (h1 : c.1 < n) (h2 : 0 ≤ c.2) (h3 : c.2 < n) : c ∈ grid n := by
  unfold grid
  obtain ⟨x, y⟩ := c
  simp only at h0 h1 h2 h3
  obtain ⟨u, rfl⟩ := Int.eq_ofNat_of_zero_le h0
  obtain ⟨v, rfl⟩ := Int.eq_ofNat_of_zero_le h2
  have hu : u < n := by omega
  have hv : v < n := by omega
  refine List.mem_map.2 ⟨n * u + v, ?_, ?_⟩
  · have : n * u + v < n * (u + 1) := by rw [Nat.mul_succ]; omega
    have : n * (u + 1) ≤ n * n := Nat.mul_le_mul_left n hu
    exact List.mem_range.2 (by omega)
  · rw [Nat.mul_add_div (by omega), Nat.mul_add_mod, Nat.div_eq_of_lt hv, Nat.mod_eq_of_lt hv, Nat.add_zero]
theorem bi_len (h : BI fr a k s) (hb : ∀ c, fr c = true → 0 ≤ c.1 ∧ c.1 < 20 ∧ 0 ≤ c.2 ∧ c.2 < 20) : s.1.length ≤ 400 := by
  have := nodup_le (m := grid 20) h.nd fun c hc => by
    have := hb c (h.free c hc)
    exact grid_mem this.1 this.2.1 this.2.2.1 this.2.2.2
  simpa [grid] using this
theorem bfK_stop {fr : Pt → Bool} {a : Pt} {k : Nat} (h : (bfK fr a k).1.length ≤ k) : ∀ m, k ≤ m → bfK fr a m = bfK fr a k
  | 0, hm => by have e : k = 0 := by omega
                subst e; rfl
  | m + 1, hm => by
    rcases Nat.lt_or_ge k (m + 1) with h1 | h1
    · have ih := bfK_stop h m (by omega)
      show bfS fr m (bfK fr a m) = _
      rw [ih]
      unfold bfS
      rw [List.getElem?_eq_none (by omega)]
    · have e : k = m + 1 := by omega
      subst e; rfl
/-- The plan. -/
@[irreducible] def planB (fr : Pt → Bool) (a z : Pt) : List Pt := if z ∈ (bfK fr a 400).1 then bkL (bfK fr a 400).1 (bfK fr a 400).2 ((bfK fr a 400).1.idxOf z + 1) ((bfK fr a 400).1.idxOf z : Nat) [] else []
structure PBq (fr : Pt → Bool) (a z : Pt) (p : List Pt) (m : Nat) : Prop where
  len : p.length = m + 1
  hd : p[0]? = some a
  last : p[m]? = some z
  nd : p.Nodup
  free : ∀ c ∈ p, fr c = true
  adj : ∀ (t : Nat) (c d : Pt), p[t]? = some c → p[t + 1]? = some d → adj c d
  wk : Wk fr a m z
  short : ∀ n, Wk fr a n z → m ≤ n
theorem idx_of {q : List Pt} (h : q.Nodup) {i : Nat} {z : Pt} (hz : q[i]? = some z) : q.idxOf z = i := by
  have hm := List.mem_of_getElem? hz
  have h1 := List.idxOf_lt_length_of_mem hm
  have h2 : q[q.idxOf z]? = some z := by rw [List.getElem?_eq_getElem h1]; simp
  exact (List.getElem?_inj h1 h).1 (by rw [h2, hz])
variable (hb : ∀ c, fr c = true → 0 ≤ c.1 ∧ c.1 < 20 ∧ 0 ≤ c.2 ∧ c.2 < 20)
include hb
theorem plan_at (ha : fr a = true) {z : Pt} {i k : Nat} (hz : (bfK fr a k).1[i]? = some z) (f : Nat) (hf : i < f) : planB fr a z = bkL (bfK fr a k).1 (bfK fr a k).2 f i [] ∧ ∃ m, PBq fr a z (planB fr a z) m ∧ Cp (bfK fr a k).1 (bfK fr a k).2 i (planB fr a z) := by
  obtain ⟨hB, hC⟩ := bfK_ok ha 400
  obtain ⟨hBk, hCk⟩ := bfK_ok ha k
  have hl := bi_len hB hb
  have hlk := bi_len hBk hb
  have hz4 : (bfK fr a 400).1[i]? = some z := by
    rcases Nat.lt_or_ge 400 k with h | h
    · rw [bfK_stop hl k (by omega)] at hz; exact hz
    · exact (bfK_ext ha h).q hz
  have hm := List.mem_of_getElem? hz4
  have hi := (List.getElem?_eq_some_iff.1 hz).1
  obtain ⟨p, m, p1, p2, p3, p4, p5, p6, p7, p8, p9⟩ := cp_ex hBk i hi
  obtain ⟨p', m', p1', p2', _⟩ := cp_ex hB i (List.getElem?_eq_some_iff.1 hz4).1
  have hpp : Cp (bfK fr a 400).1 (bfK fr a 400).2 i p := by
    rcases Nat.lt_or_ge 400 k with h | h
    · rw [bfK_stop hl k (by omega)] at p1; exact p1
    · exact p1.ext (bfK_ext ha h)
  have hdd : Dp (bfK fr a 400).2 i m := by
    rcases Nat.lt_or_ge 400 k with h | h
    · rw [bfK_stop hl k (by omega)] at p2; exact p2
    · exact p2.ext (bfK_ext ha h)
  have ep : planB fr a z = p := by
    unfold planB
    rw [if_pos hm, idx_of hB.nd hz4, bkL_cp hB hpp _ _ (by omega), List.append_nil]
  rw [ep]
  refine ⟨by rw [bkL_cp hBk p1 f [] hf, List.append_nil], m, ⟨p3, p4, by rw [p5, hz], p7, fun c hc => ?_, p8, p9 z hz, fun n hn => ?_⟩, p1⟩
  · obtain ⟨t, _, ht⟩ := p6 c hc
    exact hBk.free c (List.mem_of_getElem? ht)
  · obtain ⟨i', n', e1, e2, e3⟩ := wk_found hB hC hl n z hn
    have : i' = i := (List.getElem?_inj (List.getElem?_eq_some_iff.1 e1).1 hB.nd).1 (by rw [e1, hz4])
    subst this
    rw [dp_one hdd e2]; exact e3
theorem plan_none (ha : fr a = true) {z : Pt} {k : Nat} (hk : (bfK fr a k).1.length ≤ k) (hz : ¬ z ∈ (bfK fr a k).1) : planB fr a z = [] := by
  obtain ⟨hB, hC⟩ := bfK_ok ha 400
  have hl := bi_len hB hb
  unfold planB
  rw [if_neg]
  rcases Nat.lt_or_ge 400 k with h | h
  · rw [bfK_stop hl k (by omega)] at hz; exact hz
  · rw [bfK_stop hk 400 h]; exact hz
theorem plan_pb (ha : fr a = true) (z : Pt) : (planB fr a z = [] ∧ ∀ n, ¬ Wk fr a n z) ∨ ∃ m, PBq fr a z (planB fr a z) m := by
  obtain ⟨hB, hC⟩ := bfK_ok ha 400
  have hl := bi_len hB hb
  by_cases hm : z ∈ (bfK fr a 400).1
  · obtain ⟨i, hi, e⟩ := List.mem_iff_getElem.1 hm
    exact .inr ⟨_, (plan_at hb ha (by rw [List.getElem?_eq_getElem hi, e]) (i + 1) (by omega)).2.choose_spec.1⟩
  · refine .inl ⟨plan_none hb ha hl hm, fun n hn => ?_⟩
    obtain ⟨i, _, e, _⟩ := wk_found hB hC hl n z hn
    exact hm (List.mem_of_getElem? e)
theorem plan_back (ha : fr a = true) {z : Pt} (hz : fr z = true) : (planB fr z a).length = (planB fr a z).length := by
  rcases plan_pb hb ha z with ⟨e1, h1⟩ | ⟨m, h1⟩ <;> rcases plan_pb hb hz a with ⟨e2, h2⟩ | ⟨n, h2⟩
  · rw [e1, e2]
  · exact absurd (wk_rev hz h2.wk) (h1 n)
  · exact absurd (wk_rev ha h1.wk) (h2 m)
  · have := h1.short n (wk_rev hz h2.wk)
    have := h2.short m (wk_rev ha h1.wk)
    rw [h1.len, h2.len]; omega
end
theorem pt_at {p : List Pt} {i : Int} (h0 : 0 ≤ i) (h1 : i < ilen p) : p[i.toNat]? = some (getx p i, gety p i) := by
  obtain ⟨h, e1, e2⟩ := get_at h0 h1
  rw [List.getElem?_eq_getElem h, e1, e2]
theorem pt_of {p : List Pt} {n : Nat} {c : Pt} (h : p[n]? = some c) : (n : Int) < ilen p ∧ getx p n = c.1 ∧ gety p n = c.2 := by
  have hn := (List.getElem?_eq_some_iff.1 h).1
  have hl : (n : Int) < ilen p := by unfold ilen; omega
  have e := pt_at (p := p) (i := (n : Int)) (by omega) hl
  rw [Int.toNat_natCast, h] at e
  injection e with e
  rw [e]; exact ⟨hl, rfl, rfl⟩
theorem adj_iff {c d : Pt} : adj c d ↔ (d.1 = c.1 - 1 ∧ d.2 = c.2) ∨ (d.1 = c.1 ∧ d.2 = c.2 - 1) ∨ (d.1 = c.1 ∧ d.2 = c.2 + 1) ∨ (d.1 = c.1 + 1 ∧ d.2 = c.2) := by
  obtain ⟨c1, c2⟩ := c; obtain ⟨d1, d2⟩ := d
  simp only [adj, nbs, List.mem_cons, Prod.mk.injEq, List.not_mem_nil, or_false]
structure PBIq (fr : Pt → Bool) (a z : Pt) (p : List Pt) : Prop where
  len : 1 ≤ ilen p ∧ ilen p ≤ 400
  hd : getx p 0 = a.1 ∧ gety p 0 = a.2
  last : getx p (ilen p - 1) = z.1 ∧ gety p (ilen p - 1) = z.2
  nd : ∀ i j, 0 ≤ i → i < j → j < ilen p → ¬ (getx p i = getx p j ∧ gety p i = gety p j)
  free : ∀ i, 0 ≤ i → i < ilen p → fr (getx p i, gety p i) = true
  adj : ∀ i, 1 ≤ i → i < ilen p → adj (getx p (i - 1), gety p (i - 1)) (getx p i, gety p i)
theorem PBq.toI {fr : Pt → Bool} {a z : Pt} {p : List Pt} {m : Nat} (hb : ∀ c, fr c = true → 0 ≤ c.1 ∧ c.1 < 20 ∧ 0 ≤ c.2 ∧ c.2 < 20) (h : PBq fr a z p m) : PBIq fr a z p := by
  have hl : ilen p = m + 1 := by unfold ilen; rw [h.len]; omega
  have h4 : p.length ≤ 400 := by
    have := nodup_le (m := grid 20) h.nd fun c hc => by
      have := hb c (h.free c hc)
      exact grid_mem this.1 this.2.1 this.2.2.1 this.2.2.2
    simpa [grid] using this
  have h0 := pt_of h.hd
  have h1 := pt_of h.last
  refine ⟨by have := h.len; omega, by simpa using h0.2, by rw [hl, show (m : Int) + 1 - 1 = m by omega]; exact h1.2, fun i j i0 ij jl e => ?_, fun i i0 il => h.free _ (List.mem_of_getElem? (pt_at i0 il)), fun i i0 il => ?_⟩
  · have e1 := pt_at (p := p) (i := i) i0 (by omega)
    have e2 := pt_at (p := p) (i := j) (by omega) jl
    rw [e.1, e.2, ← e2] at e1
    have := (List.getElem?_inj (by unfold ilen at jl; omega) h.nd).1 e1
    omega
  · have e1 := pt_at (p := p) (i := i - 1) (by omega) (by omega)
    have e2 := pt_at (p := p) (i := i) (by omega) il
    rw [show i.toNat = (i - 1).toNat + 1 by omega] at e2
    exact h.adj _ _ _ e1 e2
theorem bfN_app (fr : Pt → Bool) (k : Int) : ∀ (l m : List Pt) (s : List Pt × List Int), bfN fr k (l ++ m) s = bfN fr k m (bfN fr k l s)
  | [], _, _ => rfl
  | n :: l, m, s => by
    show bfN fr k (l ++ m) _ = bfN fr k m (bfN fr k l _)
    exact bfN_app fr k l m _
def wfB (q : List Pt) (b : List Int) : Prop := ilen b = ilen q ∧ ilen q ≤ 400 ∧ ∀ i, 0 ≤ i → i < ilen q → -1 ≤ geti b i ∧ geti b i < i
theorem bkL_f {q : List Pt} {b : List Int} (hw : wfB q b) : ∀ (n : Nat) (f : Nat) (k : Int) (o : List Pt), f ≤ n → -1 ≤ k → k < ilen q → k + 1 ≤ f → bkL q b f k o = bkL q b (k + 1).toNat k o
  | 0, f, k, o, hf, h0, h1, h2 => by
    have e : f = 0 := by omega
    have e2 : (k + 1).toNat = 0 := by omega
    rw [e, e2]
  | n + 1, f, k, o, hf, h0, h1, h2 => by
    rcases Int.lt_or_le k 0 with h | h
    · have e2 : (k + 1).toNat = 0 := by omega
      rw [e2]
      cases f with
      | zero => rfl
      | succ f => unfold bkL; rw [if_pos h]
    · cases f with
      | zero => omega
      | succ f =>
        rw [show (k + 1).toNat = k.toNat + 1 by omega]
        unfold bkL
        rw [if_neg (by omega), if_neg (by omega)]
        have hb := hw.2.2 k h h1
        have e : b.getD k.toNat 0 = geti b k := by unfold geti; rfl
        rw [e, bkL_f hw n f (geti b k) _ (by omega) hb.1 (by omega) (by omega), bkL_f hw n k.toNat (geti b k) _ (by omega) hb.1 (by omega) (by omega)]
theorem bkL_step {q : List Pt} {b : List Int} (hw : wfB q b) {k : Int} (h0 : 0 ≤ k) (h1 : k < ilen q) (o : List Pt) : bkL q b (k + 1).toNat k o = bkL q b (geti b k + 1).toNat (geti b k) (iapp [(getx q k, gety q k)] o) := by
  have hb := hw.2.2 k h0 h1
  have e : b.getD k.toNat 0 = geti b k := by unfold geti; rfl
  have e2 : q.getD k.toNat (0, 0) = (getx q k, gety q k) := by unfold getx gety; rfl
  rw [show (k + 1).toNat = k.toNat + 1 by omega]
  unfold bkL
  rw [if_neg (by omega), e, e2, bkL_f hw _ k.toNat (geti b k) _ (Nat.le_refl _) hb.1 (by omega) (by omega)]
  unfold iapp
  cases (geti b k + 1).toNat <;> rfl
theorem bkL_end {q : List Pt} {b : List Int} {k : Int} (h : k < 0) (o : List Pt) : bkL q b (k + 1).toNat k o = o := by
  rw [show (k + 1).toNat = 0 by omega]; rfl
def frF (l : List (List Bool)) (c : Pt) : Bool := freeB l c.1 c.2
def plF (l : List (List Bool)) (a1 a2 z1 z2 : Int) : List Pt := if tblB l && freeB l a1 a2 && freeB l z1 z2 then planB (frF l) (a1, a2) (z1, z2) else []
theorem frF_in {l : List (List Bool)} (ht : tblB l = true) : ∀ c, frF l c = true → 0 ≤ c.1 ∧ c.1 < 20 ∧ 0 ≤ c.2 ∧ c.2 < 20 := fun c h => free_in ht h
theorem BI.wf {fr : Pt → Bool} {a : Pt} {k : Nat} {s : List Pt × List Int} (h : BI fr a k s) (hb : ∀ c, fr c = true → 0 ≤ c.1 ∧ c.1 < 20 ∧ 0 ≤ c.2 ∧ c.2 < 20) : wfB s.1 s.2 := by
  have h4 := bi_len h hb
  refine ⟨by unfold ilen; rw [h.len], by unfold ilen; omega, fun i i0 i1 => ?_⟩
  have hi : i.toNat < s.2.length := by have := h.len; unfold ilen at i1; omega
  have e : s.2[i.toNat]? = some (geti s.2 i) := by
    rw [List.getElem?_eq_getElem hi]; unfold geti
    simp [List.getD_eq_getElem?_getD, hi]
  rcases Int.lt_or_le 0 i with g | g
  · obtain ⟨j, e1, e2, _⟩ := h.back i.toNat _ (by omega) e
    omega
  · have : i.toNat = 0 := by omega
    rw [this, h.hb] at e
    injection e with e
    omega
theorem cont_b {q : List Pt} {x y : Int} : q.contains (x, y) = anyN (ilen q) fun i => decide (getx q i = x ∧ gety q i = y) := by
  cases h : anyN (ilen q) fun i => decide (getx q i = x ∧ gety q i = y) with
  | true =>
    obtain ⟨i, i0, i1, e⟩ := anyN_iff.1 h
    have := pt_at i0 i1
    simp only [decide_eq_true_eq] at e
    rw [e.1, e.2] at this
    simpa using List.mem_of_getElem? this
  | false =>
    rw [List.contains_eq_mem, decide_eq_false_iff_not]
    intro hm
    obtain ⟨n, hn, e⟩ := List.mem_iff_getElem.1 hm
    have e' : q[n]? = some (x, y) := by rw [List.getElem?_eq_getElem hn, e]
    obtain ⟨e1, e2, e3⟩ := pt_of e'
    rw [anyN_mk n (by omega) e1 (by simp [e2, e3])] at h
    cases h
/-- the four neighbours, one after the other -/
theorem bfS_at {fr : Pt → Bool} {k : Int} {s : List Pt × List Int} (h0 : 0 ≤ k) (h1 : k < ilen s.1) : bfS fr k.toNat s = bfN fr k (nbs (getx s.1 k, gety s.1 k)) s := by
  unfold bfS
  rw [pt_at h0 h1]
  simp only [Int.toNat_of_nonneg h0]
theorem anyN_1 {n : Int} {f : Int → Bool} (h : 0 ≤ n) : anyN (n + 1) f = (anyN n f || f n) := by
  unfold anyN
  rw [show (n + 1).toNat = n.toNat + 1 by omega, List.range_succ, List.any_append]
  simp [Int.toNat_of_nonneg h]
theorem take_1 {l : List Pt} {j : Int} (h0 : 0 ≤ j) (h1 : j < ilen l) : l.take (j + 1).toNat = l.take j.toNat ++ [(getx l j, gety l j)] := by
  obtain ⟨h, e1, e2⟩ := get_at h0 h1
  rw [show (j + 1).toNat = j.toNat + 1 by omega, List.take_succ_eq_append_getElem h, e1, e2]
theorem bfN_one (fr : Pt → Bool) (k : Int) (n : Pt) (s : List Pt × List Int) : bfN fr k [n] s = if !(s.1.contains n) && fr n then (s.1 ++ [n], s.2 ++ [k]) else s := rfl
theorem ext_get {s t : List Pt × List Int} (h : Ext s t) {i : Int} (h0 : 0 ≤ i) (h1 : i < ilen s.1) : getx t.1 i = getx s.1 i ∧ gety t.1 i = gety s.1 i ∧ i < ilen t.1 := by
  have := pt_of (h.q (pt_at h0 h1))
  rw [Int.toNat_of_nonneg h0] at this
  exact ⟨this.2.1, this.2.2, this.1⟩
theorem plF_cases (l : List (List Bool)) (a1 a2 z1 z2 : Int) : (plF l a1 a2 z1 z2 = [] ∧ plF l z1 z2 a1 a2 = []) ∨ (tblB l = true ∧ freeB l a1 a2 = true ∧ freeB l z1 z2 = true ∧ ∃ m, PBq (frF l) (a1, a2) (z1, z2) (plF l a1 a2 z1 z2) m ∧ PBIq (frF l) (a1, a2) (z1, z2) (plF l a1 a2 z1 z2) ∧ ilen (plF l z1 z2 a1 a2) = ilen (plF l a1 a2 z1 z2)) := by
  unfold plF
  cases ht : tblB l with
  | false => left; simp
  | true =>
    cases ha : freeB l a1 a2 with
    | false => left; simp
    | true =>
      cases hz : freeB l z1 z2 with
      | false => left; simp
      | true =>
        simp only [Bool.and_self, if_true]
        have hb := frF_in ht
        have hl := plan_back hb (a := (a1, a2)) (z := (z1, z2)) ha hz
        rcases plan_pb hb (a := (a1, a2)) ha (z1, z2) with ⟨e, _⟩ | ⟨m, hm⟩
        · left
          rw [e] at hl
          exact ⟨e, List.eq_nil_of_length_eq_zero (by simpa using hl)⟩
        · right
          exact ⟨trivial, trivial, trivial, m, hm, hm.toI hb, by unfold ilen; rw [hl]⟩
theorem PBIq.pv {l : List (List Bool)} {a z : Pt} {p : List Pt} (ht : tblB l = true) (h : PBIq (frF l) a z p) : pvB l p = true := by
  unfold pvB
  have hl := h.len
  rw [ht, inB_mk (by omega) (by omega), allN_mk fun i i0 i1 => ?_]; rfl
  unfold pvE
  have hf : freeB l (getx p i) (gety p i) = true := h.free i i0 i1
  rw [hf]
  by_cases g : i ≤ 0
  · simp [g]
  · have := adj_iff.1 (h.adj i (by omega) i1)
    simp only at this
    have hs : stepB p i = true := by unfold stepB; simp only [decide_eq_true_eq]; omega
    rw [hs]; simp
theorem PBq.man {fr : Pt → Bool} {a z : Pt} {p : List Pt} {m : Nat} (h : PBq fr a z p m) : ((z.1 - a.1).natAbs : Int) + ((z.2 - a.2).natAbs : Int) < ilen p := by
  have := wk_man h.wk
  unfold ilen
  rw [h.len]; omega
/-- the table with all cells free -/
structure OpenT (l m : List (List Bool)) : Prop where
  len : ilen m = ilen l
  row : ∀ i, 0 ≤ i → i < ilen l → ilen (getl m i) = ilen (getl l i)
  all : ∀ i j, 0 ≤ i → i < ilen l → 0 ≤ j → j < ilen (getl l i) → getb (getl m i) j = true
theorem OpenT.tbl {l m : List (List Bool)} (h : OpenT l m) (ht : tblB l = true) : tblB m = true := by
  unfold tblB at *
  rw [h.len]
  simp only [Bool.and_eq_true] at ht ⊢
  refine ⟨ht.1, allN_mk fun i i0 i1 => ?_⟩
  have := allN_iff.1 ht.2 i i0 i1
  unfold tblE at *
  rw [h.row i i0 i1, h.row 0 (by omega) (by omega)]
  exact this
theorem OpenT.free {l m : List (List Bool)} (h : OpenT l m) {c1 c2 : Int} (h0 : 0 ≤ c1) (h1 : c1 < ilen l) (h2 : 0 ≤ c2) (h3 : c2 < ilen (getl l c1)) : freeB m c1 c2 = true := by
  unfold freeB
  rw [h.len, h.row c1 h0 h1, h.all c1 c2 h0 h1 h2 h3]
  simp [h0, h1, h2, h3]
theorem open_len {l m : List (List Bool)} (h : OpenT l m) {a1 a2 z1 z2 : Int} (hp : plF l a1 a2 z1 z2 ≠ []) : ilen (plF m a1 a2 z1 z2) = ((z1 - a1).natAbs : Int) + ((z2 - a2).natAbs : Int) + 1 ∧ ilen (plF m a1 a2 z1 z2) ≤ ilen (plF l a1 a2 z1 z2) := by
  rcases plF_cases l a1 a2 z1 z2 with ⟨e, _⟩ | ⟨ht, ha, hz, n, hn, _, _⟩
  · exact absurd e hp
  · have hm := hn.man
    have hb := frF_in (h.tbl ht)
    have rng : ∀ c1 c2, freeB l c1 c2 = true → (0 ≤ c1 ∧ c1 < ilen l) ∧ (0 ≤ c2 ∧ c2 < ilen (getl l c1)) := fun c1 c2 hc => by
      unfold freeB at hc; simp only [Bool.and_eq_true, decide_eq_true_eq] at hc; exact hc.1
    have same : ∀ i, 0 ≤ i → i < ilen l → ilen (getl l i) = ilen (getl l 0) := fun i i0 i1 => by
      unfold tblB at ht
      simp only [Bool.and_eq_true] at ht
      have := allN_iff.1 ht.2 i i0 i1
      unfold tblE at this
      simp only [decide_eq_true_eq] at this
      exact this.2
    obtain ⟨ra1, ra2⟩ := rng _ _ ha
    obtain ⟨rz1, rz2⟩ := rng _ _ hz
    rw [same _ ra1.1 ra1.2] at ra2
    rw [same _ rz1.1 rz1.2] at rz2
    have hf : ∀ c : Pt, 0 ≤ c.1 → c.1 < ilen l → 0 ≤ c.2 → c.2 < ilen (getl l 0) → frF m c = true := fun c c0 c1 c2 c3 => h.free c0 c1 c2 (by rw [same _ c0 c1]; exact c3)
    have wk := wk_go hf (x := (a1, a2)) (y := (z1, z2)) ⟨ra1.1, ra1.2, ra2.1, ra2.2⟩ ⟨rz1.1, rz1.2, rz2.1, rz2.2⟩
    have ham : freeB m a1 a2 = true := hf (a1, a2) ra1.1 ra1.2 ra2.1 ra2.2
    have hzm : freeB m z1 z2 = true := hf (z1, z2) rz1.1 rz1.2 rz2.1 rz2.2
    have e : plF m a1 a2 z1 z2 = planB (frF m) (a1, a2) (z1, z2) := by unfold plF; simp only [h.tbl ht, ham, hzm, Bool.and_self, if_true]
    rcases plan_pb hb (a := (a1, a2)) ham (z1, z2) with ⟨_, e2⟩ | ⟨k, hk⟩
    · exact absurd wk (e2 _)
    · have h1 := hk.short _ wk
      have h2 := wk_man hk.wk
      have h3 : ilen (planB (frF m) (a1, a2) (z1, z2)) = k + 1 := by unfold ilen; rw [hk.len]; omega
      rw [e, h3]
      simp only at h1 h2 hm
      omega
theorem PBIq.stp {fr : Pt → Bool} {a z : Pt} {p : List Pt} (hb : ∀ c, fr c = true → 0 ≤ c.1 ∧ c.1 < 20 ∧ 0 ≤ c.2 ∧ c.2 < 20) (h : PBIq fr a z p) : stp1 p := by
  refine ⟨fun i i0 i1 => ?_, fun i i0 i1 => ?_⟩
  · have := hb _ (h.free i i0 i1)
    simp only at this; omega
  · have := adj_iff.1 (h.adj i i0 i1)
    simp only at this; omega
theorem mhas_put : ∀ (n : Nat) {m : List Pt} (_ : m.length = 2 * n) (a b c d x y : Int), mhas (mput m a b c d) x y = (mhas m x y || decide ((x, y) = (a, b)))
  | 0, m, h, a, b, c, d, x, y => by
    have : m = [] := List.eq_nil_of_length_eq_zero (by omega)
    subst this
    simp [mput, mhas]
  | n + 1, m, h, a, b, c, d, x, y => by
    match m, h with
    | k :: v :: m, h =>
      have ih := mhas_put n (m := m) (by simp at h; omega) a b c d x y
      unfold mput at ih ⊢
      simp only [List.cons_append, mhas]
      rw [ih, Bool.or_assoc]
    | [_], h => simp at h; omega
    | [], h => simp at h
theorem mget_put : ∀ (n : Nat) {m : List Pt} (_ : m.length = 2 * n) (a b c d x y : Int), mget (mput m a b c d) x y = if mhas m x y then mget m x y else if (x, y) = (a, b) then (c, d) else (0, 0)
  | 0, m, h, a, b, c, d, x, y => by
    have : m = [] := List.eq_nil_of_length_eq_zero (by omega)
    subst this
    simp [mput, mhas, mget]
  | n + 1, m, h, a, b, c, d, x, y => by
    match m, h with
    | k :: v :: m, h =>
      have ih := mget_put n (m := m) (by simp at h; omega) a b c d x y
      unfold mput at ih ⊢
      simp only [List.cons_append, mget, mhas]
      rw [ih]
      by_cases hk : (x, y) = k
      · simp [hk]
      · simp [hk]
    | [_], h => simp at h; omega
    | [], h => simp at h
/-- The map remembers for every cell of the queue from which it was found. -/
structure MR (q : List Pt) (b : List Int) (m : List Pt) : Prop where
  len : m.length = 2 * q.length
  has : ∀ x y, mhas m x y = q.contains (x, y)
  get : ∀ (i : Nat) (x y : Int) (j : Nat), 0 < i → q[i]? = some (x, y) → b[i]? = some (j : Int) → q[j]? = some (mget m x y)
theorem MR.ini (a1 a2 : Int) : MR [(a1, a2)] [-1] (mput [] a1 a2 a1 a2) := by
  refine ⟨rfl, fun x y => ?_, fun i x y j hi hq => ?_⟩
  · simp [mput, mhas]
  · have := (List.getElem?_eq_some_iff.1 hq).1
    simp at this; omega
theorem MR.add {q : List Pt} {b : List Int} {m : List Pt} (h : MR q b m) (hl : b.length = q.length) {k : Nat} {c n : Pt} (hk : q[k]? = some c) (hn : mhas m n.1 n.2 = false) (hb : ∀ (i : Nat) (j : Nat), 0 < i → b[i]? = some (j : Int) → j < q.length) : MR (q ++ [n]) (b ++ [(k : Int)]) (mput m n.1 n.2 c.1 c.2) := by
  have hh := mhas_put q.length h.len n.1 n.2 c.1 c.2
  have hg := mget_put q.length h.len n.1 n.2 c.1 c.2
  refine ⟨by simp [mput, h.len]; omega, fun x y => ?_, fun i x y j hi hq hj => ?_⟩
  · rw [hh, h.has, Bool.eq_iff_iff]
    simp only [Bool.or_eq_true, List.contains_eq_mem, decide_eq_true_eq, List.mem_append, List.mem_singleton]
  · rw [hg]
    rcases get_snoc hq with ⟨h1, h2⟩ | ⟨h1, h2⟩
    · have hj' : b[i]? = some (j : Int) := by
        rcases get_snoc hj with ⟨_, h4⟩ | ⟨h3, _⟩
        · exact h4
        · omega
      have hc : mhas m x y = true := by rw [h.has]; simpa using List.mem_of_getElem? h2
      rw [hc, if_pos rfl]
      exact get_ext (h.get i x y j hi h2 hj')
    · have hj' : (j : Int) = k := by
        rcases get_snoc hj with ⟨h3, _⟩ | ⟨_, h4⟩
        · omega
        · exact h4
      have e : j = k := by omega
      subst e
      have hxy : (x, y) = (n.1, n.2) := by rw [h2]
      injection hxy with hx hy
      subst hx hy
      rw [hn, if_neg (by simp), if_pos rfl]
      exact get_ext hk
theorem stp1_rep (n : Int) : stp1 (irep n (0, 0)) := by
  have hx : ∀ i, getx (irep n ((0 : Int), (0 : Int))) i = 0 ∧ gety (irep n ((0 : Int), (0 : Int))) i = 0 := fun i => by
    unfold getx gety irep
    simp [List.getD_eq_getElem?_getD, List.getElem?_replicate]
    split <;> simp
  refine ⟨fun i _ _ => ?_, fun i _ _ => ?_⟩
  · rw [(hx i).1, (hx i).2]; omega
  · rw [(hx i).1, (hx (i - 1)).1]; exact .inl rfl
theorem stp1_nil : stp1 [] := ⟨fun i i0 i1 => by rw [ilen_nil] at i1; omega, fun i i0 i1 => by rw [ilen_nil] at i1; omega⟩
theorem ilen_repP {n : Int} {a : Pt} (h : 0 ≤ n) : ilen (irep n a) = n := by unfold ilen irep; simp; omega
theorem stp1_pl (l : List (List Bool)) (a1 a2 z1 z2 : Int) : stp1 (plF l a1 a2 z1 z2) ∧ ilen (plF l a1 a2 z1 z2) ≤ 400 := by
  rcases plF_cases l a1 a2 z1 z2 with ⟨e, _⟩ | ⟨ht, _, _, m, _, h, _⟩
  · rw [e]; exact ⟨stp1_nil, by rw [ilen_nil]; omega⟩
  · exact ⟨h.stp (frF_in ht), h.len.2⟩
def g_laws_FnExactPlanPath : List AV → Option Sg
  | [.s (.view (.boolss l)), .agg [.int a1, .int a2], .agg [.int z1, .int z2]] => some ⟨True, [.s (.bool (true))]⟩
  | _ => none
def szI (k n : Int) : Int := if k ≤ n then n - k else -1
def g_laws_szBoolS : List AV → Option Sg
  | [.s (.view (.bools l)), .s (.int n)] => some ⟨0 ≤ n ∧ n ≤ 1048576, [.s (.int (szI (ilen l) n))]⟩
  | _ => none
def sig_laws_szBoolS : FuncId → List AV → Option Sg := sigL []
def xs_laws_szBoolS : XS := ⟨xsigL [], ysigL []⟩
theorem sig_laws_szBoolS_ok : SigOK sig_laws_szBoolS := sigL_nil
theorem xs_laws_szBoolS_ok : XSigOK xs_laws_szBoolS := ⟨xsigL_nil, ysigL_nil⟩
theorem V_laws_szBoolS (l : List Bool) (n : Int) : ((true = true) ∧ ((True) ∧ True) ∧ (true = true) ∧ ((True) ∧ (True) ∧ (True) ∧ (True) ∧ (True) ∧ True) ∧ (true = true) ∧ ((True) ∧ (True) ∧ True) ∧ ((ilt (isub n (ilen l)) (0 : Int)) = true → ((true = true) ∧ ((True) ∧ True) ∧ (((-1 : Int) : Int) = (szI (ilen l) n)) ∧ True)) ∧ ((ilt (isub n (ilen l)) (0 : Int)) = false → ((true = true) ∧ ((True) ∧ (True) ∧ True) ∧ (((isub n (ilen l)) : Int) = (szI (ilen l) n)) ∧ True))) = ev sig_laws_szBoolS xs_laws_szBoolS Try.f55.ntmps (fun b => []) (codeOf Try.f55) 0 (initS [.s (.view (.bools l)), .s (.int n)]) (retK Try.f55.results.toList [.s (.int (szI (ilen l) n))]) := by kernel_rfl
set_option maxHeartbeats 400000 in
theorem F_laws_szBoolS : FunOK 55 g_laws_szBoolS := by
  refine fun_F (by kernel_rfl) Try.func55 rfl (by kernel_rfl) sig_laws_szBoolS_ok xs_laws_szBoolS_ok ?_
  intro avs sg h hn hl
  unfold g_laws_szBoolS at h
  split at h
  · rename_i l n
    injection h with h; subst h
    refine ⟨by kernel_rfl, fun b => [], Eq.mp (V_laws_szBoolS l n) ?_⟩
    simp only [true_and, and_true, implies_true, and_self, forall_const, true_implies, lenA, lenL, SV.lenOK, Cont.lenOK] at hn hl ⊢
    simp only [ilt_t, ilt_f, ile_t, ile_f, ieq_t, ieq_f, bnot_e, band_e, bite_and, bite_or, NLt_e, NLe_e, NNe_e, NIs_e, imax_e, imin_e, irem_e, Bool.not_eq_true', Bool.not_eq_false', Bool.and_eq_true, Bool.or_eq_true, Bool.or_eq_false_iff, Bool.and_eq_false_iff, Cont.pts.injEq, Cont.ints.injEq, Cont.bools.injEq, Cont.ptss.injEq, Cont.intss.injEq, Cont.boolss.injEq, true_and, and_true, implies_true]
    have := ilen_0 l
    rw [isub_e (by omega) (by omega)]
    unfold szI
    refine ⟨fun h => ?_, fun h => ?_⟩
    · rw [if_neg (by omega)]
    · rw [if_pos (by omega)]
  · cases h
def eqPt (p1 p2 q1 q2 : Int) : Bool := decide (p1 = q1) && decide (p2 = q2)
theorem eqPt_same (p q : Int) : eqPt p q p q = true := by simp [eqPt]
def eqL (l m : List Pt) : Bool := decide (ilen l = ilen m) && allN (ilen l) fun j => eqPt (getx l j) (gety l j) (getx m j) (gety m j)
theorem eqL_same (l : List Pt) : eqL l l = true := by
  unfold eqL
  rw [allN_mk fun j _ _ => eqPt_same _ _]
  simp
theorem getl_setl {α : Type} {l : List (List α)} {i j : Int} {x : List α} (h0 : 0 ≤ i) (h1 : i < ilen l) (h2 : 0 ≤ j) : getl (setl l i x) j = if j = i then x else getl l j := by
  unfold ilen at h1
  unfold getl setl
  by_cases h : j = i
  · subst h; simp [List.getD_eq_getElem?_getD, List.getElem?_set, show j.toNat < l.length by omega]
  · rw [if_neg h]; simp [List.getD_eq_getElem?_getD, List.getElem?_set, show ¬ i.toNat = j.toNat by omega]
theorem lists_ext {α : Type} {l m : List (List α)} (h : ilen l = ilen m) (hx : ∀ j, 0 ≤ j → j < ilen l → getl l j = getl m j) : l = m := by
  unfold ilen at h hx
  refine List.ext_getElem (by omega) fun i h1 h2 => ?_
  have e1 := hx i (by omega) (by omega)
  simpa [getl, List.getD_eq_getElem?_getD, h1, h2] using e1
theorem getl_len {α : Type} {l : List (List α)} (h : ∀ m ∈ l, ilen m ≤ 9223372036854775807) {j : Int} (h0 : 0 ≤ j) (h1 : j < ilen l) : ilen (getl l j) ≤ 9223372036854775807 := by
  unfold ilen at h1
  unfold getl
  rw [List.getD_eq_getElem?_getD, List.getElem?_eq_getElem (by omega)]
  exact h _ (List.getElem_mem _)
def eqLL (l m : List (List Pt)) : Bool := decide (ilen l = ilen m) && allN (ilen l) fun j => eqL (getl l j) (getl m j)
theorem eqLL_same (l : List (List Pt)) : eqLL l l = true := by
  unfold eqLL
  rw [allN_mk fun j _ _ => eqL_same _]
  simp
theorem szI_e {k n : Int} (h : 0 ≤ szI k n) : k ≤ n ∧ szI k n = n - k := by
  unfold szI at h ⊢
  split at h
  · rename_i h1; rw [if_pos h1]; exact ⟨h1, rfl⟩
  · omega
def s_laws_szBoolSS (l : List (List Bool)) (n : Int) : SgY := ⟨0 ≤ n ∧ n ≤ 1048576, [.int], (fun | [.int k] => k < 0 ∨ (0 ≤ k ∧ k ≤ n ∧ ilen l ≤ n ∧ ∀ i, 0 ≤ i → i < ilen l → ilen (getl l i) ≤ n) | _ => False), (fun | [.int k] => [.s (.int (k))] | _ => [])⟩
def g_laws_szBoolSS : List AV → Option SgY
  | [.s (.view (.boolss l)), .s (.int n)] => some (s_laws_szBoolSS l n)
  | _ => none
def sig_laws_szBoolSS : FuncId → List AV → Option Sg := sigL [(55, g_laws_szBoolS)]
def xs_laws_szBoolSS : XS := ⟨xsigL [], ysigL []⟩
theorem sig_laws_szBoolSS_ok : SigOK sig_laws_szBoolSS := sigL_cons F_laws_szBoolS sigL_nil
theorem xs_laws_szBoolSS_ok : XSigOK xs_laws_szBoolSS := ⟨xsigL_nil, ysigL_nil⟩
theorem V_laws_szBoolSS (l : List (List Bool)) (n : Int) : ((true = true) ∧ ((True) ∧ True) ∧ (true = true) ∧ ((True) ∧ (True) ∧ (True) ∧ (True) ∧ (True) ∧ True) ∧ (true = true) ∧ ((True) ∧ (True) ∧ True) ∧ ((ilt (isub n (ilen l)) (0 : Int)) = true → ((true = true) ∧ ((True) ∧ True) ∧ ∃ k : Int, ((k < 0 ∨ (0 ≤ k ∧ k ≤ n ∧ ilen l ≤ n ∧ ∀ i, 0 ≤ i → i < ilen l → ilen (getl l i) ≤ n)) ∧ ((((-1 : Int) : Int) = (k)) ∧ True)))) ∧ ((ilt (isub n (ilen l)) (0 : Int)) = false → ((true = true) ∧ ((True) ∧ True) ∧ ∃ (I1 : List GV → Prop) (μ1 : List GV → Nat), (((true = true) ∧ ((((0 : Int) : Int) = (0 : Int)) ∧ (((isub n (ilen l)) : Int) = (isub n (ilen l))) ∧ (((0 : Int) : Int) = (0 : Int)) ∧ (((isub n (ilen l)) : Int) = (isub n (ilen l))) ∧ (((ilt (isub n (ilen l)) (0 : Int)) : Bool) = (ilt (isub n (ilen l)) (0 : Int))) ∧ ((n : Int) = n) ∧ ((Cont.boolss l) = (Cont.boolss l)) ∧ (((ilen l) : Int) = (ilen l)) ∧ (((isub n (ilen l)) : Int) = (isub n (ilen l))) ∧ ((Cont.boolss l) = (Cont.boolss l)) ∧ True) ∧ (True)) ∧ (([GK.int, GK.int, GK.int] : List GK) = ([GK.int, GK.int, GK.int] : List GK)) ∧ I1 [GV.int (0 : Int), GV.int (isub n (ilen l)), GV.int (0 : Int)]) ∧ (∀ i1_0 : Int, ∀ i1_1 : Int, ∀ i1_2 : Int, I1 [GV.int i1_0, GV.int i1_1, GV.int i1_2] → ((true = true) ∧ ((True) ∧ (True) ∧ (True) ∧ (True) ∧ True) ∧ ((ilt i1_0 (ilen l)) = true → ((true = true) ∧ ((True) ∧ (True) ∧ (NLe 0 i1_0 ∧ NLt i1_0 (ilen l)) ∧ (True) ∧ (True) ∧ ((0 ≤ i1_1 ∧ i1_1 ≤ 1048576)) ∧ (True) ∧ True) ∧ (true = true) ∧ ((True) ∧ (True) ∧ True) ∧ ((ilt (szI (ilen (getl l i1_0)) i1_1) (0 : Int)) = true → ((true = true) ∧ ((True) ∧ True) ∧ ∃ k : Int, ((k < 0 ∨ (0 ≤ k ∧ k ≤ n ∧ ilen l ≤ n ∧ ∀ i, 0 ≤ i → i < ilen l → ilen (getl l i) ≤ n)) ∧ ((((-1 : Int) : Int) = (k)) ∧ True)))) ∧ ((ilt (szI (ilen (getl l i1_0)) i1_1) (0 : Int)) = false → ((true = true) ∧ ((True) ∧ (True) ∧ (True) ∧ True) ∧ ((true = true) ∧ (((i1_2 : Int) = i1_2) ∧ (((szI (ilen (getl l i1_0)) i1_1) : Int) = (szI (ilen (getl l i1_0)) i1_1)) ∧ (((iadd i1_0 (1 : Int)) : Int) = (iadd i1_0 (1 : Int))) ∧ (((isub n (ilen l)) : Int) = (isub n (ilen l))) ∧ (((ilt (isub n (ilen l)) (0 : Int)) : Bool) = (ilt (isub n (ilen l)) (0 : Int))) ∧ ((n : Int) = n) ∧ ((Cont.boolss l) = (Cont.boolss l)) ∧ (((ilen l) : Int) = (ilen l)) ∧ (((isub n (ilen l)) : Int) = (isub n (ilen l))) ∧ ((Cont.boolss l) = (Cont.boolss l)) ∧ True) ∧ (True)) ∧ ((([GK.int, GK.int, GK.int] : List GK) = ([GK.int, GK.int, GK.int] : List GK)) ∧ I1 [GV.int (iadd i1_0 (1 : Int)), GV.int (szI (ilen (getl l i1_0)) i1_1), GV.int i1_2] ∧ μ1 [GV.int (iadd i1_0 (1 : Int)), GV.int (szI (ilen (getl l i1_0)) i1_1), GV.int i1_2] < μ1 [GV.int i1_0, GV.int i1_1, GV.int i1_2]))))) ∧ ((ilt i1_0 (ilen l)) = false → ((true = true) ∧ ((True) ∧ (True) ∧ True) ∧ ∃ k : Int, ((k < 0 ∨ (0 ≤ k ∧ k ≤ n ∧ ilen l ≤ n ∧ ∀ i, 0 ≤ i → i < ilen l → ilen (getl l i) ≤ n)) ∧ (((i1_1 : Int) = (k)) ∧ True))))))))) = (fun sg => ev sig_laws_szBoolSS xs_laws_szBoolSS Try.f12.ntmps (fun b => if b == 0 then [.v 5, .v 1, .v 4] else []) (codeOf Try.f12) 0 (initS [.s (.view (.boolss l)), .s (.int n)]) (retY Try.f12.results.toList sg.kinds sg.post sg.ret)) (s_laws_szBoolSS l n) := by kernel_rfl
set_option maxHeartbeats 400000 in
theorem F_laws_szBoolSS : FunY 12 g_laws_szBoolSS := by
  refine fun_Y (by kernel_rfl) Try.func12 rfl (by kernel_rfl) sig_laws_szBoolSS_ok xs_laws_szBoolSS_ok ?_
  intro avs sg h hn hl
  unfold g_laws_szBoolSS at h
  split at h
  · rename_i l n
    injection h with h; subst h
    refine ⟨by kernel_rfl, fun b => if b == 0 then [.v 5, .v 1, .v 4] else [], Eq.mp (V_laws_szBoolSS l n) ?_⟩
    simp only [true_and, and_true, implies_true, and_self, forall_const, true_implies, lenA, lenL, SV.lenOK, Cont.lenOK, s_laws_szBoolSS] at hn hl ⊢
    have h0 := ilen_0 l
    simp only [ilt_t, ilt_f, ile_t, ile_f, ieq_t, ieq_f, bnot_e, band_e, bite_and, bite_or, NLt_e, NLe_e, NNe_e, NIs_e, imax_e, imin_e, irem_e, Bool.not_eq_true', Bool.not_eq_false', Bool.and_eq_true, Bool.or_eq_true, Bool.or_eq_false_iff, Bool.and_eq_false_iff, Cont.pts.injEq, Cont.ints.injEq, Cont.bools.injEq, Cont.ptss.injEq, Cont.intss.injEq, Cont.boolss.injEq, true_and, and_true, implies_true]
    rw [isub_e (by omega) (by omega)]
    refine ⟨fun h => ⟨-1, .inl (by omega), rfl⟩, fun h => ?_⟩
    refine ⟨fun | .int k :: .int s :: _ => 0 ≤ k ∧ k ≤ ilen l ∧ 0 ≤ s ∧ s ≤ n ∧ (∀ i, 0 ≤ i → i < k → ilen (getl l i) ≤ n) | _ => False, fun | .int k :: _ => (ilen l - k).toNat | _ => 0, ?_, ?_⟩
    · exact ⟨Int.le_refl 0, h0, by omega, by omega, fun j h0 h1 => absurd h1 (by omega)⟩
    · rintro k s _ ⟨hk0, hk1, hs0, hs1, hk⟩
      simp only [ilt_t, ilt_f, ile_t, ile_f, ieq_t, ieq_f, bnot_e, band_e, bite_and, bite_or, NLt_e, NLe_e, NNe_e, NIs_e, imax_e, imin_e, irem_e, Bool.not_eq_true', Bool.not_eq_false', Bool.and_eq_true, Bool.or_eq_true, Bool.or_eq_false_iff, Bool.and_eq_false_iff, Cont.pts.injEq, Cont.ints.injEq, Cont.bools.injEq, Cont.ptss.injEq, Cont.intss.injEq, Cont.boolss.injEq, true_and, and_true, implies_true]
      refine ⟨fun hkn => ⟨⟨⟨hk0, hkn⟩, by omega, by omega⟩, fun hx => ⟨-1, .inl (by omega), rfl⟩, fun hx => ?_⟩, fun hkn => ?_⟩
      · obtain ⟨q1, q2⟩ := szI_e hx
        have q3 := ilen_0 (getl l k)
        rw [iadd_1 hk0 hkn hl.1, q2]
        exact ⟨⟨by omega, by omega, by omega, by omega, upTo hk (by omega)⟩, by omega⟩
      · exact ⟨s, .inr ⟨hs0, hs1, by omega, fun i i0 i1 => hk i i0 (by omega)⟩, rfl⟩
  · cases h
theorem getb_setb {l : List Bool} {i j : Int} {x : Bool} (h0 : 0 ≤ i) (h1 : i < ilen l) (h2 : 0 ≤ j) : getb (setb l i x) j = if j = i then x else getb l j := by
  unfold ilen at h1
  unfold getb setb
  by_cases h : j = i
  · subst h; simp [List.getD_eq_getElem?_getD, List.getElem?_set, show j.toNat < l.length by omega]
  · rw [if_neg h]; simp [List.getD_eq_getElem?_getD, List.getElem?_set, show ¬ i.toNat = j.toNat by omega]
theorem bools_ext {l m : List Bool} (h : ilen l = ilen m) (hx : ∀ j, 0 ≤ j → j < ilen l → getb l j = getb m j) : l = m := by
  unfold ilen at h hx
  refine List.ext_getElem (by omega) fun i h1 h2 => ?_
  have e1 := hx i (by omega) (by omega)
  simpa [getb, List.getD_eq_getElem?_getD, h1, h2] using e1
def eqBo (l m : List Bool) : Bool := decide (ilen l = ilen m) && allN (ilen l) fun j => getb l j == getb m j
theorem eqBo_same (l : List Bool) : eqBo l l = true := by
  unfold eqBo
  rw [allN_mk fun j _ _ => by simp]
  simp
def eqBB (l m : List (List Bool)) : Bool := decide (ilen l = ilen m) && allN (ilen l) fun j => eqBo (getl l j) (getl m j)
theorem eqBB_same (l : List (List Bool)) : eqBB l l = true := by
  unfold eqBB
  rw [allN_mk fun j _ _ => eqBo_same _]
  simp
theorem bxor_f {a b : Bool} : (bxor a b = false) = (a = b) := by cases a <;> cases b <;> simp [bxor]
theorem bxor_t {a b : Bool} : (bxor a b = true) = (a ≠ b) := by cases a <;> cases b <;> simp [bxor]
def g_laws_toBoolS : List AV → Option Sg
  | [.s (.view (.bools l))] => some ⟨ilen l ≤ 100000000, [.nrow 4 (.bools (l))]⟩
  | _ => none
def sig_laws_toBoolS : FuncId → List AV → Option Sg := sigL []
def xs_laws_toBoolS : XS := ⟨xsigL [], ysigL []⟩
theorem sig_laws_toBoolS_ok : SigOK sig_laws_toBoolS := sigL_nil
theorem xs_laws_toBoolS_ok : XSigOK xs_laws_toBoolS := ⟨xsigL_nil, ysigL_nil⟩
theorem V_laws_toBoolS (l : List Bool) : ((true = true) ∧ ((True) ∧ True) ∧ (true = true) ∧ ((True) ∧ (True) ∧ (NLe 0 (ilen l) ∧ NLe (ilen l) 100000000 ∧ NIs (ieq (ilen l) (ilen l)) true) ∧ (True) ∧ True) ∧ (true = true) ∧ ((True) ∧ True) ∧ ∃ (I1 : List GV → Prop) (μ1 : List GV → Nat), (((true = true) ∧ ((((0 : Int) : Int) = (0 : Int)) ∧ ((Cont.bools l) = (Cont.bools l)) ∧ (((ilen l) : Int) = (ilen l)) ∧ (true = true) ∧ (true = true) ∧ ((Cont.bools l) = (Cont.bools l)) ∧ True) ∧ (((true = true) ∧ ((Cont.bools (irep (ilen l) false)) = (Cont.bools (irep (ilen l) false)))) ∧ ((true = true) ∧ ((Cont.bools []) = (Cont.bools []))) ∧ True)) ∧ (([GK.int, GK.bools] : List GK) = ([GK.int, GK.bools] : List GK)) ∧ I1 [GV.int (0 : Int), GV.bools (irep (ilen l) false)]) ∧ (∀ i1_0 : Int, ∀ l1_1 : List Bool, I1 [GV.int i1_0, GV.bools l1_1] → ((true = true) ∧ ((True) ∧ (True) ∧ (True) ∧ (True) ∧ True) ∧ ((ilt i1_0 (ilen l)) = true → ((true = true) ∧ ((True) ∧ (True) ∧ (True) ∧ (True) ∧ (NLe 0 i1_0 ∧ NLt i1_0 (ilen l)) ∧ (True) ∧ (NLe 0 i1_0 ∧ NLt i1_0 (ilen l1_1)) ∧ True) ∧ (NLt i1_0 (ilen l1_1)) ∧ (true = true) ∧ ((True) ∧ (True) ∧ (True) ∧ True) ∧ ((true = true) ∧ ((((iadd i1_0 (1 : Int)) : Int) = (iadd i1_0 (1 : Int))) ∧ ((Cont.bools l) = (Cont.bools l)) ∧ (((ilen l) : Int) = (ilen l)) ∧ (true = true) ∧ (true = true) ∧ ((Cont.bools l) = (Cont.bools l)) ∧ True) ∧ (((true = true) ∧ ((Cont.bools (setb l1_1 i1_0 (getb l i1_0))) = (Cont.bools (setb l1_1 i1_0 (getb l i1_0))))) ∧ ((true = true) ∧ ((Cont.bools []) = (Cont.bools []))) ∧ True)) ∧ ((([GK.int, GK.bools] : List GK) = ([GK.int, GK.bools] : List GK)) ∧ I1 [GV.int (iadd i1_0 (1 : Int)), GV.bools (setb l1_1 i1_0 (getb l i1_0))] ∧ μ1 [GV.int (iadd i1_0 (1 : Int)), GV.bools (setb l1_1 i1_0 (getb l i1_0))] < μ1 [GV.int i1_0, GV.bools l1_1]))) ∧ ((ilt i1_0 (ilen l)) = false → ((true = true) ∧ ((True) ∧ (True) ∧ True) ∧ ((true = true) ∧ ((Cont.bools l1_1) = (Cont.bools (l)))) ∧ True))))) = ev sig_laws_toBoolS xs_laws_toBoolS Try.f60.ntmps (fun b => if b == 0 then [.v 4, .b 3] else []) (codeOf Try.f60) 0 (initS [.s (.view (.bools l))]) (retK Try.f60.results.toList [.nrow 4 (.bools (l))]) := by kernel_rfl
set_option maxHeartbeats 400000 in
theorem F_laws_toBoolS : FunOK 60 g_laws_toBoolS := by
  refine fun_F (by kernel_rfl) Try.func60 rfl (by kernel_rfl) sig_laws_toBoolS_ok xs_laws_toBoolS_ok ?_
  intro avs sg h hn hl
  unfold g_laws_toBoolS at h
  split at h
  · rename_i l
    injection h with h; subst h
    refine ⟨by kernel_rfl, fun b => if b == 0 then [.v 4, .b 3] else [], Eq.mp (V_laws_toBoolS l) ?_⟩
    simp only [true_and, and_true, implies_true, and_self, forall_const, true_implies, lenA, lenL, SV.lenOK, Cont.lenOK] at hn hl ⊢
    simp only [ilt_t, ilt_f, ile_t, ile_f, ieq_t, ieq_f, bnot_e, band_e, bite_and, bite_or, NLt_e, NLe_e, NNe_e, NIs_e, imax_e, imin_e, irem_e, Bool.not_eq_true', Bool.not_eq_false', Bool.and_eq_true, Bool.or_eq_true, Bool.or_eq_false_iff, Bool.and_eq_false_iff, Cont.pts.injEq, Cont.ints.injEq, Cont.bools.injEq, Cont.ptss.injEq, Cont.intss.injEq, Cont.boolss.injEq, true_and, and_true, implies_true]
    have h0 := ilen_0 l
    refine ⟨⟨h0, hn⟩, ?_⟩
    refine ⟨fun | [.int k, .bools m] => 0 ≤ k ∧ k ≤ ilen l ∧ ilen m = ilen l ∧ ∀ j, 0 ≤ j → j < k → getb m j = getb l j | _ => False, fun | [.int k, .bools m] => (ilen l - k).toNat | _ => 0, ?_, ?_⟩
    · exact ⟨Int.le_refl 0, h0, ilen_rep _ h0, fun j h0 h1 => absurd h1 (by omega)⟩
    · rintro k m ⟨hk0, hk1, hm, hk⟩
      refine ⟨fun hc => ?_, fun hc => ?_⟩
      · rw [iadd_e (by omega) (by omega)]
        refine ⟨⟨⟨hk0, hc⟩, hk0, by omega⟩, by omega, ⟨by omega, by omega, by rw [ilen_setb]; exact hm, fun j j0 j1 => ?_⟩, by dsimp only; omega⟩
        rw [getb_setb hk0 (by omega) j0]
        by_cases hj : j = k
        · simp only [hj, if_pos, and_self]
        · simp only [if_neg hj]; exact hk j j0 (by omega)
      · rw [bools_ext (l := m) (m := l) hm fun j j0 j1 => hk j j0 (by omega)]
  · cases h
def g_laws_toBoolSS : List AV → Option Sg
  | [.s (.view (.boolss l))] => some ⟨ilen l ≤ 100000000 ∧ ∀ i, 0 ≤ i → i < ilen l → ilen (getl l i) ≤ 100000000, [.nrow 42 (.boolss (l))]⟩
  | _ => none
def sig_laws_toBoolSS : FuncId → List AV → Option Sg := sigL [(60, g_laws_toBoolS)]
def xs_laws_toBoolSS : XS := ⟨xsigL [], ysigL []⟩
theorem sig_laws_toBoolSS_ok : SigOK sig_laws_toBoolSS := sigL_cons F_laws_toBoolS sigL_nil
theorem xs_laws_toBoolSS_ok : XSigOK xs_laws_toBoolSS := ⟨xsigL_nil, ysigL_nil⟩
theorem V_laws_toBoolSS (l : List (List Bool)) : ((true = true) ∧ ((True) ∧ True) ∧ (true = true) ∧ ((True) ∧ (True) ∧ (NLe 0 (ilen l) ∧ NLe (ilen l) 100000000 ∧ NIs (ieq (ilen l) (ilen l)) true) ∧ (True) ∧ True) ∧ (true = true) ∧ ((True) ∧ True) ∧ ∃ (I1 : List GV → Prop) (μ1 : List GV → Nat), (((true = true) ∧ ((((0 : Int) : Int) = (0 : Int)) ∧ ((Cont.boolss l) = (Cont.boolss l)) ∧ (((ilen l) : Int) = (ilen l)) ∧ (true = true) ∧ (true = true) ∧ ((Cont.boolss l) = (Cont.boolss l)) ∧ True) ∧ (((true = true) ∧ ((Cont.boolss (irep (ilen l) [])) = (Cont.boolss (irep (ilen l) [])))) ∧ ((true = true) ∧ ((Cont.boolss []) = (Cont.boolss []))) ∧ True)) ∧ (([GK.int, GK.boolss] : List GK) = ([GK.int, GK.boolss] : List GK)) ∧ I1 [GV.int (0 : Int), GV.boolss (irep (ilen l) [])]) ∧ (∀ i1_0 : Int, ∀ l1_1 : List (List Bool), I1 [GV.int i1_0, GV.boolss l1_1] → ((true = true) ∧ ((True) ∧ (True) ∧ (True) ∧ (True) ∧ True) ∧ ((ilt i1_0 (ilen l)) = true → ((true = true) ∧ ((True) ∧ (True) ∧ (True) ∧ (True) ∧ (NLe 0 i1_0 ∧ NLt i1_0 (ilen l)) ∧ (True) ∧ ((ilen (getl l i1_0) ≤ 100000000)) ∧ (NLe 0 i1_0 ∧ NLt i1_0 (ilen l1_1)) ∧ True) ∧ (NLt i1_0 (ilen l1_1)) ∧ (true = true) ∧ ((True) ∧ (True) ∧ (True) ∧ True) ∧ ((true = true) ∧ ((((iadd i1_0 (1 : Int)) : Int) = (iadd i1_0 (1 : Int))) ∧ ((Cont.boolss l) = (Cont.boolss l)) ∧ (((ilen l) : Int) = (ilen l)) ∧ (true = true) ∧ (true = true) ∧ ((Cont.boolss l) = (Cont.boolss l)) ∧ True) ∧ (((true = true) ∧ ((Cont.boolss (setl l1_1 i1_0 ((getl l i1_0)))) = (Cont.boolss (setl l1_1 i1_0 ((getl l i1_0)))))) ∧ ((true = true) ∧ ((Cont.boolss []) = (Cont.boolss []))) ∧ True)) ∧ ((([GK.int, GK.boolss] : List GK) = ([GK.int, GK.boolss] : List GK)) ∧ I1 [GV.int (iadd i1_0 (1 : Int)), GV.boolss (setl l1_1 i1_0 ((getl l i1_0)))] ∧ μ1 [GV.int (iadd i1_0 (1 : Int)), GV.boolss (setl l1_1 i1_0 ((getl l i1_0)))] < μ1 [GV.int i1_0, GV.boolss l1_1]))) ∧ ((ilt i1_0 (ilen l)) = false → ((true = true) ∧ ((True) ∧ (True) ∧ True) ∧ ((true = true) ∧ ((Cont.boolss l1_1) = (Cont.boolss (l)))) ∧ True))))) = ev sig_laws_toBoolSS xs_laws_toBoolSS Try.f14.ntmps (fun b => if b == 0 then [.v 4, .b 3] else []) (codeOf Try.f14) 0 (initS [.s (.view (.boolss l))]) (retK Try.f14.results.toList [.nrow 42 (.boolss (l))]) := by kernel_rfl
set_option maxHeartbeats 400000 in
theorem F_laws_toBoolSS : FunOK 14 g_laws_toBoolSS := by
  refine fun_F (by kernel_rfl) Try.func14 rfl (by kernel_rfl) sig_laws_toBoolSS_ok xs_laws_toBoolSS_ok ?_
  intro avs sg h hn hl
  unfold g_laws_toBoolSS at h
  split at h
  · rename_i l
    injection h with h; subst h
    refine ⟨by kernel_rfl, fun b => if b == 0 then [.v 4, .b 3] else [], Eq.mp (V_laws_toBoolSS l) ?_⟩
    simp only [true_and, and_true, implies_true, and_self, forall_const, true_implies, lenA, lenL, SV.lenOK, Cont.lenOK] at hn hl ⊢
    have h0 := ilen_0 l
    simp only [ilt_t, ilt_f, ile_t, ile_f, ieq_t, ieq_f, bnot_e, band_e, bite_and, bite_or, NLt_e, NLe_e, NNe_e, NIs_e, imax_e, imin_e, irem_e, Bool.not_eq_true', Bool.not_eq_false', Bool.and_eq_true, Bool.or_eq_true, Bool.or_eq_false_iff, Bool.and_eq_false_iff, Cont.pts.injEq, Cont.ints.injEq, Cont.bools.injEq, Cont.ptss.injEq, Cont.intss.injEq, Cont.boolss.injEq, true_and, and_true, implies_true]
    refine ⟨⟨h0, hn.1⟩, ?_⟩
    refine ⟨fun | [.int k, .boolss m] => 0 ≤ k ∧ k ≤ ilen l ∧ ilen m = ilen l ∧ (∀ i, 0 ≤ i → i < k → getl m i = getl l i) | _ => False, fun | .int k :: _ => (ilen l - k).toNat | _ => 0, ?_, ?_⟩
    · exact ⟨Int.le_refl 0, h0, ilen_rep _ h0, fun j h0 h1 => absurd h1 (by omega)⟩
    · rintro k m ⟨hk0, hk1, hm, hk⟩
      simp only [ilt_t, ilt_f, ile_t, ile_f, ieq_t, ieq_f, bnot_e, band_e, bite_and, bite_or, NLt_e, NLe_e, NNe_e, NIs_e, imax_e, imin_e, irem_e, Bool.not_eq_true', Bool.not_eq_false', Bool.and_eq_true, Bool.or_eq_true, Bool.or_eq_false_iff, Bool.and_eq_false_iff, Cont.pts.injEq, Cont.ints.injEq, Cont.bools.injEq, Cont.ptss.injEq, Cont.intss.injEq, Cont.boolss.injEq, true_and, and_true, implies_true]
      refine ⟨fun hkn => ?_, fun hkn => ?_⟩
      · rw [iadd_1 hk0 hkn hl.1]
        refine ⟨⟨⟨hk0, hkn⟩, hn.2 k hk0 hkn, hk0, by omega⟩, by omega, ⟨by omega, by omega, by rw [ilen_setl]; exact hm, fun j j0 j1 => ?_⟩, by omega⟩
        rw [getl_setl hk0 (by omega) j0]
        by_cases hj : j = k
        · simp [hj]
        · rw [if_neg hj]; exact hk j j0 (by omega)
      · exact lists_ext hm fun j j0 j1 => hk j j0 (by omega)
  · cases h
def g_laws_toCell : List AV → Option Sg
  | [.agg [.int p1, .int p2]] => some ⟨True, [.agg [.int (p1), .int (p2)]]⟩
  | _ => none
def sig_laws_toCell : FuncId → List AV → Option Sg := sigL []
def xs_laws_toCell : XS := ⟨xsigL [], ysigL []⟩
theorem sig_laws_toCell_ok : SigOK sig_laws_toCell := sigL_nil
theorem xs_laws_toCell_ok : XSigOK xs_laws_toCell := ⟨xsigL_nil, ysigL_nil⟩
theorem V_laws_toCell (p1 : Int) (p2 : Int) : ((true = true) ∧ ((True) ∧ (True) ∧ True) ∧ (true = true) ∧ ((True) ∧ True) ∧ (true = true) ∧ ((True) ∧ (True) ∧ (True) ∧ True) ∧ (True) ∧ (true = true) ∧ ((True) ∧ (True) ∧ (True) ∧ True) ∧ (True) ∧ (true = true) ∧ ((True) ∧ True) ∧ (True) ∧ (((p1 : Int) = (p1)) ∧ ((p2 : Int) = (p2)) ∧ True) ∧ True) = ev sig_laws_toCell xs_laws_toCell Try.f15.ntmps (fun b => []) (codeOf Try.f15) 0 (initS [.agg [.int p1, .int p2]]) (retK Try.f15.results.toList [.agg [.int (p1), .int (p2)]]) := by kernel_rfl
set_option maxHeartbeats 400000 in
theorem F_laws_toCell : FunOK 15 g_laws_toCell := by
  refine fun_F (by kernel_rfl) Try.func15 rfl (by kernel_rfl) sig_laws_toCell_ok xs_laws_toCell_ok ?_
  intro avs sg h hn hl
  unfold g_laws_toCell at h
  split at h
  · rename_i p1 p2
    injection h with h; subst h
    refine ⟨by kernel_rfl, fun b => [], Eq.mp (V_laws_toCell p1 p2) ?_⟩
    simp only [true_and, and_true, implies_true, and_self, forall_const, true_implies, lenA, lenL, SV.lenOK, Cont.lenOK] at hn hl ⊢
  · cases h
def g_spec_l11Square : List AV → Option Sg
  | [.s (.view (.boolss l))] => some ⟨True, [.s (.bool (tblB l))]⟩
  | _ => none
def sig_spec_l11Square : FuncId → List AV → Option Sg := sigL []
def xs_spec_l11Square : XS := ⟨xsigL [], ysigL []⟩
theorem sig_spec_l11Square_ok : SigOK sig_spec_l11Square := sigL_nil
theorem xs_spec_l11Square_ok : XSigOK xs_spec_l11Square := ⟨xsigL_nil, ysigL_nil⟩
theorem V_spec_l11Square (l : List (List Bool)) : ((true = true) ∧ ((True) ∧ True) ∧ (true = true) ∧ ((True) ∧ True) ∧ ∃ (I1 : List GV → Prop) (μ1 : List GV → Nat), (((true = true) ∧ (((false : Bool) = false) ∧ (((0 : Int) : Int) = (0 : Int)) ∧ ((Cont.boolss l) = (Cont.boolss l)) ∧ True) ∧ (True)) ∧ (([GK.int, GK.bool] : List GK) = ([GK.int, GK.bool] : List GK)) ∧ I1 [GV.int (0 : Int), GV.bool false]) ∧ (∀ i1_0 : Int, ∀ b1_1 : Bool, I1 [GV.int i1_0, GV.bool b1_1] → ((true = true) ∧ ((True) ∧ (True) ∧ (True) ∧ (True) ∧ True) ∧ ((ilt i1_0 (ilen l)) = true → ((true = true) ∧ ((True) ∧ (True) ∧ (NLe 0 i1_0 ∧ NLt i1_0 (ilen l)) ∧ (True) ∧ (True) ∧ (True) ∧ (NLe 0 (0 : Int) ∧ NLt (0 : Int) (ilen l)) ∧ (True) ∧ (True) ∧ (True) ∧ (True) ∧ (NIs (bnot (ieq (ilen (getl l i1_0)) (ilen (getl l (0 : Int))))) false → True) ∧ (NIs (bnot (ieq (ilen (getl l i1_0)) (ilen (getl l (0 : Int))))) false → True) ∧ (NIs (bnot (ieq (ilen (getl l i1_0)) (ilen (getl l (0 : Int))))) false → (NLe 0 i1_0 ∧ NLt i1_0 (ilen l))) ∧ (NIs (bnot (ieq (ilen (getl l i1_0)) (ilen (getl l (0 : Int))))) false → True) ∧ (NIs (bnot (ieq (ilen (getl l i1_0)) (ilen (getl l (0 : Int))))) false → True) ∧ (NIs (bnot (ieq (ilen (getl l i1_0)) (ilen (getl l (0 : Int))))) false → True) ∧ (True) ∧ True) ∧ ((bite (bnot (ieq (ilen (getl l i1_0)) (ilen (getl l (0 : Int))))) true (ilt (20 : Int) (ilen (getl l i1_0)))) = true → ((true = true) ∧ ((True) ∧ True) ∧ ((false : Bool) = (tblB l)) ∧ True)) ∧ ((bite (bnot (ieq (ilen (getl l i1_0)) (ilen (getl l (0 : Int))))) true (ilt (20 : Int) (ilen (getl l i1_0)))) = false → ((true = true) ∧ ((True) ∧ (True) ∧ (True) ∧ True) ∧ ((true = true) ∧ (((b1_1 : Bool) = b1_1) ∧ (((iadd i1_0 (1 : Int)) : Int) = (iadd i1_0 (1 : Int))) ∧ ((Cont.boolss l) = (Cont.boolss l)) ∧ True) ∧ (True)) ∧ ((([GK.int, GK.bool] : List GK) = ([GK.int, GK.bool] : List GK)) ∧ I1 [GV.int (iadd i1_0 (1 : Int)), GV.bool b1_1] ∧ μ1 [GV.int (iadd i1_0 (1 : Int)), GV.bool b1_1] < μ1 [GV.int i1_0, GV.bool b1_1]))))) ∧ ((ilt i1_0 (ilen l)) = false → ((true = true) ∧ ((True) ∧ (True) ∧ (True) ∧ (True) ∧ True) ∧ (((ile (ilen l) (20 : Int)) : Bool) = (tblB l)) ∧ True))))) = ev sig_spec_l11Square xs_spec_l11Square Try.f56.ntmps (fun b => if b == 0 then [.v 3, .v 2] else []) (codeOf Try.f56) 0 (initS [.s (.view (.boolss l))]) (retK Try.f56.results.toList [.s (.bool (tblB l))]) := by kernel_rfl
set_option maxHeartbeats 400000 in
theorem F_spec_l11Square : FunOK 56 g_spec_l11Square := by
  refine fun_F (by kernel_rfl) Try.func56 rfl (by kernel_rfl) sig_spec_l11Square_ok xs_spec_l11Square_ok ?_
  intro avs sg h hn hl
  unfold g_spec_l11Square at h
  split at h
  · rename_i l
    injection h with h; subst h
    refine ⟨by kernel_rfl, fun b => if b == 0 then [.v 3, .v 2] else [], Eq.mp (V_spec_l11Square l) ?_⟩
    simp only [true_and, and_true, implies_true, and_self, forall_const, true_implies, lenA, lenL, SV.lenOK, Cont.lenOK] at hn hl ⊢
    have h0 := ilen_0 l
    simp only [ilt_t, ilt_f, ile_t, ile_f, ieq_t, ieq_f, bnot_e, band_e, bite_and, bite_or, NLt_e, NLe_e, NNe_e, NIs_e, imax_e, imin_e, irem_e, Bool.not_eq_true', Bool.not_eq_false', Bool.and_eq_true, Bool.or_eq_true, Bool.or_eq_false_iff, Bool.and_eq_false_iff, Cont.pts.injEq, Cont.ints.injEq, Cont.bools.injEq, Cont.ptss.injEq, Cont.intss.injEq, Cont.boolss.injEq, true_and, and_true, implies_true]
    refine ⟨fun | .int k :: _ => 0 ≤ k ∧ k ≤ ilen l ∧ (∀ i, 0 ≤ i → i < k → tblE l i = true) | _ => False, fun | .int k :: _ => (ilen l - k).toNat | _ => 0, ?_, ?_⟩
    · exact ⟨Int.le_refl 0, h0, fun j h0 h1 => absurd h1 (by omega)⟩
    · rintro k _ ⟨hk0, hk1, hk⟩
      simp only [ilt_t, ilt_f, ile_t, ile_f, ieq_t, ieq_f, bnot_e, band_e, bite_and, bite_or, NLt_e, NLe_e, NNe_e, NIs_e, imax_e, imin_e, irem_e, Bool.not_eq_true', Bool.not_eq_false', Bool.and_eq_true, Bool.or_eq_true, Bool.or_eq_false_iff, Bool.and_eq_false_iff, Cont.pts.injEq, Cont.ints.injEq, Cont.bools.injEq, Cont.ptss.injEq, Cont.intss.injEq, Cont.boolss.injEq, true_and, and_true, implies_true]
      refine ⟨fun hkn => ⟨⟨⟨hk0, hkn⟩, ⟨by omega, by omega⟩, fun _ => ⟨hk0, hkn⟩⟩, fun hx => ?_, fun hx => ?_⟩, fun hkn => ?_⟩
      · have hE : tblE l k = false := by unfold tblE; simp only [decide_eq_false_iff_not]; omega
        unfold tblB; rw [allN_no k hk0 hkn hE]; simp
      · have hE : tblE l k = true := by unfold tblE; simp only [decide_eq_true_eq]; omega
        rw [iadd_1 hk0 hkn hl.1]
        exact ⟨⟨by omega, by omega, upTo hk hE⟩, by omega⟩
      · unfold tblB; rw [allN_mk fun j j0 j1 => hk j j0 (by omega)]; simp [ile]
  · cases h
theorem inB_eq (n lo hi : Int) : inB n lo hi = (ile lo n && ile n hi) := by
  unfold inB ile
  by_cases h1 : lo ≤ n <;> by_cases h2 : n ≤ hi <;> simp [h1, h2]
def g_spec_l1In : List AV → Option Sg
  | [.s (.int n), .s (.int lo), .s (.int hi)] => some ⟨True, [.s (.bool (inB n lo hi))]⟩
  | _ => none
def sig_spec_l1In : FuncId → List AV → Option Sg := sigL []
def xs_spec_l1In : XS := ⟨xsigL [], ysigL []⟩
theorem sig_spec_l1In_ok : SigOK sig_spec_l1In := sigL_nil
theorem xs_spec_l1In_ok : XSigOK xs_spec_l1In := ⟨xsigL_nil, ysigL_nil⟩
theorem V_spec_l1In (n : Int) (lo : Int) (hi : Int) : ((true = true) ∧ ((True) ∧ True) ∧ (true = true) ∧ ((True) ∧ (True) ∧ (True) ∧ (True) ∧ (NIs (ile lo n) true → True) ∧ (NIs (ile lo n) true → True) ∧ (NIs (ile lo n) true → True) ∧ (True) ∧ (True) ∧ True) ∧ (((bite (ile lo n) (ile n hi) false) : Bool) = (inB n lo hi)) ∧ True) = ev sig_spec_l1In xs_spec_l1In Try.f73.ntmps (fun b => []) (codeOf Try.f73) 0 (initS [.s (.int n), .s (.int lo), .s (.int hi)]) (retK Try.f73.results.toList [.s (.bool (inB n lo hi))]) := by kernel_rfl
set_option maxHeartbeats 400000 in
theorem F_spec_l1In : FunOK 73 g_spec_l1In := by
  refine fun_F (by kernel_rfl) Try.func73 rfl (by kernel_rfl) sig_spec_l1In_ok xs_spec_l1In_ok ?_
  intro avs sg h hn hl
  unfold g_spec_l1In at h
  split at h
  · rename_i n lo hi
    injection h with h; subst h
    refine ⟨by kernel_rfl, fun b => [], Eq.mp (V_spec_l1In n lo hi) ?_⟩
    simp only [true_and, and_true, implies_true, and_self, forall_const, true_implies, lenA, lenL, SV.lenOK, Cont.lenOK] at hn hl ⊢
    simp only [bite_and, inB_eq]
  · cases h
def g_spec_l11Free : List AV → Option Sg
  | [.s (.view (.boolss l)), .agg [.int c1, .int c2]] => some ⟨True, [.s (.bool (freeB l c1 c2))]⟩
  | _ => none
def sig_spec_l11Free : FuncId → List AV → Option Sg := sigL [(73, g_spec_l1In)]
def xs_spec_l11Free : XS := ⟨xsigL [], ysigL []⟩
theorem sig_spec_l11Free_ok : SigOK sig_spec_l11Free := sigL_cons F_spec_l1In sigL_nil
theorem xs_spec_l11Free_ok : XSigOK xs_spec_l11Free := ⟨xsigL_nil, ysigL_nil⟩
theorem V_spec_l11Free (l : List (List Bool)) (c1 : Int) (c2 : Int) : ((true = true) ∧ ((True) ∧ (True) ∧ True) ∧ (true = true) ∧ ((True) ∧ (True) ∧ (True) ∧ (True) ∧ (True) ∧ ((True)) ∧ (True) ∧ (NIs (inB c1 (0 : Int) (isub (ilen l) (1 : Int))) true → True) ∧ (NIs (inB c1 (0 : Int) (isub (ilen l) (1 : Int))) true → True) ∧ (NIs (inB c1 (0 : Int) (isub (ilen l) (1 : Int))) true → True) ∧ (NIs (inB c1 (0 : Int) (isub (ilen l) (1 : Int))) true → True) ∧ (NIs (inB c1 (0 : Int) (isub (ilen l) (1 : Int))) true → True) ∧ (NIs (inB c1 (0 : Int) (isub (ilen l) (1 : Int))) true → (NLe 0 c1 ∧ NLt c1 (ilen l))) ∧ (NIs (inB c1 (0 : Int) (isub (ilen l) (1 : Int))) true → True) ∧ (NIs (inB c1 (0 : Int) (isub (ilen l) (1 : Int))) true → True) ∧ (NIs (inB c1 (0 : Int) (isub (ilen l) (1 : Int))) true → True) ∧ (NIs (inB c1 (0 : Int) (isub (ilen l) (1 : Int))) true → (True)) ∧ (True) ∧ (True) ∧ (NIs (bite (inB c1 (0 : Int) (isub (ilen l) (1 : Int))) (inB c2 (0 : Int) (isub (ilen (getl l c1)) (1 : Int))) false) true → True) ∧ (NIs (bite (inB c1 (0 : Int) (isub (ilen l) (1 : Int))) (inB c2 (0 : Int) (isub (ilen (getl l c1)) (1 : Int))) false) true → True) ∧ (NIs (bite (inB c1 (0 : Int) (isub (ilen l) (1 : Int))) (inB c2 (0 : Int) (isub (ilen (getl l c1)) (1 : Int))) false) true → True) ∧ (NIs (bite (inB c1 (0 : Int) (isub (ilen l) (1 : Int))) (inB c2 (0 : Int) (isub (ilen (getl l c1)) (1 : Int))) false) true → (NLe 0 c1 ∧ NLt c1 (ilen l))) ∧ (NIs (bite (inB c1 (0 : Int) (isub (ilen l) (1 : Int))) (inB c2 (0 : Int) (isub (ilen (getl l c1)) (1 : Int))) false) true → True) ∧ (NIs (bite (inB c1 (0 : Int) (isub (ilen l) (1 : Int))) (inB c2 (0 : Int) (isub (ilen (getl l c1)) (1 : Int))) false) true → True) ∧ (NIs (bite (inB c1 (0 : Int) (isub (ilen l) (1 : Int))) (inB c2 (0 : Int) (isub (ilen (getl l c1)) (1 : Int))) false) true → True) ∧ (NIs (bite (inB c1 (0 : Int) (isub (ilen l) (1 : Int))) (inB c2 (0 : Int) (isub (ilen (getl l c1)) (1 : Int))) false) true → (NLe 0 c2 ∧ NLt c2 (ilen (getl l c1)))) ∧ (NIs (bite (inB c1 (0 : Int) (isub (ilen l) (1 : Int))) (inB c2 (0 : Int) (isub (ilen (getl l c1)) (1 : Int))) false) true → True) ∧ (True) ∧ (True) ∧ True) ∧ (((bite (bite (inB c1 (0 : Int) (isub (ilen l) (1 : Int))) (inB c2 (0 : Int) (isub (ilen (getl l c1)) (1 : Int))) false) (getb (getl l c1) c2) false) : Bool) = (freeB l c1 c2)) ∧ True) = ev sig_spec_l11Free xs_spec_l11Free Try.f57.ntmps (fun b => []) (codeOf Try.f57) 0 (initS [.s (.view (.boolss l)), .agg [.int c1, .int c2]]) (retK Try.f57.results.toList [.s (.bool (freeB l c1 c2))]) := by kernel_rfl
set_option maxHeartbeats 400000 in
theorem F_spec_l11Free : FunOK 57 g_spec_l11Free := by
  refine fun_F (by kernel_rfl) Try.func57 rfl (by kernel_rfl) sig_spec_l11Free_ok xs_spec_l11Free_ok ?_
  intro avs sg h hn hl
  unfold g_spec_l11Free at h
  split at h
  · rename_i l c1 c2
    injection h with h; subst h
    refine ⟨by kernel_rfl, fun b => [], Eq.mp (V_spec_l11Free l c1 c2) ?_⟩
    simp only [true_and, and_true, implies_true, and_self, forall_const, true_implies, lenA, lenL, SV.lenOK, Cont.lenOK] at hn hl ⊢
    have h0 := ilen_0 l
    have g0 := ilen_0 (getl l c1)
    have g1 := getl_any hl.2 c1
    have e1 : isub (ilen l) 1 = ilen l - 1 := isub_e (by omega) (by omega)
    have e2 : isub (ilen (getl l c1)) 1 = ilen (getl l c1) - 1 := isub_e (by omega) (by omega)
    simp only [ilt_t, ilt_f, ile_t, ile_f, ieq_t, ieq_f, bnot_e, band_e, bite_and, bite_or, NLt_e, NLe_e, NNe_e, NIs_e, imax_e, imin_e, irem_e, Bool.not_eq_true', Bool.not_eq_false', Bool.and_eq_true, Bool.or_eq_true, Bool.or_eq_false_iff, Bool.and_eq_false_iff, Cont.pts.injEq, Cont.ints.injEq, Cont.bools.injEq, Cont.ptss.injEq, Cont.intss.injEq, Cont.boolss.injEq, true_and, and_true, implies_true, e1, e2]
    have i1 : inB c1 0 (ilen l - 1) = decide (0 ≤ c1 ∧ c1 < ilen l) := by unfold inB; exact decide_eq_decide.2 (by omega)
    have i2 : inB c2 0 (ilen (getl l c1) - 1) = decide (0 ≤ c2 ∧ c2 < ilen (getl l c1)) := by unfold inB; exact decide_eq_decide.2 (by omega)
    rw [i1, i2]
    simp only [decide_eq_true_eq]
    exact ⟨⟨fun h => h, fun h => h.1, fun h => h.2⟩, rfl⟩
  · cases h
def g_spec_l11Back : List AV → Option Sg
  | [.s (.view (.pts q)), .s (.view (.ints b)), .s (.int k)] => some ⟨-1 ≤ k ∧ k < ilen q ∧ wfB q b, [.nrow 29 (.pts (bkL q b (k + 1).toNat k []))]⟩
  | _ => none
def sig_spec_l11Back : FuncId → List AV → Option Sg := sigL []
def xs_spec_l11Back : XS := ⟨xsigL [], ysigL []⟩
theorem sig_spec_l11Back_ok : SigOK sig_spec_l11Back := sigL_nil
theorem xs_spec_l11Back_ok : XSigOK xs_spec_l11Back := ⟨xsigL_nil, ysigL_nil⟩
theorem V_spec_l11Back (q : List Pt) (b : List Int) (k : Int) : ((true = true) ∧ ((True) ∧ True) ∧ (true = true) ∧ ((True) ∧ (True) ∧ True) ∧ ∃ (I1 : List GV → Prop) (μ1 : List GV → Nat), (((true = true) ∧ (((k : Int) = k) ∧ (true = true) ∧ (true = true) ∧ ((Cont.pts q) = (Cont.pts q)) ∧ ((Cont.ints b) = (Cont.ints b)) ∧ True) ∧ (((true = true) ∧ ((Cont.pts []) = (Cont.pts []))) ∧ ((true = true) ∧ ((Cont.pts []) = (Cont.pts []))) ∧ True)) ∧ (([GK.pts, GK.int] : List GK) = ([GK.pts, GK.int] : List GK)) ∧ I1 [GV.pts [], GV.int k]) ∧ (∀ l1_0 : List Pt, ∀ i1_1 : Int, I1 [GV.pts l1_0, GV.int i1_1] → ((true = true) ∧ ((True) ∧ (True) ∧ True) ∧ ((ile (0 : Int) i1_1) = true → ((true = true) ∧ ((True) ∧ (True) ∧ (NLe 0 i1_1 ∧ NLt i1_1 (ilen q)) ∧ (True) ∧ (True) ∧ (True) ∧ True) ∧ (NLe (ilen [((getx q i1_1), (gety q i1_1))]) 1000000000 ∧ NLe (ilen l1_0) 1000000000) ∧ (True) ∧ (true = true) ∧ ((True) ∧ (True) ∧ (NLe 0 i1_1 ∧ NLt i1_1 (ilen b)) ∧ (True) ∧ (True) ∧ True) ∧ ((true = true) ∧ ((((geti b i1_1) : Int) = (geti b i1_1)) ∧ (true = true) ∧ (true = true) ∧ ((Cont.pts q) = (Cont.pts q)) ∧ ((Cont.ints b) = (Cont.ints b)) ∧ True) ∧ (((true = true) ∧ ((Cont.pts (iapp [((getx q i1_1), (gety q i1_1))] l1_0)) = (Cont.pts (iapp [((getx q i1_1), (gety q i1_1))] l1_0)))) ∧ ((true = true) ∧ ((Cont.pts []) = (Cont.pts []))) ∧ True)) ∧ ((([GK.pts, GK.int] : List GK) = ([GK.pts, GK.int] : List GK)) ∧ I1 [GV.pts (iapp [((getx q i1_1), (gety q i1_1))] l1_0), GV.int (geti b i1_1)] ∧ μ1 [GV.pts (iapp [((getx q i1_1), (gety q i1_1))] l1_0), GV.int (geti b i1_1)] < μ1 [GV.pts l1_0, GV.int i1_1]))) ∧ ((ile (0 : Int) i1_1) = false → ((true = true) ∧ ((True) ∧ (True) ∧ True) ∧ ((true = true) ∧ ((Cont.pts l1_0) = (Cont.pts (bkL q b (k + 1).toNat k [])))) ∧ True))))) = ev sig_spec_l11Back xs_spec_l11Back Try.f58.ntmps (fun b => if b == 0 then [.b 7, .v 2] else []) (codeOf Try.f58) 0 (initS [.s (.view (.pts q)), .s (.view (.ints b)), .s (.int k)]) (retK Try.f58.results.toList [.nrow 29 (.pts (bkL q b (k + 1).toNat k []))]) := by kernel_rfl
set_option maxHeartbeats 400000 in
theorem F_spec_l11Back : FunOK 58 g_spec_l11Back := by
  refine fun_F (by kernel_rfl) Try.func58 rfl (by kernel_rfl) sig_spec_l11Back_ok xs_spec_l11Back_ok ?_
  intro avs sg h hn hl
  unfold g_spec_l11Back at h
  split at h
  · rename_i q b k
    injection h with h; subst h
    refine ⟨by kernel_rfl, fun b => if b == 0 then [.b 7, .v 2] else [], Eq.mp (V_spec_l11Back q b k) ?_⟩
    simp only [true_and, and_true, implies_true, and_self, forall_const, true_implies, lenA, lenL, SV.lenOK, Cont.lenOK] at hn hl ⊢
    obtain ⟨n1, n2, n3⟩ := hn
    have hw := n3
    obtain ⟨w1, w2, w3⟩ := n3
    simp only [ilt_t, ilt_f, ile_t, ile_f, ieq_t, ieq_f, bnot_e, band_e, bite_and, bite_or, NLt_e, NLe_e, NNe_e, NIs_e, imax_e, imin_e, irem_e, Bool.not_eq_true', Bool.not_eq_false', Bool.and_eq_true, Bool.or_eq_true, Bool.or_eq_false_iff, Bool.and_eq_false_iff, Cont.pts.injEq, Cont.ints.injEq, Cont.bools.injEq, Cont.ptss.injEq, Cont.intss.injEq, Cont.boolss.injEq, true_and, and_true, implies_true]
    refine ⟨fun | [.pts o, .int i] => -1 ≤ i ∧ i ≤ k ∧ ilen o ≤ 400 - i ∧ bkL q b (k + 1).toNat k [] = bkL q b (i + 1).toNat i o | _ => False, fun | [_, .int i] => (i + 1).toNat | _ => 0, ⟨n1, by omega, by rw [ilen_nil]; omega, rfl⟩, ?_⟩
    rintro o i ⟨i0, i1, ho, he⟩
    refine ⟨fun hc => ?_, fun hc => ?_⟩
    · have hb := w3 i hc (by omega)
      have hs := bkL_step hw hc (by omega) o
      rw [hs] at he
      exact ⟨⟨hc, by omega⟩, ⟨by rw [ilen_one]; omega, by omega⟩, ⟨hc, by omega⟩, ⟨hb.1, by omega, by rw [ilen_app, ilen_one]; omega, he⟩, by show (geti b i + 1).toNat < (i + 1).toNat; omega⟩
    · rw [he, bkL_end hc]
  · cases h
def g_spec_l11Next : List AV → Option Sg
  | [.agg [.int c1, .int c2]] => some ⟨True, [.nrow 29 (.pts ([(isub c1 1, c2), (c1, isub c2 1), (c1, iadd c2 1), (iadd c1 1, c2)]))]⟩
  | _ => none
def sig_spec_l11Next : FuncId → List AV → Option Sg := sigL []
def xs_spec_l11Next : XS := ⟨xsigL [], ysigL []⟩
theorem sig_spec_l11Next_ok : SigOK sig_spec_l11Next := sigL_nil
theorem xs_spec_l11Next_ok : XSigOK xs_spec_l11Next := ⟨xsigL_nil, ysigL_nil⟩
theorem V_spec_l11Next (c1 : Int) (c2 : Int) : ((true = true) ∧ ((True) ∧ (True) ∧ True) ∧ (true = true) ∧ ((True) ∧ (True) ∧ (True) ∧ (True) ∧ (True) ∧ (True) ∧ (True) ∧ (True) ∧ (True) ∧ (True) ∧ (True) ∧ (True) ∧ (True) ∧ (True) ∧ (True) ∧ (True) ∧ (True) ∧ (True) ∧ (True) ∧ (True) ∧ (True) ∧ (True) ∧ (True) ∧ (True) ∧ (True) ∧ (True) ∧ True) ∧ ((true = true) ∧ ((Cont.pts [((isub c1 (1 : Int)), c2), (c1, (isub c2 (1 : Int))), (c1, (iadd c2 (1 : Int))), ((iadd c1 (1 : Int)), c2)]) = (Cont.pts ([(isub c1 1, c2), (c1, isub c2 1), (c1, iadd c2 1), (iadd c1 1, c2)])))) ∧ True) = ev sig_spec_l11Next xs_spec_l11Next Try.f59.ntmps (fun b => []) (codeOf Try.f59) 0 (initS [.agg [.int c1, .int c2]]) (retK Try.f59.results.toList [.nrow 29 (.pts ([(isub c1 1, c2), (c1, isub c2 1), (c1, iadd c2 1), (iadd c1 1, c2)]))]) := by kernel_rfl
set_option maxHeartbeats 400000 in
theorem F_spec_l11Next : FunOK 59 g_spec_l11Next := by
  refine fun_F (by kernel_rfl) Try.func59 rfl (by kernel_rfl) sig_spec_l11Next_ok xs_spec_l11Next_ok ?_
  intro avs sg h hn hl
  unfold g_spec_l11Next at h
  split at h
  · rename_i c1 c2
    injection h with h; subst h
    refine ⟨by kernel_rfl, fun b => [], Eq.mp (V_spec_l11Next c1 c2) ?_⟩
    simp only [true_and, and_true, implies_true, and_self, forall_const, true_implies, lenA, lenL, SV.lenOK, Cont.lenOK] at hn hl ⊢
  · cases h
def g_spec_PlanPath : List AV → Option Sg
  | [.s (.view (.boolss l)), .agg [.int a1, .int a2], .agg [.int z1, .int z2]] => some ⟨True, [.nrow 29 (.pts (plF l a1 a2 z1 z2))]⟩
  | _ => none
def sig_spec_PlanPath : FuncId → List AV → Option Sg := sigL [(56, g_spec_l11Square), (57, g_spec_l11Free), (58, g_spec_l11Back), (59, g_spec_l11Next)]
def xs_spec_PlanPath : XS := ⟨xsigL [], ysigL []⟩
theorem sig_spec_PlanPath_ok : SigOK sig_spec_PlanPath := sigL_cons F_spec_l11Square (sigL_cons F_spec_l11Free (sigL_cons F_spec_l11Back (sigL_cons F_spec_l11Next sigL_nil)))
theorem xs_spec_PlanPath_ok : XSigOK xs_spec_PlanPath := ⟨xsigL_nil, ysigL_nil⟩
theorem V_spec_PlanPath (l : List (List Bool)) (a1 : Int) (a2 : Int) (z1 : Int) (z2 : Int) : ((true = true) ∧ ((True) ∧ (True) ∧ (True) ∧ True) ∧ (true = true) ∧ ((True) ∧ ((True)) ∧ (True) ∧ (True) ∧ (NIs (bnot (tblB l)) false → True) ∧ (NIs (bnot (tblB l)) false → True) ∧ (NIs (bnot (tblB l)) false → (True)) ∧ (NIs (bnot (tblB l)) false → True) ∧ (True) ∧ (True) ∧ (NIs (bite (bnot (tblB l)) true (bnot (freeB l a1 a2))) false → True) ∧ (NIs (bite (bnot (tblB l)) true (bnot (freeB l a1 a2))) false → True) ∧ (NIs (bite (bnot (tblB l)) true (bnot (freeB l a1 a2))) false → (True)) ∧ (NIs (bite (bnot (tblB l)) true (bnot (freeB l a1 a2))) false → True) ∧ (True) ∧ True) ∧ ((bite (bite (bnot (tblB l)) true (bnot (freeB l a1 a2))) true (bnot (freeB l z1 z2))) = true → ((true = true) ∧ ((True) ∧ (True) ∧ True) ∧ ((true = true) ∧ ((Cont.pts []) = (Cont.pts (plF l a1 a2 z1 z2)))) ∧ True)) ∧ ((bite (bite (bnot (tblB l)) true (bnot (freeB l a1 a2))) true (bnot (freeB l z1 z2))) = false → ((true = true) ∧ ((True) ∧ (True) ∧ (True) ∧ True) ∧ (true = true) ∧ ((True) ∧ (True) ∧ True) ∧ (true = true) ∧ ((True) ∧ True) ∧ ∃ (I1 : List GV → Prop) (μ1 : List GV → Nat), (((true = true) ∧ ((((0 : Int) : Int) = (0 : Int)) ∧ (true = true) ∧ (((a1 : Int) = a1) ∧ ((a2 : Int) = a2) ∧ True) ∧ (true = true) ∧ ((Cont.boolss l) = (Cont.boolss l)) ∧ (((tblB l) : Bool) = (tblB l)) ∧ (((bnot (tblB l)) : Bool) = (bnot (tblB l))) ∧ (((bnot (tblB l)) : Bool) = (bnot (tblB l))) ∧ (((bite (bnot (tblB l)) true (bnot (freeB l a1 a2))) : Bool) = (bite (bnot (tblB l)) true (bnot (freeB l a1 a2)))) ∧ (((bite (bnot (tblB l)) true (bnot (freeB l a1 a2))) : Bool) = (bite (bnot (tblB l)) true (bnot (freeB l a1 a2)))) ∧ (((bite (bite (bnot (tblB l)) true (bnot (freeB l a1 a2))) true (bnot (freeB l z1 z2))) : Bool) = (bite (bite (bnot (tblB l)) true (bnot (freeB l a1 a2))) true (bnot (freeB l z1 z2)))) ∧ (true = true) ∧ (true = true) ∧ (true = true) ∧ ((Cont.boolss l) = (Cont.boolss l)) ∧ (((a1 : Int) = a1) ∧ ((a2 : Int) = a2) ∧ True) ∧ (((z1 : Int) = z1) ∧ ((z2 : Int) = z2) ∧ True) ∧ True) ∧ (((true = true) ∧ ((Cont.pts []) = (Cont.pts []))) ∧ ((true = true) ∧ ((Cont.pts [(a1, a2)]) = (Cont.pts [(a1, a2)]))) ∧ ((true = true) ∧ ((Cont.ints [(-1 : Int)]) = (Cont.ints [(-1 : Int)]))) ∧ (((a1 : Int) = a1) ∧ ((a2 : Int) = a2) ∧ True) ∧ (((z1 : Int) = z1) ∧ ((z2 : Int) = z2) ∧ True) ∧ True)) ∧ (([GK.int, GK.ints, GK.pts, GK.pts] : List GK) = ([GK.int, GK.ints, GK.pts, GK.pts] : List GK)) ∧ I1 [GV.int (0 : Int), GV.ints [(-1 : Int)], GV.pts [(a1, a2)], GV.pts []]) ∧ (∀ i1_0 : Int, ∀ l1_1 : List Int, ∀ l1_2 : List Pt, ∀ l1_3 : List Pt, I1 [GV.int i1_0, GV.ints l1_1, GV.pts l1_2, GV.pts l1_3] → ((true = true) ∧ ((True) ∧ (True) ∧ (True) ∧ (True) ∧ True) ∧ ((ilt i1_0 (ilen l1_2)) = true → ((true = true) ∧ ((True) ∧ (True) ∧ (NLe 0 i1_0 ∧ NLt i1_0 (ilen l1_2)) ∧ (NLt i1_0 (ilen l1_2)) ∧ (True) ∧ (True) ∧ True) ∧ ((band (ieq (getx l1_2 i1_0) z1) (ieq (gety l1_2 i1_0) z2)) = true → ((true = true) ∧ ((True) ∧ (True) ∧ (True) ∧ ((-1 ≤ i1_0 ∧ i1_0 < ilen l1_2 ∧ wfB l1_2 l1_1)) ∧ (True) ∧ True) ∧ ((true = true) ∧ ((Cont.pts (bkL l1_2 l1_1 (i1_0 + 1).toNat i1_0 [])) = (Cont.pts (plF l a1 a2 z1 z2)))) ∧ True)) ∧ ((band (ieq (getx l1_2 i1_0) z1) (ieq (gety l1_2 i1_0) z2)) = false → ((true = true) ∧ ((True) ∧ (True) ∧ (NLe 0 i1_0 ∧ NLt i1_0 (ilen l1_2)) ∧ (NLt i1_0 (ilen l1_2)) ∧ ((True)) ∧ (True) ∧ True) ∧ (true = true) ∧ ((True) ∧ True) ∧ ∃ (I2 : List GV → Prop) (μ2 : List GV → Nat), (((true = true) ∧ ((((0 : Int) : Int) = (0 : Int)) ∧ ((i1_0 : Int) = i1_0) ∧ ((((getx l1_2 i1_0) : Int) = (getx l1_2 i1_0)) ∧ (((gety l1_2 i1_0) : Int) = (gety l1_2 i1_0)) ∧ True) ∧ (true = true) ∧ (true = true) ∧ ((i1_0 : Int) = i1_0) ∧ ((((getx l1_2 i1_0) : Int) = (getx l1_2 i1_0)) ∧ (((gety l1_2 i1_0) : Int) = (gety l1_2 i1_0)) ∧ True) ∧ (((z1 : Int) = z1) ∧ ((z2 : Int) = z2) ∧ True) ∧ (((band (ieq (getx l1_2 i1_0) z1) (ieq (gety l1_2 i1_0) z2)) : Bool) = (band (ieq (getx l1_2 i1_0) z1) (ieq (gety l1_2 i1_0) z2))) ∧ ((i1_0 : Int) = i1_0) ∧ (((ilen l1_2) : Int) = (ilen l1_2)) ∧ (((ilt i1_0 (ilen l1_2)) : Bool) = (ilt i1_0 (ilen l1_2))) ∧ ((i1_0 : Int) = i1_0) ∧ (true = true) ∧ (((a1 : Int) = a1) ∧ ((a2 : Int) = a2) ∧ True) ∧ (true = true) ∧ ((Cont.boolss l) = (Cont.boolss l)) ∧ (((tblB l) : Bool) = (tblB l)) ∧ (((bnot (tblB l)) : Bool) = (bnot (tblB l))) ∧ (((bnot (tblB l)) : Bool) = (bnot (tblB l))) ∧ (((bite (bnot (tblB l)) true (bnot (freeB l a1 a2))) : Bool) = (bite (bnot (tblB l)) true (bnot (freeB l a1 a2)))) ∧ (((bite (bnot (tblB l)) true (bnot (freeB l a1 a2))) : Bool) = (bite (bnot (tblB l)) true (bnot (freeB l a1 a2)))) ∧ (((bite (bite (bnot (tblB l)) true (bnot (freeB l a1 a2))) true (bnot (freeB l z1 z2))) : Bool) = (bite (bite (bnot (tblB l)) true (bnot (freeB l a1 a2))) true (bnot (freeB l z1 z2)))) ∧ (true = true) ∧ (true = true) ∧ (true = true) ∧ ((Cont.boolss l) = (Cont.boolss l)) ∧ (((a1 : Int) = a1) ∧ ((a2 : Int) = a2) ∧ True) ∧ (((z1 : Int) = z1) ∧ ((z2 : Int) = z2) ∧ True) ∧ True) ∧ (((true = true) ∧ ((Cont.pts l1_2) = (Cont.pts l1_2))) ∧ ((true = true) ∧ ((Cont.ints l1_1) = (Cont.ints l1_1))) ∧ ((true = true) ∧ ((Cont.pts ([(isub (getx l1_2 i1_0) 1, (gety l1_2 i1_0)), ((getx l1_2 i1_0), isub (gety l1_2 i1_0) 1), ((getx l1_2 i1_0), iadd (gety l1_2 i1_0) 1), (iadd (getx l1_2 i1_0) 1, (gety l1_2 i1_0))])) = (Cont.pts ([(isub (getx l1_2 i1_0) 1, (gety l1_2 i1_0)), ((getx l1_2 i1_0), isub (gety l1_2 i1_0) 1), ((getx l1_2 i1_0), iadd (gety l1_2 i1_0) 1), (iadd (getx l1_2 i1_0) 1, (gety l1_2 i1_0))])))) ∧ ((true = true) ∧ ((Cont.pts l1_3) = (Cont.pts l1_3))) ∧ (((a1 : Int) = a1) ∧ ((a2 : Int) = a2) ∧ True) ∧ (((z1 : Int) = z1) ∧ ((z2 : Int) = z2) ∧ True) ∧ True)) ∧ (([GK.int, GK.ints, GK.pts] : List GK) = ([GK.int, GK.ints, GK.pts] : List GK)) ∧ I2 [GV.int (0 : Int), GV.ints l1_1, GV.pts l1_2]) ∧ (∀ i2_0 : Int, ∀ l2_1 : List Int, ∀ l2_2 : List Pt, I2 [GV.int i2_0, GV.ints l2_1, GV.pts l2_2] → ((true = true) ∧ ((True) ∧ (True) ∧ (True) ∧ (True) ∧ True) ∧ ((ilt i2_0 (ilen ([(isub (getx l1_2 i1_0) 1, (gety l1_2 i1_0)), ((getx l1_2 i1_0), isub (gety l1_2 i1_0) 1), ((getx l1_2 i1_0), iadd (gety l1_2 i1_0) 1), (iadd (getx l1_2 i1_0) 1, (gety l1_2 i1_0))]))) = true → ((true = true) ∧ ((True) ∧ True) ∧ (true = true) ∧ ((True) ∧ True) ∧ ∃ (I3 : List GV → Prop) (μ3 : List GV → Nat), (((true = true) ∧ (((false : Bool) = false) ∧ (((0 : Int) : Int) = (0 : Int)) ∧ ((i2_0 : Int) = i2_0) ∧ (true = true) ∧ (((ilen ([(isub (getx l1_2 i1_0) 1, (gety l1_2 i1_0)), ((getx l1_2 i1_0), isub (gety l1_2 i1_0) 1), ((getx l1_2 i1_0), iadd (gety l1_2 i1_0) 1), (iadd (getx l1_2 i1_0) 1, (gety l1_2 i1_0))])) : Int) = (ilen ([(isub (getx l1_2 i1_0) 1, (gety l1_2 i1_0)), ((getx l1_2 i1_0), isub (gety l1_2 i1_0) 1), ((getx l1_2 i1_0), iadd (gety l1_2 i1_0) 1), (iadd (getx l1_2 i1_0) 1, (gety l1_2 i1_0))]))) ∧ (((ilt i2_0 (ilen ([(isub (getx l1_2 i1_0) 1, (gety l1_2 i1_0)), ((getx l1_2 i1_0), isub (gety l1_2 i1_0) 1), ((getx l1_2 i1_0), iadd (gety l1_2 i1_0) 1), (iadd (getx l1_2 i1_0) 1, (gety l1_2 i1_0))]))) : Bool) = (ilt i2_0 (ilen ([(isub (getx l1_2 i1_0) 1, (gety l1_2 i1_0)), ((getx l1_2 i1_0), isub (gety l1_2 i1_0) 1), ((getx l1_2 i1_0), iadd (gety l1_2 i1_0) 1), (iadd (getx l1_2 i1_0) 1, (gety l1_2 i1_0))])))) ∧ ((i2_0 : Int) = i2_0) ∧ ((i1_0 : Int) = i1_0) ∧ ((((getx l1_2 i1_0) : Int) = (getx l1_2 i1_0)) ∧ (((gety l1_2 i1_0) : Int) = (gety l1_2 i1_0)) ∧ True) ∧ (true = true) ∧ (true = true) ∧ ((i1_0 : Int) = i1_0) ∧ ((((getx l1_2 i1_0) : Int) = (getx l1_2 i1_0)) ∧ (((gety l1_2 i1_0) : Int) = (gety l1_2 i1_0)) ∧ True) ∧ (((z1 : Int) = z1) ∧ ((z2 : Int) = z2) ∧ True) ∧ (((band (ieq (getx l1_2 i1_0) z1) (ieq (gety l1_2 i1_0) z2)) : Bool) = (band (ieq (getx l1_2 i1_0) z1) (ieq (gety l1_2 i1_0) z2))) ∧ ((i1_0 : Int) = i1_0) ∧ (((ilen l1_2) : Int) = (ilen l1_2)) ∧ (((ilt i1_0 (ilen l1_2)) : Bool) = (ilt i1_0 (ilen l1_2))) ∧ ((i1_0 : Int) = i1_0) ∧ (true = true) ∧ (((a1 : Int) = a1) ∧ ((a2 : Int) = a2) ∧ True) ∧ (true = true) ∧ ((Cont.boolss l) = (Cont.boolss l)) ∧ (((tblB l) : Bool) = (tblB l)) ∧ (((bnot (tblB l)) : Bool) = (bnot (tblB l))) ∧ (((bnot (tblB l)) : Bool) = (bnot (tblB l))) ∧ (((bite (bnot (tblB l)) true (bnot (freeB l a1 a2))) : Bool) = (bite (bnot (tblB l)) true (bnot (freeB l a1 a2)))) ∧ (((bite (bnot (tblB l)) true (bnot (freeB l a1 a2))) : Bool) = (bite (bnot (tblB l)) true (bnot (freeB l a1 a2)))) ∧ (((bite (bite (bnot (tblB l)) true (bnot (freeB l a1 a2))) true (bnot (freeB l z1 z2))) : Bool) = (bite (bite (bnot (tblB l)) true (bnot (freeB l a1 a2))) true (bnot (freeB l z1 z2)))) ∧ (true = true) ∧ (true = true) ∧ (true = true) ∧ ((Cont.boolss l) = (Cont.boolss l)) ∧ (((a1 : Int) = a1) ∧ ((a2 : Int) = a2) ∧ True) ∧ (((z1 : Int) = z1) ∧ ((z2 : Int) = z2) ∧ True) ∧ True) ∧ (((true = true) ∧ ((Cont.pts l2_2) = (Cont.pts l2_2))) ∧ ((true = true) ∧ ((Cont.ints l2_1) = (Cont.ints l2_1))) ∧ ((true = true) ∧ ((Cont.pts ([(isub (getx l1_2 i1_0) 1, (gety l1_2 i1_0)), ((getx l1_2 i1_0), isub (gety l1_2 i1_0) 1), ((getx l1_2 i1_0), iadd (gety l1_2 i1_0) 1), (iadd (getx l1_2 i1_0) 1, (gety l1_2 i1_0))])) = (Cont.pts ([(isub (getx l1_2 i1_0) 1, (gety l1_2 i1_0)), ((getx l1_2 i1_0), isub (gety l1_2 i1_0) 1), ((getx l1_2 i1_0), iadd (gety l1_2 i1_0) 1), (iadd (getx l1_2 i1_0) 1, (gety l1_2 i1_0))])))) ∧ ((true = true) ∧ ((Cont.pts l1_3) = (Cont.pts l1_3))) ∧ (((a1 : Int) = a1) ∧ ((a2 : Int) = a2) ∧ True) ∧ (((z1 : Int) = z1) ∧ ((z2 : Int) = z2) ∧ True) ∧ True)) ∧ (([GK.int, GK.bool] : List GK) = ([GK.int, GK.bool] : List GK)) ∧ I3 [GV.int (0 : Int), GV.bool false]) ∧ (∀ i3_0 : Int, ∀ b3_1 : Bool, I3 [GV.int i3_0, GV.bool b3_1] → ((true = true) ∧ ((True) ∧ (True) ∧ (True) ∧ (True) ∧ True) ∧ ((ilt i3_0 (ilen l2_2)) = true → ((true = true) ∧ ((True) ∧ (True) ∧ (NIs b3_1 false → True) ∧ (NIs b3_1 false → True) ∧ (NIs b3_1 false → (NLe 0 i3_0 ∧ NLt i3_0 (ilen l2_2))) ∧ (NIs b3_1 false → NLt i3_0 (ilen l2_2)) ∧ (NIs b3_1 false → True) ∧ (NIs b3_1 false → True) ∧ (NIs b3_1 false → (NLe 0 i2_0 ∧ NLt i2_0 (ilen ([(isub (getx l1_2 i1_0) 1, (gety l1_2 i1_0)), ((getx l1_2 i1_0), isub (gety l1_2 i1_0) 1), ((getx l1_2 i1_0), iadd (gety l1_2 i1_0) 1), (iadd (getx l1_2 i1_0) 1, (gety l1_2 i1_0))])))) ∧ (NIs b3_1 false → NLt i2_0 (ilen ([(isub (getx l1_2 i1_0) 1, (gety l1_2 i1_0)), ((getx l1_2 i1_0), isub (gety l1_2 i1_0) 1), ((getx l1_2 i1_0), iadd (gety l1_2 i1_0) 1), (iadd (getx l1_2 i1_0) 1, (gety l1_2 i1_0))]))) ∧ (NIs b3_1 false → True) ∧ (True) ∧ (True) ∧ True) ∧ (true = true) ∧ ((True) ∧ (True) ∧ (True) ∧ True) ∧ ((true = true) ∧ ((((bite b3_1 true (band (ieq (getx l2_2 i3_0) (getx ([(isub (getx l1_2 i1_0) 1, (gety l1_2 i1_0)), ((getx l1_2 i1_0), isub (gety l1_2 i1_0) 1), ((getx l1_2 i1_0), iadd (gety l1_2 i1_0) 1), (iadd (getx l1_2 i1_0) 1, (gety l1_2 i1_0))]) i2_0)) (ieq (gety l2_2 i3_0) (gety ([(isub (getx l1_2 i1_0) 1, (gety l1_2 i1_0)), ((getx l1_2 i1_0), isub (gety l1_2 i1_0) 1), ((getx l1_2 i1_0), iadd (gety l1_2 i1_0) 1), (iadd (getx l1_2 i1_0) 1, (gety l1_2 i1_0))]) i2_0)))) : Bool) = (bite b3_1 true (band (ieq (getx l2_2 i3_0) (getx ([(isub (getx l1_2 i1_0) 1, (gety l1_2 i1_0)), ((getx l1_2 i1_0), isub (gety l1_2 i1_0) 1), ((getx l1_2 i1_0), iadd (gety l1_2 i1_0) 1), (iadd (getx l1_2 i1_0) 1, (gety l1_2 i1_0))]) i2_0)) (ieq (gety l2_2 i3_0) (gety ([(isub (getx l1_2 i1_0) 1, (gety l1_2 i1_0)), ((getx l1_2 i1_0), isub (gety l1_2 i1_0) 1), ((getx l1_2 i1_0), iadd (gety l1_2 i1_0) 1), (iadd (getx l1_2 i1_0) 1, (gety l1_2 i1_0))]) i2_0))))) ∧ (((iadd i3_0 (1 : Int)) : Int) = (iadd i3_0 (1 : Int))) ∧ ((i2_0 : Int) = i2_0) ∧ (true = true) ∧ (((ilen ([(isub (getx l1_2 i1_0) 1, (gety l1_2 i1_0)), ((getx l1_2 i1_0), isub (gety l1_2 i1_0) 1), ((getx l1_2 i1_0), iadd (gety l1_2 i1_0) 1), (iadd (getx l1_2 i1_0) 1, (gety l1_2 i1_0))])) : Int) = (ilen ([(isub (getx l1_2 i1_0) 1, (gety l1_2 i1_0)), ((getx l1_2 i1_0), isub (gety l1_2 i1_0) 1), ((getx l1_2 i1_0), iadd (gety l1_2 i1_0) 1), (iadd (getx l1_2 i1_0) 1, (gety l1_2 i1_0))]))) ∧ (((ilt i2_0 (ilen ([(isub (getx l1_2 i1_0) 1, (gety l1_2 i1_0)), ((getx l1_2 i1_0), isub (gety l1_2 i1_0) 1), ((getx l1_2 i1_0), iadd (gety l1_2 i1_0) 1), (iadd (getx l1_2 i1_0) 1, (gety l1_2 i1_0))]))) : Bool) = (ilt i2_0 (ilen ([(isub (getx l1_2 i1_0) 1, (gety l1_2 i1_0)), ((getx l1_2 i1_0), isub (gety l1_2 i1_0) 1), ((getx l1_2 i1_0), iadd (gety l1_2 i1_0) 1), (iadd (getx l1_2 i1_0) 1, (gety l1_2 i1_0))])))) ∧ ((i2_0 : Int) = i2_0) ∧ ((i1_0 : Int) = i1_0) ∧ ((((getx l1_2 i1_0) : Int) = (getx l1_2 i1_0)) ∧ (((gety l1_2 i1_0) : Int) = (gety l1_2 i1_0)) ∧ True) ∧ (true = true) ∧ (true = true) ∧ ((i1_0 : Int) = i1_0) ∧ ((((getx l1_2 i1_0) : Int) = (getx l1_2 i1_0)) ∧ (((gety l1_2 i1_0) : Int) = (gety l1_2 i1_0)) ∧ True) ∧ (((z1 : Int) = z1) ∧ ((z2 : Int) = z2) ∧ True) ∧ (((band (ieq (getx l1_2 i1_0) z1) (ieq (gety l1_2 i1_0) z2)) : Bool) = (band (ieq (getx l1_2 i1_0) z1) (ieq (gety l1_2 i1_0) z2))) ∧ ((i1_0 : Int) = i1_0) ∧ (((ilen l1_2) : Int) = (ilen l1_2)) ∧ (((ilt i1_0 (ilen l1_2)) : Bool) = (ilt i1_0 (ilen l1_2))) ∧ ((i1_0 : Int) = i1_0) ∧ (true = true) ∧ (((a1 : Int) = a1) ∧ ((a2 : Int) = a2) ∧ True) ∧ (true = true) ∧ ((Cont.boolss l) = (Cont.boolss l)) ∧ (((tblB l) : Bool) = (tblB l)) ∧ (((bnot (tblB l)) : Bool) = (bnot (tblB l))) ∧ (((bnot (tblB l)) : Bool) = (bnot (tblB l))) ∧ (((bite (bnot (tblB l)) true (bnot (freeB l a1 a2))) : Bool) = (bite (bnot (tblB l)) true (bnot (freeB l a1 a2)))) ∧ (((bite (bnot (tblB l)) true (bnot (freeB l a1 a2))) : Bool) = (bite (bnot (tblB l)) true (bnot (freeB l a1 a2)))) ∧ (((bite (bite (bnot (tblB l)) true (bnot (freeB l a1 a2))) true (bnot (freeB l z1 z2))) : Bool) = (bite (bite (bnot (tblB l)) true (bnot (freeB l a1 a2))) true (bnot (freeB l z1 z2)))) ∧ (true = true) ∧ (true = true) ∧ (true = true) ∧ ((Cont.boolss l) = (Cont.boolss l)) ∧ (((a1 : Int) = a1) ∧ ((a2 : Int) = a2) ∧ True) ∧ (((z1 : Int) = z1) ∧ ((z2 : Int) = z2) ∧ True) ∧ True) ∧ (((true = true) ∧ ((Cont.pts l2_2) = (Cont.pts l2_2))) ∧ ((true = true) ∧ ((Cont.ints l2_1) = (Cont.ints l2_1))) ∧ ((true = true) ∧ ((Cont.pts ([(isub (getx l1_2 i1_0) 1, (gety l1_2 i1_0)), ((getx l1_2 i1_0), isub (gety l1_2 i1_0) 1), ((getx l1_2 i1_0), iadd (gety l1_2 i1_0) 1), (iadd (getx l1_2 i1_0) 1, (gety l1_2 i1_0))])) = (Cont.pts ([(isub (getx l1_2 i1_0) 1, (gety l1_2 i1_0)), ((getx l1_2 i1_0), isub (gety l1_2 i1_0) 1), ((getx l1_2 i1_0), iadd (gety l1_2 i1_0) 1), (iadd (getx l1_2 i1_0) 1, (gety l1_2 i1_0))])))) ∧ ((true = true) ∧ ((Cont.pts l1_3) = (Cont.pts l1_3))) ∧ (((a1 : Int) = a1) ∧ ((a2 : Int) = a2) ∧ True) ∧ (((z1 : Int) = z1) ∧ ((z2 : Int) = z2) ∧ True) ∧ True)) ∧ ((([GK.int, GK.bool] : List GK) = ([GK.int, GK.bool] : List GK)) ∧ I3 [GV.int (iadd i3_0 (1 : Int)), GV.bool (bite b3_1 true (band (ieq (getx l2_2 i3_0) (getx ([(isub (getx l1_2 i1_0) 1, (gety l1_2 i1_0)), ((getx l1_2 i1_0), isub (gety l1_2 i1_0) 1), ((getx l1_2 i1_0), iadd (gety l1_2 i1_0) 1), (iadd (getx l1_2 i1_0) 1, (gety l1_2 i1_0))]) i2_0)) (ieq (gety l2_2 i3_0) (gety ([(isub (getx l1_2 i1_0) 1, (gety l1_2 i1_0)), ((getx l1_2 i1_0), isub (gety l1_2 i1_0) 1), ((getx l1_2 i1_0), iadd (gety l1_2 i1_0) 1), (iadd (getx l1_2 i1_0) 1, (gety l1_2 i1_0))]) i2_0))))] ∧ μ3 [GV.int (iadd i3_0 (1 : Int)), GV.bool (bite b3_1 true (band (ieq (getx l2_2 i3_0) (getx ([(isub (getx l1_2 i1_0) 1, (gety l1_2 i1_0)), ((getx l1_2 i1_0), isub (gety l1_2 i1_0) 1), ((getx l1_2 i1_0), iadd (gety l1_2 i1_0) 1), (iadd (getx l1_2 i1_0) 1, (gety l1_2 i1_0))]) i2_0)) (ieq (gety l2_2 i3_0) (gety ([(isub (getx l1_2 i1_0) 1, (gety l1_2 i1_0)), ((getx l1_2 i1_0), isub (gety l1_2 i1_0) 1), ((getx l1_2 i1_0), iadd (gety l1_2 i1_0) 1), (iadd (getx l1_2 i1_0) 1, (gety l1_2 i1_0))]) i2_0))))] < μ3 [GV.int i3_0, GV.bool b3_1]))) ∧ ((ilt i3_0 (ilen l2_2)) = false → ((true = true) ∧ ((True) ∧ (True) ∧ (True) ∧ (NIs (bnot b3_1) true → True) ∧ (NIs (bnot b3_1) true → True) ∧ (NIs (bnot b3_1) true → True) ∧ (NIs (bnot b3_1) true → (NLe 0 i2_0 ∧ NLt i2_0 (ilen ([(isub (getx l1_2 i1_0) 1, (gety l1_2 i1_0)), ((getx l1_2 i1_0), isub (gety l1_2 i1_0) 1), ((getx l1_2 i1_0), iadd (gety l1_2 i1_0) 1), (iadd (getx l1_2 i1_0) 1, (gety l1_2 i1_0))])))) ∧ (NIs (bnot b3_1) true → NLt i2_0 (ilen ([(isub (getx l1_2 i1_0) 1, (gety l1_2 i1_0)), ((getx l1_2 i1_0), isub (gety l1_2 i1_0) 1), ((getx l1_2 i1_0), iadd (gety l1_2 i1_0) 1), (iadd (getx l1_2 i1_0) 1, (gety l1_2 i1_0))]))) ∧ (NIs (bnot b3_1) true → (True)) ∧ (True) ∧ True) ∧ ((bite (bnot b3_1) (freeB l (getx ([(isub (getx l1_2 i1_0) 1, (gety l1_2 i1_0)), ((getx l1_2 i1_0), isub (gety l1_2 i1_0) 1), ((getx l1_2 i1_0), iadd (gety l1_2 i1_0) 1), (iadd (getx l1_2 i1_0) 1, (gety l1_2 i1_0))]) i2_0) (gety ([(isub (getx l1_2 i1_0) 1, (gety l1_2 i1_0)), ((getx l1_2 i1_0), isub (gety l1_2 i1_0) 1), ((getx l1_2 i1_0), iadd (gety l1_2 i1_0) 1), (iadd (getx l1_2 i1_0) 1, (gety l1_2 i1_0))]) i2_0)) false) = true → ((true = true) ∧ ((True) ∧ (True) ∧ (True) ∧ (NLe 0 i2_0 ∧ NLt i2_0 (ilen ([(isub (getx l1_2 i1_0) 1, (gety l1_2 i1_0)), ((getx l1_2 i1_0), isub (gety l1_2 i1_0) 1), ((getx l1_2 i1_0), iadd (gety l1_2 i1_0) 1), (iadd (getx l1_2 i1_0) 1, (gety l1_2 i1_0))]))) ∧ (NLt i2_0 (ilen ([(isub (getx l1_2 i1_0) 1, (gety l1_2 i1_0)), ((getx l1_2 i1_0), isub (gety l1_2 i1_0) 1), ((getx l1_2 i1_0), iadd (gety l1_2 i1_0) 1), (iadd (getx l1_2 i1_0) 1, (gety l1_2 i1_0))]))) ∧ (True) ∧ True) ∧ (NLe (ilen l2_2) 1000000000 ∧ NLe (ilen [((getx ([(isub (getx l1_2 i1_0) 1, (gety l1_2 i1_0)), ((getx l1_2 i1_0), isub (gety l1_2 i1_0) 1), ((getx l1_2 i1_0), iadd (gety l1_2 i1_0) 1), (iadd (getx l1_2 i1_0) 1, (gety l1_2 i1_0))]) i2_0), (gety ([(isub (getx l1_2 i1_0) 1, (gety l1_2 i1_0)), ((getx l1_2 i1_0), isub (gety l1_2 i1_0) 1), ((getx l1_2 i1_0), iadd (gety l1_2 i1_0) 1), (iadd (getx l1_2 i1_0) 1, (gety l1_2 i1_0))]) i2_0))]) 1000000000) ∧ (True) ∧ (true = true) ∧ ((True) ∧ (True) ∧ (True) ∧ True) ∧ (NLe (ilen l2_1) 1000000000 ∧ NLe (ilen [i1_0]) 1000000000) ∧ (True) ∧ (true = true) ∧ ((True) ∧ (True) ∧ (True) ∧ True) ∧ ((true = true) ∧ ((((iadd i2_0 (1 : Int)) : Int) = (iadd i2_0 (1 : Int))) ∧ ((i1_0 : Int) = i1_0) ∧ ((((getx l1_2 i1_0) : Int) = (getx l1_2 i1_0)) ∧ (((gety l1_2 i1_0) : Int) = (gety l1_2 i1_0)) ∧ True) ∧ (true = true) ∧ (true = true) ∧ ((i1_0 : Int) = i1_0) ∧ ((((getx l1_2 i1_0) : Int) = (getx l1_2 i1_0)) ∧ (((gety l1_2 i1_0) : Int) = (gety l1_2 i1_0)) ∧ True) ∧ (((z1 : Int) = z1) ∧ ((z2 : Int) = z2) ∧ True) ∧ (((band (ieq (getx l1_2 i1_0) z1) (ieq (gety l1_2 i1_0) z2)) : Bool) = (band (ieq (getx l1_2 i1_0) z1) (ieq (gety l1_2 i1_0) z2))) ∧ ((i1_0 : Int) = i1_0) ∧ (((ilen l1_2) : Int) = (ilen l1_2)) ∧ (((ilt i1_0 (ilen l1_2)) : Bool) = (ilt i1_0 (ilen l1_2))) ∧ ((i1_0 : Int) = i1_0) ∧ (true = true) ∧ (((a1 : Int) = a1) ∧ ((a2 : Int) = a2) ∧ True) ∧ (true = true) ∧ ((Cont.boolss l) = (Cont.boolss l)) ∧ (((tblB l) : Bool) = (tblB l)) ∧ (((bnot (tblB l)) : Bool) = (bnot (tblB l))) ∧ (((bnot (tblB l)) : Bool) = (bnot (tblB l))) ∧ (((bite (bnot (tblB l)) true (bnot (freeB l a1 a2))) : Bool) = (bite (bnot (tblB l)) true (bnot (freeB l a1 a2)))) ∧ (((bite (bnot (tblB l)) true (bnot (freeB l a1 a2))) : Bool) = (bite (bnot (tblB l)) true (bnot (freeB l a1 a2)))) ∧ (((bite (bite (bnot (tblB l)) true (bnot (freeB l a1 a2))) true (bnot (freeB l z1 z2))) : Bool) = (bite (bite (bnot (tblB l)) true (bnot (freeB l a1 a2))) true (bnot (freeB l z1 z2)))) ∧ (true = true) ∧ (true = true) ∧ (true = true) ∧ ((Cont.boolss l) = (Cont.boolss l)) ∧ (((a1 : Int) = a1) ∧ ((a2 : Int) = a2) ∧ True) ∧ (((z1 : Int) = z1) ∧ ((z2 : Int) = z2) ∧ True) ∧ True) ∧ (((true = true) ∧ ((Cont.pts (iapp l2_2 [((getx ([(isub (getx l1_2 i1_0) 1, (gety l1_2 i1_0)), ((getx l1_2 i1_0), isub (gety l1_2 i1_0) 1), ((getx l1_2 i1_0), iadd (gety l1_2 i1_0) 1), (iadd (getx l1_2 i1_0) 1, (gety l1_2 i1_0))]) i2_0), (gety ([(isub (getx l1_2 i1_0) 1, (gety l1_2 i1_0)), ((getx l1_2 i1_0), isub (gety l1_2 i1_0) 1), ((getx l1_2 i1_0), iadd (gety l1_2 i1_0) 1), (iadd (getx l1_2 i1_0) 1, (gety l1_2 i1_0))]) i2_0))])) = (Cont.pts (iapp l2_2 [((getx ([(isub (getx l1_2 i1_0) 1, (gety l1_2 i1_0)), ((getx l1_2 i1_0), isub (gety l1_2 i1_0) 1), ((getx l1_2 i1_0), iadd (gety l1_2 i1_0) 1), (iadd (getx l1_2 i1_0) 1, (gety l1_2 i1_0))]) i2_0), (gety ([(isub (getx l1_2 i1_0) 1, (gety l1_2 i1_0)), ((getx l1_2 i1_0), isub (gety l1_2 i1_0) 1), ((getx l1_2 i1_0), iadd (gety l1_2 i1_0) 1), (iadd (getx l1_2 i1_0) 1, (gety l1_2 i1_0))]) i2_0))])))) ∧ ((true = true) ∧ ((Cont.ints (iapp l2_1 [i1_0])) = (Cont.ints (iapp l2_1 [i1_0])))) ∧ ((true = true) ∧ ((Cont.pts ([(isub (getx l1_2 i1_0) 1, (gety l1_2 i1_0)), ((getx l1_2 i1_0), isub (gety l1_2 i1_0) 1), ((getx l1_2 i1_0), iadd (gety l1_2 i1_0) 1), (iadd (getx l1_2 i1_0) 1, (gety l1_2 i1_0))])) = (Cont.pts ([(isub (getx l1_2 i1_0) 1, (gety l1_2 i1_0)), ((getx l1_2 i1_0), isub (gety l1_2 i1_0) 1), ((getx l1_2 i1_0), iadd (gety l1_2 i1_0) 1), (iadd (getx l1_2 i1_0) 1, (gety l1_2 i1_0))])))) ∧ ((true = true) ∧ ((Cont.pts l1_3) = (Cont.pts l1_3))) ∧ (((a1 : Int) = a1) ∧ ((a2 : Int) = a2) ∧ True) ∧ (((z1 : Int) = z1) ∧ ((z2 : Int) = z2) ∧ True) ∧ True)) ∧ ((([GK.int, GK.ints, GK.pts] : List GK) = ([GK.int, GK.ints, GK.pts] : List GK)) ∧ I2 [GV.int (iadd i2_0 (1 : Int)), GV.ints (iapp l2_1 [i1_0]), GV.pts (iapp l2_2 [((getx ([(isub (getx l1_2 i1_0) 1, (gety l1_2 i1_0)), ((getx l1_2 i1_0), isub (gety l1_2 i1_0) 1), ((getx l1_2 i1_0), iadd (gety l1_2 i1_0) 1), (iadd (getx l1_2 i1_0) 1, (gety l1_2 i1_0))]) i2_0), (gety ([(isub (getx l1_2 i1_0) 1, (gety l1_2 i1_0)), ((getx l1_2 i1_0), isub (gety l1_2 i1_0) 1), ((getx l1_2 i1_0), iadd (gety l1_2 i1_0) 1), (iadd (getx l1_2 i1_0) 1, (gety l1_2 i1_0))]) i2_0))])] ∧ μ2 [GV.int (iadd i2_0 (1 : Int)), GV.ints (iapp l2_1 [i1_0]), GV.pts (iapp l2_2 [((getx ([(isub (getx l1_2 i1_0) 1, (gety l1_2 i1_0)), ((getx l1_2 i1_0), isub (gety l1_2 i1_0) 1), ((getx l1_2 i1_0), iadd (gety l1_2 i1_0) 1), (iadd (getx l1_2 i1_0) 1, (gety l1_2 i1_0))]) i2_0), (gety ([(isub (getx l1_2 i1_0) 1, (gety l1_2 i1_0)), ((getx l1_2 i1_0), isub (gety l1_2 i1_0) 1), ((getx l1_2 i1_0), iadd (gety l1_2 i1_0) 1), (iadd (getx l1_2 i1_0) 1, (gety l1_2 i1_0))]) i2_0))])] < μ2 [GV.int i2_0, GV.ints l2_1, GV.pts l2_2]))) ∧ ((bite (bnot b3_1) (freeB l (getx ([(isub (getx l1_2 i1_0) 1, (gety l1_2 i1_0)), ((getx l1_2 i1_0), isub (gety l1_2 i1_0) 1), ((getx l1_2 i1_0), iadd (gety l1_2 i1_0) 1), (iadd (getx l1_2 i1_0) 1, (gety l1_2 i1_0))]) i2_0) (gety ([(isub (getx l1_2 i1_0) 1, (gety l1_2 i1_0)), ((getx l1_2 i1_0), isub (gety l1_2 i1_0) 1), ((getx l1_2 i1_0), iadd (gety l1_2 i1_0) 1), (iadd (getx l1_2 i1_0) 1, (gety l1_2 i1_0))]) i2_0)) false) = false → ((true = true) ∧ ((True) ∧ (True) ∧ (True) ∧ True) ∧ ((true = true) ∧ ((((iadd i2_0 (1 : Int)) : Int) = (iadd i2_0 (1 : Int))) ∧ ((i1_0 : Int) = i1_0) ∧ ((((getx l1_2 i1_0) : Int) = (getx l1_2 i1_0)) ∧ (((gety l1_2 i1_0) : Int) = (gety l1_2 i1_0)) ∧ True) ∧ (true = true) ∧ (true = true) ∧ ((i1_0 : Int) = i1_0) ∧ ((((getx l1_2 i1_0) : Int) = (getx l1_2 i1_0)) ∧ (((gety l1_2 i1_0) : Int) = (gety l1_2 i1_0)) ∧ True) ∧ (((z1 : Int) = z1) ∧ ((z2 : Int) = z2) ∧ True) ∧ (((band (ieq (getx l1_2 i1_0) z1) (ieq (gety l1_2 i1_0) z2)) : Bool) = (band (ieq (getx l1_2 i1_0) z1) (ieq (gety l1_2 i1_0) z2))) ∧ ((i1_0 : Int) = i1_0) ∧ (((ilen l1_2) : Int) = (ilen l1_2)) ∧ (((ilt i1_0 (ilen l1_2)) : Bool) = (ilt i1_0 (ilen l1_2))) ∧ ((i1_0 : Int) = i1_0) ∧ (true = true) ∧ (((a1 : Int) = a1) ∧ ((a2 : Int) = a2) ∧ True) ∧ (true = true) ∧ ((Cont.boolss l) = (Cont.boolss l)) ∧ (((tblB l) : Bool) = (tblB l)) ∧ (((bnot (tblB l)) : Bool) = (bnot (tblB l))) ∧ (((bnot (tblB l)) : Bool) = (bnot (tblB l))) ∧ (((bite (bnot (tblB l)) true (bnot (freeB l a1 a2))) : Bool) = (bite (bnot (tblB l)) true (bnot (freeB l a1 a2)))) ∧ (((bite (bnot (tblB l)) true (bnot (freeB l a1 a2))) : Bool) = (bite (bnot (tblB l)) true (bnot (freeB l a1 a2)))) ∧ (((bite (bite (bnot (tblB l)) true (bnot (freeB l a1 a2))) true (bnot (freeB l z1 z2))) : Bool) = (bite (bite (bnot (tblB l)) true (bnot (freeB l a1 a2))) true (bnot (freeB l z1 z2)))) ∧ (true = true) ∧ (true = true) ∧ (true = true) ∧ ((Cont.boolss l) = (Cont.boolss l)) ∧ (((a1 : Int) = a1) ∧ ((a2 : Int) = a2) ∧ True) ∧ (((z1 : Int) = z1) ∧ ((z2 : Int) = z2) ∧ True) ∧ True) ∧ (((true = true) ∧ ((Cont.pts l2_2) = (Cont.pts l2_2))) ∧ ((true = true) ∧ ((Cont.ints l2_1) = (Cont.ints l2_1))) ∧ ((true = true) ∧ ((Cont.pts ([(isub (getx l1_2 i1_0) 1, (gety l1_2 i1_0)), ((getx l1_2 i1_0), isub (gety l1_2 i1_0) 1), ((getx l1_2 i1_0), iadd (gety l1_2 i1_0) 1), (iadd (getx l1_2 i1_0) 1, (gety l1_2 i1_0))])) = (Cont.pts ([(isub (getx l1_2 i1_0) 1, (gety l1_2 i1_0)), ((getx l1_2 i1_0), isub (gety l1_2 i1_0) 1), ((getx l1_2 i1_0), iadd (gety l1_2 i1_0) 1), (iadd (getx l1_2 i1_0) 1, (gety l1_2 i1_0))])))) ∧ ((true = true) ∧ ((Cont.pts l1_3) = (Cont.pts l1_3))) ∧ (((a1 : Int) = a1) ∧ ((a2 : Int) = a2) ∧ True) ∧ (((z1 : Int) = z1) ∧ ((z2 : Int) = z2) ∧ True) ∧ True)) ∧ ((([GK.int, GK.ints, GK.pts] : List GK) = ([GK.int, GK.ints, GK.pts] : List GK)) ∧ I2 [GV.int (iadd i2_0 (1 : Int)), GV.ints l2_1, GV.pts l2_2] ∧ μ2 [GV.int (iadd i2_0 (1 : Int)), GV.ints l2_1, GV.pts l2_2] < μ2 [GV.int i2_0, GV.ints l2_1, GV.pts l2_2]))))))))) ∧ ((ilt i2_0 (ilen ([(isub (getx l1_2 i1_0) 1, (gety l1_2 i1_0)), ((getx l1_2 i1_0), isub (gety l1_2 i1_0) 1), ((getx l1_2 i1_0), iadd (gety l1_2 i1_0) 1), (iadd (getx l1_2 i1_0) 1, (gety l1_2 i1_0))]))) = false → ((true = true) ∧ ((True) ∧ (True) ∧ (True) ∧ True) ∧ ((true = true) ∧ ((((iadd i1_0 (1 : Int)) : Int) = (iadd i1_0 (1 : Int))) ∧ (true = true) ∧ (((a1 : Int) = a1) ∧ ((a2 : Int) = a2) ∧ True) ∧ (true = true) ∧ ((Cont.boolss l) = (Cont.boolss l)) ∧ (((tblB l) : Bool) = (tblB l)) ∧ (((bnot (tblB l)) : Bool) = (bnot (tblB l))) ∧ (((bnot (tblB l)) : Bool) = (bnot (tblB l))) ∧ (((bite (bnot (tblB l)) true (bnot (freeB l a1 a2))) : Bool) = (bite (bnot (tblB l)) true (bnot (freeB l a1 a2)))) ∧ (((bite (bnot (tblB l)) true (bnot (freeB l a1 a2))) : Bool) = (bite (bnot (tblB l)) true (bnot (freeB l a1 a2)))) ∧ (((bite (bite (bnot (tblB l)) true (bnot (freeB l a1 a2))) true (bnot (freeB l z1 z2))) : Bool) = (bite (bite (bnot (tblB l)) true (bnot (freeB l a1 a2))) true (bnot (freeB l z1 z2)))) ∧ (true = true) ∧ (true = true) ∧ (true = true) ∧ ((Cont.boolss l) = (Cont.boolss l)) ∧ (((a1 : Int) = a1) ∧ ((a2 : Int) = a2) ∧ True) ∧ (((z1 : Int) = z1) ∧ ((z2 : Int) = z2) ∧ True) ∧ True) ∧ (((true = true) ∧ ((Cont.pts l1_3) = (Cont.pts l1_3))) ∧ ((true = true) ∧ ((Cont.pts l2_2) = (Cont.pts l2_2))) ∧ ((true = true) ∧ ((Cont.ints l2_1) = (Cont.ints l2_1))) ∧ (((a1 : Int) = a1) ∧ ((a2 : Int) = a2) ∧ True) ∧ (((z1 : Int) = z1) ∧ ((z2 : Int) = z2) ∧ True) ∧ True)) ∧ ((([GK.int, GK.ints, GK.pts, GK.pts] : List GK) = ([GK.int, GK.ints, GK.pts, GK.pts] : List GK)) ∧ I1 [GV.int (iadd i1_0 (1 : Int)), GV.ints l2_1, GV.pts l2_2, GV.pts l1_3] ∧ μ1 [GV.int (iadd i1_0 (1 : Int)), GV.ints l2_1, GV.pts l2_2, GV.pts l1_3] < μ1 [GV.int i1_0, GV.ints l1_1, GV.pts l1_2, GV.pts l1_3]))))))))) ∧ ((ilt i1_0 (ilen l1_2)) = false → ((true = true) ∧ ((True) ∧ (True) ∧ True) ∧ ((true = true) ∧ ((Cont.pts []) = (Cont.pts (plF l a1 a2 z1 z2)))) ∧ True))))))) = ev sig_spec_PlanPath xs_spec_PlanPath Try.f13.ntmps (fun b => if b == 0 then [.v 9, .b 8, .b 7, .b 6] else if b == 2 then [.v 11, .b 8, .b 7] else if b == 4 then [.v 13, .v 12] else []) (codeOf Try.f13) 0 (initS [.s (.view (.boolss l)), .agg [.int a1, .int a2], .agg [.int z1, .int z2]]) (retK Try.f13.results.toList [.nrow 29 (.pts (plF l a1 a2 z1 z2))]) := by kernel_rfl
set_option maxHeartbeats 1000000 in
theorem F_spec_PlanPath : FunOK 13 g_spec_PlanPath := by
  refine fun_F (by kernel_rfl) Try.func13 rfl (by kernel_rfl) sig_spec_PlanPath_ok xs_spec_PlanPath_ok ?_
  intro avs sg h hn hl
  unfold g_spec_PlanPath at h
  split at h
  · rename_i l a1 a2 z1 z2
    injection h with h; subst h
    refine ⟨by kernel_rfl, fun b => if b == 0 then [.v 9, .b 8, .b 7, .b 6] else if b == 2 then [.v 11, .b 8, .b 7] else if b == 4 then [.v 13, .v 12] else [], Eq.mp (V_spec_PlanPath l a1 a2 z1 z2) ?_⟩
    simp only [true_and, and_true, implies_true, and_self, forall_const, true_implies, lenA, lenL, SV.lenOK, Cont.lenOK] at hn hl ⊢
    simp only [ilt_t, ilt_f, ile_t, ile_f, ieq_t, ieq_f, bnot_e, band_e, bite_and, bite_or, NLt_e, NLe_e, NNe_e, NIs_e, imax_e, imin_e, irem_e, Bool.not_eq_true', Bool.not_eq_false', Bool.and_eq_true, Bool.or_eq_true, Bool.or_eq_false_iff, Bool.and_eq_false_iff, Cont.pts.injEq, Cont.ints.injEq, Cont.bools.injEq, Cont.ptss.injEq, Cont.intss.injEq, Cont.boolss.injEq, true_and, and_true, implies_true]
    refine ⟨fun h => by unfold plF; rcases h with (h | h) | h <;> simp [h], fun h => ?_⟩
    obtain ⟨⟨ht, ha⟩, hz⟩ := h
    have hp : plF l a1 a2 z1 z2 = planB (frF l) (a1, a2) (z1, z2) := by unfold plF; simp only [ht, ha, hz, Bool.and_self, if_true]
    have hb := frF_in ht
    have hfa : frF l (a1, a2) = true := ha
    rw [hp]
    refine ⟨fun | [.int k, .ints b, .pts q, .pts _] => 0 ≤ k ∧ (q, b) = bfK (frF l) (a1, a2) k.toNat ∧ k ≤ ilen q ∧ (∀ i, 0 ≤ i → i < k → ¬ (getx q i = z1 ∧ gety q i = z2)) | _ => False, fun | .int k :: _ => (401 - k).toNat | _ => 0, ⟨by omega, rfl, by rw [ilen_one]; omega, fun i i0 i1 => by omega⟩, ?_⟩
    rintro k b q nx ⟨k0, hs, kq, hne⟩
    obtain ⟨n, rfl⟩ := Int.eq_ofNat_of_zero_le k0
    rw [Int.toNat_natCast] at hs
    have hI := (bfK_ok hfa n).1
    rw [← hs] at hI
    have hlen := bi_len hI hb
    have wf := hI.wf hb
    have hl0 : ilen q ≤ 400 := wf.2.1
    refine ⟨fun hc => ⟨⟨⟨k0, hc⟩, hc⟩, fun hx => ⟨⟨by omega, hc, wf⟩, ?_⟩, fun hx => ⟨⟨⟨k0, hc⟩, hc⟩, ?_⟩⟩, fun hc => ?_⟩
    · have hq : q[n]? = some (z1, z2) := by
        have := pt_at k0 hc
        rw [Int.toNat_natCast] at this
        rw [this, hx.1, hx.2]
      have := (plan_at hb hfa (k := n) (i := n) (z := (z1, z2)) (by rw [← hs]; exact hq) (n + 1) (by omega)).1
      rw [this, ← hs, show ((n : Int) + 1).toNat = n + 1 by omega]
    · have hcn : q[n]? = some (getx q n, gety q n) := by have := pt_at k0 hc; rwa [Int.toNat_natCast] at this
      have hfr : freeB l (getx q n) (gety q n) = true := hI.free _ (List.mem_of_getElem? hcn)
      have hin := free_in ht hfr
      have e1 : isub (getx q n) 1 = getx q n - 1 := isub_e (by omega) (by omega)
      have e2 : isub (gety q n) 1 = gety q n - 1 := isub_e (by omega) (by omega)
      have e3 : iadd (getx q n) 1 = getx q n + 1 := iadd_e (by omega) (by omega)
      have e4 : iadd (gety q n) 1 = gety q n + 1 := iadd_e (by omega) (by omega)
      rw [e1, e2, e3, e4]
      have hN : [(getx q n - 1, gety q n), (getx q n, gety q n - 1), (getx q n, gety q n + 1), (getx q n + 1, gety q n)] = nbs (getx q n, gety q n) := rfl
      rw [hN]
      have hl4 : ilen (nbs (getx q n, gety q n)) = 4 := by simp [nbs, ilen]
      have hna : ∀ x ∈ nbs (getx q n, gety q n), adj (getx q n, gety q n) x := fun x hx => hx
      have hnS : bfS (frF l) n (q, b) = bfN (frF l) n (nbs (getx q n, gety q n)) (q, b) := by
        have := bfS_at (fr := frF l) (s := (q, b)) k0 hc
        rw [Int.toNat_natCast] at this; exact this
      generalize nbs (getx q n, gety q n) = nb at *
      rw [hl4]
      refine ⟨fun | [.int j, .ints b', .pts q'] => 0 ≤ j ∧ j ≤ 4 ∧ (q', b') = bfN (frF l) n (nb.take j.toNat) (q, b) | _ => False, fun | .int j :: _ => (4 - j).toNat | _ => 0, ⟨by omega, by omega, rfl⟩, ?_⟩
      rintro j b' q' ⟨j0, j4, hs'⟩
      obtain ⟨hI', hX, -⟩ := bfN_ok (nb.take j.toNat) (q, b) hI hcn (fun x hx => hna x (List.mem_of_mem_take hx))
      rw [← hs'] at hI' hX
      have hl' := (hI'.wf hb).2.1
      have hlb := (hI'.wf hb).1
      have hq0 := ilen_0 q'
      simp only at hl' hlb
      refine ⟨fun hj => ?_, fun hj => ?_⟩
      · have ej : iadd j 1 = j + 1 := iadd_e (by omega) (by omega)
        have ht1 := take_1 (l := nb) j0 (by omega)
        have hst : bfN (frF l) n (nb.take (j + 1).toNat) (q, b) = if !(q'.contains (getx nb j, gety nb j)) && frF l (getx nb j, gety nb j) then (q' ++ [(getx nb j, gety nb j)], b' ++ [(n : Int)]) else (q', b') := by
          rw [ht1, bfN_app, ← hs', bfN_one]
        rw [cont_b] at hst
        rw [ej]
        generalize getx nb j = X at *
        generalize gety nb j = Y at *
        refine ⟨fun | [.int i, .bool sn] => 0 ≤ i ∧ i ≤ ilen q' ∧ sn = anyN i (fun t => decide (getx q' t = X ∧ gety q' t = Y)) | _ => False, fun | .int i :: _ => (ilen q' - i).toNat | _ => 0, ⟨by omega, hq0, rfl⟩, ?_⟩
        rintro i sn ⟨i0, i1, hsn⟩
        refine ⟨fun hi => ?_, fun hi => ?_⟩
        · rw [iadd_e (by omega) (by omega)]
          refine ⟨⟨fun _ => ⟨i0, hi⟩, fun _ => hi, fun _ => ⟨j0, hj⟩, fun _ => hj⟩, ⟨by omega, by omega, ?_⟩, by show (ilen q' - (i + 1)).toNat < (ilen q' - i).toNat; omega⟩
          rw [anyN_1 i0, ← hsn]
          simp only [ieq, Bool.decide_and]
        · have ei : i = ilen q' := by omega
          rw [ei] at hsn
          rw [← hsn] at hst
          refine ⟨⟨fun _ => ⟨j0, hj⟩, fun _ => hj⟩, fun hx2 => ⟨⟨⟨j0, hj⟩, hj⟩, ⟨by omega, by rw [ilen_one]; omega⟩, ⟨by omega, by rw [ilen_one]; omega⟩, ⟨by omega, by omega, ?_⟩, by show (4 - (j + 1)).toNat < (4 - j).toNat; omega⟩, fun hx2 => ⟨⟨by omega, by omega, ?_⟩, by show (4 - (j + 1)).toNat < (4 - j).toNat; omega⟩⟩
          · have hf2 : frF l (X, Y) = true := hx2.2
            rw [hst, hx2.1, hf2]
            unfold iapp
            rfl
          · rw [hst]
            rcases hx2 with h | h
            · rw [h]; rfl
            · have hf2 : frF l (X, Y) = false := h
              rw [hf2]; simp
      · have e4 : j = 4 := by omega
        subst e4
        have hnl : nb.take (4 : Int).toNat = nb := List.take_of_length_le (by unfold ilen at hl4; omega)
        rw [hnl, ← hnS] at hs'
        have hK : (q', b') = bfK (frF l) (a1, a2) (n + 1) := by rw [hs', hs]; rfl
        have hEx : Ext (q, b) (q', b') := hX
        rw [iadd_e (by omega) (by omega)]
        have hgk := (ext_get hEx k0 hc).2.2
        simp only at hgk
        refine ⟨⟨by omega, by rw [show ((n : Int) + 1).toNat = n + 1 by omega]; exact hK, by omega, fun i i0 i1 => ?_⟩, by show (401 - ((n : Int) + 1)).toNat < (401 - (n : Int)).toNat; omega⟩
        have hg := ext_get hEx (i := i) i0 (by show i < ilen q; omega)
        simp only at hg
        rw [hg.1, hg.2.1]
        rcases Int.lt_or_le i n with g | g
        · exact hne i i0 g
        · rw [show i = (n : Int) by omega]; intro e; rcases hx with h | h
          · exact h e.1
          · exact h e.2
    · refine (plan_none hb hfa (k := n) (by rw [← hs]; unfold ilen at hc; simp only; omega) ?_).symm
      rw [← hs]
      intro hm
      obtain ⟨i, hi, e⟩ := List.mem_iff_getElem.1 hm
      have e' : q[i]? = some (z1, z2) := by rw [List.getElem?_eq_getElem hi, e]
      obtain ⟨p1, p2, p3⟩ := pt_of e'
      exact hne i (by omega) (by omega) ⟨p2, p3⟩
  · cases h
def g_impl_tableValid : List AV → Option Sg
  | [.s (.view (.boolss l))] => some ⟨True, [.s (.bool (tblB l))]⟩
  | _ => none
def sig_impl_tableValid : FuncId → List AV → Option Sg := sigL []
def xs_impl_tableValid : XS := ⟨xsigL [], ysigL []⟩
theorem sig_impl_tableValid_ok : SigOK sig_impl_tableValid := sigL_nil
theorem xs_impl_tableValid_ok : XSigOK xs_impl_tableValid := ⟨xsigL_nil, ysigL_nil⟩
theorem V_impl_tableValid (l : List (List Bool)) : ((true = true) ∧ ((True) ∧ True) ∧ (true = true) ∧ ((True) ∧ (True) ∧ (True) ∧ True) ∧ ((ilt (20 : Int) (ilen l)) = true → ((true = true) ∧ ((True) ∧ True) ∧ ((false : Bool) = (tblB l)) ∧ True)) ∧ ((ilt (20 : Int) (ilen l)) = false → ((true = true) ∧ ((True) ∧ (True) ∧ (True) ∧ True) ∧ ∃ (I1 : List GV → Prop) (μ1 : List GV → Nat), (((true = true) ∧ (((false : Bool) = false) ∧ (((0 : Int) : Int) = (0 : Int)) ∧ ((Cont.boolss l) = (Cont.boolss l)) ∧ (((ilen l) : Int) = (ilen l)) ∧ ((Cont.boolss l) = (Cont.boolss l)) ∧ (((ilen l) : Int) = (ilen l)) ∧ (((ilt (20 : Int) (ilen l)) : Bool) = (ilt (20 : Int) (ilen l))) ∧ ((Cont.boolss l) = (Cont.boolss l)) ∧ True) ∧ (True)) ∧ (([GK.int, GK.bool] : List GK) = ([GK.int, GK.bool] : List GK)) ∧ I1 [GV.int (0 : Int), GV.bool false]) ∧ (∀ i1_0 : Int, ∀ b1_1 : Bool, I1 [GV.int i1_0, GV.bool b1_1] → ((true = true) ∧ ((True) ∧ True) ∧ ((ilt i1_0 (ilen l)) = true → ((true = true) ∧ ((NLe 0 i1_0 ∧ NLt i1_0 (ilen l)) ∧ (True) ∧ (True) ∧ True) ∧ (true = true) ∧ ((True) ∧ (True) ∧ (True) ∧ (True) ∧ (NIs (ilt (20 : Int) (ilen (getl l i1_0))) false → True) ∧ (NIs (ilt (20 : Int) (ilen (getl l i1_0))) false → True) ∧ (NIs (ilt (20 : Int) (ilen (getl l i1_0))) false → True) ∧ (NIs (ilt (20 : Int) (ilen (getl l i1_0))) false → (NLe 0 (0 : Int) ∧ NLt (0 : Int) (ilen l))) ∧ (NIs (ilt (20 : Int) (ilen (getl l i1_0))) false → True) ∧ (NIs (ilt (20 : Int) (ilen (getl l i1_0))) false → True) ∧ (NIs (ilt (20 : Int) (ilen (getl l i1_0))) false → True) ∧ (True) ∧ True) ∧ ((bite (ilt (20 : Int) (ilen (getl l i1_0))) true (bnot (ieq (ilen (getl l i1_0)) (ilen (getl l (0 : Int)))))) = true → ((true = true) ∧ ((True) ∧ True) ∧ ((false : Bool) = (tblB l)) ∧ True)) ∧ ((bite (ilt (20 : Int) (ilen (getl l i1_0))) true (bnot (ieq (ilen (getl l i1_0)) (ilen (getl l (0 : Int)))))) = false → ((true = true) ∧ ((True) ∧ (True) ∧ True) ∧ ((true = true) ∧ (((b1_1 : Bool) = b1_1) ∧ (((iadd i1_0 (1 : Int)) : Int) = (iadd i1_0 (1 : Int))) ∧ ((Cont.boolss l) = (Cont.boolss l)) ∧ (((ilen l) : Int) = (ilen l)) ∧ ((Cont.boolss l) = (Cont.boolss l)) ∧ (((ilen l) : Int) = (ilen l)) ∧ (((ilt (20 : Int) (ilen l)) : Bool) = (ilt (20 : Int) (ilen l))) ∧ ((Cont.boolss l) = (Cont.boolss l)) ∧ True) ∧ (True)) ∧ ((([GK.int, GK.bool] : List GK) = ([GK.int, GK.bool] : List GK)) ∧ I1 [GV.int (iadd i1_0 (1 : Int)), GV.bool b1_1] ∧ μ1 [GV.int (iadd i1_0 (1 : Int)), GV.bool b1_1] < μ1 [GV.int i1_0, GV.bool b1_1]))))) ∧ ((ilt i1_0 (ilen l)) = false → ((true = true) ∧ ((True) ∧ True) ∧ ((true : Bool) = (tblB l)) ∧ True))))))) = ev sig_impl_tableValid xs_impl_tableValid Try.f61.ntmps (fun b => if b == 0 then [.v 10, .v 2] else []) (codeOf Try.f61) 0 (initS [.s (.view (.boolss l))]) (retK Try.f61.results.toList [.s (.bool (tblB l))]) := by kernel_rfl
set_option maxHeartbeats 400000 in
theorem F_impl_tableValid : FunOK 61 g_impl_tableValid := by
  refine fun_F (by kernel_rfl) Try.func61 rfl (by kernel_rfl) sig_impl_tableValid_ok xs_impl_tableValid_ok ?_
  intro avs sg h hn hl
  unfold g_impl_tableValid at h
  split at h
  · rename_i l
    injection h with h; subst h
    refine ⟨by kernel_rfl, fun b => if b == 0 then [.v 10, .v 2] else [], Eq.mp (V_impl_tableValid l) ?_⟩
    simp only [true_and, and_true, implies_true, and_self, forall_const, true_implies, lenA, lenL, SV.lenOK, Cont.lenOK] at hn hl ⊢
    have h0 := ilen_0 l
    simp only [ilt_t, ilt_f, ile_t, ile_f, ieq_t, ieq_f, bnot_e, band_e, bite_and, bite_or, NLt_e, NLe_e, NNe_e, NIs_e, imax_e, imin_e, irem_e, Bool.not_eq_true', Bool.not_eq_false', Bool.and_eq_true, Bool.or_eq_true, Bool.or_eq_false_iff, Bool.and_eq_false_iff, Cont.pts.injEq, Cont.ints.injEq, Cont.bools.injEq, Cont.ptss.injEq, Cont.intss.injEq, Cont.boolss.injEq, true_and, and_true, implies_true]
    refine ⟨fun h => by unfold tblB; simp; omega, fun hle => ?_⟩
    refine ⟨fun | .int k :: _ => 0 ≤ k ∧ k ≤ ilen l ∧ (∀ i, 0 ≤ i → i < k → tblE l i = true) | _ => False, fun | .int k :: _ => (ilen l - k).toNat | _ => 0, ?_, ?_⟩
    · exact ⟨Int.le_refl 0, h0, fun j h0 h1 => absurd h1 (by omega)⟩
    · rintro k _ ⟨hk0, hk1, hk⟩
      simp only [ilt_t, ilt_f, ile_t, ile_f, ieq_t, ieq_f, bnot_e, band_e, bite_and, bite_or, NLt_e, NLe_e, NNe_e, NIs_e, imax_e, imin_e, irem_e, Bool.not_eq_true', Bool.not_eq_false', Bool.and_eq_true, Bool.or_eq_true, Bool.or_eq_false_iff, Bool.and_eq_false_iff, Cont.pts.injEq, Cont.ints.injEq, Cont.bools.injEq, Cont.ptss.injEq, Cont.intss.injEq, Cont.boolss.injEq, true_and, and_true, implies_true]
      refine ⟨fun hkn => ⟨⟨hk0, hkn⟩, fun _ => ⟨by omega, by omega⟩, fun hx => ?_, fun hx => ?_⟩, fun hkn => ?_⟩
      · have hE : tblE l k = false := by unfold tblE; simp only [decide_eq_false_iff_not]; omega
        unfold tblB; rw [allN_no k hk0 hkn hE]; simp
      · have hE : tblE l k = true := by unfold tblE; simp only [decide_eq_true_eq]; omega
        rw [iadd_1 hk0 hkn hl.1]
        exact ⟨⟨by omega, by omega, upTo hk hE⟩, by omega⟩
      · unfold tblB; rw [allN_mk fun j j0 j1 => hk j j0 (by omega)]; simp [ile, hle]
  · cases h
def g_impl_isFree : List AV → Option Sg
  | [.s (.view (.boolss l)), .agg [.int c1, .int c2]] => some ⟨True, [.s (.bool (freeB l c1 c2))]⟩
  | _ => none
def sig_impl_isFree : FuncId → List AV → Option Sg := sigL []
def xs_impl_isFree : XS := ⟨xsigL [], ysigL []⟩
theorem sig_impl_isFree_ok : SigOK sig_impl_isFree := sigL_nil
theorem xs_impl_isFree_ok : XSigOK xs_impl_isFree := ⟨xsigL_nil, ysigL_nil⟩
theorem V_impl_isFree (l : List (List Bool)) (c1 : Int) (c2 : Int) : ((true = true) ∧ ((True) ∧ (True) ∧ True) ∧ (true = true) ∧ ((True) ∧ (True) ∧ (True) ∧ (True) ∧ (NIs (ile (0 : Int) c1) true → True) ∧ (NIs (ile (0 : Int) c1) true → True) ∧ (NIs (ile (0 : Int) c1) true → True) ∧ (NIs (ile (0 : Int) c1) true → True) ∧ (NIs (ile (0 : Int) c1) true → True) ∧ (True) ∧ (True) ∧ (NIs (bite (ile (0 : Int) c1) (ilt c1 (ilen l)) false) true → True) ∧ (NIs (bite (ile (0 : Int) c1) (ilt c1 (ilen l)) false) true → True) ∧ (NIs (bite (ile (0 : Int) c1) (ilt c1 (ilen l)) false) true → True) ∧ (True) ∧ (True) ∧ (NIs (bite (bite (ile (0 : Int) c1) (ilt c1 (ilen l)) false) (ile (0 : Int) c2) false) true → True) ∧ (NIs (bite (bite (ile (0 : Int) c1) (ilt c1 (ilen l)) false) (ile (0 : Int) c2) false) true → True) ∧ (NIs (bite (bite (ile (0 : Int) c1) (ilt c1 (ilen l)) false) (ile (0 : Int) c2) false) true → True) ∧ (NIs (bite (bite (ile (0 : Int) c1) (ilt c1 (ilen l)) false) (ile (0 : Int) c2) false) true → True) ∧ (NIs (bite (bite (ile (0 : Int) c1) (ilt c1 (ilen l)) false) (ile (0 : Int) c2) false) true → True) ∧ (NIs (bite (bite (ile (0 : Int) c1) (ilt c1 (ilen l)) false) (ile (0 : Int) c2) false) true → (NLe 0 c1 ∧ NLt c1 (ilen l))) ∧ (NIs (bite (bite (ile (0 : Int) c1) (ilt c1 (ilen l)) false) (ile (0 : Int) c2) false) true → True) ∧ (NIs (bite (bite (ile (0 : Int) c1) (ilt c1 (ilen l)) false) (ile (0 : Int) c2) false) true → True) ∧ (NIs (bite (bite (ile (0 : Int) c1) (ilt c1 (ilen l)) false) (ile (0 : Int) c2) false) true → True) ∧ (True) ∧ (True) ∧ (NIs (bite (bite (bite (ile (0 : Int) c1) (ilt c1 (ilen l)) false) (ile (0 : Int) c2) false) (ilt c2 (ilen (getl l c1))) false) true → True) ∧ (NIs (bite (bite (bite (ile (0 : Int) c1) (ilt c1 (ilen l)) false) (ile (0 : Int) c2) false) (ilt c2 (ilen (getl l c1))) false) true → True) ∧ (NIs (bite (bite (bite (ile (0 : Int) c1) (ilt c1 (ilen l)) false) (ile (0 : Int) c2) false) (ilt c2 (ilen (getl l c1))) false) true → True) ∧ (NIs (bite (bite (bite (ile (0 : Int) c1) (ilt c1 (ilen l)) false) (ile (0 : Int) c2) false) (ilt c2 (ilen (getl l c1))) false) true → (NLe 0 c1 ∧ NLt c1 (ilen l))) ∧ (NIs (bite (bite (bite (ile (0 : Int) c1) (ilt c1 (ilen l)) false) (ile (0 : Int) c2) false) (ilt c2 (ilen (getl l c1))) false) true → True) ∧ (NIs (bite (bite (bite (ile (0 : Int) c1) (ilt c1 (ilen l)) false) (ile (0 : Int) c2) false) (ilt c2 (ilen (getl l c1))) false) true → True) ∧ (NIs (bite (bite (bite (ile (0 : Int) c1) (ilt c1 (ilen l)) false) (ile (0 : Int) c2) false) (ilt c2 (ilen (getl l c1))) false) true → True) ∧ (NIs (bite (bite (bite (ile (0 : Int) c1) (ilt c1 (ilen l)) false) (ile (0 : Int) c2) false) (ilt c2 (ilen (getl l c1))) false) true → (NLe 0 c2 ∧ NLt c2 (ilen (getl l c1)))) ∧ (NIs (bite (bite (bite (ile (0 : Int) c1) (ilt c1 (ilen l)) false) (ile (0 : Int) c2) false) (ilt c2 (ilen (getl l c1))) false) true → True) ∧ (True) ∧ (True) ∧ True) ∧ (((bite (bite (bite (bite (ile (0 : Int) c1) (ilt c1 (ilen l)) false) (ile (0 : Int) c2) false) (ilt c2 (ilen (getl l c1))) false) (getb (getl l c1) c2) false) : Bool) = (freeB l c1 c2)) ∧ True) = ev sig_impl_isFree xs_impl_isFree Try.f62.ntmps (fun b => []) (codeOf Try.f62) 0 (initS [.s (.view (.boolss l)), .agg [.int c1, .int c2]]) (retK Try.f62.results.toList [.s (.bool (freeB l c1 c2))]) := by kernel_rfl
set_option maxHeartbeats 400000 in
theorem F_impl_isFree : FunOK 62 g_impl_isFree := by
  refine fun_F (by kernel_rfl) Try.func62 rfl (by kernel_rfl) sig_impl_isFree_ok xs_impl_isFree_ok ?_
  intro avs sg h hn hl
  unfold g_impl_isFree at h
  split at h
  · rename_i l c1 c2
    injection h with h; subst h
    refine ⟨by kernel_rfl, fun b => [], Eq.mp (V_impl_isFree l c1 c2) ?_⟩
    simp only [true_and, and_true, implies_true, and_self, forall_const, true_implies, lenA, lenL, SV.lenOK, Cont.lenOK] at hn hl ⊢
    simp only [ilt_t, ilt_f, ile_t, ile_f, ieq_t, ieq_f, bnot_e, band_e, bite_and, bite_or, NLt_e, NLe_e, NNe_e, NIs_e, imax_e, imin_e, irem_e, Bool.not_eq_true', Bool.not_eq_false', Bool.and_eq_true, Bool.or_eq_true, Bool.or_eq_false_iff, Bool.and_eq_false_iff, Cont.pts.injEq, Cont.ints.injEq, Cont.bools.injEq, Cont.ptss.injEq, Cont.intss.injEq, Cont.boolss.injEq, true_and, and_true, implies_true]
    refine ⟨⟨fun h => h.1, fun h => h.1.1, fun h => ⟨h.1.2, h.2⟩⟩, ?_⟩
    simp only [freeB, ile, ilt, Bool.decide_and, Bool.and_assoc]
  · cases h
def g_impl_PlanPath : List AV → Option Sg
  | [.s (.view (.boolss l)), .agg [.int a1, .int a2], .agg [.int z1, .int z2]] => some ⟨True, [.nrow 29 (.pts (plF l a1 a2 z1 z2))]⟩
  | _ => none
def sig_impl_PlanPath : FuncId → List AV → Option Sg := sigL [(61, g_impl_tableValid), (62, g_impl_isFree)]
def xs_impl_PlanPath : XS := ⟨xsigL [(63, g_slices_Reverse_Simpl_Cell_impl_Cell)], ysigL []⟩
theorem sig_impl_PlanPath_ok : SigOK sig_impl_PlanPath := sigL_cons F_impl_tableValid (sigL_cons F_impl_isFree sigL_nil)
theorem xs_impl_PlanPath_ok : XSigOK xs_impl_PlanPath := ⟨xsigL_cons F_slices_Reverse_Simpl_Cell_impl_Cell xsigL_nil, ysigL_nil⟩
theorem V_impl_PlanPath (l : List (List Bool)) (a1 : Int) (a2 : Int) (z1 : Int) (z2 : Int) : ((true = true) ∧ ((True) ∧ (True) ∧ (True) ∧ True) ∧ (true = true) ∧ ((True) ∧ ((True)) ∧ (True) ∧ (True) ∧ (NIs (bnot (tblB l)) false → True) ∧ (NIs (bnot (tblB l)) false → True) ∧ (NIs (bnot (tblB l)) false → (True)) ∧ (NIs (bnot (tblB l)) false → True) ∧ (True) ∧ (True) ∧ (NIs (bite (bnot (tblB l)) true (bnot (freeB l a1 a2))) false → True) ∧ (NIs (bite (bnot (tblB l)) true (bnot (freeB l a1 a2))) false → True) ∧ (NIs (bite (bnot (tblB l)) true (bnot (freeB l a1 a2))) false → (True)) ∧ (NIs (bite (bnot (tblB l)) true (bnot (freeB l a1 a2))) false → True) ∧ (True) ∧ True) ∧ ((bite (bite (bnot (tblB l)) true (bnot (freeB l a1 a2))) true (bnot (freeB l z1 z2))) = true → ((true = true) ∧ ((True) ∧ True) ∧ ((true = true) ∧ ((Cont.pts []) = (Cont.pts (plF l a1 a2 z1 z2)))) ∧ True)) ∧ ((bite (bite (bnot (tblB l)) true (bnot (freeB l a1 a2))) true (bnot (freeB l z1 z2))) = false → ((true = true) ∧ (True) ∧ (true = true) ∧ (True) ∧ ((True) ∧ (True) ∧ (true = true) ∧ (NIs (mhas [] a1 a2) false) ∧ ((True) ∧ (True) ∧ (true = true) ∧ ((True) ∧ (True) ∧ (True) ∧ True) ∧ (true = true) ∧ ((True) ∧ True) ∧ ∃ (I1 : List GV → Prop) (μ1 : List GV → Nat), (((true = true) ∧ ((((0 : Int) : Int) = (0 : Int)) ∧ (((a1 : Int) = a1) ∧ ((a2 : Int) = a2) ∧ True) ∧ (true = true) ∧ (true = true) ∧ (((a1 : Int) = a1) ∧ ((a2 : Int) = a2) ∧ True) ∧ (((a1 : Int) = a1) ∧ ((a2 : Int) = a2) ∧ True) ∧ ((Cont.boolss l) = (Cont.boolss l)) ∧ (((tblB l) : Bool) = (tblB l)) ∧ (((bnot (tblB l)) : Bool) = (bnot (tblB l))) ∧ (((bnot (tblB l)) : Bool) = (bnot (tblB l))) ∧ (((bite (bnot (tblB l)) true (bnot (freeB l a1 a2))) : Bool) = (bite (bnot (tblB l)) true (bnot (freeB l a1 a2)))) ∧ (((bite (bnot (tblB l)) true (bnot (freeB l a1 a2))) : Bool) = (bite (bnot (tblB l)) true (bnot (freeB l a1 a2)))) ∧ (((bite (bite (bnot (tblB l)) true (bnot (freeB l a1 a2))) true (bnot (freeB l z1 z2))) : Bool) = (bite (bite (bnot (tblB l)) true (bnot (freeB l a1 a2))) true (bnot (freeB l z1 z2)))) ∧ (true = true) ∧ (true = true) ∧ (true = true) ∧ ((Cont.boolss l) = (Cont.boolss l)) ∧ (((a1 : Int) = a1) ∧ ((a2 : Int) = a2) ∧ True) ∧ (((z1 : Int) = z1) ∧ ((z2 : Int) = z2) ∧ True) ∧ True) ∧ ((((mput [] a1 a2 a1 a2) : List Pt) = (mput [] a1 a2 a1 a2)) ∧ ((true = true) ∧ ((Cont.pts [(a1, a2)]) = (Cont.pts [(a1, a2)]))) ∧ (((a1 : Int) = a1) ∧ ((a2 : Int) = a2) ∧ True) ∧ (((z1 : Int) = z1) ∧ ((z2 : Int) = z2) ∧ True) ∧ ((true = true) ∧ ((Cont.pts []) = (Cont.pts []))) ∧ True)) ∧ (([GK.int, GK.pts, GK.pts] : List GK) = ([GK.int, GK.pts, GK.pts] : List GK)) ∧ I1 [GV.int (0 : Int), GV.pts [(a1, a2)], GV.pts (mput [] a1 a2 a1 a2)]) ∧ (∀ i1_0 : Int, ∀ l1_1 : List Pt, ∀ l1_2 : List Pt, I1 [GV.int i1_0, GV.pts l1_1, GV.pts l1_2] → ((true = true) ∧ ((True) ∧ (True) ∧ (True) ∧ (True) ∧ True) ∧ ((ilt i1_0 (ilen l1_1)) = true → ((true = true) ∧ ((True) ∧ (True) ∧ (NLe 0 i1_0 ∧ NLt i1_0 (ilen l1_1)) ∧ (NLt i1_0 (ilen l1_1)) ∧ (True) ∧ True) ∧ (True) ∧ (true = true) ∧ ((True) ∧ (True) ∧ (True) ∧ (True) ∧ (True) ∧ (True) ∧ (True) ∧ (True) ∧ (True) ∧ (True) ∧ (True) ∧ (True) ∧ (True) ∧ (True) ∧ (True) ∧ (True) ∧ (True) ∧ (True) ∧ (True) ∧ (True) ∧ (True) ∧ (True) ∧ (True) ∧ (True) ∧ (True) ∧ (True) ∧ (True) ∧ True) ∧ ∃ (I2 : List GV → Prop) (μ2 : List GV → Nat), (((true = true) ∧ ((((0 : Int) : Int) = (0 : Int)) ∧ (true = true) ∧ (((getx l1_1 i1_0) : Int) = (getx l1_1 i1_0)) ∧ (((isub (getx l1_1 i1_0) (1 : Int)) : Int) = (isub (getx l1_1 i1_0) (1 : Int))) ∧ (true = true) ∧ (((gety l1_1 i1_0) : Int) = (gety l1_1 i1_0)) ∧ ((((isub (getx l1_1 i1_0) (1 : Int)) : Int) = (isub (getx l1_1 i1_0) (1 : Int))) ∧ (((gety l1_1 i1_0) : Int) = (gety l1_1 i1_0)) ∧ True) ∧ (true = true) ∧ (((getx l1_1 i1_0) : Int) = (getx l1_1 i1_0)) ∧ (true = true) ∧ (((gety l1_1 i1_0) : Int) = (gety l1_1 i1_0)) ∧ (((isub (gety l1_1 i1_0) (1 : Int)) : Int) = (isub (gety l1_1 i1_0) (1 : Int))) ∧ ((((getx l1_1 i1_0) : Int) = (getx l1_1 i1_0)) ∧ (((isub (gety l1_1 i1_0) (1 : Int)) : Int) = (isub (gety l1_1 i1_0) (1 : Int))) ∧ True) ∧ (true = true) ∧ (((getx l1_1 i1_0) : Int) = (getx l1_1 i1_0)) ∧ (true = true) ∧ (((gety l1_1 i1_0) : Int) = (gety l1_1 i1_0)) ∧ (((iadd (gety l1_1 i1_0) (1 : Int)) : Int) = (iadd (gety l1_1 i1_0) (1 : Int))) ∧ ((((getx l1_1 i1_0) : Int) = (getx l1_1 i1_0)) ∧ (((iadd (gety l1_1 i1_0) (1 : Int)) : Int) = (iadd (gety l1_1 i1_0) (1 : Int))) ∧ True) ∧ (true = true) ∧ (((getx l1_1 i1_0) : Int) = (getx l1_1 i1_0)) ∧ (((iadd (getx l1_1 i1_0) (1 : Int)) : Int) = (iadd (getx l1_1 i1_0) (1 : Int))) ∧ (true = true) ∧ (((gety l1_1 i1_0) : Int) = (gety l1_1 i1_0)) ∧ ((((iadd (getx l1_1 i1_0) (1 : Int)) : Int) = (iadd (getx l1_1 i1_0) (1 : Int))) ∧ (((gety l1_1 i1_0) : Int) = (gety l1_1 i1_0)) ∧ True) ∧ (true = true) ∧ (((ilen [((isub (getx l1_1 i1_0) (1 : Int)), (gety l1_1 i1_0)), ((getx l1_1 i1_0), (isub (gety l1_1 i1_0) (1 : Int))), ((getx l1_1 i1_0), (iadd (gety l1_1 i1_0) (1 : Int))), ((iadd (getx l1_1 i1_0) (1 : Int)), (gety l1_1 i1_0))]) : Int) = (ilen [((isub (getx l1_1 i1_0) (1 : Int)), (gety l1_1 i1_0)), ((getx l1_1 i1_0), (isub (gety l1_1 i1_0) (1 : Int))), ((getx l1_1 i1_0), (iadd (gety l1_1 i1_0) (1 : Int))), ((iadd (getx l1_1 i1_0) (1 : Int)), (gety l1_1 i1_0))])) ∧ ((i1_0 : Int) = i1_0) ∧ ((((getx l1_1 i1_0) : Int) = (getx l1_1 i1_0)) ∧ (((gety l1_1 i1_0) : Int) = (gety l1_1 i1_0)) ∧ True) ∧ (true = true) ∧ ((i1_0 : Int) = i1_0) ∧ (((ilen l1_1) : Int) = (ilen l1_1)) ∧ (((ilt i1_0 (ilen l1_1)) : Bool) = (ilt i1_0 (ilen l1_1))) ∧ ((i1_0 : Int) = i1_0) ∧ (((a1 : Int) = a1) ∧ ((a2 : Int) = a2) ∧ True) ∧ (true = true) ∧ (true = true) ∧ (((a1 : Int) = a1) ∧ ((a2 : Int) = a2) ∧ True) ∧ (((a1 : Int) = a1) ∧ ((a2 : Int) = a2) ∧ True) ∧ ((Cont.boolss l) = (Cont.boolss l)) ∧ (((tblB l) : Bool) = (tblB l)) ∧ (((bnot (tblB l)) : Bool) = (bnot (tblB l))) ∧ (((bnot (tblB l)) : Bool) = (bnot (tblB l))) ∧ (((bite (bnot (tblB l)) true (bnot (freeB l a1 a2))) : Bool) = (bite (bnot (tblB l)) true (bnot (freeB l a1 a2)))) ∧ (((bite (bnot (tblB l)) true (bnot (freeB l a1 a2))) : Bool) = (bite (bnot (tblB l)) true (bnot (freeB l a1 a2)))) ∧ (((bite (bite (bnot (tblB l)) true (bnot (freeB l a1 a2))) true (bnot (freeB l z1 z2))) : Bool) = (bite (bite (bnot (tblB l)) true (bnot (freeB l a1 a2))) true (bnot (freeB l z1 z2)))) ∧ (true = true) ∧ (true = true) ∧ (true = true) ∧ ((Cont.boolss l) = (Cont.boolss l)) ∧ (((a1 : Int) = a1) ∧ ((a2 : Int) = a2) ∧ True) ∧ (((z1 : Int) = z1) ∧ ((z2 : Int) = z2) ∧ True) ∧ True) ∧ (((l1_2 : List Pt) = l1_2) ∧ ((true = true) ∧ ((Cont.pts l1_1) = (Cont.pts l1_1))) ∧ ((true = true) ∧ ((Cont.pts [((isub (getx l1_1 i1_0) (1 : Int)), (gety l1_1 i1_0)), ((getx l1_1 i1_0), (isub (gety l1_1 i1_0) (1 : Int))), ((getx l1_1 i1_0), (iadd (gety l1_1 i1_0) (1 : Int))), ((iadd (getx l1_1 i1_0) (1 : Int)), (gety l1_1 i1_0))]) = (Cont.pts [((isub (getx l1_1 i1_0) (1 : Int)), (gety l1_1 i1_0)), ((getx l1_1 i1_0), (isub (gety l1_1 i1_0) (1 : Int))), ((getx l1_1 i1_0), (iadd (gety l1_1 i1_0) (1 : Int))), ((iadd (getx l1_1 i1_0) (1 : Int)), (gety l1_1 i1_0))]))) ∧ ((((getx l1_1 i1_0) : Int) = (getx l1_1 i1_0)) ∧ (((gety l1_1 i1_0) : Int) = (gety l1_1 i1_0)) ∧ True) ∧ (((a1 : Int) = a1) ∧ ((a2 : Int) = a2) ∧ True) ∧ (((z1 : Int) = z1) ∧ ((z2 : Int) = z2) ∧ True) ∧ ((true = true) ∧ ((Cont.pts []) = (Cont.pts []))) ∧ True)) ∧ (([GK.int, GK.pts, GK.pts] : List GK) = ([GK.int, GK.pts, GK.pts] : List GK)) ∧ I2 [GV.int (0 : Int), GV.pts l1_1, GV.pts l1_2]) ∧ (∀ i2_0 : Int, ∀ l2_1 : List Pt, ∀ l2_2 : List Pt, I2 [GV.int i2_0, GV.pts l2_1, GV.pts l2_2] → ((true = true) ∧ ((True) ∧ True) ∧ ((ilt i2_0 (ilen [((isub (getx l1_1 i1_0) (1 : Int)), (gety l1_1 i1_0)), ((getx l1_1 i1_0), (isub (gety l1_1 i1_0) (1 : Int))), ((getx l1_1 i1_0), (iadd (gety l1_1 i1_0) (1 : Int))), ((iadd (getx l1_1 i1_0) (1 : Int)), (gety l1_1 i1_0))])) = true → ((true = true) ∧ ((NLe 0 i2_0 ∧ NLt i2_0 (ilen [((isub (getx l1_1 i1_0) (1 : Int)), (gety l1_1 i1_0)), ((getx l1_1 i1_0), (isub (gety l1_1 i1_0) (1 : Int))), ((getx l1_1 i1_0), (iadd (gety l1_1 i1_0) (1 : Int))), ((iadd (getx l1_1 i1_0) (1 : Int)), (gety l1_1 i1_0))])) ∧ (NLt i2_0 (ilen [((isub (getx l1_1 i1_0) (1 : Int)), (gety l1_1 i1_0)), ((getx l1_1 i1_0), (isub (gety l1_1 i1_0) (1 : Int))), ((getx l1_1 i1_0), (iadd (gety l1_1 i1_0) (1 : Int))), ((iadd (getx l1_1 i1_0) (1 : Int)), (gety l1_1 i1_0))])) ∧ (True) ∧ True) ∧ (True) ∧ (true = true) ∧ ((True) ∧ (True) ∧ True) ∧ (true = true) ∧ (True) ∧ ((true = true) ∧ ((true = true) ∧ ((true = true) ∧ ((True) ∧ (True) ∧ (True) ∧ (true = true) ∧ ((True) ∧ (True) ∧ (True) ∧ (NIs (bnot (mhas l2_2 (getx [((isub (getx l1_1 i1_0) (1 : Int)), (gety l1_1 i1_0)), ((getx l1_1 i1_0), (isub (gety l1_1 i1_0) (1 : Int))), ((getx l1_1 i1_0), (iadd (gety l1_1 i1_0) (1 : Int))), ((iadd (getx l1_1 i1_0) (1 : Int)), (gety l1_1 i1_0))] i2_0) (gety [((isub (getx l1_1 i1_0) (1 : Int)), (gety l1_1 i1_0)), ((getx l1_1 i1_0), (isub (gety l1_1 i1_0) (1 : Int))), ((getx l1_1 i1_0), (iadd (gety l1_1 i1_0) (1 : Int))), ((iadd (getx l1_1 i1_0) (1 : Int)), (gety l1_1 i1_0))] i2_0))) true → True) ∧ (NIs (bnot (mhas l2_2 (getx [((isub (getx l1_1 i1_0) (1 : Int)), (gety l1_1 i1_0)), ((getx l1_1 i1_0), (isub (gety l1_1 i1_0) (1 : Int))), ((getx l1_1 i1_0), (iadd (gety l1_1 i1_0) (1 : Int))), ((iadd (getx l1_1 i1_0) (1 : Int)), (gety l1_1 i1_0))] i2_0) (gety [((isub (getx l1_1 i1_0) (1 : Int)), (gety l1_1 i1_0)), ((getx l1_1 i1_0), (isub (gety l1_1 i1_0) (1 : Int))), ((getx l1_1 i1_0), (iadd (gety l1_1 i1_0) (1 : Int))), ((iadd (getx l1_1 i1_0) (1 : Int)), (gety l1_1 i1_0))] i2_0))) true → True) ∧ (NIs (bnot (mhas l2_2 (getx [((isub (getx l1_1 i1_0) (1 : Int)), (gety l1_1 i1_0)), ((getx l1_1 i1_0), (isub (gety l1_1 i1_0) (1 : Int))), ((getx l1_1 i1_0), (iadd (gety l1_1 i1_0) (1 : Int))), ((iadd (getx l1_1 i1_0) (1 : Int)), (gety l1_1 i1_0))] i2_0) (gety [((isub (getx l1_1 i1_0) (1 : Int)), (gety l1_1 i1_0)), ((getx l1_1 i1_0), (isub (gety l1_1 i1_0) (1 : Int))), ((getx l1_1 i1_0), (iadd (gety l1_1 i1_0) (1 : Int))), ((iadd (getx l1_1 i1_0) (1 : Int)), (gety l1_1 i1_0))] i2_0))) true → (True)) ∧ (True) ∧ True) ∧ ((bite (bnot (mhas l2_2 (getx [((isub (getx l1_1 i1_0) (1 : Int)), (gety l1_1 i1_0)), ((getx l1_1 i1_0), (isub (gety l1_1 i1_0) (1 : Int))), ((getx l1_1 i1_0), (iadd (gety l1_1 i1_0) (1 : Int))), ((iadd (getx l1_1 i1_0) (1 : Int)), (gety l1_1 i1_0))] i2_0) (gety [((isub (getx l1_1 i1_0) (1 : Int)), (gety l1_1 i1_0)), ((getx l1_1 i1_0), (isub (gety l1_1 i1_0) (1 : Int))), ((getx l1_1 i1_0), (iadd (gety l1_1 i1_0) (1 : Int))), ((iadd (getx l1_1 i1_0) (1 : Int)), (gety l1_1 i1_0))] i2_0))) (freeB l (getx [((isub (getx l1_1 i1_0) (1 : Int)), (gety l1_1 i1_0)), ((getx l1_1 i1_0), (isub (gety l1_1 i1_0) (1 : Int))), ((getx l1_1 i1_0), (iadd (gety l1_1 i1_0) (1 : Int))), ((iadd (getx l1_1 i1_0) (1 : Int)), (gety l1_1 i1_0))] i2_0) (gety [((isub (getx l1_1 i1_0) (1 : Int)), (gety l1_1 i1_0)), ((getx l1_1 i1_0), (isub (gety l1_1 i1_0) (1 : Int))), ((getx l1_1 i1_0), (iadd (gety l1_1 i1_0) (1 : Int))), ((iadd (getx l1_1 i1_0) (1 : Int)), (gety l1_1 i1_0))] i2_0)) false) = true → ((true = true) ∧ ((True) ∧ (True) ∧ (True) ∧ True) ∧ (true = true) ∧ (NIs (mhas l2_2 (getx [((isub (getx l1_1 i1_0) (1 : Int)), (gety l1_1 i1_0)), ((getx l1_1 i1_0), (isub (gety l1_1 i1_0) (1 : Int))), ((getx l1_1 i1_0), (iadd (gety l1_1 i1_0) (1 : Int))), ((iadd (getx l1_1 i1_0) (1 : Int)), (gety l1_1 i1_0))] i2_0) (gety [((isub (getx l1_1 i1_0) (1 : Int)), (gety l1_1 i1_0)), ((getx l1_1 i1_0), (isub (gety l1_1 i1_0) (1 : Int))), ((getx l1_1 i1_0), (iadd (gety l1_1 i1_0) (1 : Int))), ((iadd (getx l1_1 i1_0) (1 : Int)), (gety l1_1 i1_0))] i2_0)) false) ∧ ((true = true) ∧ ((True) ∧ (True) ∧ (True) ∧ True) ∧ (NLe (ilen l2_1) 1000000000 ∧ NLe (ilen [((getx [((isub (getx l1_1 i1_0) (1 : Int)), (gety l1_1 i1_0)), ((getx l1_1 i1_0), (isub (gety l1_1 i1_0) (1 : Int))), ((getx l1_1 i1_0), (iadd (gety l1_1 i1_0) (1 : Int))), ((iadd (getx l1_1 i1_0) (1 : Int)), (gety l1_1 i1_0))] i2_0), (gety [((isub (getx l1_1 i1_0) (1 : Int)), (gety l1_1 i1_0)), ((getx l1_1 i1_0), (isub (gety l1_1 i1_0) (1 : Int))), ((getx l1_1 i1_0), (iadd (gety l1_1 i1_0) (1 : Int))), ((iadd (getx l1_1 i1_0) (1 : Int)), (gety l1_1 i1_0))] i2_0))]) 1000000000) ∧ (True) ∧ (true = true) ∧ ((True) ∧ (True) ∧ True) ∧ ((true = true) ∧ ((((iadd i2_0 (1 : Int)) : Int) = (iadd i2_0 (1 : Int))) ∧ (true = true) ∧ (((getx l1_1 i1_0) : Int) = (getx l1_1 i1_0)) ∧ (((isub (getx l1_1 i1_0) (1 : Int)) : Int) = (isub (getx l1_1 i1_0) (1 : Int))) ∧ (true = true) ∧ (((gety l1_1 i1_0) : Int) = (gety l1_1 i1_0)) ∧ ((((isub (getx l1_1 i1_0) (1 : Int)) : Int) = (isub (getx l1_1 i1_0) (1 : Int))) ∧ (((gety l1_1 i1_0) : Int) = (gety l1_1 i1_0)) ∧ True) ∧ (true = true) ∧ (((getx l1_1 i1_0) : Int) = (getx l1_1 i1_0)) ∧ (true = true) ∧ (((gety l1_1 i1_0) : Int) = (gety l1_1 i1_0)) ∧ (((isub (gety l1_1 i1_0) (1 : Int)) : Int) = (isub (gety l1_1 i1_0) (1 : Int))) ∧ ((((getx l1_1 i1_0) : Int) = (getx l1_1 i1_0)) ∧ (((isub (gety l1_1 i1_0) (1 : Int)) : Int) = (isub (gety l1_1 i1_0) (1 : Int))) ∧ True) ∧ (true = true) ∧ (((getx l1_1 i1_0) : Int) = (getx l1_1 i1_0)) ∧ (true = true) ∧ (((gety l1_1 i1_0) : Int) = (gety l1_1 i1_0)) ∧ (((iadd (gety l1_1 i1_0) (1 : Int)) : Int) = (iadd (gety l1_1 i1_0) (1 : Int))) ∧ ((((getx l1_1 i1_0) : Int) = (getx l1_1 i1_0)) ∧ (((iadd (gety l1_1 i1_0) (1 : Int)) : Int) = (iadd (gety l1_1 i1_0) (1 : Int))) ∧ True) ∧ (true = true) ∧ (((getx l1_1 i1_0) : Int) = (getx l1_1 i1_0)) ∧ (((iadd (getx l1_1 i1_0) (1 : Int)) : Int) = (iadd (getx l1_1 i1_0) (1 : Int))) ∧ (true = true) ∧ (((gety l1_1 i1_0) : Int) = (gety l1_1 i1_0)) ∧ ((((iadd (getx l1_1 i1_0) (1 : Int)) : Int) = (iadd (getx l1_1 i1_0) (1 : Int))) ∧ (((gety l1_1 i1_0) : Int) = (gety l1_1 i1_0)) ∧ True) ∧ (true = true) ∧ (((ilen [((isub (getx l1_1 i1_0) (1 : Int)), (gety l1_1 i1_0)), ((getx l1_1 i1_0), (isub (gety l1_1 i1_0) (1 : Int))), ((getx l1_1 i1_0), (iadd (gety l1_1 i1_0) (1 : Int))), ((iadd (getx l1_1 i1_0) (1 : Int)), (gety l1_1 i1_0))]) : Int) = (ilen [((isub (getx l1_1 i1_0) (1 : Int)), (gety l1_1 i1_0)), ((getx l1_1 i1_0), (isub (gety l1_1 i1_0) (1 : Int))), ((getx l1_1 i1_0), (iadd (gety l1_1 i1_0) (1 : Int))), ((iadd (getx l1_1 i1_0) (1 : Int)), (gety l1_1 i1_0))])) ∧ ((i1_0 : Int) = i1_0) ∧ ((((getx l1_1 i1_0) : Int) = (getx l1_1 i1_0)) ∧ (((gety l1_1 i1_0) : Int) = (gety l1_1 i1_0)) ∧ True) ∧ (true = true) ∧ ((i1_0 : Int) = i1_0) ∧ (((ilen l1_1) : Int) = (ilen l1_1)) ∧ (((ilt i1_0 (ilen l1_1)) : Bool) = (ilt i1_0 (ilen l1_1))) ∧ ((i1_0 : Int) = i1_0) ∧ (((a1 : Int) = a1) ∧ ((a2 : Int) = a2) ∧ True) ∧ (true = true) ∧ (true = true) ∧ (((a1 : Int) = a1) ∧ ((a2 : Int) = a2) ∧ True) ∧ (((a1 : Int) = a1) ∧ ((a2 : Int) = a2) ∧ True) ∧ ((Cont.boolss l) = (Cont.boolss l)) ∧ (((tblB l) : Bool) = (tblB l)) ∧ (((bnot (tblB l)) : Bool) = (bnot (tblB l))) ∧ (((bnot (tblB l)) : Bool) = (bnot (tblB l))) ∧ (((bite (bnot (tblB l)) true (bnot (freeB l a1 a2))) : Bool) = (bite (bnot (tblB l)) true (bnot (freeB l a1 a2)))) ∧ (((bite (bnot (tblB l)) true (bnot (freeB l a1 a2))) : Bool) = (bite (bnot (tblB l)) true (bnot (freeB l a1 a2)))) ∧ (((bite (bite (bnot (tblB l)) true (bnot (freeB l a1 a2))) true (bnot (freeB l z1 z2))) : Bool) = (bite (bite (bnot (tblB l)) true (bnot (freeB l a1 a2))) true (bnot (freeB l z1 z2)))) ∧ (true = true) ∧ (true = true) ∧ (true = true) ∧ ((Cont.boolss l) = (Cont.boolss l)) ∧ (((a1 : Int) = a1) ∧ ((a2 : Int) = a2) ∧ True) ∧ (((z1 : Int) = z1) ∧ ((z2 : Int) = z2) ∧ True) ∧ True) ∧ ((((mput l2_2 (getx [((isub (getx l1_1 i1_0) (1 : Int)), (gety l1_1 i1_0)), ((getx l1_1 i1_0), (isub (gety l1_1 i1_0) (1 : Int))), ((getx l1_1 i1_0), (iadd (gety l1_1 i1_0) (1 : Int))), ((iadd (getx l1_1 i1_0) (1 : Int)), (gety l1_1 i1_0))] i2_0) (gety [((isub (getx l1_1 i1_0) (1 : Int)), (gety l1_1 i1_0)), ((getx l1_1 i1_0), (isub (gety l1_1 i1_0) (1 : Int))), ((getx l1_1 i1_0), (iadd (gety l1_1 i1_0) (1 : Int))), ((iadd (getx l1_1 i1_0) (1 : Int)), (gety l1_1 i1_0))] i2_0) (getx l1_1 i1_0) (gety l1_1 i1_0)) : List Pt) = (mput l2_2 (getx [((isub (getx l1_1 i1_0) (1 : Int)), (gety l1_1 i1_0)), ((getx l1_1 i1_0), (isub (gety l1_1 i1_0) (1 : Int))), ((getx l1_1 i1_0), (iadd (gety l1_1 i1_0) (1 : Int))), ((iadd (getx l1_1 i1_0) (1 : Int)), (gety l1_1 i1_0))] i2_0) (gety [((isub (getx l1_1 i1_0) (1 : Int)), (gety l1_1 i1_0)), ((getx l1_1 i1_0), (isub (gety l1_1 i1_0) (1 : Int))), ((getx l1_1 i1_0), (iadd (gety l1_1 i1_0) (1 : Int))), ((iadd (getx l1_1 i1_0) (1 : Int)), (gety l1_1 i1_0))] i2_0) (getx l1_1 i1_0) (gety l1_1 i1_0))) ∧ ((true = true) ∧ ((Cont.pts (iapp l2_1 [((getx [((isub (getx l1_1 i1_0) (1 : Int)), (gety l1_1 i1_0)), ((getx l1_1 i1_0), (isub (gety l1_1 i1_0) (1 : Int))), ((getx l1_1 i1_0), (iadd (gety l1_1 i1_0) (1 : Int))), ((iadd (getx l1_1 i1_0) (1 : Int)), (gety l1_1 i1_0))] i2_0), (gety [((isub (getx l1_1 i1_0) (1 : Int)), (gety l1_1 i1_0)), ((getx l1_1 i1_0), (isub (gety l1_1 i1_0) (1 : Int))), ((getx l1_1 i1_0), (iadd (gety l1_1 i1_0) (1 : Int))), ((iadd (getx l1_1 i1_0) (1 : Int)), (gety l1_1 i1_0))] i2_0))])) = (Cont.pts (iapp l2_1 [((getx [((isub (getx l1_1 i1_0) (1 : Int)), (gety l1_1 i1_0)), ((getx l1_1 i1_0), (isub (gety l1_1 i1_0) (1 : Int))), ((getx l1_1 i1_0), (iadd (gety l1_1 i1_0) (1 : Int))), ((iadd (getx l1_1 i1_0) (1 : Int)), (gety l1_1 i1_0))] i2_0), (gety [((isub (getx l1_1 i1_0) (1 : Int)), (gety l1_1 i1_0)), ((getx l1_1 i1_0), (isub (gety l1_1 i1_0) (1 : Int))), ((getx l1_1 i1_0), (iadd (gety l1_1 i1_0) (1 : Int))), ((iadd (getx l1_1 i1_0) (1 : Int)), (gety l1_1 i1_0))] i2_0))])))) ∧ ((true = true) ∧ ((Cont.pts [((isub (getx l1_1 i1_0) (1 : Int)), (gety l1_1 i1_0)), ((getx l1_1 i1_0), (isub (gety l1_1 i1_0) (1 : Int))), ((getx l1_1 i1_0), (iadd (gety l1_1 i1_0) (1 : Int))), ((iadd (getx l1_1 i1_0) (1 : Int)), (gety l1_1 i1_0))]) = (Cont.pts [((isub (getx l1_1 i1_0) (1 : Int)), (gety l1_1 i1_0)), ((getx l1_1 i1_0), (isub (gety l1_1 i1_0) (1 : Int))), ((getx l1_1 i1_0), (iadd (gety l1_1 i1_0) (1 : Int))), ((iadd (getx l1_1 i1_0) (1 : Int)), (gety l1_1 i1_0))]))) ∧ ((((getx l1_1 i1_0) : Int) = (getx l1_1 i1_0)) ∧ (((gety l1_1 i1_0) : Int) = (gety l1_1 i1_0)) ∧ True) ∧ (((a1 : Int) = a1) ∧ ((a2 : Int) = a2) ∧ True) ∧ (((z1 : Int) = z1) ∧ ((z2 : Int) = z2) ∧ True) ∧ ((true = true) ∧ ((Cont.pts []) = (Cont.pts []))) ∧ True)) ∧ ((([GK.int, GK.pts, GK.pts] : List GK) = ([GK.int, GK.pts, GK.pts] : List GK)) ∧ I2 [GV.int (iadd i2_0 (1 : Int)), GV.pts (iapp l2_1 [((getx [((isub (getx l1_1 i1_0) (1 : Int)), (gety l1_1 i1_0)), ((getx l1_1 i1_0), (isub (gety l1_1 i1_0) (1 : Int))), ((getx l1_1 i1_0), (iadd (gety l1_1 i1_0) (1 : Int))), ((iadd (getx l1_1 i1_0) (1 : Int)), (gety l1_1 i1_0))] i2_0), (gety [((isub (getx l1_1 i1_0) (1 : Int)), (gety l1_1 i1_0)), ((getx l1_1 i1_0), (isub (gety l1_1 i1_0) (1 : Int))), ((getx l1_1 i1_0), (iadd (gety l1_1 i1_0) (1 : Int))), ((iadd (getx l1_1 i1_0) (1 : Int)), (gety l1_1 i1_0))] i2_0))]), GV.pts (mput l2_2 (getx [((isub (getx l1_1 i1_0) (1 : Int)), (gety l1_1 i1_0)), ((getx l1_1 i1_0), (isub (gety l1_1 i1_0) (1 : Int))), ((getx l1_1 i1_0), (iadd (gety l1_1 i1_0) (1 : Int))), ((iadd (getx l1_1 i1_0) (1 : Int)), (gety l1_1 i1_0))] i2_0) (gety [((isub (getx l1_1 i1_0) (1 : Int)), (gety l1_1 i1_0)), ((getx l1_1 i1_0), (isub (gety l1_1 i1_0) (1 : Int))), ((getx l1_1 i1_0), (iadd (gety l1_1 i1_0) (1 : Int))), ((iadd (getx l1_1 i1_0) (1 : Int)), (gety l1_1 i1_0))] i2_0) (getx l1_1 i1_0) (gety l1_1 i1_0))] ∧ μ2 [GV.int (iadd i2_0 (1 : Int)), GV.pts (iapp l2_1 [((getx [((isub (getx l1_1 i1_0) (1 : Int)), (gety l1_1 i1_0)), ((getx l1_1 i1_0), (isub (gety l1_1 i1_0) (1 : Int))), ((getx l1_1 i1_0), (iadd (gety l1_1 i1_0) (1 : Int))), ((iadd (getx l1_1 i1_0) (1 : Int)), (gety l1_1 i1_0))] i2_0), (gety [((isub (getx l1_1 i1_0) (1 : Int)), (gety l1_1 i1_0)), ((getx l1_1 i1_0), (isub (gety l1_1 i1_0) (1 : Int))), ((getx l1_1 i1_0), (iadd (gety l1_1 i1_0) (1 : Int))), ((iadd (getx l1_1 i1_0) (1 : Int)), (gety l1_1 i1_0))] i2_0))]), GV.pts (mput l2_2 (getx [((isub (getx l1_1 i1_0) (1 : Int)), (gety l1_1 i1_0)), ((getx l1_1 i1_0), (isub (gety l1_1 i1_0) (1 : Int))), ((getx l1_1 i1_0), (iadd (gety l1_1 i1_0) (1 : Int))), ((iadd (getx l1_1 i1_0) (1 : Int)), (gety l1_1 i1_0))] i2_0) (gety [((isub (getx l1_1 i1_0) (1 : Int)), (gety l1_1 i1_0)), ((getx l1_1 i1_0), (isub (gety l1_1 i1_0) (1 : Int))), ((getx l1_1 i1_0), (iadd (gety l1_1 i1_0) (1 : Int))), ((iadd (getx l1_1 i1_0) (1 : Int)), (gety l1_1 i1_0))] i2_0) (getx l1_1 i1_0) (gety l1_1 i1_0))] < μ2 [GV.int i2_0, GV.pts l2_1, GV.pts l2_2])))) ∧ ((bite (bnot (mhas l2_2 (getx [((isub (getx l1_1 i1_0) (1 : Int)), (gety l1_1 i1_0)), ((getx l1_1 i1_0), (isub (gety l1_1 i1_0) (1 : Int))), ((getx l1_1 i1_0), (iadd (gety l1_1 i1_0) (1 : Int))), ((iadd (getx l1_1 i1_0) (1 : Int)), (gety l1_1 i1_0))] i2_0) (gety [((isub (getx l1_1 i1_0) (1 : Int)), (gety l1_1 i1_0)), ((getx l1_1 i1_0), (isub (gety l1_1 i1_0) (1 : Int))), ((getx l1_1 i1_0), (iadd (gety l1_1 i1_0) (1 : Int))), ((iadd (getx l1_1 i1_0) (1 : Int)), (gety l1_1 i1_0))] i2_0))) (freeB l (getx [((isub (getx l1_1 i1_0) (1 : Int)), (gety l1_1 i1_0)), ((getx l1_1 i1_0), (isub (gety l1_1 i1_0) (1 : Int))), ((getx l1_1 i1_0), (iadd (gety l1_1 i1_0) (1 : Int))), ((iadd (getx l1_1 i1_0) (1 : Int)), (gety l1_1 i1_0))] i2_0) (gety [((isub (getx l1_1 i1_0) (1 : Int)), (gety l1_1 i1_0)), ((getx l1_1 i1_0), (isub (gety l1_1 i1_0) (1 : Int))), ((getx l1_1 i1_0), (iadd (gety l1_1 i1_0) (1 : Int))), ((iadd (getx l1_1 i1_0) (1 : Int)), (gety l1_1 i1_0))] i2_0)) false) = false → ((true = true) ∧ ((True) ∧ (True) ∧ True) ∧ ((true = true) ∧ ((((iadd i2_0 (1 : Int)) : Int) = (iadd i2_0 (1 : Int))) ∧ (true = true) ∧ (((getx l1_1 i1_0) : Int) = (getx l1_1 i1_0)) ∧ (((isub (getx l1_1 i1_0) (1 : Int)) : Int) = (isub (getx l1_1 i1_0) (1 : Int))) ∧ (true = true) ∧ (((gety l1_1 i1_0) : Int) = (gety l1_1 i1_0)) ∧ ((((isub (getx l1_1 i1_0) (1 : Int)) : Int) = (isub (getx l1_1 i1_0) (1 : Int))) ∧ (((gety l1_1 i1_0) : Int) = (gety l1_1 i1_0)) ∧ True) ∧ (true = true) ∧ (((getx l1_1 i1_0) : Int) = (getx l1_1 i1_0)) ∧ (true = true) ∧ (((gety l1_1 i1_0) : Int) = (gety l1_1 i1_0)) ∧ (((isub (gety l1_1 i1_0) (1 : Int)) : Int) = (isub (gety l1_1 i1_0) (1 : Int))) ∧ ((((getx l1_1 i1_0) : Int) = (getx l1_1 i1_0)) ∧ (((isub (gety l1_1 i1_0) (1 : Int)) : Int) = (isub (gety l1_1 i1_0) (1 : Int))) ∧ True) ∧ (true = true) ∧ (((getx l1_1 i1_0) : Int) = (getx l1_1 i1_0)) ∧ (true = true) ∧ (((gety l1_1 i1_0) : Int) = (gety l1_1 i1_0)) ∧ (((iadd (gety l1_1 i1_0) (1 : Int)) : Int) = (iadd (gety l1_1 i1_0) (1 : Int))) ∧ ((((getx l1_1 i1_0) : Int) = (getx l1_1 i1_0)) ∧ (((iadd (gety l1_1 i1_0) (1 : Int)) : Int) = (iadd (gety l1_1 i1_0) (1 : Int))) ∧ True) ∧ (true = true) ∧ (((getx l1_1 i1_0) : Int) = (getx l1_1 i1_0)) ∧ (((iadd (getx l1_1 i1_0) (1 : Int)) : Int) = (iadd (getx l1_1 i1_0) (1 : Int))) ∧ (true = true) ∧ (((gety l1_1 i1_0) : Int) = (gety l1_1 i1_0)) ∧ ((((iadd (getx l1_1 i1_0) (1 : Int)) : Int) = (iadd (getx l1_1 i1_0) (1 : Int))) ∧ (((gety l1_1 i1_0) : Int) = (gety l1_1 i1_0)) ∧ True) ∧ (true = true) ∧ (((ilen [((isub (getx l1_1 i1_0) (1 : Int)), (gety l1_1 i1_0)), ((getx l1_1 i1_0), (isub (gety l1_1 i1_0) (1 : Int))), ((getx l1_1 i1_0), (iadd (gety l1_1 i1_0) (1 : Int))), ((iadd (getx l1_1 i1_0) (1 : Int)), (gety l1_1 i1_0))]) : Int) = (ilen [((isub (getx l1_1 i1_0) (1 : Int)), (gety l1_1 i1_0)), ((getx l1_1 i1_0), (isub (gety l1_1 i1_0) (1 : Int))), ((getx l1_1 i1_0), (iadd (gety l1_1 i1_0) (1 : Int))), ((iadd (getx l1_1 i1_0) (1 : Int)), (gety l1_1 i1_0))])) ∧ ((i1_0 : Int) = i1_0) ∧ ((((getx l1_1 i1_0) : Int) = (getx l1_1 i1_0)) ∧ (((gety l1_1 i1_0) : Int) = (gety l1_1 i1_0)) ∧ True) ∧ (true = true) ∧ ((i1_0 : Int) = i1_0) ∧ (((ilen l1_1) : Int) = (ilen l1_1)) ∧ (((ilt i1_0 (ilen l1_1)) : Bool) = (ilt i1_0 (ilen l1_1))) ∧ ((i1_0 : Int) = i1_0) ∧ (((a1 : Int) = a1) ∧ ((a2 : Int) = a2) ∧ True) ∧ (true = true) ∧ (true = true) ∧ (((a1 : Int) = a1) ∧ ((a2 : Int) = a2) ∧ True) ∧ (((a1 : Int) = a1) ∧ ((a2 : Int) = a2) ∧ True) ∧ ((Cont.boolss l) = (Cont.boolss l)) ∧ (((tblB l) : Bool) = (tblB l)) ∧ (((bnot (tblB l)) : Bool) = (bnot (tblB l))) ∧ (((bnot (tblB l)) : Bool) = (bnot (tblB l))) ∧ (((bite (bnot (tblB l)) true (bnot (freeB l a1 a2))) : Bool) = (bite (bnot (tblB l)) true (bnot (freeB l a1 a2)))) ∧ (((bite (bnot (tblB l)) true (bnot (freeB l a1 a2))) : Bool) = (bite (bnot (tblB l)) true (bnot (freeB l a1 a2)))) ∧ (((bite (bite (bnot (tblB l)) true (bnot (freeB l a1 a2))) true (bnot (freeB l z1 z2))) : Bool) = (bite (bite (bnot (tblB l)) true (bnot (freeB l a1 a2))) true (bnot (freeB l z1 z2)))) ∧ (true = true) ∧ (true = true) ∧ (true = true) ∧ ((Cont.boolss l) = (Cont.boolss l)) ∧ (((a1 : Int) = a1) ∧ ((a2 : Int) = a2) ∧ True) ∧ (((z1 : Int) = z1) ∧ ((z2 : Int) = z2) ∧ True) ∧ True) ∧ (((l2_2 : List Pt) = l2_2) ∧ ((true = true) ∧ ((Cont.pts l2_1) = (Cont.pts l2_1))) ∧ ((true = true) ∧ ((Cont.pts [((isub (getx l1_1 i1_0) (1 : Int)), (gety l1_1 i1_0)), ((getx l1_1 i1_0), (isub (gety l1_1 i1_0) (1 : Int))), ((getx l1_1 i1_0), (iadd (gety l1_1 i1_0) (1 : Int))), ((iadd (getx l1_1 i1_0) (1 : Int)), (gety l1_1 i1_0))]) = (Cont.pts [((isub (getx l1_1 i1_0) (1 : Int)), (gety l1_1 i1_0)), ((getx l1_1 i1_0), (isub (gety l1_1 i1_0) (1 : Int))), ((getx l1_1 i1_0), (iadd (gety l1_1 i1_0) (1 : Int))), ((iadd (getx l1_1 i1_0) (1 : Int)), (gety l1_1 i1_0))]))) ∧ ((((getx l1_1 i1_0) : Int) = (getx l1_1 i1_0)) ∧ (((gety l1_1 i1_0) : Int) = (gety l1_1 i1_0)) ∧ True) ∧ (((a1 : Int) = a1) ∧ ((a2 : Int) = a2) ∧ True) ∧ (((z1 : Int) = z1) ∧ ((z2 : Int) = z2) ∧ True) ∧ ((true = true) ∧ ((Cont.pts []) = (Cont.pts []))) ∧ True)) ∧ ((([GK.int, GK.pts, GK.pts] : List GK) = ([GK.int, GK.pts, GK.pts] : List GK)) ∧ I2 [GV.int (iadd i2_0 (1 : Int)), GV.pts l2_1, GV.pts l2_2] ∧ μ2 [GV.int (iadd i2_0 (1 : Int)), GV.pts l2_1, GV.pts l2_2] < μ2 [GV.int i2_0, GV.pts l2_1, GV.pts l2_2]))))))))) ∧ ((ilt i2_0 (ilen [((isub (getx l1_1 i1_0) (1 : Int)), (gety l1_1 i1_0)), ((getx l1_1 i1_0), (isub (gety l1_1 i1_0) (1 : Int))), ((getx l1_1 i1_0), (iadd (gety l1_1 i1_0) (1 : Int))), ((iadd (getx l1_1 i1_0) (1 : Int)), (gety l1_1 i1_0))])) = false → ((true = true) ∧ ((True) ∧ (True) ∧ (True) ∧ True) ∧ ((true = true) ∧ ((((iadd i1_0 (1 : Int)) : Int) = (iadd i1_0 (1 : Int))) ∧ (((a1 : Int) = a1) ∧ ((a2 : Int) = a2) ∧ True) ∧ (true = true) ∧ (true = true) ∧ (((a1 : Int) = a1) ∧ ((a2 : Int) = a2) ∧ True) ∧ (((a1 : Int) = a1) ∧ ((a2 : Int) = a2) ∧ True) ∧ ((Cont.boolss l) = (Cont.boolss l)) ∧ (((tblB l) : Bool) = (tblB l)) ∧ (((bnot (tblB l)) : Bool) = (bnot (tblB l))) ∧ (((bnot (tblB l)) : Bool) = (bnot (tblB l))) ∧ (((bite (bnot (tblB l)) true (bnot (freeB l a1 a2))) : Bool) = (bite (bnot (tblB l)) true (bnot (freeB l a1 a2)))) ∧ (((bite (bnot (tblB l)) true (bnot (freeB l a1 a2))) : Bool) = (bite (bnot (tblB l)) true (bnot (freeB l a1 a2)))) ∧ (((bite (bite (bnot (tblB l)) true (bnot (freeB l a1 a2))) true (bnot (freeB l z1 z2))) : Bool) = (bite (bite (bnot (tblB l)) true (bnot (freeB l a1 a2))) true (bnot (freeB l z1 z2)))) ∧ (true = true) ∧ (true = true) ∧ (true = true) ∧ ((Cont.boolss l) = (Cont.boolss l)) ∧ (((a1 : Int) = a1) ∧ ((a2 : Int) = a2) ∧ True) ∧ (((z1 : Int) = z1) ∧ ((z2 : Int) = z2) ∧ True) ∧ True) ∧ (((l2_2 : List Pt) = l2_2) ∧ ((true = true) ∧ ((Cont.pts l2_1) = (Cont.pts l2_1))) ∧ (((a1 : Int) = a1) ∧ ((a2 : Int) = a2) ∧ True) ∧ (((z1 : Int) = z1) ∧ ((z2 : Int) = z2) ∧ True) ∧ ((true = true) ∧ ((Cont.pts []) = (Cont.pts []))) ∧ True)) ∧ ((([GK.int, GK.pts, GK.pts] : List GK) = ([GK.int, GK.pts, GK.pts] : List GK)) ∧ I1 [GV.int (iadd i1_0 (1 : Int)), GV.pts l2_1, GV.pts l2_2] ∧ μ1 [GV.int (iadd i1_0 (1 : Int)), GV.pts l2_1, GV.pts l2_2] < μ1 [GV.int i1_0, GV.pts l1_1, GV.pts l1_2]))))))) ∧ ((ilt i1_0 (ilen l1_1)) = false → ((true = true) ∧ ((True) ∧ (True) ∧ True) ∧ (true = true) ∧ (True) ∧ ((true = true) ∧ ((true = true) ∧ ((true = true) ∧ ((True) ∧ (True) ∧ (True) ∧ (true = true) ∧ ((True) ∧ (True) ∧ True) ∧ ((bnot (mhas l1_2 z1 z2)) = true → ((true = true) ∧ ((True) ∧ True) ∧ ((true = true) ∧ ((Cont.pts []) = (Cont.pts (plF l a1 a2 z1 z2)))) ∧ True)) ∧ ((bnot (mhas l1_2 z1 z2)) = false → ((true = true) ∧ ((True) ∧ (True) ∧ (True) ∧ True) ∧ (true = true) ∧ ((True) ∧ (True) ∧ True) ∧ (True) ∧ ∃ (I3 : List GV → Prop) (μ3 : List GV → Nat), (((true = true) ∧ ((((z1 : Int) = z1) ∧ ((z2 : Int) = z2) ∧ True) ∧ (true = true) ∧ (((z1 : Int) = z1) ∧ ((z2 : Int) = z2) ∧ True) ∧ (true = true) ∧ (((mhas l1_2 z1 z2) : Bool) = (mhas l1_2 z1 z2)) ∧ (((bnot (mhas l1_2 z1 z2)) : Bool) = (bnot (mhas l1_2 z1 z2))) ∧ (((mhas l1_2 z1 z2) : Bool) = (mhas l1_2 z1 z2)) ∧ (true = true) ∧ (((mhas l1_2 z1 z2) : Bool) = (mhas l1_2 z1 z2)) ∧ ((((mgx l1_2 z1 z2) : Int) = (mgx l1_2 z1 z2)) ∧ (((mgy l1_2 z1 z2) : Int) = (mgy l1_2 z1 z2)) ∧ True) ∧ (true = true) ∧ (((z1 : Int) = z1) ∧ ((z2 : Int) = z2) ∧ True) ∧ ((i1_0 : Int) = i1_0) ∧ (true = true) ∧ (((ilen l1_1) : Int) = (ilen l1_1)) ∧ (((ilt i1_0 (ilen l1_1)) : Bool) = (ilt i1_0 (ilen l1_1))) ∧ ((i1_0 : Int) = i1_0) ∧ (((a1 : Int) = a1) ∧ ((a2 : Int) = a2) ∧ True) ∧ (true = true) ∧ (true = true) ∧ (((a1 : Int) = a1) ∧ ((a2 : Int) = a2) ∧ True) ∧ (((a1 : Int) = a1) ∧ ((a2 : Int) = a2) ∧ True) ∧ ((Cont.boolss l) = (Cont.boolss l)) ∧ (((tblB l) : Bool) = (tblB l)) ∧ (((bnot (tblB l)) : Bool) = (bnot (tblB l))) ∧ (((bnot (tblB l)) : Bool) = (bnot (tblB l))) ∧ (((bite (bnot (tblB l)) true (bnot (freeB l a1 a2))) : Bool) = (bite (bnot (tblB l)) true (bnot (freeB l a1 a2)))) ∧ (((bite (bnot (tblB l)) true (bnot (freeB l a1 a2))) : Bool) = (bite (bnot (tblB l)) true (bnot (freeB l a1 a2)))) ∧ (((bite (bite (bnot (tblB l)) true (bnot (freeB l a1 a2))) true (bnot (freeB l z1 z2))) : Bool) = (bite (bite (bnot (tblB l)) true (bnot (freeB l a1 a2))) true (bnot (freeB l z1 z2)))) ∧ (true = true) ∧ (true = true) ∧ (true = true) ∧ ((Cont.boolss l) = (Cont.boolss l)) ∧ (((a1 : Int) = a1) ∧ ((a2 : Int) = a2) ∧ True) ∧ (((z1 : Int) = z1) ∧ ((z2 : Int) = z2) ∧ True) ∧ True) ∧ (((true = true) ∧ ((Cont.pts [(z1, z2)]) = (Cont.pts [(z1, z2)]))) ∧ (((z1 : Int) = z1) ∧ ((z2 : Int) = z2) ∧ True) ∧ ((((mgx l1_2 z1 z2) : Int) = (mgx l1_2 z1 z2)) ∧ (((mgy l1_2 z1 z2) : Int) = (mgy l1_2 z1 z2)) ∧ True) ∧ ((l1_2 : List Pt) = l1_2) ∧ ((true = true) ∧ ((Cont.pts l1_1) = (Cont.pts l1_1))) ∧ (((a1 : Int) = a1) ∧ ((a2 : Int) = a2) ∧ True) ∧ (((z1 : Int) = z1) ∧ ((z2 : Int) = z2) ∧ True) ∧ ((true = true) ∧ ((Cont.pts []) = (Cont.pts []))) ∧ True)) ∧ (([GK.int, GK.int, GK.pts] : List GK) = ([GK.int, GK.int, GK.pts] : List GK)) ∧ I3 [GV.int z1, GV.int z2, GV.pts [(z1, z2)]]) ∧ (∀ i3_0 : Int, ∀ i3_1 : Int, ∀ l3_2 : List Pt, I3 [GV.int i3_0, GV.int i3_1, GV.pts l3_2] → ((true = true) ∧ ((True) ∧ (True) ∧ (True) ∧ True) ∧ ((bnot (band (ieq i3_0 a1) (ieq i3_1 a2))) = true → ((true = true) ∧ ((True) ∧ (True) ∧ True) ∧ (true = true) ∧ (True) ∧ ((True) ∧ (true = true) ∧ ((True) ∧ (True) ∧ (True) ∧ True) ∧ (NLe (ilen l3_2) 1000000000 ∧ NLe (ilen [((mgx l1_2 i3_0 i3_1), (mgy l1_2 i3_0 i3_1))]) 1000000000) ∧ (True) ∧ (true = true) ∧ ((True) ∧ True) ∧ (true = true) ∧ ((True) ∧ True) ∧ (True) ∧ ((true = true) ∧ ((((z1 : Int) = z1) ∧ ((z2 : Int) = z2) ∧ True) ∧ (true = true) ∧ (((z1 : Int) = z1) ∧ ((z2 : Int) = z2) ∧ True) ∧ (true = true) ∧ (((mhas l1_2 z1 z2) : Bool) = (mhas l1_2 z1 z2)) ∧ (((bnot (mhas l1_2 z1 z2)) : Bool) = (bnot (mhas l1_2 z1 z2))) ∧ (((mhas l1_2 z1 z2) : Bool) = (mhas l1_2 z1 z2)) ∧ (true = true) ∧ (((mhas l1_2 z1 z2) : Bool) = (mhas l1_2 z1 z2)) ∧ ((((mgx l1_2 z1 z2) : Int) = (mgx l1_2 z1 z2)) ∧ (((mgy l1_2 z1 z2) : Int) = (mgy l1_2 z1 z2)) ∧ True) ∧ (true = true) ∧ (((z1 : Int) = z1) ∧ ((z2 : Int) = z2) ∧ True) ∧ ((i1_0 : Int) = i1_0) ∧ (true = true) ∧ (((ilen l1_1) : Int) = (ilen l1_1)) ∧ (((ilt i1_0 (ilen l1_1)) : Bool) = (ilt i1_0 (ilen l1_1))) ∧ ((i1_0 : Int) = i1_0) ∧ (((a1 : Int) = a1) ∧ ((a2 : Int) = a2) ∧ True) ∧ (true = true) ∧ (true = true) ∧ (((a1 : Int) = a1) ∧ ((a2 : Int) = a2) ∧ True) ∧ (((a1 : Int) = a1) ∧ ((a2 : Int) = a2) ∧ True) ∧ ((Cont.boolss l) = (Cont.boolss l)) ∧ (((tblB l) : Bool) = (tblB l)) ∧ (((bnot (tblB l)) : Bool) = (bnot (tblB l))) ∧ (((bnot (tblB l)) : Bool) = (bnot (tblB l))) ∧ (((bite (bnot (tblB l)) true (bnot (freeB l a1 a2))) : Bool) = (bite (bnot (tblB l)) true (bnot (freeB l a1 a2)))) ∧ (((bite (bnot (tblB l)) true (bnot (freeB l a1 a2))) : Bool) = (bite (bnot (tblB l)) true (bnot (freeB l a1 a2)))) ∧ (((bite (bite (bnot (tblB l)) true (bnot (freeB l a1 a2))) true (bnot (freeB l z1 z2))) : Bool) = (bite (bite (bnot (tblB l)) true (bnot (freeB l a1 a2))) true (bnot (freeB l z1 z2)))) ∧ (true = true) ∧ (true = true) ∧ (true = true) ∧ ((Cont.boolss l) = (Cont.boolss l)) ∧ (((a1 : Int) = a1) ∧ ((a2 : Int) = a2) ∧ True) ∧ (((z1 : Int) = z1) ∧ ((z2 : Int) = z2) ∧ True) ∧ True) ∧ (((true = true) ∧ ((Cont.pts (iapp l3_2 [((mgx l1_2 i3_0 i3_1), (mgy l1_2 i3_0 i3_1))])) = (Cont.pts (iapp l3_2 [((mgx l1_2 i3_0 i3_1), (mgy l1_2 i3_0 i3_1))])))) ∧ ((((mgx l1_2 i3_0 i3_1) : Int) = (mgx l1_2 i3_0 i3_1)) ∧ (((mgy l1_2 i3_0 i3_1) : Int) = (mgy l1_2 i3_0 i3_1)) ∧ True) ∧ ((((mgx l1_2 z1 z2) : Int) = (mgx l1_2 z1 z2)) ∧ (((mgy l1_2 z1 z2) : Int) = (mgy l1_2 z1 z2)) ∧ True) ∧ ((l1_2 : List Pt) = l1_2) ∧ ((true = true) ∧ ((Cont.pts l1_1) = (Cont.pts l1_1))) ∧ (((a1 : Int) = a1) ∧ ((a2 : Int) = a2) ∧ True) ∧ (((z1 : Int) = z1) ∧ ((z2 : Int) = z2) ∧ True) ∧ ((true = true) ∧ ((Cont.pts []) = (Cont.pts []))) ∧ True)) ∧ ((([GK.int, GK.int, GK.pts] : List GK) = ([GK.int, GK.int, GK.pts] : List GK)) ∧ I3 [GV.int (mgx l1_2 i3_0 i3_1), GV.int (mgy l1_2 i3_0 i3_1), GV.pts (iapp l3_2 [((mgx l1_2 i3_0 i3_1), (mgy l1_2 i3_0 i3_1))])] ∧ μ3 [GV.int (mgx l1_2 i3_0 i3_1), GV.int (mgy l1_2 i3_0 i3_1), GV.pts (iapp l3_2 [((mgx l1_2 i3_0 i3_1), (mgy l1_2 i3_0 i3_1))])] < μ3 [GV.int i3_0, GV.int i3_1, GV.pts l3_2])))) ∧ ((bnot (band (ieq i3_0 a1) (ieq i3_1 a2))) = false → ((true = true) ∧ ((True) ∧ True) ∧ (true = true) ∧ ((True)) ∧ (((True) → ((true = true) ∧ ((True) ∧ (True) ∧ True) ∧ ((true = true) ∧ ((Cont.pts (l3_2.reverse)) = (Cont.pts (plF l a1 a2 z1 z2)))) ∧ True)))))))))))))))))))))) = ev sig_impl_PlanPath xs_impl_PlanPath Try.f16.ntmps (fun b => if b == 0 then [.v 9, .b 8, .b 7] else if b == 2 then [.v 76, .b 8, .b 7] else if b == 4 then [.b 18, .b 17] else []) (codeOf Try.f16) 0 (initS [.s (.view (.boolss l)), .agg [.int a1, .int a2], .agg [.int z1, .int z2]]) (retK Try.f16.results.toList [.nrow 29 (.pts (plF l a1 a2 z1 z2))]) := by kernel_rfl
set_option maxHeartbeats 1000000 in
theorem F_impl_PlanPath : FunOK 16 g_impl_PlanPath := by
  refine fun_F (by kernel_rfl) Try.func16 rfl (by kernel_rfl) sig_impl_PlanPath_ok xs_impl_PlanPath_ok ?_
  intro avs sg h hn hl
  unfold g_impl_PlanPath at h
  split at h
  · rename_i l a1 a2 z1 z2
    injection h with h; subst h
    refine ⟨by kernel_rfl, fun b => if b == 0 then [.v 9, .b 8, .b 7] else if b == 2 then [.v 76, .b 8, .b 7] else if b == 4 then [.b 18, .b 17] else [], Eq.mp (V_impl_PlanPath l a1 a2 z1 z2) ?_⟩
    simp only [true_and, and_true, implies_true, and_self, forall_const, true_implies, lenA, lenL, SV.lenOK, Cont.lenOK] at hn hl ⊢
    simp only [ilt_t, ilt_f, ile_t, ile_f, ieq_t, ieq_f, bnot_e, band_e, bite_and, bite_or, NLt_e, NLe_e, NNe_e, NIs_e, imax_e, imin_e, irem_e, Bool.not_eq_true', Bool.not_eq_false', Bool.and_eq_true, Bool.or_eq_true, Bool.or_eq_false_iff, Bool.and_eq_false_iff, Cont.pts.injEq, Cont.ints.injEq, Cont.bools.injEq, Cont.ptss.injEq, Cont.intss.injEq, Cont.boolss.injEq, true_and, and_true, implies_true]
    refine ⟨fun h => by unfold plF; rcases h with (h | h) | h <;> simp [h], fun h => ?_⟩
    obtain ⟨⟨ht, ha⟩, hz⟩ := h
    have hp : plF l a1 a2 z1 z2 = planB (frF l) (a1, a2) (z1, z2) := by unfold plF; simp only [ht, ha, hz, Bool.and_self, if_true]
    have hb := frF_in ht
    have hfa : frF l (a1, a2) = true := ha
    rw [hp]
    refine ⟨rfl, ?_⟩
    refine ⟨fun | [.int k, .pts q, .pts m] => 0 ≤ k ∧ k ≤ ilen q ∧ ∃ b, (q, b) = bfK (frF l) (a1, a2) k.toNat ∧ MR q b m | _ => False, fun | .int k :: _ => (401 - k).toNat | _ => 0, ⟨by omega, by rw [ilen_one]; omega, [-1], rfl, MR.ini a1 a2⟩, ?_⟩
    rintro k q m ⟨k0, kq, b, hs, hM⟩
    obtain ⟨n, rfl⟩ := Int.eq_ofNat_of_zero_le k0
    rw [Int.toNat_natCast] at hs
    have hI := (bfK_ok hfa n).1
    rw [← hs] at hI
    have hlen := bi_len hI hb
    have wf := hI.wf hb
    have hl0 : ilen q ≤ 400 := wf.2.1
    refine ⟨fun hc => ⟨⟨⟨k0, hc⟩, hc⟩, ?_⟩, fun hc => ⟨fun hx => ?_, fun hx => ?_⟩⟩
    · have hcn : q[n]? = some (getx q n, gety q n) := by have := pt_at k0 hc; rwa [Int.toNat_natCast] at this
      have hfr : freeB l (getx q n) (gety q n) = true := hI.free _ (List.mem_of_getElem? hcn)
      have hin := free_in ht hfr
      have e1 : isub (getx q n) 1 = getx q n - 1 := isub_e (by omega) (by omega)
      have e2 : isub (gety q n) 1 = gety q n - 1 := isub_e (by omega) (by omega)
      have e3 : iadd (getx q n) 1 = getx q n + 1 := iadd_e (by omega) (by omega)
      have e4 : iadd (gety q n) 1 = gety q n + 1 := iadd_e (by omega) (by omega)
      rw [e1, e2, e3, e4]
      have hN : [(getx q n - 1, gety q n), (getx q n, gety q n - 1), (getx q n, gety q n + 1), (getx q n + 1, gety q n)] = nbs (getx q n, gety q n) := rfl
      rw [hN]
      have hl4 : ilen (nbs (getx q n, gety q n)) = 4 := by simp [nbs, ilen]
      have hna : ∀ x ∈ nbs (getx q n, gety q n), adj (getx q n, gety q n) x := fun x hx => hx
      have hnS : bfS (frF l) n (q, b) = bfN (frF l) n (nbs (getx q n, gety q n)) (q, b) := by
        have := bfS_at (fr := frF l) (s := (q, b)) k0 hc
        rw [Int.toNat_natCast] at this; exact this
      generalize nbs (getx q n, gety q n) = nb at *
      rw [hl4]
      refine ⟨fun | [.int j, .pts q', .pts m'] => 0 ≤ j ∧ j ≤ 4 ∧ ∃ b', (q', b') = bfN (frF l) n (nb.take j.toNat) (q, b) ∧ MR q' b' m' | _ => False, fun | .int j :: _ => (4 - j).toNat | _ => 0, ⟨by omega, by omega, b, rfl, hM⟩, ?_⟩
      rintro j q' m' ⟨j0, j4, b', hs', hM'⟩
      obtain ⟨hI', hX, -⟩ := bfN_ok (nb.take j.toNat) (q, b) hI hcn (fun x hx => hna x (List.mem_of_mem_take hx))
      rw [← hs'] at hI' hX
      have hl' := (hI'.wf hb).2.1
      have hlb := hI'.len
      simp only at hl' hlb
      refine ⟨fun hj => ?_, fun hj => ?_⟩
      · have ej : iadd j 1 = j + 1 := iadd_e (by omega) (by omega)
        have ht1 := take_1 (l := nb) j0 (by omega)
        have hst : bfN (frF l) n (nb.take (j + 1).toNat) (q, b) = if !(q'.contains (getx nb j, gety nb j)) && frF l (getx nb j, gety nb j) then (q' ++ [(getx nb j, gety nb j)], b' ++ [(n : Int)]) else (q', b') := by
          rw [ht1, bfN_app, ← hs', bfN_one]
        rw [← hM'.has] at hst
        rw [ej]
        generalize getx nb j = X at *
        generalize gety nb j = Y at *
        refine ⟨⟨⟨j0, hj⟩, hj⟩, fun hx2 => ⟨hx2.1, ⟨by omega, by rw [ilen_one]; omega⟩, ⟨by omega, by omega, b' ++ [(n : Int)], ?_, ?_⟩, by show (4 - (j + 1)).toNat < (4 - j).toNat; omega⟩, fun hx2 => ⟨⟨by omega, by omega, b', ?_, hM'⟩, by show (4 - (j + 1)).toNat < (4 - j).toNat; omega⟩⟩
        · have hf2 : frF l (X, Y) = true := hx2.2
          rw [hst, hx2.1, hf2]
          unfold iapp
          rfl
        · have hk' : q'[n]? = some (getx q n, gety q n) := hX.q hcn
          have := hM'.add hlb hk' (n := (X, Y)) hx2.1 (fun i j hi hj => by
            obtain ⟨j', e, h1, h2, c, d, h3, _⟩ := hI'.back i _ hi hj
            have : j = j' := by omega
            subst this
            exact (List.getElem?_eq_some_iff.1 h3).1)
          unfold iapp
          exact this
        · rw [hst]
          rcases hx2 with h | h
          · rw [h]; rfl
          · have hf2 : frF l (X, Y) = false := h
            rw [hf2]; simp
      · have e4 : j = 4 := by omega
        subst e4
        have hnl : nb.take (4 : Int).toNat = nb := List.take_of_length_le (by unfold ilen at hl4; omega)
        rw [hnl, ← hnS] at hs'
        have hK : (q', b') = bfK (frF l) (a1, a2) (n + 1) := by rw [hs', hs]; rfl
        have hEx : Ext (q, b) (q', b') := hX
        rw [iadd_e (by omega) (by omega)]
        have hgk := (ext_get hEx k0 hc).2.2
        simp only at hgk
        exact ⟨⟨by omega, by omega, b', by rw [show ((n : Int) + 1).toNat = n + 1 by omega]; exact hK, hM'⟩, by show (401 - ((n : Int) + 1)).toNat < (401 - (n : Int)).toNat; omega⟩
    · refine (plan_none hb hfa (k := n) (by rw [← hs]; unfold ilen at hc; simp only; omega) ?_).symm
      rw [← hs]
      rw [hM.has, List.contains_eq_mem, decide_eq_false_iff_not] at hx
      exact hx
    · rw [hM.has, List.contains_eq_mem, decide_eq_true_eq] at hx
      obtain ⟨i, hi, e⟩ := List.mem_iff_getElem.1 hx
      have e' : q[i]? = some (z1, z2) := by rw [List.getElem?_eq_getElem hi, e]
      obtain ⟨-, mm, hPB, hCp⟩ := plan_at hb hfa (k := n) (i := i) (z := (z1, z2)) (by rw [← hs]; exact e') (i + 1) (by omega)
      rw [← hs] at hCp
      have hpl : (planB (frF l) (a1, a2) (z1, z2)).length ≤ 400 := by
        have := (hPB.toI hb).len
        unfold ilen at this; omega
      refine ⟨fun | [.int x, .int y, .pts p] => ∃ i P r, q[i]? = some (x, y) ∧ p.reverse = (x, y) :: r ∧ Cp q b i P ∧ P ++ r = planB (frF l) (a1, a2) (z1, z2) | _ => False, fun | [_, _, .pts p] => (401 - ilen p).toNat | _ => 0, ⟨i, _, [], e', rfl, hCp, List.append_nil _⟩, ?_⟩
      rintro x y p ⟨i, P, r, hq, hr, hC, hP⟩
      have hlp : ilen p + P.length = 1 + (planB (frF l) (a1, a2) (z1, z2)).length := by
        have h1 := congrArg List.length hr
        have h2 := congrArg List.length hP
        simp at h1 h2
        unfold ilen; omega
      have hP1 : 1 ≤ P.length := by cases hC <;> simp
      refine ⟨fun hx2 => ?_, fun hx2 => ?_⟩
      · cases hC with
        | z h0 =>
          exfalso
          rw [hI.hd] at hq
          injection hq with hq; injection hq with q1 q2
          rcases hx2 with h | h
          · exact h q1.symm
          · exact h q2.symm
        | s h0 hbi hqi hC' =>
          rename_i j c P'
          rw [hq] at hqi
          injection hqi with hqi
          subst hqi
          have hg := hM.get i x y j h0 hq hbi
          refine ⟨⟨by omega, by rw [ilen_one]; omega⟩, ⟨j, P', (x, y) :: r, hg, ?_, hC', by rw [← hP]; simp⟩, ?_⟩
          · unfold iapp
            rw [List.reverse_append, hr]; rfl
          · show (401 - ilen (iapp p [(mgx m x y, mgy m x y)])).toNat < (401 - ilen p).toNat
            rw [ilen_app, ilen_one]
            omega
      · have h0 : i = 0 := by
          refine (List.getElem?_inj (List.getElem?_eq_some_iff.1 hq).1 hI.nd).1 ?_
          show q[i]? = q[0]?
          rw [hq, hI.hd, hx2.1, hx2.2]
        subst h0
        cases hC with
        | z h0 =>
          rw [hI.hd] at h0
          injection h0 with h0
          subst h0
          rw [hr, ← hP, hx2.1, hx2.2]; rfl
        | s h0 _ _ _ => omega
  · cases h
def g_laws_eqCell : List AV → Option Sg
  | [.agg [.int p1, .int p2], .agg [.int q1, .int q2]] => some ⟨True, [.s (.bool (eqPt p1 p2 q1 q2))]⟩
  | _ => none
def sig_laws_eqCell : FuncId → List AV → Option Sg := sigL []
def xs_laws_eqCell : XS := ⟨xsigL [], ysigL []⟩
theorem sig_laws_eqCell_ok : SigOK sig_laws_eqCell := sigL_nil
theorem xs_laws_eqCell_ok : XSigOK xs_laws_eqCell := ⟨xsigL_nil, ysigL_nil⟩
theorem V_laws_eqCell (p1 : Int) (p2 : Int) (q1 : Int) (q2 : Int) : ((true = true) ∧ ((True) ∧ (True) ∧ (True) ∧ True) ∧ (true = true) ∧ ((True) ∧ (True) ∧ (True) ∧ (True) ∧ (True) ∧ True) ∧ ((bnot (ieq p1 q1)) = true → ((true = true) ∧ ((True) ∧ True) ∧ ((false : Bool) = (eqPt p1 p2 q1 q2)) ∧ True)) ∧ ((bnot (ieq p1 q1)) = false → ((true = true) ∧ ((True) ∧ (True) ∧ (True) ∧ (True) ∧ (True) ∧ True) ∧ ((bnot (ieq p2 q2)) = true → ((true = true) ∧ ((True) ∧ True) ∧ ((false : Bool) = (eqPt p1 p2 q1 q2)) ∧ True)) ∧ ((bnot (ieq p2 q2)) = false → ((true = true) ∧ ((True) ∧ True) ∧ ((true : Bool) = (eqPt p1 p2 q1 q2)) ∧ True))))) = ev sig_laws_eqCell xs_laws_eqCell Try.f64.ntmps (fun b => []) (codeOf Try.f64) 0 (initS [.agg [.int p1, .int p2], .agg [.int q1, .int q2]]) (retK Try.f64.results.toList [.s (.bool (eqPt p1 p2 q1 q2))]) := by kernel_rfl
set_option maxHeartbeats 400000 in
theorem F_laws_eqCell : FunOK 64 g_laws_eqCell := by
  refine fun_F (by kernel_rfl) Try.func64 rfl (by kernel_rfl) sig_laws_eqCell_ok xs_laws_eqCell_ok ?_
  intro avs sg h hn hl
  unfold g_laws_eqCell at h
  split at h
  · rename_i p1 p2 q1 q2
    injection h with h; subst h
    refine ⟨by kernel_rfl, fun b => [], Eq.mp (V_laws_eqCell p1 p2 q1 q2) ?_⟩
    simp only [true_and, and_true, implies_true, and_self, forall_const, true_implies, lenA, lenL, SV.lenOK, Cont.lenOK] at hn hl ⊢
    simp only [ilt_t, ilt_f, ile_t, ile_f, ieq_t, ieq_f, bnot_e, band_e, bite_and, bite_or, NLt_e, NLe_e, NNe_e, NIs_e, imax_e, imin_e, irem_e, Bool.not_eq_true', Bool.not_eq_false', Bool.and_eq_true, Bool.or_eq_true, Bool.or_eq_false_iff, Bool.and_eq_false_iff, Cont.pts.injEq, Cont.ints.injEq, Cont.bools.injEq, Cont.ptss.injEq, Cont.intss.injEq, Cont.boolss.injEq, true_and, and_true, implies_true]
    unfold eqPt
    refine ⟨fun h => by simp [h], fun h => ⟨fun h2 => by simp [h2], fun h2 => by simp [h, h2]⟩⟩
  · cases h
def g_laws_eqCellS : List AV → Option Sg
  | [.s (.view (.pts l)), .s (.view (.pts m))] => some ⟨True, [.s (.bool (eqL l m))]⟩
  | _ => none
def sig_laws_eqCellS : FuncId → List AV → Option Sg := sigL [(64, g_laws_eqCell)]
def xs_laws_eqCellS : XS := ⟨xsigL [], ysigL []⟩
theorem sig_laws_eqCellS_ok : SigOK sig_laws_eqCellS := sigL_cons F_laws_eqCell sigL_nil
theorem xs_laws_eqCellS_ok : XSigOK xs_laws_eqCellS := ⟨xsigL_nil, ysigL_nil⟩
theorem V_laws_eqCellS (l : List Pt) (m : List Pt) : ((true = true) ∧ ((True) ∧ True) ∧ (true = true) ∧ ((True) ∧ (True) ∧ (True) ∧ (True) ∧ (True) ∧ True) ∧ ((bnot (ieq (ilen l) (ilen m))) = true → ((true = true) ∧ ((True) ∧ True) ∧ ((false : Bool) = (eqL l m)) ∧ True)) ∧ ((bnot (ieq (ilen l) (ilen m))) = false → ((true = true) ∧ ((True) ∧ True) ∧ ∃ (I1 : List GV → Prop) (μ1 : List GV → Nat), (((true = true) ∧ (((false : Bool) = false) ∧ (((0 : Int) : Int) = (0 : Int)) ∧ ((Cont.pts l) = (Cont.pts l)) ∧ (((ilen l) : Int) = (ilen l)) ∧ ((Cont.pts m) = (Cont.pts m)) ∧ (((ilen m) : Int) = (ilen m)) ∧ (((bnot (ieq (ilen l) (ilen m))) : Bool) = (bnot (ieq (ilen l) (ilen m)))) ∧ ((Cont.pts l) = (Cont.pts l)) ∧ ((Cont.pts m) = (Cont.pts m)) ∧ True) ∧ (True)) ∧ (([GK.int, GK.bool] : List GK) = ([GK.int, GK.bool] : List GK)) ∧ I1 [GV.int (0 : Int), GV.bool false]) ∧ (∀ i1_0 : Int, ∀ b1_1 : Bool, I1 [GV.int i1_0, GV.bool b1_1] → ((true = true) ∧ ((True) ∧ (True) ∧ (True) ∧ (True) ∧ True) ∧ ((ilt i1_0 (ilen l)) = true → ((true = true) ∧ ((True) ∧ (True) ∧ (NLe 0 i1_0 ∧ NLt i1_0 (ilen l)) ∧ (True) ∧ (True) ∧ (True) ∧ (NLe 0 i1_0 ∧ NLt i1_0 (ilen m)) ∧ (True) ∧ ((True)) ∧ (True) ∧ True) ∧ ((bnot (eqPt (getx l i1_0) (gety l i1_0) (getx m i1_0) (gety m i1_0))) = true → ((true = true) ∧ ((True) ∧ True) ∧ ((false : Bool) = (eqL l m)) ∧ True)) ∧ ((bnot (eqPt (getx l i1_0) (gety l i1_0) (getx m i1_0) (gety m i1_0))) = false → ((true = true) ∧ ((True) ∧ (True) ∧ (True) ∧ True) ∧ ((true = true) ∧ (((b1_1 : Bool) = b1_1) ∧ (((iadd i1_0 (1 : Int)) : Int) = (iadd i1_0 (1 : Int))) ∧ ((Cont.pts l) = (Cont.pts l)) ∧ (((ilen l) : Int) = (ilen l)) ∧ ((Cont.pts m) = (Cont.pts m)) ∧ (((ilen m) : Int) = (ilen m)) ∧ (((bnot (ieq (ilen l) (ilen m))) : Bool) = (bnot (ieq (ilen l) (ilen m)))) ∧ ((Cont.pts l) = (Cont.pts l)) ∧ ((Cont.pts m) = (Cont.pts m)) ∧ True) ∧ (True)) ∧ ((([GK.int, GK.bool] : List GK) = ([GK.int, GK.bool] : List GK)) ∧ I1 [GV.int (iadd i1_0 (1 : Int)), GV.bool b1_1] ∧ μ1 [GV.int (iadd i1_0 (1 : Int)), GV.bool b1_1] < μ1 [GV.int i1_0, GV.bool b1_1]))))) ∧ ((ilt i1_0 (ilen l)) = false → ((true = true) ∧ ((True) ∧ True) ∧ ((true : Bool) = (eqL l m)) ∧ True))))))) = ev sig_laws_eqCellS xs_laws_eqCellS Try.f17.ntmps (fun b => if b == 0 then [.v 5, .v 4] else []) (codeOf Try.f17) 0 (initS [.s (.view (.pts l)), .s (.view (.pts m))]) (retK Try.f17.results.toList [.s (.bool (eqL l m))]) := by kernel_rfl
set_option maxHeartbeats 400000 in
theorem F_laws_eqCellS : FunOK 17 g_laws_eqCellS := by
  refine fun_F (by kernel_rfl) Try.func17 rfl (by kernel_rfl) sig_laws_eqCellS_ok xs_laws_eqCellS_ok ?_
  intro avs sg h hn hl
  unfold g_laws_eqCellS at h
  split at h
  · rename_i l m
    injection h with h; subst h
    refine ⟨by kernel_rfl, fun b => if b == 0 then [.v 5, .v 4] else [], Eq.mp (V_laws_eqCellS l m) ?_⟩
    simp only [true_and, and_true, implies_true, and_self, forall_const, true_implies, lenA, lenL, SV.lenOK, Cont.lenOK] at hn hl ⊢
    have h0 := ilen_0 l
    simp only [ilt_t, ilt_f, ile_t, ile_f, ieq_t, ieq_f, bnot_e, band_e, bite_and, bite_or, NLt_e, NLe_e, NNe_e, NIs_e, imax_e, imin_e, irem_e, Bool.not_eq_true', Bool.not_eq_false', Bool.and_eq_true, Bool.or_eq_true, Bool.or_eq_false_iff, Bool.and_eq_false_iff, Cont.pts.injEq, Cont.ints.injEq, Cont.bools.injEq, Cont.ptss.injEq, Cont.intss.injEq, Cont.boolss.injEq, true_and, and_true, implies_true]
    unfold eqL
    refine ⟨fun h => by simp [h], fun h => ?_⟩
    refine ⟨fun | .int k :: _ => 0 ≤ k ∧ k ≤ ilen l ∧ ∀ j, 0 ≤ j → j < k → eqPt (getx l j) (gety l j) (getx m j) (gety m j) = true | _ => False, fun | .int k :: _ => (ilen l - k).toNat | _ => 0, ?_, ?_⟩
    · exact ⟨Int.le_refl 0, h0, fun j h0 h1 => absurd h1 (by omega)⟩
    · rintro k _ ⟨hk0, hk1, hk⟩
      simp only [ilt_t, ilt_f, ile_t, ile_f, ieq_t, ieq_f, bnot_e, band_e, bite_and, bite_or, NLt_e, NLe_e, NNe_e, NIs_e, imax_e, imin_e, irem_e, Bool.not_eq_true', Bool.not_eq_false', Bool.and_eq_true, Bool.or_eq_true, Bool.or_eq_false_iff, Bool.and_eq_false_iff, Cont.pts.injEq, Cont.ints.injEq, Cont.bools.injEq, Cont.ptss.injEq, Cont.intss.injEq, Cont.boolss.injEq, true_and, and_true, implies_true]
      refine ⟨fun hc => ⟨⟨⟨hk0, hc⟩, hk0, by omega⟩, fun hv => ?_, fun hv => ?_⟩, fun hc => ?_⟩
      · rw [allN_no k hk0 hc hv]; simp
      · rw [iadd_1 hk0 hc hl.1]
        exact ⟨⟨by omega, by omega, allN_up hk hv⟩, by omega⟩
      · rw [allN_mk fun j h0 h1 => hk j h0 (by omega)]; simp [h]
  · cases h
end Go.Proofs.Ytdpokkegkedlfaa

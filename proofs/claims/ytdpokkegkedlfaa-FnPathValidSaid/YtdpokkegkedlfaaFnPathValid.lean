/- 'FnPathValid': for every code both sides agree whether a drawn list of cells is a path on a drawn table; of a path the first cell alone is one, and the reversed list; with its first cell once more behind the reversed list it is none. Conditions: none. -/
import Derived.Test.YtdpokkegkedlfaaTabl
namespace Go.Proofs.Ytdpokkegkedlfaa
open Go.ChangeShapes Go.WideShapes Go.ChangeAt Go.RowKit
set_option maxRecDepth 100000
set_option linter.unusedSimpArgs false
set_option linter.unusedVariables false
theorem bxor_self (a : Bool) : bxor a a = false := by cases a <;> simp [bxor]
def tblE (l : List (List Bool)) (i : Int) : Bool := decide (ilen (getl l i) ≤ 20 ∧ ilen (getl l i) = ilen (getl l 0))
def tblB (l : List (List Bool)) : Bool := decide (ilen l ≤ 20) && allN (ilen l) (tblE l)
def freeB (l : List (List Bool)) (c1 c2 : Int) : Bool := decide (0 ≤ c1 ∧ c1 < ilen l) && decide (0 ≤ c2 ∧ c2 < ilen (getl l c1)) && getb (getl l c1) c2
def stepB (p : List Pt) (i : Int) : Bool := decide (max (getx p i - getx p (i - 1)) (getx p (i - 1) - getx p i) + max (gety p i - gety p (i - 1)) (gety p (i - 1) - gety p i) = 1)
def pvE (l : List (List Bool)) (p : List Pt) (i : Int) : Bool := freeB l (getx p i) (gety p i) && (decide (i ≤ 0) || stepB p i)
def pvB (l : List (List Bool)) (p : List Pt) : Bool := tblB l && inB (ilen p) 1 400 && allN (ilen p) (pvE l p)
theorem free_in {l : List (List Bool)} {c1 c2 : Int} (ht : tblB l = true) (h : freeB l c1 c2 = true) : 0 ≤ c1 ∧ c1 < 20 ∧ 0 ≤ c2 ∧ c2 < 20 := by
  unfold freeB at h
  unfold tblB at ht
  simp only [Bool.and_eq_true, decide_eq_true_eq] at h ht
  have := allN_iff.1 ht.2 c1 h.1.1.1 h.1.1.2
  unfold tblE at this
  simp only [decide_eq_true_eq] at this
  omega
theorem sq_1 {d : Int} (h : d * d ≤ 1) : -1 ≤ d ∧ d ≤ 1 := by
  constructor
  · apply Classical.byContradiction; intro hn
    have := Int.mul_le_mul (show 2 ≤ -d by omega) (show 2 ≤ -d by omega) (by decide) (by omega)
    rw [Int.neg_mul_neg] at this; omega
  · apply Classical.byContradiction; intro hn
    have := Int.mul_le_mul (show 2 ≤ d by omega) (show 2 ≤ d by omega) (by decide) (by omega)
    omega
theorem sq_0 (d : Int) : 0 ≤ d * d := by
  rcases Int.le_total 0 d with h | h
  · exact Int.mul_nonneg h h
  · exact Int.mul_nonneg_of_nonpos_of_nonpos h h
theorem step_e {d e : Int} : d * d + e * e = 1 ↔ max d (-d) + max e (-e) = 1 := by
  constructor
  · intro h
    have := sq_0 d; have := sq_0 e
    have h1 := sq_1 (d := d) (by omega)
    have h2 := sq_1 (d := e) (by omega)
    rcases (show d = -1 ∨ d = 0 ∨ d = 1 by omega) with rfl | rfl | rfl <;> rcases (show e = -1 ∨ e = 0 ∨ e = 1 by omega) with rfl | rfl | rfl <;> first | rfl | (exfalso; revert h; decide)
  · intro h
    have : (d = 1 ∧ e = 0) ∨ (d = -1 ∧ e = 0) ∨ (d = 0 ∧ e = 1) ∨ (d = 0 ∧ e = -1) := by omega
    rcases this with ⟨rfl, rfl⟩ | ⟨rfl, rfl⟩ | ⟨rfl, rfl⟩ | ⟨rfl, rfl⟩ <;> decide
theorem getl_any {α : Type} {l : List (List α)} (h : ∀ m ∈ l, ilen m ≤ 9223372036854775807) (j : Int) : ilen (getl l j) ≤ 9223372036854775807 := by
  unfold getl
  rw [List.getD_eq_getElem?_getD]
  by_cases hj : j.toNat < l.length
  · rw [List.getElem?_eq_getElem hj]; exact h _ (List.getElem_mem _)
  · rw [List.getElem?_eq_none (by omega)]; simp [ilen]
def crW (a1 a2 b1 b2 c1 c2 : Int) : Int := isub (imul (isub b1 a1) (isub c2 a2)) (imul (isub b2 a2) (isub c1 a1))
def cr (l : List Pt) (i j k : Int) : Int := crW (getx l i) (gety l i) (getx l j) (gety l j) (getx l k) (gety l k)
def nx (l : List Pt) (i : Int) : Int := (i + 1).tmod (ilen l)
def convE (l : List Pt) (i j : Int) : Bool := decide (j = i ∨ j = nx l i ∨ 0 < cr l i (nx l i) j)
def convB (l : List Pt) : Bool := inB (ilen l) 3 8 && allB l && allN (ilen l) fun i => allN (ilen l) fun j => convE l i j
theorem nx_in {l : List Pt} {i : Int} (h0 : 0 ≤ i) (h1 : i < ilen l) : 0 ≤ nx l i ∧ nx l i < ilen l ∧ ((i + 1 < ilen l ∧ nx l i = i + 1) ∨ (i + 1 = ilen l ∧ nx l i = 0)) := by
  have e : nx l i = (i + 1) % ilen l := Int.tmod_eq_emod_of_nonneg (by omega)
  rcases Int.lt_or_le (i + 1) (ilen l) with h | h
  · rw [e, Int.emod_eq_of_lt (by omega) h]; omega
  · have h2 : i + 1 = ilen l := by omega
    rw [e, h2, Int.emod_self]; omega
theorem allN_up {f : Int → Bool} {k : Int} (h : ∀ j, 0 ≤ j → j < k → f j = true) (hk : f k = true) : ∀ j, 0 ≤ j → j < k + 1 → f j = true := by
  intro j h0 h1
  rcases Int.lt_or_le j k with h2 | h2
  · exact h j h0 h2
  · rw [show j = k by omega]; exact hk
theorem upTo {P : Int → Prop} {k : Int} (h : ∀ j, 0 ≤ j → j < k → P j) (hk : P k) : ∀ j, 0 ≤ j → j < k + 1 → P j := by
  intro j h0 h1
  rcases Int.lt_or_le j k with h2 | h2
  · exact h j h0 h2
  · rw [show j = k by omega]; exact hk
theorem iadd_1 {k n : Int} (h0 : 0 ≤ k) (h1 : k < n) (h2 : n ≤ 9223372036854775807) : iadd k 1 = k + 1 := iadd_e (by omega) (by omega)
def pcE (l : List Pt) (i : Int) : Bool := decide (i = 0 ∨ i = ilen l - 1 ∨ isub (getx l i) (getx l (i - 1)) ≠ isub (getx l (i + 1)) (getx l i) ∨ isub (gety l i) (gety l (i - 1)) ≠ isub (gety l (i + 1)) (gety l i))
def pcL (l : List Pt) (k : Int) : List Pt := foldN k (fun o i => if pcE l i then iapp o [(getx l i, gety l i)] else o) []
def pcF (l : List Pt) : List Pt := if ilen l ≤ 400 then pcL l (ilen l) else []
theorem pcL_1 {l : List Pt} {k : Int} (h : 0 ≤ k) : pcL l (k + 1) = if pcE l k then iapp (pcL l k) [(getx l k, gety l k)] else pcL l k := by unfold pcL; rw [foldN_1 h]
theorem pcL_len {l : List Pt} (k : Nat) : ilen (pcL l k) ≤ k := by
  induction k with
  | zero => show ilen ([] : List Pt) ≤ 0; rw [ilen_nil]; omega
  | succ k ih =>
    rw [show ((k + 1 : Nat) : Int) = (k : Int) + 1 by omega, pcL_1 (by omega)]
    split
    · rw [ilen_app, ilen_one]; omega
    · omega
/-- Every step changes one coordinate at most. -/
def stp1 (l : List Pt) : Prop := (∀ i, 0 ≤ i → i < ilen l → (-1000 ≤ getx l i ∧ getx l i ≤ 1000) ∧ (-1000 ≤ gety l i ∧ gety l i ≤ 1000)) ∧ ∀ i, 1 ≤ i → i < ilen l → getx l i = getx l (i - 1) ∨ gety l i = gety l (i - 1)
def one1 (o : List Pt) : Prop := ∀ i, 1 ≤ i → i < ilen o → getx o i = getx o (i - 1) ∨ gety o i = gety o (i - 1)
structure PcI (l : List Pt) (k : Int) (o : List Pt) (j : Int) : Prop where
  j0 : 0 ≤ j
  jk : j < k
  len : 1 ≤ ilen o ∧ ilen o ≤ k
  hd : getx o 0 = getx l 0 ∧ gety o 0 = gety l 0
  last : getx o (ilen o - 1) = getx l j ∧ gety o (ilen o - 1) = gety l j
  one : one1 o
  gap : ∀ t, j < t → t < k → pcE l t = false
theorem pc_run {l : List Pt} (h : stp1 l) {j k : Int} (j0 : 0 ≤ j) (hjk : j < k) (hk : k < ilen l) (gap : ∀ t, j < t → t < k → pcE l t = false) : getx l k = getx l j ∨ gety l k = gety l j := by
  obtain ⟨hb, hs⟩ := h
  have eqs : ∀ t, j < t → t < k → getx l (t + 1) - getx l t = getx l t - getx l (t - 1) ∧ gety l (t + 1) - gety l t = gety l t - gety l (t - 1) := fun t t0 t1 => by
    have g := gap t t0 t1
    unfold pcE at g
    simp only [decide_eq_false_iff_not, not_or, Decidable.not_not, ne_eq] at g
    have b1 := hb (t - 1) (by omega) (by omega)
    have b2 := hb t (by omega) (by omega)
    have b3 := hb (t + 1) (by omega) (by omega)
    rw [isub_e (by omega) (by omega), isub_e (by omega) (by omega), isub_e (by omega) (by omega), isub_e (by omega) (by omega)] at g
    omega
  have go : ∀ (n : Nat), (n : Int) + 1 ≤ k - j → (getx l (j + n + 1) - getx l (j + n) = getx l (j + 1) - getx l j ∧ gety l (j + n + 1) - gety l (j + n) = gety l (j + 1) - gety l j) := by
    intro n
    induction n with
    | zero => intro _; simp
    | succ n ih =>
      intro hn
      have h1 := ih (by omega)
      have h2 := eqs (j + n + 1) (by omega) (by omega)
      rw [show j + (n : Int) + 1 - 1 = j + n by omega] at h2
      rw [show j + ((n + 1 : Nat) : Int) + 1 = j + n + 1 + 1 by omega, show j + ((n + 1 : Nat) : Int) = j + n + 1 by omega]
      omega
  have h0 := hs (j + 1) (by omega) (by omega)
  rw [show j + 1 - 1 = j by omega] at h0
  have sum : ∀ (n : Nat), (n : Int) ≤ k - j → (getx l (j + 1) = getx l j → getx l (j + n) = getx l j) ∧ (gety l (j + 1) = gety l j → gety l (j + n) = gety l j) := by
    intro n
    induction n with
    | zero => intro _; simp
    | succ n ih =>
      intro hn
      have h1 := ih (by omega)
      have h2 := go n (by omega)
      rw [show j + ((n + 1 : Nat) : Int) = j + n + 1 by omega]
      exact ⟨fun e => by have := h1.1 e; omega, fun e => by have := h1.2 e; omega⟩
  have := sum (k - j).toNat (by omega)
  rw [show j + ((k - j).toNat : Int) = k by omega] at this
  rcases h0 with e | e
  · exact .inl (this.1 e)
  · exact .inr (this.2 e)
theorem pc_inv {l : List Pt} (h : stp1 l) (hl : 1 ≤ ilen l) : ∀ (n : Nat), (n : Int) + 1 ≤ ilen l → ∃ j, PcI l (n + 1) (pcL l (n + 1)) j ∧ (pcE l n = true → j = n)
  | 0, _ => by
    have e0 : pcE l 0 = true := by unfold pcE; simp
    have e : pcL l ((0 : Nat) + 1) = [(getx l 0, gety l 0)] := by
      rw [pcL_1 (k := ((0 : Nat) : Int)) (by omega)]
      simp only [Int.natCast_zero, Int.ofNat_zero]
      rw [if_pos e0]
      show iapp ([] : List Pt) _ = _
      unfold iapp; simp
    refine ⟨0, ⟨by omega, by omega, ?_, ?_, ?_, ?_, fun t t0 t1 => by omega⟩, fun _ => rfl⟩
    · rw [e, ilen_one]; omega
    · rw [e, getx_one, gety_one]; exact ⟨rfl, rfl⟩
    · rw [e, ilen_one, show (1 : Int) - 1 = 0 by omega, getx_one, gety_one]; exact ⟨rfl, rfl⟩
    · rw [e]; intro i i0 i1; rw [ilen_one] at i1; omega
  | n + 1, hn => by
    obtain ⟨j, ih, _⟩ := pc_inv h hl n (by omega)
    have ec : ((n + 1 : Nat) : Int) = (n : Int) + 1 := by omega
    rw [ec]
    have e := pcL_1 (l := l) (k := (n : Int) + 1) (by omega)
    by_cases hE : pcE l ((n : Int) + 1) = true
    · rw [if_pos hE] at e
      refine ⟨n + 1, ⟨by omega, by omega, ?_, ?_, ?_, ?_, fun t t0 t1 => by omega⟩, fun _ => rfl⟩
      · rw [e, ilen_app, ilen_one]; have := ih.len; omega
      · have := ih.len
        rw [e, getx_app (by omega), gety_app (by omega), if_pos (by omega), if_pos (by omega)]; exact ih.hd
      · have := ih.len
        rw [e, ilen_app, ilen_one, getx_app (by omega), gety_app (by omega), if_neg (by omega), if_neg (by omega), show ilen (pcL l ((n : Int) + 1)) + 1 - 1 - ilen (pcL l ((n : Int) + 1)) = 0 by omega, getx_one, gety_one]; exact ⟨rfl, rfl⟩
      · have hlen := ih.len
        intro i i0 i1
        rw [e] at i1 ⊢
        rw [ilen_app, ilen_one] at i1
        rw [getx_app (by omega), gety_app (by omega), getx_app (by omega), gety_app (by omega), if_pos (show i - 1 < ilen (pcL l ((n : Int) + 1)) by omega), if_pos (show i - 1 < ilen (pcL l ((n : Int) + 1)) by omega)]
        by_cases hi : i < ilen (pcL l ((n : Int) + 1))
        · rw [if_pos hi, if_pos hi]; exact ih.one i i0 hi
        · have ei : i = ilen (pcL l ((n : Int) + 1)) := by omega
          rw [if_neg hi, if_neg hi, ei, Int.sub_self, getx_one, gety_one, ih.last.1, ih.last.2]
          exact pc_run h ih.j0 ih.jk (by omega) ih.gap
    · rw [if_neg hE] at e
      refine ⟨j, ⟨ih.j0, by have := ih.jk; omega, ?_, ?_, ?_, ?_, fun t t0 t1 => ?_⟩, fun hh => absurd hh hE⟩
      · rw [e]; have := ih.len; omega
      · rw [e]; exact ih.hd
      · rw [e]; exact ih.last
      · rw [e]; exact ih.one
      · rcases Int.lt_or_le t ((n : Int) + 1) with g | g
        · exact ih.gap t t0 g
        · rw [show t = (n : Int) + 1 by omega]; simpa using hE
theorem pc_fin {l : List Pt} (h : stp1 l) (h1 : 1 ≤ ilen l) (h2 : ilen l ≤ 400) : (1 ≤ ilen (pcF l) ∧ ilen (pcF l) ≤ ilen l) ∧ (getx (pcF l) 0 = getx l 0 ∧ gety (pcF l) 0 = gety l 0) ∧ (getx (pcF l) (ilen (pcF l) - 1) = getx l (ilen l - 1) ∧ gety (pcF l) (ilen (pcF l) - 1) = gety l (ilen l - 1)) ∧ one1 (pcF l) := by
  unfold pcF
  rw [if_pos h2]
  obtain ⟨j, ih, hj⟩ := pc_inv h h1 (ilen l - 1).toNat (by omega)
  rw [show (((ilen l - 1).toNat : Nat) : Int) = ilen l - 1 by omega] at ih hj
  have : pcE l (ilen l - 1) = true := by unfold pcE; simp
  have ej := hj this
  rw [show ilen l - 1 + 1 = ilen l by omega] at ih
  refine ⟨by have := ih.len; omega, ih.hd, ?_, ih.one⟩
  rw [ih.last.1, ih.last.2, ej]; exact ⟨rfl, rfl⟩
def nbs (c : Pt) : List Pt := [(c.1 - 1, c.2), (c.1, c.2 - 1), (c.1, c.2 + 1), (c.1 + 1, c.2)]
def bfN (fr : Pt → Bool) (k : Int) : List Pt → List Pt × List Int → List Pt × List Int
  | [], s => s
  | n :: l, s => bfN fr k l (if !(s.1.contains n) && fr n then (s.1 ++ [n], s.2 ++ [k]) else s)
def bfS (fr : Pt → Bool) (k : Nat) (s : List Pt × List Int) : List Pt × List Int := match s.1[k]? with
  | some c => bfN fr k (nbs c) s
  | none => s
def bfK (fr : Pt → Bool) (a : Pt) : Nat → List Pt × List Int
  | 0 => ([a], [-1])
  | k + 1 => bfS fr k (bfK fr a k)
def adj (c d : Pt) : Prop := d ∈ nbs c
theorem adj_symm {c d : Pt} (h : adj c d) : adj d c := by
  obtain ⟨c1, c2⟩ := c; obtain ⟨d1, d2⟩ := d
  simp only [adj, nbs, List.mem_cons, Prod.mk.injEq, List.not_mem_nil, or_false] at h ⊢
  omega
/-- What holds of the search when the first k cells have been looked at. -/
structure BI (fr : Pt → Bool) (a : Pt) (k : Nat) (s : List Pt × List Int) : Prop where
  len : s.2.length = s.1.length
  pos : 0 < s.1.length
  hd : s.1[0]? = some a
  hb : s.2[0]? = some (-1)
  nd : s.1.Nodup
  free : ∀ c ∈ s.1, fr c = true
  back : ∀ (i : Nat) (b : Int), 0 < i → s.2[i]? = some b → ∃ j : Nat, b = j ∧ j < i ∧ j ≤ k ∧ ∃ c d, s.1[j]? = some c ∧ s.1[i]? = some d ∧ adj c d
  mono : ∀ (i j : Nat) (b c : Int), i ≤ j → s.2[i]? = some b → s.2[j]? = some c → b ≤ c
/-- Cells found from the first k ones. -/
def BC (fr : Pt → Bool) (k : Nat) (s : List Pt × List Int) : Prop := ∀ (j : Nat) (c n : Pt), j < k → s.1[j]? = some c → n ∈ nbs c → fr n = true → ∃ (i : Nat) (b : Int), s.1[i]? = some n ∧ s.2[i]? = some b ∧ b ≤ (j : Int)
def Ext (s t : List Pt × List Int) : Prop := (∃ m, t.1 = s.1 ++ m) ∧ ∃ m, t.2 = s.2 ++ m
theorem Ext.refl (s : List Pt × List Int) : Ext s s := ⟨⟨[], by simp⟩, ⟨[], by simp⟩⟩
theorem Ext.trans {s t u : List Pt × List Int} (h : Ext s t) (g : Ext t u) : Ext s u := by
  obtain ⟨⟨m1, e1⟩, ⟨m2, e2⟩⟩ := h; obtain ⟨⟨m3, e3⟩, ⟨m4, e4⟩⟩ := g
  exact ⟨⟨m1 ++ m3, by rw [e3, e1, List.append_assoc]⟩, ⟨m2 ++ m4, by rw [e4, e2, List.append_assoc]⟩⟩
theorem get_ext {α : Type} {l m : List α} {i : Nat} {x : α} (h : l[i]? = some x) : (l ++ m)[i]? = some x := by
  have := (List.getElem?_eq_some_iff.1 h).1
  rw [List.getElem?_append_left this]; exact h
theorem Ext.q {s t : List Pt × List Int} (h : Ext s t) {i : Nat} {x : Pt} (hx : s.1[i]? = some x) : t.1[i]? = some x := by
  obtain ⟨⟨m1, e1⟩, _⟩ := h; rw [e1]; exact get_ext hx
theorem Ext.b {s t : List Pt × List Int} (h : Ext s t) {i : Nat} {x : Int} (hx : s.2[i]? = some x) : t.2[i]? = some x := by
  obtain ⟨_, ⟨m1, e1⟩⟩ := h; rw [e1]; exact get_ext hx
theorem get_snoc {α : Type} {l : List α} {y : α} {i : Nat} {x : α} (h : (l ++ [y])[i]? = some x) : (i < l.length ∧ l[i]? = some x) ∨ (i = l.length ∧ x = y) := by
  rcases Nat.lt_or_ge i l.length with h1 | h1
  · rw [List.getElem?_append_left h1] at h; exact .inl ⟨h1, h⟩
  · rw [List.getElem?_append_right h1] at h
    rcases Nat.eq_zero_or_pos (i - l.length) with h2 | h2
    · rw [h2] at h; exact .inr ⟨by omega, by simpa using h.symm⟩
    · rw [List.getElem?_eq_none (by simp; omega)] at h; cases h
theorem bi_add {fr : Pt → Bool} {a : Pt} {k : Nat} {s : List Pt × List Int} (h : BI fr a k s) {c n : Pt} (hc : s.1[k]? = some c) (hn : adj c n) (hf : fr n = true) (hq : ¬ n ∈ s.1) : BI fr a k (s.1 ++ [n], s.2 ++ [(k : Int)]) := by
  have hk := (List.getElem?_eq_some_iff.1 hc).1
  have hl := h.len
  refine ⟨by simp [hl], by simp, get_ext h.hd, get_ext h.hb, ?_, ?_, ?_, ?_⟩
  · rw [List.nodup_append]
    exact ⟨h.nd, by simp, fun x hx y hy e => by simp at hy; subst hy; subst e; exact hq hx⟩
  · intro x hx
    rcases List.mem_append.1 hx with hx | hx
    · exact h.free x hx
    · simp at hx; subst hx; exact hf
  · intro i b hi hb
    rcases get_snoc hb with ⟨h1, h2⟩ | ⟨h1, h2⟩
    · obtain ⟨j, e, hj, hjk, x, y, h3, h4, h5⟩ := h.back i b hi h2
      exact ⟨j, e, hj, hjk, x, y, get_ext h3, get_ext h4, h5⟩
    · exact ⟨k, h2, by omega, Nat.le_refl k, c, n, get_ext hc, by rw [h1, hl]; simp, hn⟩
  · intro i j b d hij hb hd
    rcases get_snoc hb with ⟨h1, h2⟩ | ⟨h1, h2⟩ <;> rcases get_snoc hd with ⟨h3, h4⟩ | ⟨h3, h4⟩
    · exact h.mono i j b d hij h2 h4
    · subst h4
      rcases Nat.eq_zero_or_pos i with h0 | h0
      · subst h0; rw [h.hb] at h2; injection h2 with h2; omega
      · obtain ⟨j', e, _, hjk, _⟩ := h.back i b h0 h2; omega
    · omega
    · omega
theorem bfN_ok {fr : Pt → Bool} {a : Pt} {k : Nat} {c : Pt} : ∀ (l : List Pt) (s : List Pt × List Int), BI fr a k s → s.1[k]? = some c → (∀ n ∈ l, adj c n) → BI fr a k (bfN fr k l s) ∧ Ext s (bfN fr k l s) ∧
    ∀ n ∈ l, fr n = true → ∃ (i : Nat) (b : Int), (bfN fr k l s).1[i]? = some n ∧ (bfN fr k l s).2[i]? = some b ∧ b ≤ (k : Int)
  | [], s, h, _, _ => ⟨h, Ext.refl s, fun n hn => by simp at hn⟩
  | n :: l, s, h, hc, ha => by
    have hal : ∀ x ∈ l, adj c x := fun x hx => ha x (List.mem_cons_of_mem _ hx)
    unfold bfN
    by_cases hcond : (!(s.1.contains n) && fr n) = true
    · rw [if_pos hcond]
      simp only [Bool.and_eq_true, Bool.not_eq_true', List.contains_eq_mem, decide_eq_false_iff_not] at hcond
      have h2 := bi_add h hc (ha n (List.mem_cons_self ..)) hcond.2 hcond.1
      obtain ⟨g1, g2, g3⟩ := bfN_ok l (s.1 ++ [n], s.2 ++ [(k : Int)]) h2 (get_ext hc) hal
      refine ⟨g1, Ext.trans ⟨⟨_, rfl⟩, ⟨_, rfl⟩⟩ g2, fun x hx hf => ?_⟩
      rcases List.mem_cons.1 hx with rfl | hx
      · exact ⟨s.1.length, k, g2.q (by simp), g2.b (by rw [← h.len]; simp), by omega⟩
      · exact g3 x hx hf
    · rw [if_neg hcond]
      obtain ⟨g1, g2, g3⟩ := bfN_ok l s h hc hal
      refine ⟨g1, g2, fun x hx hf => ?_⟩
      rcases List.mem_cons.1 hx with rfl | hx
      · simp only [Bool.and_eq_true, Bool.not_eq_true', List.contains_eq_mem, decide_eq_false_iff_not, hf, and_true, Classical.not_not] at hcond
        obtain ⟨i, hi, e⟩ := List.mem_iff_getElem.1 hcond
        have e1 : s.1[i]? = some x := by rw [List.getElem?_eq_getElem hi, e]
        have hi2 : i < s.2.length := by rw [h.len]; exact hi
        refine ⟨i, s.2[i], g2.q e1, g2.b (List.getElem?_eq_getElem hi2), ?_⟩
        rcases Nat.eq_zero_or_pos i with h0 | h0
        · subst h0
          have := h.hb; rw [List.getElem?_eq_getElem hi2] at this; injection this with this; omega
        · obtain ⟨j', e', _, hjk, _⟩ := h.back i _ h0 (List.getElem?_eq_getElem hi2); omega
      · exact g3 x hx hf
theorem BI.up {fr : Pt → Bool} {a : Pt} {k : Nat} {s : List Pt × List Int} (h : BI fr a k s) : BI fr a (k + 1) s :=
  ⟨h.len, h.pos, h.hd, h.hb, h.nd, h.free, fun i b hi hb => by
    obtain ⟨j, e, h1, h2, h3⟩ := h.back i b hi hb
    exact ⟨j, e, h1, by omega, h3⟩, h.mono⟩
theorem bfS_ok {fr : Pt → Bool} {a : Pt} {k : Nat} {s : List Pt × List Int} (h : BI fr a k s) (hC : BC fr k s) : BI fr a (k + 1) (bfS fr k s) ∧ BC fr (k + 1) (bfS fr k s) ∧ Ext s (bfS fr k s) := by
  unfold bfS
  split
  · rename_i c hc
    obtain ⟨g1, g2, g3⟩ := bfN_ok (nbs c) s h hc (fun n hn => hn)
    refine ⟨g1.up, fun j d n hj hd hn hf => ?_, g2⟩
    rcases Nat.lt_or_ge j k with h1 | h1
    · have hd' : s.1[j]? = some d := by
        have hk := (List.getElem?_eq_some_iff.1 hc).1
        have : s.1[j]? = some s.1[j] := List.getElem?_eq_getElem (by omega)
        have e := g2.q this
        rw [hd] at e; injection e with e; rw [e]; exact this
      obtain ⟨i, b, e1, e2, e3⟩ := hC j d n h1 hd' hn hf
      exact ⟨i, b, g2.q e1, g2.b e2, e3⟩
    · have e : j = k := by omega
      subst e
      have e := g2.q hc
      rw [hd] at e; injection e with e; subst e
      exact g3 n hn hf
  · rename_i hc
    refine ⟨h.up, fun j d n hj hd hn hf => ?_, Ext.refl s⟩
    have hj2 := (List.getElem?_eq_some_iff.1 hd).1
    have hk2 : s.1.length ≤ k := by simpa using hc
    exact hC j d n (by omega) hd hn hf
theorem bfK_ok {fr : Pt → Bool} {a : Pt} (ha : fr a = true) : ∀ k, BI fr a k (bfK fr a k) ∧ BC fr k (bfK fr a k)
  | 0 => by
    refine ⟨⟨rfl, by simp [bfK], rfl, rfl, by simp [bfK], fun c hc => ?_, fun i b hi hb => ?_, fun i j b c hij hb hc => ?_⟩, fun j c n hj => by omega⟩
    · simp [bfK] at hc; rw [hc]; exact ha
    · exfalso
      have := (List.getElem?_eq_some_iff.1 hb).1
      simp [bfK] at this; omega
    · have h1 := (List.getElem?_eq_some_iff.1 hb).1
      have h2 := (List.getElem?_eq_some_iff.1 hc).1
      simp [bfK] at h1 h2
      subst h1; subst h2
      rw [hb] at hc; injection hc with hc; omega
  | k + 1 => by
    obtain ⟨h1, h2⟩ := bfK_ok ha k
    obtain ⟨g1, g2, _⟩ := bfS_ok h1 h2
    exact ⟨g1, g2⟩
theorem bfK_ext {fr : Pt → Bool} {a : Pt} (ha : fr a = true) {k m : Nat} (h : k ≤ m) : Ext (bfK fr a k) (bfK fr a m) := by
  induction m with
  | zero => have e : k = 0 := by omega
            subst e; exact Ext.refl _
  | succ m ih =>
    rcases Nat.lt_or_ge k (m + 1) with h1 | h1
    · obtain ⟨h2, h3⟩ := bfK_ok ha m
      exact (ih (by omega)).trans (bfS_ok h2 h3).2.2
    · have e : k = m + 1 := by omega
      subst e; exact Ext.refl _
inductive Dp (b : List Int) : Nat → Nat → Prop
  | z : Dp b 0 0
  | s {i j m : Nat} : 0 < i → b[i]? = some (j : Int) → Dp b j m → Dp b i (m + 1)
inductive Cp (q : List Pt) (b : List Int) : Nat → List Pt → Prop
  | z {a : Pt} : q[0]? = some a → Cp q b 0 [a]
  | s {i j : Nat} {c : Pt} {p : List Pt} : 0 < i → b[i]? = some (j : Int) → q[i]? = some c → Cp q b j p → Cp q b i (p ++ [c])
def Wk (fr : Pt → Bool) (a : Pt) : Nat → Pt → Prop
  | 0, x => x = a
  | m + 1, x => ∃ y, Wk fr a m y ∧ adj y x ∧ fr x = true
section
variable {fr : Pt → Bool} {a : Pt} {k : Nat} {s : List Pt × List Int}
theorem cp_ex (h : BI fr a k s) : ∀ (i : Nat), i < s.1.length → ∃ p m, Cp s.1 s.2 i p ∧ Dp s.2 i m ∧ p.length = m + 1 ∧ p[0]? = some a ∧ p[m]? = s.1[i]? ∧ (∀ c ∈ p, ∃ t, t ≤ i ∧ s.1[t]? = some c) ∧ p.Nodup ∧ (∀ (t : Nat) (c d : Pt), p[t]? = some c → p[t + 1]? = some d → adj c d) ∧ ∀ c, s.1[i]? = some c → Wk fr a m c := by
  intro i
  induction i using Nat.strongRecOn with
  | ind i ih =>
    intro hi
    rcases Nat.eq_zero_or_pos i with h0 | h0
    · subst h0
      refine ⟨[a], 0, .z h.hd, .z, rfl, rfl, by rw [h.hd]; rfl, fun c hc => ?_, by simp, fun t c d hc hd => ?_, fun c hc => ?_⟩
      · simp at hc; subst hc; exact ⟨0, Nat.le_refl 0, h.hd⟩
      · have := (List.getElem?_eq_some_iff.1 hd).1; simp at this
      · rw [h.hd] at hc; injection hc with hc; exact hc.symm
    · have hi2 : i < s.2.length := by rw [h.len]; exact hi
      obtain ⟨j, e, hj, hjk, c, d, hc, hd, hcd⟩ := h.back i _ h0 (List.getElem?_eq_getElem hi2)
      have hb : s.2[i]? = some (j : Int) := by rw [List.getElem?_eq_getElem hi2, e]
      obtain ⟨p, m, p1, p2, p3, p4, p5, p6, p7, p8, p9⟩ := ih j hj (by omega)
      have hm1 : (p ++ [d])[m + 1]? = some d := by rw [List.getElem?_append_right (by omega), p3]; simp
      refine ⟨p ++ [d], m + 1, .s h0 hb hd p1, .s h0 hb p2, by simp [p3], get_ext p4, by rw [hm1, hd], fun x hx => ?_, ?_, fun t x y hx hy => ?_, fun x hx => ?_⟩
      · rcases List.mem_append.1 hx with hx | hx
        · obtain ⟨t, t1, t2⟩ := p6 x hx; exact ⟨t, by omega, t2⟩
        · simp at hx; subst hx; exact ⟨i, Nat.le_refl i, hd⟩
      · rw [List.nodup_append]
        refine ⟨p7, by simp, fun x hx y hy e => ?_⟩
        simp at hy; subst hy; subst e
        obtain ⟨t, t1, t2⟩ := p6 x hx
        have := (List.getElem?_inj (i := t) (j := i) (by omega) h.nd).1 (by rw [t2, hd])
        omega
      · rcases get_snoc hy with ⟨h1, h2⟩ | ⟨h1, h2⟩
        · rcases get_snoc hx with ⟨h3, h4⟩ | ⟨h3, h4⟩
          · exact p8 t x y h4 h2
          · omega
        · subst h2
          have e : t = m := by omega
          subst e
          rcases get_snoc hx with ⟨h3, h4⟩ | ⟨h3, h4⟩
          · rw [p5, hc] at h4; injection h4 with h4; subst h4; exact hcd
          · omega
      · rw [hd] at hx; injection hx with hx; subst hx
        exact ⟨c, p9 c hc, hcd, h.free d (List.mem_of_getElem? hd)⟩
theorem dp_mono (h : BI fr a k s) {i m : Nat} (hd : Dp s.2 i m) : ∀ {i' m' : Nat}, i ≤ i' → Dp s.2 i' m' → m ≤ m' := by
  induction hd with
  | z => intro i' m' _ _; omega
  | s h0 hb _ ih =>
    intro i' m' hi hd'
    cases hd' with
    | z => omega
    | s h0' hb' hd2 =>
      have := h.mono _ _ _ _ hi hb hb'
      have := ih (by omega) hd2
      omega
theorem dp_one {b : List Int} {i m : Nat} (hd : Dp b i m) : ∀ {m' : Nat}, Dp b i m' → m = m' := by
  induction hd with
  | z => intro m' h; cases h with
    | z => rfl
    | s h0 _ _ => omega
  | s h0 hb _ ih =>
    intro m' h
    cases h with
    | z => omega
    | s h0' hb' hd2 =>
      rw [hb] at hb'; injection hb' with hb'
      have := Int.ofNat.inj hb'
      subst this
      rw [ih hd2]
theorem wk_found (h : BI fr a k s) (hC : BC fr k s) (hk : s.1.length ≤ k) : ∀ (m : Nat) (x : Pt), Wk fr a m x → ∃ i n, s.1[i]? = some x ∧ Dp s.2 i n ∧ n ≤ m
  | 0, x, hx => by
    have : x = a := hx
    subst this
    exact ⟨0, 0, h.hd, .z, by omega⟩
  | m + 1, x, hx => by
    obtain ⟨y, hy, hyx, hf⟩ := hx
    obtain ⟨j, n, h1, h2, h3⟩ := wk_found h hC hk m y hy
    have hj := (List.getElem?_eq_some_iff.1 h1).1
    obtain ⟨i, b, e1, e2, e3⟩ := hC j y x (by omega) h1 hyx hf
    rcases Nat.eq_zero_or_pos i with h0 | h0
    · subst h0; exact ⟨0, 0, e1, .z, by omega⟩
    · obtain ⟨j', e, hj', _, c, d, hc, _⟩ := h.back i b h0 e2
      subst e
      obtain ⟨p, n', _, hd, _⟩ := cp_ex h j' (List.getElem?_eq_some_iff.1 hc).1
      have := dp_mono h hd (by omega) h2
      exact ⟨i, n' + 1, e1, .s h0 e2 hd, by omega⟩
theorem wk_pre {x y : Pt} (hxy : adj x y) (hy : fr y = true) : ∀ {n : Nat} {z : Pt}, Wk fr y n z → Wk fr x (n + 1) z
  | 0, z, h => by
    have : z = y := h
    subst this
    exact ⟨x, rfl, hxy, hy⟩
  | n + 1, z, h => by
    obtain ⟨u, h1, h2, h3⟩ := h
    exact ⟨u, wk_pre (z := u) hxy hy h1, h2, h3⟩
theorem wk_rev (ha : fr a = true) : ∀ {n : Nat} {x : Pt}, Wk fr a n x → Wk fr x n a
  | 0, x, h => by
    have : x = a := h
    subst this; exact rfl
  | n + 1, x, h => by
    obtain ⟨y, h1, h2, h3⟩ := h
    have hy : fr y = true := by
      cases n with
      | zero => have : y = a := h1
                rw [this]; exact ha
      | succ n => exact h1.choose_spec.2.2
    exact wk_pre (z := a) (adj_symm h2) hy (wk_rev ha h1)
theorem wk_man : ∀ {n : Nat} {x : Pt}, Wk fr a n x → (x.1 - a.1).natAbs + (x.2 - a.2).natAbs ≤ n
  | 0, x, h => by
    have : x = a := h
    subst this; simp
  | n + 1, x, h => by
    obtain ⟨y, h1, h2, h3⟩ := h
    have ih := wk_man h1
    obtain ⟨y1, y2⟩ := y; obtain ⟨x1, x2⟩ := x
    simp only [adj, nbs, List.mem_cons, Prod.mk.injEq, List.not_mem_nil, or_false] at h2
    simp only at ih ⊢
    omega
theorem wk_cat {x : Pt} {n : Nat} (h : Wk fr a n x) : ∀ {m : Nat} {y : Pt}, Wk fr x m y → Wk fr a (n + m) y
  | 0, y, g => by
    have : y = x := g
    subst this; exact h
  | m + 1, y, g => by
    obtain ⟨u, h1, h2, h3⟩ := g
    exact ⟨u, wk_cat h h1, h2, h3⟩
theorem wk_go1 {X Y : Int} (hf : ∀ c : Pt, 0 ≤ c.1 → c.1 < X → 0 ≤ c.2 → c.2 < Y → fr c = true) : ∀ (n : Nat) (x1 x2 y1 : Int), 0 ≤ x1 → x1 < X → 0 ≤ x2 → x2 < Y → 0 ≤ y1 → y1 < X → (y1 - x1).natAbs = n → Wk fr (x1, x2) n (y1, x2)
  | 0, x1, x2, y1, _, _, _, _, _, _, h => by
    have : y1 = x1 := by omega
    subst this; exact rfl
  | n + 1, x1, x2, y1, a1, a2, a3, a4, a5, a6, h => by
    rcases Int.lt_or_gt_of_ne (show y1 ≠ x1 by omega) with g | g
    · exact ⟨(y1 + 1, x2), wk_go1 hf n x1 x2 (y1 + 1) a1 a2 a3 a4 (by omega) (by omega) (by omega), by simp [adj, nbs], hf _ a5 a6 a3 a4⟩
    · exact ⟨(y1 - 1, x2), wk_go1 hf n x1 x2 (y1 - 1) a1 a2 a3 a4 (by omega) (by omega) (by omega), by simp [adj, nbs], hf _ a5 a6 a3 a4⟩
theorem wk_go2 {X Y : Int} (hf : ∀ c : Pt, 0 ≤ c.1 → c.1 < X → 0 ≤ c.2 → c.2 < Y → fr c = true) : ∀ (n : Nat) (x1 x2 y2 : Int), 0 ≤ x1 → x1 < X → 0 ≤ x2 → x2 < Y → 0 ≤ y2 → y2 < Y → (y2 - x2).natAbs = n → Wk fr (x1, x2) n (x1, y2)
  | 0, x1, x2, y1, _, _, _, _, _, _, h => by
    have : y1 = x2 := by omega
    subst this; exact rfl
  | n + 1, x1, x2, y1, a1, a2, a3, a4, a5, a6, h => by
    rcases Int.lt_or_gt_of_ne (show y1 ≠ x2 by omega) with g | g
    · exact ⟨(x1, y1 + 1), wk_go2 hf n x1 x2 (y1 + 1) a1 a2 a3 a4 (by omega) (by omega) (by omega), by simp [adj, nbs], hf _ a1 a2 a5 a6⟩
    · exact ⟨(x1, y1 - 1), wk_go2 hf n x1 x2 (y1 - 1) a1 a2 a3 a4 (by omega) (by omega) (by omega), by simp [adj, nbs], hf _ a1 a2 a5 a6⟩
theorem wk_go {X Y : Int} (hf : ∀ c : Pt, 0 ≤ c.1 → c.1 < X → 0 ≤ c.2 → c.2 < Y → fr c = true) {x y : Pt} (hx : 0 ≤ x.1 ∧ x.1 < X ∧ 0 ≤ x.2 ∧ x.2 < Y) (hy : 0 ≤ y.1 ∧ y.1 < X ∧ 0 ≤ y.2 ∧ y.2 < Y) : Wk fr x ((y.1 - x.1).natAbs + (y.2 - x.2).natAbs) y :=
  wk_cat (wk_go1 hf _ x.1 x.2 y.1 hx.1 hx.2.1 hx.2.2.1 hx.2.2.2 hy.1 hy.2.1 rfl) (wk_go2 hf _ y.1 x.2 y.2 hy.1 hy.2.1 hx.2.2.1 hx.2.2.2 hy.2.2.1 hy.2.2.2 rfl)
/-- the chain behind a place of the queue -/
def bkL (q : List Pt) (b : List Int) : Nat → Int → List Pt → List Pt
  | 0, _, o => o
  | f + 1, k, o => if k < 0 then o else bkL q b f (b.getD k.toNat 0) (q.getD k.toNat (0, 0) :: o)
theorem bkL_cp (h : BI fr a k s) {i : Nat} {p : List Pt} (hc : Cp s.1 s.2 i p) : ∀ (f : Nat) (o : List Pt), i < f → bkL s.1 s.2 f i o = p ++ o := by
  induction hc with
  | z ha =>
    intro f o hf
    rename_i a'
    cases f with
    | zero => omega
    | succ f =>
      unfold bkL
      have e1 : s.2.getD 0 0 = -1 := by simp [List.getD_eq_getElem?_getD, h.hb]
      have e2 : s.1.getD 0 (0, 0) = a' := by rw [List.getD_eq_getElem?_getD, ha]; rfl
      rw [if_neg (by omega)]
      simp only [Int.ofNat_zero, Int.toNat_zero, Int.natCast_zero, e1, e2, Option.getD_some]
      cases f with
      | zero => rfl
      | succ f => unfold bkL; rw [if_pos (by omega)]; rfl
  | s h0 hb hq _ ih =>
    intro f o hf
    cases f with
    | zero => omega
    | succ f =>
      unfold bkL
      rename_i i j c p _
      rw [if_neg (by omega)]
      have e1 : s.2.getD i 0 = (j : Int) := by simp [List.getD_eq_getElem?_getD, hb]
      have e2 : s.1.getD i (0, 0) = c := by simp [List.getD_eq_getElem?_getD, hq]
      have hj : j < i := by
        obtain ⟨j', e, h1, _⟩ := h.back i _ h0 hb
        omega
      rw [Int.toNat_natCast, e1, e2, ih f (c :: o) (by omega), List.append_assoc]; rfl
theorem Cp.ext {s t : List Pt × List Int} (e : Ext s t) {i : Nat} {p : List Pt} (h : Cp s.1 s.2 i p) : Cp t.1 t.2 i p := by
  induction h with
  | z h0 => exact .z (e.q h0)
  | s h0 h1 h2 _ ih => exact .s h0 (e.b h1) (e.q h2) ih
theorem Dp.ext {s t : List Pt × List Int} (e : Ext s t) {i m : Nat} (h : Dp s.2 i m) : Dp t.2 i m := by
  induction h with
  | z => exact .z
  | s h0 h1 _ ih => exact .s h0 (e.b h1) ih
/-- A list without repetition that lies in another one is not longer. -/
theorem nodup_le {α : Type} [DecidableEq α] : ∀ {l m : List α}, l.Nodup → (∀ x ∈ l, x ∈ m) → l.length ≤ m.length
  | [], m, _, _ => by simp
  | x :: l, m, hl, hs => by
    obtain ⟨h1, h2⟩ := List.nodup_cons.1 hl
    have hx := hs x (List.mem_cons_self ..)
    have := nodup_le (l := l) (m := m.erase x) h2 fun y hy => (List.mem_erase_of_ne (fun e => h1 (by rw [← e]; exact hy))).2 (hs y (List.mem_cons_of_mem _ hy))
    have e := List.length_erase_of_mem hx
    have : 0 < m.length := List.length_pos_of_mem hx
    simp only [List.length_cons]; omega
def grid (n : Nat) : List Pt := (List.range (n * n)).map fun j => (((j / n : Nat) : Int), ((j % n : Nat) : Int))
theorem grid_mem {n : Nat} {c : Pt} (h0 : 0 ≤ c.1) (h1 : c.1 < n) (h2 : 0 ≤ c.2) (h3 : c.2 < n) : c ∈ grid n := by
  unfold grid
  obtain ⟨x, y⟩ := c
  simp only at h0 h1 h2 h3
  obtain ⟨u, rfl⟩ := Int.eq_ofNat_of_zero_le h0
  obtain ⟨v, rfl⟩ := Int.eq_ofNat_of_zero_le h2
  have hu : u < n := by omega
  have hv : v < n := by omega
  refine List.mem_map.2 ⟨n * u + v, ?_, ?_⟩
  · have : n * u + v < n * (u + 1) := by rw [Nat.mul_succ]; omega
    have : n * (u + 1) ≤ n * n := Nat.mul_le_mul_left n hu
    exact List.mem_range.2 (by omega)
  · rw [Nat.mul_add_div (by omega), Nat.mul_add_mod, Nat.div_eq_of_lt hv, Nat.mod_eq_of_lt hv, Nat.add_zero]
theorem bi_len (h : BI fr a k s) (hb : ∀ c, fr c = true → 0 ≤ c.1 ∧ c.1 < 20 ∧ 0 ≤ c.2 ∧ c.2 < 20) : s.1.length ≤ 400 := by
  have := nodup_le (m := grid 20) h.nd fun c hc => by
    have := hb c (h.free c hc)
    exact grid_mem this.1 this.2.1 this.2.2.1 this.2.2.2
  simpa [grid] using this
theorem bfK_stop {fr : Pt → Bool} {a : Pt} {k : Nat} (h : (bfK fr a k).1.length ≤ k) : ∀ m, k ≤ m → bfK fr a m = bfK fr a k
  | 0, hm => by have e : k = 0 := by omega
                subst e; rfl
  | m + 1, hm => by
    rcases Nat.lt_or_ge k (m + 1) with h1 | h1
    · have ih := bfK_stop h m (by omega)
      show bfS fr m (bfK fr a m) = _
      rw [ih]
      unfold bfS
      rw [List.getElem?_eq_none (by omega)]
    · have e : k = m + 1 := by omega
      subst e; rfl
/-- The plan. -/
@[irreducible] def planB (fr : Pt → Bool) (a z : Pt) : List Pt := if z ∈ (bfK fr a 400).1 then bkL (bfK fr a 400).1 (bfK fr a 400).2 ((bfK fr a 400).1.idxOf z + 1) ((bfK fr a 400).1.idxOf z : Nat) [] else []
structure PBq (fr : Pt → Bool) (a z : Pt) (p : List Pt) (m : Nat) : Prop where
  len : p.length = m + 1
  hd : p[0]? = some a
  last : p[m]? = some z
  nd : p.Nodup
  free : ∀ c ∈ p, fr c = true
  adj : ∀ (t : Nat) (c d : Pt), p[t]? = some c → p[t + 1]? = some d → adj c d
  wk : Wk fr a m z
  short : ∀ n, Wk fr a n z → m ≤ n
theorem idx_of {q : List Pt} (h : q.Nodup) {i : Nat} {z : Pt} (hz : q[i]? = some z) : q.idxOf z = i := by
  have hm := List.mem_of_getElem? hz
  have h1 := List.idxOf_lt_length_of_mem hm
  have h2 : q[q.idxOf z]? = some z := by rw [List.getElem?_eq_getElem h1]; simp
  exact (List.getElem?_inj h1 h).1 (by rw [h2, hz])
variable (hb : ∀ c, fr c = true → 0 ≤ c.1 ∧ c.1 < 20 ∧ 0 ≤ c.2 ∧ c.2 < 20)
include hb
theorem plan_at (ha : fr a = true) {z : Pt} {i k : Nat} (hz : (bfK fr a k).1[i]? = some z) (f : Nat) (hf : i < f) : planB fr a z = bkL (bfK fr a k).1 (bfK fr a k).2 f i [] ∧ ∃ m, PBq fr a z (planB fr a z) m ∧ Cp (bfK fr a k).1 (bfK fr a k).2 i (planB fr a z) := by
  obtain ⟨hB, hC⟩ := bfK_ok ha 400
  obtain ⟨hBk, hCk⟩ := bfK_ok ha k
  have hl := bi_len hB hb
  have hlk := bi_len hBk hb
  have hz4 : (bfK fr a 400).1[i]? = some z := by
    rcases Nat.lt_or_ge 400 k with h | h
    · rw [bfK_stop hl k (by omega)] at hz; exact hz
    · exact (bfK_ext ha h).q hz
  have hm := List.mem_of_getElem? hz4
  have hi := (List.getElem?_eq_some_iff.1 hz).1
  obtain ⟨p, m, p1, p2, p3, p4, p5, p6, p7, p8, p9⟩ := cp_ex hBk i hi
  obtain ⟨p', m', p1', p2', _⟩ := cp_ex hB i (List.getElem?_eq_some_iff.1 hz4).1
  have hpp : Cp (bfK fr a 400).1 (bfK fr a 400).2 i p := by
    rcases Nat.lt_or_ge 400 k with h | h
    · rw [bfK_stop hl k (by omega)] at p1; exact p1
    · exact p1.ext (bfK_ext ha h)
  have hdd : Dp (bfK fr a 400).2 i m := by
    rcases Nat.lt_or_ge 400 k with h | h
    · rw [bfK_stop hl k (by omega)] at p2; exact p2
    · exact p2.ext (bfK_ext ha h)
  have ep : planB fr a z = p := by
    unfold planB
    rw [if_pos hm, idx_of hB.nd hz4, bkL_cp hB hpp _ _ (by omega), List.append_nil]
  rw [ep]
  refine ⟨by rw [bkL_cp hBk p1 f [] hf, List.append_nil], m, ⟨p3, p4, by rw [p5, hz], p7, fun c hc => ?_, p8, p9 z hz, fun n hn => ?_⟩, p1⟩
  · obtain ⟨t, _, ht⟩ := p6 c hc
    exact hBk.free c (List.mem_of_getElem? ht)
  · obtain ⟨i', n', e1, e2, e3⟩ := wk_found hB hC hl n z hn
    have : i' = i := (List.getElem?_inj (List.getElem?_eq_some_iff.1 e1).1 hB.nd).1 (by rw [e1, hz4])
    subst this
    rw [dp_one hdd e2]; exact e3
theorem plan_none (ha : fr a = true) {z : Pt} {k : Nat} (hk : (bfK fr a k).1.length ≤ k) (hz : ¬ z ∈ (bfK fr a k).1) : planB fr a z = [] := by
  obtain ⟨hB, hC⟩ := bfK_ok ha 400
  have hl := bi_len hB hb
  unfold planB
  rw [if_neg]
  rcases Nat.lt_or_ge 400 k with h | h
  · rw [bfK_stop hl k (by omega)] at hz; exact hz
  · rw [bfK_stop hk 400 h]; exact hz
theorem plan_pb (ha : fr a = true) (z : Pt) : (planB fr a z = [] ∧ ∀ n, ¬ Wk fr a n z) ∨ ∃ m, PBq fr a z (planB fr a z) m := by
  obtain ⟨hB, hC⟩ := bfK_ok ha 400
  have hl := bi_len hB hb
  by_cases hm : z ∈ (bfK fr a 400).1
  · obtain ⟨i, hi, e⟩ := List.mem_iff_getElem.1 hm
    exact .inr ⟨_, (plan_at hb ha (by rw [List.getElem?_eq_getElem hi, e]) (i + 1) (by omega)).2.choose_spec.1⟩
  · refine .inl ⟨plan_none hb ha hl hm, fun n hn => ?_⟩
    obtain ⟨i, _, e, _⟩ := wk_found hB hC hl n z hn
    exact hm (List.mem_of_getElem? e)
theorem plan_back (ha : fr a = true) {z : Pt} (hz : fr z = true) : (planB fr z a).length = (planB fr a z).length := by
  rcases plan_pb hb ha z with ⟨e1, h1⟩ | ⟨m, h1⟩ <;> rcases plan_pb hb hz a with ⟨e2, h2⟩ | ⟨n, h2⟩
  · rw [e1, e2]
  · exact absurd (wk_rev hz h2.wk) (h1 n)
  · exact absurd (wk_rev ha h1.wk) (h2 m)
  · have := h1.short n (wk_rev hz h2.wk)
    have := h2.short m (wk_rev ha h1.wk)
    rw [h1.len, h2.len]; omega
end
theorem pt_at {p : List Pt} {i : Int} (h0 : 0 ≤ i) (h1 : i < ilen p) : p[i.toNat]? = some (getx p i, gety p i) := by
  obtain ⟨h, e1, e2⟩ := get_at h0 h1
  rw [List.getElem?_eq_getElem h, e1, e2]
theorem pt_of {p : List Pt} {n : Nat} {c : Pt} (h : p[n]? = some c) : (n : Int) < ilen p ∧ getx p n = c.1 ∧ gety p n = c.2 := by
  have hn := (List.getElem?_eq_some_iff.1 h).1
  have hl : (n : Int) < ilen p := by unfold ilen; omega
  have e := pt_at (p := p) (i := (n : Int)) (by omega) hl
  rw [Int.toNat_natCast, h] at e
  injection e with e
  rw [e]; exact ⟨hl, rfl, rfl⟩
theorem adj_iff {c d : Pt} : adj c d ↔ (d.1 = c.1 - 1 ∧ d.2 = c.2) ∨ (d.1 = c.1 ∧ d.2 = c.2 - 1) ∨ (d.1 = c.1 ∧ d.2 = c.2 + 1) ∨ (d.1 = c.1 + 1 ∧ d.2 = c.2) := by
  obtain ⟨c1, c2⟩ := c; obtain ⟨d1, d2⟩ := d
  simp only [adj, nbs, List.mem_cons, Prod.mk.injEq, List.not_mem_nil, or_false]
structure PBIq (fr : Pt → Bool) (a z : Pt) (p : List Pt) : Prop where
  len : 1 ≤ ilen p ∧ ilen p ≤ 400
  hd : getx p 0 = a.1 ∧ gety p 0 = a.2
  last : getx p (ilen p - 1) = z.1 ∧ gety p (ilen p - 1) = z.2
  nd : ∀ i j, 0 ≤ i → i < j → j < ilen p → ¬ (getx p i = getx p j ∧ gety p i = gety p j)
  free : ∀ i, 0 ≤ i → i < ilen p → fr (getx p i, gety p i) = true
  adj : ∀ i, 1 ≤ i → i < ilen p → adj (getx p (i - 1), gety p (i - 1)) (getx p i, gety p i)
theorem PBq.toI {fr : Pt → Bool} {a z : Pt} {p : List Pt} {m : Nat} (hb : ∀ c, fr c = true → 0 ≤ c.1 ∧ c.1 < 20 ∧ 0 ≤ c.2 ∧ c.2 < 20) (h : PBq fr a z p m) : PBIq fr a z p := by
  have hl : ilen p = m + 1 := by unfold ilen; rw [h.len]; omega
  have h4 : p.length ≤ 400 := by
    have := nodup_le (m := grid 20) h.nd fun c hc => by
      have := hb c (h.free c hc)
      exact grid_mem this.1 this.2.1 this.2.2.1 this.2.2.2
    simpa [grid] using this
  have h0 := pt_of h.hd
  have h1 := pt_of h.last
  refine ⟨by have := h.len; omega, by simpa using h0.2, by rw [hl, show (m : Int) + 1 - 1 = m by omega]; exact h1.2, fun i j i0 ij jl e => ?_, fun i i0 il => h.free _ (List.mem_of_getElem? (pt_at i0 il)), fun i i0 il => ?_⟩
  · have e1 := pt_at (p := p) (i := i) i0 (by omega)
    have e2 := pt_at (p := p) (i := j) (by omega) jl
    rw [e.1, e.2, ← e2] at e1
    have := (List.getElem?_inj (by unfold ilen at jl; omega) h.nd).1 e1
    omega
  · have e1 := pt_at (p := p) (i := i - 1) (by omega) (by omega)
    have e2 := pt_at (p := p) (i := i) (by omega) il
    rw [show i.toNat = (i - 1).toNat + 1 by omega] at e2
    exact h.adj _ _ _ e1 e2
theorem bfN_app (fr : Pt → Bool) (k : Int) : ∀ (l m : List Pt) (s : List Pt × List Int), bfN fr k (l ++ m) s = bfN fr k m (bfN fr k l s)
  | [], _, _ => rfl
  | n :: l, m, s => by
    show bfN fr k (l ++ m) _ = bfN fr k m (bfN fr k l _)
    exact bfN_app fr k l m _
def wfB (q : List Pt) (b : List Int) : Prop := ilen b = ilen q ∧ ilen q ≤ 400 ∧ ∀ i, 0 ≤ i → i < ilen q → -1 ≤ geti b i ∧ geti b i < i
theorem bkL_f {q : List Pt} {b : List Int} (hw : wfB q b) : ∀ (n : Nat) (f : Nat) (k : Int) (o : List Pt), f ≤ n → -1 ≤ k → k < ilen q → k + 1 ≤ f → bkL q b f k o = bkL q b (k + 1).toNat k o
  | 0, f, k, o, hf, h0, h1, h2 => by
    have e : f = 0 := by omega
    have e2 : (k + 1).toNat = 0 := by omega
    rw [e, e2]
  | n + 1, f, k, o, hf, h0, h1, h2 => by
    rcases Int.lt_or_le k 0 with h | h
    · have e2 : (k + 1).toNat = 0 := by omega
      rw [e2]
      cases f with
      | zero => rfl
      | succ f => unfold bkL; rw [if_pos h]
    · cases f with
      | zero => omega
      | succ f =>
        rw [show (k + 1).toNat = k.toNat + 1 by omega]
        unfold bkL
        rw [if_neg (by omega), if_neg (by omega)]
        have hb := hw.2.2 k h h1
        have e : b.getD k.toNat 0 = geti b k := by unfold geti; rfl
        rw [e, bkL_f hw n f (geti b k) _ (by omega) hb.1 (by omega) (by omega), bkL_f hw n k.toNat (geti b k) _ (by omega) hb.1 (by omega) (by omega)]
theorem bkL_step {q : List Pt} {b : List Int} (hw : wfB q b) {k : Int} (h0 : 0 ≤ k) (h1 : k < ilen q) (o : List Pt) : bkL q b (k + 1).toNat k o = bkL q b (geti b k + 1).toNat (geti b k) (iapp [(getx q k, gety q k)] o) := by
  have hb := hw.2.2 k h0 h1
  have e : b.getD k.toNat 0 = geti b k := by unfold geti; rfl
  have e2 : q.getD k.toNat (0, 0) = (getx q k, gety q k) := by unfold getx gety; rfl
  rw [show (k + 1).toNat = k.toNat + 1 by omega]
  unfold bkL
  rw [if_neg (by omega), e, e2, bkL_f hw _ k.toNat (geti b k) _ (Nat.le_refl _) hb.1 (by omega) (by omega)]
  unfold iapp
  cases (geti b k + 1).toNat <;> rfl
theorem bkL_end {q : List Pt} {b : List Int} {k : Int} (h : k < 0) (o : List Pt) : bkL q b (k + 1).toNat k o = o := by
  rw [show (k + 1).toNat = 0 by omega]; rfl
def frF (l : List (List Bool)) (c : Pt) : Bool := freeB l c.1 c.2
def plF (l : List (List Bool)) (a1 a2 z1 z2 : Int) : List Pt := if tblB l && freeB l a1 a2 && freeB l z1 z2 then planB (frF l) (a1, a2) (z1, z2) else []
theorem frF_in {l : List (List Bool)} (ht : tblB l = true) : ∀ c, frF l c = true → 0 ≤ c.1 ∧ c.1 < 20 ∧ 0 ≤ c.2 ∧ c.2 < 20 := fun c h => free_in ht h
theorem BI.wf {fr : Pt → Bool} {a : Pt} {k : Nat} {s : List Pt × List Int} (h : BI fr a k s) (hb : ∀ c, fr c = true → 0 ≤ c.1 ∧ c.1 < 20 ∧ 0 ≤ c.2 ∧ c.2 < 20) : wfB s.1 s.2 := by
  have h4 := bi_len h hb
  refine ⟨by unfold ilen; rw [h.len], by unfold ilen; omega, fun i i0 i1 => ?_⟩
  have hi : i.toNat < s.2.length := by have := h.len; unfold ilen at i1; omega
  have e : s.2[i.toNat]? = some (geti s.2 i) := by
    rw [List.getElem?_eq_getElem hi]; unfold geti
    simp [List.getD_eq_getElem?_getD, hi]
  rcases Int.lt_or_le 0 i with g | g
  · obtain ⟨j, e1, e2, _⟩ := h.back i.toNat _ (by omega) e
    omega
  · have : i.toNat = 0 := by omega
    rw [this, h.hb] at e
    injection e with e
    omega
theorem cont_b {q : List Pt} {x y : Int} : q.contains (x, y) = anyN (ilen q) fun i => decide (getx q i = x ∧ gety q i = y) := by
  cases h : anyN (ilen q) fun i => decide (getx q i = x ∧ gety q i = y) with
  | true =>
    obtain ⟨i, i0, i1, e⟩ := anyN_iff.1 h
    have := pt_at i0 i1
    simp only [decide_eq_true_eq] at e
    rw [e.1, e.2] at this
    simpa using List.mem_of_getElem? this
  | false =>
    rw [List.contains_eq_mem, decide_eq_false_iff_not]
    intro hm
    obtain ⟨n, hn, e⟩ := List.mem_iff_getElem.1 hm
    have e' : q[n]? = some (x, y) := by rw [List.getElem?_eq_getElem hn, e]
    obtain ⟨e1, e2, e3⟩ := pt_of e'
    rw [anyN_mk n (by omega) e1 (by simp [e2, e3])] at h
    cases h
/-- the four neighbours, one after the other -/
theorem bfS_at {fr : Pt → Bool} {k : Int} {s : List Pt × List Int} (h0 : 0 ≤ k) (h1 : k < ilen s.1) : bfS fr k.toNat s = bfN fr k (nbs (getx s.1 k, gety s.1 k)) s := by
  unfold bfS
  rw [pt_at h0 h1]
  simp only [Int.toNat_of_nonneg h0]
theorem anyN_1 {n : Int} {f : Int → Bool} (h : 0 ≤ n) : anyN (n + 1) f = (anyN n f || f n) := by
  unfold anyN
  rw [show (n + 1).toNat = n.toNat + 1 by omega, List.range_succ, List.any_append]
  simp [Int.toNat_of_nonneg h]
theorem take_1 {l : List Pt} {j : Int} (h0 : 0 ≤ j) (h1 : j < ilen l) : l.take (j + 1).toNat = l.take j.toNat ++ [(getx l j, gety l j)] := by
  obtain ⟨h, e1, e2⟩ := get_at h0 h1
  rw [show (j + 1).toNat = j.toNat + 1 by omega, List.take_succ_eq_append_getElem h, e1, e2]
theorem bfN_one (fr : Pt → Bool) (k : Int) (n : Pt) (s : List Pt × List Int) : bfN fr k [n] s = if !(s.1.contains n) && fr n then (s.1 ++ [n], s.2 ++ [k]) else s := rfl
theorem ext_get {s t : List Pt × List Int} (h : Ext s t) {i : Int} (h0 : 0 ≤ i) (h1 : i < ilen s.1) : getx t.1 i = getx s.1 i ∧ gety t.1 i = gety s.1 i ∧ i < ilen t.1 := by
  have := pt_of (h.q (pt_at h0 h1))
  rw [Int.toNat_of_nonneg h0] at this
  exact ⟨this.2.1, this.2.2, this.1⟩
theorem plF_cases (l : List (List Bool)) (a1 a2 z1 z2 : Int) : (plF l a1 a2 z1 z2 = [] ∧ plF l z1 z2 a1 a2 = []) ∨ (tblB l = true ∧ freeB l a1 a2 = true ∧ freeB l z1 z2 = true ∧ ∃ m, PBq (frF l) (a1, a2) (z1, z2) (plF l a1 a2 z1 z2) m ∧ PBIq (frF l) (a1, a2) (z1, z2) (plF l a1 a2 z1 z2) ∧ ilen (plF l z1 z2 a1 a2) = ilen (plF l a1 a2 z1 z2)) := by
  unfold plF
  cases ht : tblB l with
  | false => left; simp
  | true =>
    cases ha : freeB l a1 a2 with
    | false => left; simp
    | true =>
      cases hz : freeB l z1 z2 with
      | false => left; simp
      | true =>
        simp only [Bool.and_self, if_true]
        have hb := frF_in ht
        have hl := plan_back hb (a := (a1, a2)) (z := (z1, z2)) ha hz
        rcases plan_pb hb (a := (a1, a2)) ha (z1, z2) with ⟨e, _⟩ | ⟨m, hm⟩
        · left
          rw [e] at hl
          exact ⟨e, List.eq_nil_of_length_eq_zero (by simpa using hl)⟩
        · right
          exact ⟨trivial, trivial, trivial, m, hm, hm.toI hb, by unfold ilen; rw [hl]⟩
theorem PBIq.pv {l : List (List Bool)} {a z : Pt} {p : List Pt} (ht : tblB l = true) (h : PBIq (frF l) a z p) : pvB l p = true := by
  unfold pvB
  have hl := h.len
  rw [ht, inB_mk (by omega) (by omega), allN_mk fun i i0 i1 => ?_]; rfl
  unfold pvE
  have hf : freeB l (getx p i) (gety p i) = true := h.free i i0 i1
  rw [hf]
  by_cases g : i ≤ 0
  · simp [g]
  · have := adj_iff.1 (h.adj i (by omega) i1)
    simp only at this
    have hs : stepB p i = true := by unfold stepB; simp only [decide_eq_true_eq]; omega
    rw [hs]; simp
theorem PBq.man {fr : Pt → Bool} {a z : Pt} {p : List Pt} {m : Nat} (h : PBq fr a z p m) : ((z.1 - a.1).natAbs : Int) + ((z.2 - a.2).natAbs : Int) < ilen p := by
  have := wk_man h.wk
  unfold ilen
  rw [h.len]; omega
/-- the table with all cells free -/
structure OpenT (l m : List (List Bool)) : Prop where
  len : ilen m = ilen l
  row : ∀ i, 0 ≤ i → i < ilen l → ilen (getl m i) = ilen (getl l i)
  all : ∀ i j, 0 ≤ i → i < ilen l → 0 ≤ j → j < ilen (getl l i) → getb (getl m i) j = true
theorem OpenT.tbl {l m : List (List Bool)} (h : OpenT l m) (ht : tblB l = true) : tblB m = true := by
  unfold tblB at *
  rw [h.len]
  simp only [Bool.and_eq_true] at ht ⊢
  refine ⟨ht.1, allN_mk fun i i0 i1 => ?_⟩
  have := allN_iff.1 ht.2 i i0 i1
  unfold tblE at *
  rw [h.row i i0 i1, h.row 0 (by omega) (by omega)]
  exact this
theorem OpenT.free {l m : List (List Bool)} (h : OpenT l m) {c1 c2 : Int} (h0 : 0 ≤ c1) (h1 : c1 < ilen l) (h2 : 0 ≤ c2) (h3 : c2 < ilen (getl l c1)) : freeB m c1 c2 = true := by
  unfold freeB
  rw [h.len, h.row c1 h0 h1, h.all c1 c2 h0 h1 h2 h3]
  simp [h0, h1, h2, h3]
theorem open_len {l m : List (List Bool)} (h : OpenT l m) {a1 a2 z1 z2 : Int} (hp : plF l a1 a2 z1 z2 ≠ []) : ilen (plF m a1 a2 z1 z2) = ((z1 - a1).natAbs : Int) + ((z2 - a2).natAbs : Int) + 1 ∧ ilen (plF m a1 a2 z1 z2) ≤ ilen (plF l a1 a2 z1 z2) := by
  rcases plF_cases l a1 a2 z1 z2 with ⟨e, _⟩ | ⟨ht, ha, hz, n, hn, _, _⟩
  · exact absurd e hp
  · have hm := hn.man
    have hb := frF_in (h.tbl ht)
    have rng : ∀ c1 c2, freeB l c1 c2 = true → (0 ≤ c1 ∧ c1 < ilen l) ∧ (0 ≤ c2 ∧ c2 < ilen (getl l c1)) := fun c1 c2 hc => by
      unfold freeB at hc; simp only [Bool.and_eq_true, decide_eq_true_eq] at hc; exact hc.1
    have same : ∀ i, 0 ≤ i → i < ilen l → ilen (getl l i) = ilen (getl l 0) := fun i i0 i1 => by
      unfold tblB at ht
      simp only [Bool.and_eq_true] at ht
      have := allN_iff.1 ht.2 i i0 i1
      unfold tblE at this
      simp only [decide_eq_true_eq] at this
      exact this.2
    obtain ⟨ra1, ra2⟩ := rng _ _ ha
    obtain ⟨rz1, rz2⟩ := rng _ _ hz
    rw [same _ ra1.1 ra1.2] at ra2
    rw [same _ rz1.1 rz1.2] at rz2
    have hf : ∀ c : Pt, 0 ≤ c.1 → c.1 < ilen l → 0 ≤ c.2 → c.2 < ilen (getl l 0) → frF m c = true := fun c c0 c1 c2 c3 => h.free c0 c1 c2 (by rw [same _ c0 c1]; exact c3)
    have wk := wk_go hf (x := (a1, a2)) (y := (z1, z2)) ⟨ra1.1, ra1.2, ra2.1, ra2.2⟩ ⟨rz1.1, rz1.2, rz2.1, rz2.2⟩
    have ham : freeB m a1 a2 = true := hf (a1, a2) ra1.1 ra1.2 ra2.1 ra2.2
    have hzm : freeB m z1 z2 = true := hf (z1, z2) rz1.1 rz1.2 rz2.1 rz2.2
    have e : plF m a1 a2 z1 z2 = planB (frF m) (a1, a2) (z1, z2) := by unfold plF; simp only [h.tbl ht, ham, hzm, Bool.and_self, if_true]
    rcases plan_pb hb (a := (a1, a2)) ham (z1, z2) with ⟨_, e2⟩ | ⟨k, hk⟩
    · exact absurd wk (e2 _)
    · have h1 := hk.short _ wk
      have h2 := wk_man hk.wk
      have h3 : ilen (planB (frF m) (a1, a2) (z1, z2)) = k + 1 := by unfold ilen; rw [hk.len]; omega
      rw [e, h3]
      simp only at h1 h2 hm
      omega
theorem PBIq.stp {fr : Pt → Bool} {a z : Pt} {p : List Pt} (hb : ∀ c, fr c = true → 0 ≤ c.1 ∧ c.1 < 20 ∧ 0 ≤ c.2 ∧ c.2 < 20) (h : PBIq fr a z p) : stp1 p := by
  refine ⟨fun i i0 i1 => ?_, fun i i0 i1 => ?_⟩
  · have := hb _ (h.free i i0 i1)
    simp only at this; omega
  · have := adj_iff.1 (h.adj i i0 i1)
    simp only at this; omega
theorem mhas_put : ∀ (n : Nat) {m : List Pt} (_ : m.length = 2 * n) (a b c d x y : Int), mhas (mput m a b c d) x y = (mhas m x y || decide ((x, y) = (a, b)))
  | 0, m, h, a, b, c, d, x, y => by
    have : m = [] := List.eq_nil_of_length_eq_zero (by omega)
    subst this
    simp [mput, mhas]
  | n + 1, m, h, a, b, c, d, x, y => by
    match m, h with
    | k :: v :: m, h =>
      have ih := mhas_put n (m := m) (by simp at h; omega) a b c d x y
      unfold mput at ih ⊢
      simp only [List.cons_append, mhas]
      rw [ih, Bool.or_assoc]
    | [_], h => simp at h; omega
    | [], h => simp at h
theorem mget_put : ∀ (n : Nat) {m : List Pt} (_ : m.length = 2 * n) (a b c d x y : Int), mget (mput m a b c d) x y = if mhas m x y then mget m x y else if (x, y) = (a, b) then (c, d) else (0, 0)
  | 0, m, h, a, b, c, d, x, y => by
    have : m = [] := List.eq_nil_of_length_eq_zero (by omega)
    subst this
    simp [mput, mhas, mget]
  | n + 1, m, h, a, b, c, d, x, y => by
    match m, h with
    | k :: v :: m, h =>
      have ih := mget_put n (m := m) (by simp at h; omega) a b c d x y
      unfold mput at ih ⊢
      simp only [List.cons_append, mget, mhas]
      rw [ih]
      by_cases hk : (x, y) = k
      · simp [hk]
      · simp [hk]
    | [_], h => simp at h; omega
    | [], h => simp at h
/-- The map remembers for every cell of the queue from which it was found. -/
structure MR (q : List Pt) (b : List Int) (m : List Pt) : Prop where
  len : m.length = 2 * q.length
  has : ∀ x y, mhas m x y = q.contains (x, y)
  get : ∀ (i : Nat) (x y : Int) (j : Nat), 0 < i → q[i]? = some (x, y) → b[i]? = some (j : Int) → q[j]? = some (mget m x y)
theorem MR.ini (a1 a2 : Int) : MR [(a1, a2)] [-1] (mput [] a1 a2 a1 a2) := by
  refine ⟨rfl, fun x y => ?_, fun i x y j hi hq => ?_⟩
  · simp [mput, mhas]
  · have := (List.getElem?_eq_some_iff.1 hq).1
    simp at this; omega
theorem MR.add {q : List Pt} {b : List Int} {m : List Pt} (h : MR q b m) (hl : b.length = q.length) {k : Nat} {c n : Pt} (hk : q[k]? = some c) (hn : mhas m n.1 n.2 = false) (hb : ∀ (i : Nat) (j : Nat), 0 < i → b[i]? = some (j : Int) → j < q.length) : MR (q ++ [n]) (b ++ [(k : Int)]) (mput m n.1 n.2 c.1 c.2) := by
  have hh := mhas_put q.length h.len n.1 n.2 c.1 c.2
  have hg := mget_put q.length h.len n.1 n.2 c.1 c.2
  refine ⟨by simp [mput, h.len]; omega, fun x y => ?_, fun i x y j hi hq hj => ?_⟩
  · rw [hh, h.has, Bool.eq_iff_iff]
    simp only [Bool.or_eq_true, List.contains_eq_mem, decide_eq_true_eq, List.mem_append, List.mem_singleton]
  · rw [hg]
    rcases get_snoc hq with ⟨h1, h2⟩ | ⟨h1, h2⟩
    · have hj' : b[i]? = some (j : Int) := by
        rcases get_snoc hj with ⟨_, h4⟩ | ⟨h3, _⟩
        · exact h4
        · omega
      have hc : mhas m x y = true := by rw [h.has]; simpa using List.mem_of_getElem? h2
      rw [hc, if_pos rfl]
      exact get_ext (h.get i x y j hi h2 hj')
    · have hj' : (j : Int) = k := by
        rcases get_snoc hj with ⟨h3, _⟩ | ⟨_, h4⟩
        · omega
        · exact h4
      have e : j = k := by omega
      subst e
      have hxy : (x, y) = (n.1, n.2) := by rw [h2]
      injection hxy with hx hy
      subst hx hy
      rw [hn, if_neg (by simp), if_pos rfl]
      exact get_ext hk
theorem stp1_rep (n : Int) : stp1 (irep n (0, 0)) := by
  have hx : ∀ i, getx (irep n ((0 : Int), (0 : Int))) i = 0 ∧ gety (irep n ((0 : Int), (0 : Int))) i = 0 := fun i => by
    unfold getx gety irep
    simp [List.getD_eq_getElem?_getD, List.getElem?_replicate]
    split <;> simp
  refine ⟨fun i _ _ => ?_, fun i _ _ => ?_⟩
  · rw [(hx i).1, (hx i).2]; omega
  · rw [(hx i).1, (hx (i - 1)).1]; exact .inl rfl
theorem stp1_nil : stp1 [] := ⟨fun i i0 i1 => by rw [ilen_nil] at i1; omega, fun i i0 i1 => by rw [ilen_nil] at i1; omega⟩
theorem ilen_repP {n : Int} {a : Pt} (h : 0 ≤ n) : ilen (irep n a) = n := by unfold ilen irep; simp; omega
theorem stp1_pl (l : List (List Bool)) (a1 a2 z1 z2 : Int) : stp1 (plF l a1 a2 z1 z2) ∧ ilen (plF l a1 a2 z1 z2) ≤ 400 := by
  rcases plF_cases l a1 a2 z1 z2 with ⟨e, _⟩ | ⟨ht, _, _, m, _, h, _⟩
  · rw [e]; exact ⟨stp1_nil, by rw [ilen_nil]; omega⟩
  · exact ⟨h.stp (frF_in ht), h.len.2⟩
theorem getl_app {α : Type} {l : List (List α)} {r : List α} {t : Int} (h0 : 0 ≤ t) (h1 : t ≤ ilen l) : getl (iapp l [r]) t = if t < ilen l then getl l t else r := by
  unfold getl iapp
  unfold ilen at *
  by_cases ht : t < l.length
  · rw [if_pos ht]; simp [List.getD_eq_getElem?_getD, List.getElem?_append, show t.toNat < l.length by omega]
  · rw [if_neg ht]; simp [List.getD_eq_getElem?_getD, List.getElem?_append, show t.toNat = l.length by omega]
theorem getb_app {l : List Bool} {r : Bool} {t : Int} (h0 : 0 ≤ t) (h1 : t ≤ ilen l) : getb (iapp l [r]) t = if t < ilen l then getb l t else r := by
  unfold getb iapp
  unfold ilen at *
  by_cases ht : t < l.length
  · rw [if_pos ht]; simp [List.getD_eq_getElem?_getD, List.getElem?_append, show t.toNat < l.length by omega]
  · rw [if_neg ht]; simp [List.getD_eq_getElem?_getD, List.getElem?_append, show t.toNat = l.length by omega]
def g_laws_FnPathValid : List AV → Option Sg
  | [.s (.rdr n)] => some ⟨True, [.s (.bool (true))]⟩
  | _ => none
def g_impl_tableValid : List AV → Option Sg
  | [.s (.view (.boolss l))] => some ⟨True, [.s (.bool (tblB l))]⟩
  | _ => none
def sig_impl_tableValid : FuncId → List AV → Option Sg := sigL []
def xs_impl_tableValid : XS := ⟨xsigL [], ysigL []⟩
theorem sig_impl_tableValid_ok : SigOK sig_impl_tableValid := sigL_nil
theorem xs_impl_tableValid_ok : XSigOK xs_impl_tableValid := ⟨xsigL_nil, ysigL_nil⟩
theorem V_impl_tableValid (l : List (List Bool)) : ((true = true) ∧ ((True) ∧ True) ∧ (true = true) ∧ ((True) ∧ (True) ∧ (True) ∧ True) ∧ ((ilt (20 : Int) (ilen l)) = true → ((true = true) ∧ ((True) ∧ True) ∧ ((false : Bool) = (tblB l)) ∧ True)) ∧ ((ilt (20 : Int) (ilen l)) = false → ((true = true) ∧ ((True) ∧ (True) ∧ (True) ∧ True) ∧ ∃ (I1 : List GV → Prop) (μ1 : List GV → Nat), (((true = true) ∧ (((false : Bool) = false) ∧ (((0 : Int) : Int) = (0 : Int)) ∧ ((Cont.boolss l) = (Cont.boolss l)) ∧ (((ilen l) : Int) = (ilen l)) ∧ ((Cont.boolss l) = (Cont.boolss l)) ∧ (((ilen l) : Int) = (ilen l)) ∧ (((ilt (20 : Int) (ilen l)) : Bool) = (ilt (20 : Int) (ilen l))) ∧ ((Cont.boolss l) = (Cont.boolss l)) ∧ True) ∧ (True)) ∧ (([GK.int, GK.bool] : List GK) = ([GK.int, GK.bool] : List GK)) ∧ I1 [GV.int (0 : Int), GV.bool false]) ∧ (∀ i1_0 : Int, ∀ b1_1 : Bool, I1 [GV.int i1_0, GV.bool b1_1] → ((true = true) ∧ ((True) ∧ True) ∧ ((ilt i1_0 (ilen l)) = true → ((true = true) ∧ ((NLe 0 i1_0 ∧ NLt i1_0 (ilen l)) ∧ (True) ∧ (True) ∧ True) ∧ (true = true) ∧ ((True) ∧ (True) ∧ (True) ∧ (True) ∧ (NIs (ilt (20 : Int) (ilen (getl l i1_0))) false → True) ∧ (NIs (ilt (20 : Int) (ilen (getl l i1_0))) false → True) ∧ (NIs (ilt (20 : Int) (ilen (getl l i1_0))) false → True) ∧ (NIs (ilt (20 : Int) (ilen (getl l i1_0))) false → (NLe 0 (0 : Int) ∧ NLt (0 : Int) (ilen l))) ∧ (NIs (ilt (20 : Int) (ilen (getl l i1_0))) false → True) ∧ (NIs (ilt (20 : Int) (ilen (getl l i1_0))) false → True) ∧ (NIs (ilt (20 : Int) (ilen (getl l i1_0))) false → True) ∧ (True) ∧ True) ∧ ((bite (ilt (20 : Int) (ilen (getl l i1_0))) true (bnot (ieq (ilen (getl l i1_0)) (ilen (getl l (0 : Int)))))) = true → ((true = true) ∧ ((True) ∧ True) ∧ ((false : Bool) = (tblB l)) ∧ True)) ∧ ((bite (ilt (20 : Int) (ilen (getl l i1_0))) true (bnot (ieq (ilen (getl l i1_0)) (ilen (getl l (0 : Int)))))) = false → ((true = true) ∧ ((True) ∧ (True) ∧ True) ∧ ((true = true) ∧ (((b1_1 : Bool) = b1_1) ∧ (((iadd i1_0 (1 : Int)) : Int) = (iadd i1_0 (1 : Int))) ∧ ((Cont.boolss l) = (Cont.boolss l)) ∧ (((ilen l) : Int) = (ilen l)) ∧ ((Cont.boolss l) = (Cont.boolss l)) ∧ (((ilen l) : Int) = (ilen l)) ∧ (((ilt (20 : Int) (ilen l)) : Bool) = (ilt (20 : Int) (ilen l))) ∧ ((Cont.boolss l) = (Cont.boolss l)) ∧ True) ∧ (True)) ∧ ((([GK.int, GK.bool] : List GK) = ([GK.int, GK.bool] : List GK)) ∧ I1 [GV.int (iadd i1_0 (1 : Int)), GV.bool b1_1] ∧ μ1 [GV.int (iadd i1_0 (1 : Int)), GV.bool b1_1] < μ1 [GV.int i1_0, GV.bool b1_1]))))) ∧ ((ilt i1_0 (ilen l)) = false → ((true = true) ∧ ((True) ∧ True) ∧ ((true : Bool) = (tblB l)) ∧ True))))))) = ev sig_impl_tableValid xs_impl_tableValid Try.f61.ntmps (fun b => if b == 0 then [.v 10, .v 2] else []) (codeOf Try.f61) 0 (initS [.s (.view (.boolss l))]) (retK Try.f61.results.toList [.s (.bool (tblB l))]) := by kernel_rfl
set_option maxHeartbeats 400000 in
theorem F_impl_tableValid : FunOK 61 g_impl_tableValid := by
  refine fun_F (by kernel_rfl) Try.func61 rfl (by kernel_rfl) sig_impl_tableValid_ok xs_impl_tableValid_ok ?_
  intro avs sg h hn hl
  unfold g_impl_tableValid at h
  split at h
  · rename_i l
    injection h with h; subst h
    refine ⟨by kernel_rfl, fun b => if b == 0 then [.v 10, .v 2] else [], Eq.mp (V_impl_tableValid l) ?_⟩
    simp only [true_and, and_true, implies_true, and_self, forall_const, true_implies, lenA, lenL, SV.lenOK, Cont.lenOK] at hn hl ⊢
    have h0 := ilen_0 l
    simp only [ilt_t, ilt_f, ile_t, ile_f, ieq_t, ieq_f, bnot_e, band_e, bite_and, bite_or, NLt_e, NLe_e, NNe_e, NIs_e, imax_e, imin_e, irem_e, Bool.not_eq_true', Bool.not_eq_false', Bool.and_eq_true, Bool.or_eq_true, Bool.or_eq_false_iff, Bool.and_eq_false_iff, Cont.pts.injEq, Cont.ints.injEq, Cont.bools.injEq, Cont.ptss.injEq, Cont.intss.injEq, Cont.boolss.injEq, true_and, and_true, implies_true]
    refine ⟨fun h => by unfold tblB; simp; omega, fun hle => ?_⟩
    refine ⟨fun | .int k :: _ => 0 ≤ k ∧ k ≤ ilen l ∧ (∀ i, 0 ≤ i → i < k → tblE l i = true) | _ => False, fun | .int k :: _ => (ilen l - k).toNat | _ => 0, ?_, ?_⟩
    · exact ⟨Int.le_refl 0, h0, fun j h0 h1 => absurd h1 (by omega)⟩
    · rintro k _ ⟨hk0, hk1, hk⟩
      simp only [ilt_t, ilt_f, ile_t, ile_f, ieq_t, ieq_f, bnot_e, band_e, bite_and, bite_or, NLt_e, NLe_e, NNe_e, NIs_e, imax_e, imin_e, irem_e, Bool.not_eq_true', Bool.not_eq_false', Bool.and_eq_true, Bool.or_eq_true, Bool.or_eq_false_iff, Bool.and_eq_false_iff, Cont.pts.injEq, Cont.ints.injEq, Cont.bools.injEq, Cont.ptss.injEq, Cont.intss.injEq, Cont.boolss.injEq, true_and, and_true, implies_true]
      refine ⟨fun hkn => ⟨⟨hk0, hkn⟩, fun _ => ⟨by omega, by omega⟩, fun hx => ?_, fun hx => ?_⟩, fun hkn => ?_⟩
      · have hE : tblE l k = false := by unfold tblE; simp only [decide_eq_false_iff_not]; omega
        unfold tblB; rw [allN_no k hk0 hkn hE]; simp
      · have hE : tblE l k = true := by unfold tblE; simp only [decide_eq_true_eq]; omega
        rw [iadd_1 hk0 hkn hl.1]
        exact ⟨⟨by omega, by omega, upTo hk hE⟩, by omega⟩
      · unfold tblB; rw [allN_mk fun j j0 j1 => hk j j0 (by omega)]; simp [ile, hle]
  · cases h
theorem inB_eq (n lo hi : Int) : inB n lo hi = (ile lo n && ile n hi) := by
  unfold inB ile
  by_cases h1 : lo ≤ n <;> by_cases h2 : n ≤ hi <;> simp [h1, h2]
def g_impl_within : List AV → Option Sg
  | [.s (.int n), .s (.int lo), .s (.int hi)] => some ⟨True, [.s (.bool (inB n lo hi))]⟩
  | _ => none
def sig_impl_within : FuncId → List AV → Option Sg := sigL []
def xs_impl_within : XS := ⟨xsigL [], ysigL []⟩
theorem sig_impl_within_ok : SigOK sig_impl_within := sigL_nil
theorem xs_impl_within_ok : XSigOK xs_impl_within := ⟨xsigL_nil, ysigL_nil⟩
theorem V_impl_within (n : Int) (lo : Int) (hi : Int) : ((true = true) ∧ ((True) ∧ True) ∧ (true = true) ∧ ((True) ∧ (True) ∧ (True) ∧ (True) ∧ (NIs (ile lo n) true → True) ∧ (NIs (ile lo n) true → True) ∧ (NIs (ile lo n) true → True) ∧ (True) ∧ (True) ∧ True) ∧ (((bite (ile lo n) (ile n hi) false) : Bool) = (inB n lo hi)) ∧ True) = ev sig_impl_within xs_impl_within Try.f71.ntmps (fun b => []) (codeOf Try.f71) 0 (initS [.s (.int n), .s (.int lo), .s (.int hi)]) (retK Try.f71.results.toList [.s (.bool (inB n lo hi))]) := by kernel_rfl
set_option maxHeartbeats 400000 in
theorem F_impl_within : FunOK 71 g_impl_within := by
  refine fun_F (by kernel_rfl) Try.func71 rfl (by kernel_rfl) sig_impl_within_ok xs_impl_within_ok ?_
  intro avs sg h hn hl
  unfold g_impl_within at h
  split at h
  · rename_i n lo hi
    injection h with h; subst h
    refine ⟨by kernel_rfl, fun b => [], Eq.mp (V_impl_within n lo hi) ?_⟩
    simp only [true_and, and_true, implies_true, and_self, forall_const, true_implies, lenA, lenL, SV.lenOK, Cont.lenOK] at hn hl ⊢
    simp only [bite_and, inB_eq]
  · cases h
def g_impl_isFree : List AV → Option Sg
  | [.s (.view (.boolss l)), .agg [.int c1, .int c2]] => some ⟨True, [.s (.bool (freeB l c1 c2))]⟩
  | _ => none
def sig_impl_isFree : FuncId → List AV → Option Sg := sigL []
def xs_impl_isFree : XS := ⟨xsigL [], ysigL []⟩
theorem sig_impl_isFree_ok : SigOK sig_impl_isFree := sigL_nil
theorem xs_impl_isFree_ok : XSigOK xs_impl_isFree := ⟨xsigL_nil, ysigL_nil⟩
theorem V_impl_isFree (l : List (List Bool)) (c1 : Int) (c2 : Int) : ((true = true) ∧ ((True) ∧ (True) ∧ True) ∧ (true = true) ∧ ((True) ∧ (True) ∧ (True) ∧ (True) ∧ (NIs (ile (0 : Int) c1) true → True) ∧ (NIs (ile (0 : Int) c1) true → True) ∧ (NIs (ile (0 : Int) c1) true → True) ∧ (NIs (ile (0 : Int) c1) true → True) ∧ (NIs (ile (0 : Int) c1) true → True) ∧ (True) ∧ (True) ∧ (NIs (bite (ile (0 : Int) c1) (ilt c1 (ilen l)) false) true → True) ∧ (NIs (bite (ile (0 : Int) c1) (ilt c1 (ilen l)) false) true → True) ∧ (NIs (bite (ile (0 : Int) c1) (ilt c1 (ilen l)) false) true → True) ∧ (True) ∧ (True) ∧ (NIs (bite (bite (ile (0 : Int) c1) (ilt c1 (ilen l)) false) (ile (0 : Int) c2) false) true → True) ∧ (NIs (bite (bite (ile (0 : Int) c1) (ilt c1 (ilen l)) false) (ile (0 : Int) c2) false) true → True) ∧ (NIs (bite (bite (ile (0 : Int) c1) (ilt c1 (ilen l)) false) (ile (0 : Int) c2) false) true → True) ∧ (NIs (bite (bite (ile (0 : Int) c1) (ilt c1 (ilen l)) false) (ile (0 : Int) c2) false) true → True) ∧ (NIs (bite (bite (ile (0 : Int) c1) (ilt c1 (ilen l)) false) (ile (0 : Int) c2) false) true → True) ∧ (NIs (bite (bite (ile (0 : Int) c1) (ilt c1 (ilen l)) false) (ile (0 : Int) c2) false) true → (NLe 0 c1 ∧ NLt c1 (ilen l))) ∧ (NIs (bite (bite (ile (0 : Int) c1) (ilt c1 (ilen l)) false) (ile (0 : Int) c2) false) true → True) ∧ (NIs (bite (bite (ile (0 : Int) c1) (ilt c1 (ilen l)) false) (ile (0 : Int) c2) false) true → True) ∧ (NIs (bite (bite (ile (0 : Int) c1) (ilt c1 (ilen l)) false) (ile (0 : Int) c2) false) true → True) ∧ (True) ∧ (True) ∧ (NIs (bite (bite (bite (ile (0 : Int) c1) (ilt c1 (ilen l)) false) (ile (0 : Int) c2) false) (ilt c2 (ilen (getl l c1))) false) true → True) ∧ (NIs (bite (bite (bite (ile (0 : Int) c1) (ilt c1 (ilen l)) false) (ile (0 : Int) c2) false) (ilt c2 (ilen (getl l c1))) false) true → True) ∧ (NIs (bite (bite (bite (ile (0 : Int) c1) (ilt c1 (ilen l)) false) (ile (0 : Int) c2) false) (ilt c2 (ilen (getl l c1))) false) true → True) ∧ (NIs (bite (bite (bite (ile (0 : Int) c1) (ilt c1 (ilen l)) false) (ile (0 : Int) c2) false) (ilt c2 (ilen (getl l c1))) false) true → (NLe 0 c1 ∧ NLt c1 (ilen l))) ∧ (NIs (bite (bite (bite (ile (0 : Int) c1) (ilt c1 (ilen l)) false) (ile (0 : Int) c2) false) (ilt c2 (ilen (getl l c1))) false) true → True) ∧ (NIs (bite (bite (bite (ile (0 : Int) c1) (ilt c1 (ilen l)) false) (ile (0 : Int) c2) false) (ilt c2 (ilen (getl l c1))) false) true → True) ∧ (NIs (bite (bite (bite (ile (0 : Int) c1) (ilt c1 (ilen l)) false) (ile (0 : Int) c2) false) (ilt c2 (ilen (getl l c1))) false) true → True) ∧ (NIs (bite (bite (bite (ile (0 : Int) c1) (ilt c1 (ilen l)) false) (ile (0 : Int) c2) false) (ilt c2 (ilen (getl l c1))) false) true → (NLe 0 c2 ∧ NLt c2 (ilen (getl l c1)))) ∧ (NIs (bite (bite (bite (ile (0 : Int) c1) (ilt c1 (ilen l)) false) (ile (0 : Int) c2) false) (ilt c2 (ilen (getl l c1))) false) true → True) ∧ (True) ∧ (True) ∧ True) ∧ (((bite (bite (bite (bite (ile (0 : Int) c1) (ilt c1 (ilen l)) false) (ile (0 : Int) c2) false) (ilt c2 (ilen (getl l c1))) false) (getb (getl l c1) c2) false) : Bool) = (freeB l c1 c2)) ∧ True) = ev sig_impl_isFree xs_impl_isFree Try.f62.ntmps (fun b => []) (codeOf Try.f62) 0 (initS [.s (.view (.boolss l)), .agg [.int c1, .int c2]]) (retK Try.f62.results.toList [.s (.bool (freeB l c1 c2))]) := by kernel_rfl
set_option maxHeartbeats 400000 in
theorem F_impl_isFree : FunOK 62 g_impl_isFree := by
  refine fun_F (by kernel_rfl) Try.func62 rfl (by kernel_rfl) sig_impl_isFree_ok xs_impl_isFree_ok ?_
  intro avs sg h hn hl
  unfold g_impl_isFree at h
  split at h
  · rename_i l c1 c2
    injection h with h; subst h
    refine ⟨by kernel_rfl, fun b => [], Eq.mp (V_impl_isFree l c1 c2) ?_⟩
    simp only [true_and, and_true, implies_true, and_self, forall_const, true_implies, lenA, lenL, SV.lenOK, Cont.lenOK] at hn hl ⊢
    simp only [ilt_t, ilt_f, ile_t, ile_f, ieq_t, ieq_f, bnot_e, band_e, bite_and, bite_or, NLt_e, NLe_e, NNe_e, NIs_e, imax_e, imin_e, irem_e, Bool.not_eq_true', Bool.not_eq_false', Bool.and_eq_true, Bool.or_eq_true, Bool.or_eq_false_iff, Bool.and_eq_false_iff, Cont.pts.injEq, Cont.ints.injEq, Cont.bools.injEq, Cont.ptss.injEq, Cont.intss.injEq, Cont.boolss.injEq, true_and, and_true, implies_true]
    refine ⟨⟨fun h => h.1, fun h => h.1.1, fun h => ⟨h.1.2, h.2⟩⟩, ?_⟩
    simp only [freeB, ile, ilt, Bool.decide_and, Bool.and_assoc]
  · cases h
theorem mul20 {x y : Int} (hx : -20000 ≤ x ∧ x ≤ 20000) (hy : -20000 ≤ y ∧ y ≤ 20000) : -400000000 ≤ x * y ∧ x * y ≤ 400000000 := by
  have h := mul_box hx.1 hx.2 hy.1 hy.2
  generalize x * y = z at *
  have e1 : min (min ((-20000 : Int) * -20000) (-20000 * 20000)) (min (20000 * -20000) (20000 * 20000)) = -400000000 := by decide
  have e2 : max (max ((-20000 : Int) * -20000) (-20000 * 20000)) (max (20000 * -20000) (20000 * 20000)) = 400000000 := by decide
  rw [e1, e2] at h
  exact h
theorem crW_e {a1 a2 b1 b2 c1 c2 : Int} (ha : vB a1 a2 = true) (hb : vB b1 b2 = true) (hc : vB c1 c2 = true) : crW a1 a2 b1 b2 c1 c2 = crs (a1, a2) (b1, b2) (c1, c2) := by
  unfold vB at ha hb hc
  simp only [Bool.and_eq_true] at ha hb hc
  have a1' := inB_true ha.1; have a2' := inB_true ha.2; have b1' := inB_true hb.1; have b2' := inB_true hb.2; have c1' := inB_true hc.1; have c2' := inB_true hc.2
  unfold crW crs
  rw [isub_e (a := b1) (by omega) (by omega), isub_e (a := c2) (by omega) (by omega), isub_e (a := b2) (by omega) (by omega), isub_e (a := c1) (by omega) (by omega)]
  have m1 := mul20 (x := b1 - a1) (y := c2 - a2) (by omega) (by omega)
  have m2 := mul20 (x := b2 - a2) (y := c1 - a1) (by omega) (by omega)
  rw [imul_e (a := b1 - a1) (by omega) (by omega), imul_e (a := b2 - a2) (by omega) (by omega), isub_e (by omega) (by omega)]
def P (l : List Pt) (i : Int) : Pt := (getx l i, gety l i)
theorem sgn_01 (z : Int) : -1 ≤ sgn z ∧ sgn z ≤ 1 := by unfold sgn; split <;> (try split) <;> omega
theorem ieq_sgn (z : Int) : ieq (sgn z) 0 = decide (z = 0) := by
  unfold ieq
  congr 1
  simp only [eq_iff_iff]
  unfold sgn; split <;> (try split) <;> omega
theorem imul_sgn (x y : Int) : imul (sgn x) (sgn y) = sgn x * sgn y := by
  have s1 := sgn_01 x; have s2 := sgn_01 y
  have := mul20 (x := sgn x) (y := sgn y) (by omega) (by omega)
  exact imul_e (by omega) (by omega)
theorem sgn_0 (z : Int) : sgn z = 0 ↔ z = 0 := by unfold sgn; split <;> (try split) <;> omega
def btW (a1 a2 b1 b2 p1 p2 : Int) : Bool := inB p1 (min a1 b1) (max a1 b1) && inB p2 (min a2 b2) (max a2 b2)
theorem btW_e (a1 a2 b1 b2 p1 p2 : Int) : btW a1 a2 b1 b2 p1 p2 = btw (a1, a2) (b1, b2) (p1, p2) := by
  unfold btW btw inB
  simp only [← Bool.decide_and]
  congr 1
  simp only [eq_iff_iff]
  constructor
  · rintro ⟨⟨h1, h2⟩, h3, h4⟩; exact ⟨h1, h2, h3, h4⟩
  · rintro ⟨h1, h2, h3, h4⟩; exact ⟨⟨h1, h2⟩, h3, h4⟩
def g_impl_PathValid : List AV → Option Sg
  | [.s (.view (.boolss l)), .s (.view (.pts p))] => some ⟨True, [.s (.bool (pvB l p))]⟩
  | _ => none
def sig_impl_PathValid : FuncId → List AV → Option Sg := sigL [(61, g_impl_tableValid), (71, g_impl_within), (62, g_impl_isFree)]
def xs_impl_PathValid : XS := ⟨xsigL [], ysigL []⟩
theorem sig_impl_PathValid_ok : SigOK sig_impl_PathValid := sigL_cons F_impl_tableValid (sigL_cons F_impl_within (sigL_cons F_impl_isFree sigL_nil))
theorem xs_impl_PathValid_ok : XSigOK xs_impl_PathValid := ⟨xsigL_nil, ysigL_nil⟩
theorem V_impl_PathValid (l : List (List Bool)) (p : List Pt) : ((true = true) ∧ ((True) ∧ True) ∧ (true = true) ∧ ((True) ∧ ((True)) ∧ (True) ∧ (True) ∧ (NIs (bnot (tblB l)) false → True) ∧ (NIs (bnot (tblB l)) false → True) ∧ (NIs (bnot (tblB l)) false → (True)) ∧ (NIs (bnot (tblB l)) false → True) ∧ (True) ∧ True) ∧ ((bite (bnot (tblB l)) true (bnot (inB (ilen p) (1 : Int) (400 : Int)))) = true → ((true = true) ∧ ((True) ∧ True) ∧ ((false : Bool) = (pvB l p)) ∧ True)) ∧ ((bite (bnot (tblB l)) true (bnot (inB (ilen p) (1 : Int) (400 : Int)))) = false → ((true = true) ∧ ((True) ∧ (True) ∧ (True) ∧ True) ∧ ∃ (I1 : List GV → Prop) (μ1 : List GV → Nat), (((true = true) ∧ (((false : Bool) = false) ∧ (((0 : Int) : Int) = (0 : Int)) ∧ ((Cont.pts p) = (Cont.pts p)) ∧ (((ilen p) : Int) = (ilen p)) ∧ ((Cont.boolss l) = (Cont.boolss l)) ∧ (((tblB l) : Bool) = (tblB l)) ∧ (((bnot (tblB l)) : Bool) = (bnot (tblB l))) ∧ (((bnot (tblB l)) : Bool) = (bnot (tblB l))) ∧ (((bite (bnot (tblB l)) true (bnot (inB (ilen p) (1 : Int) (400 : Int)))) : Bool) = (bite (bnot (tblB l)) true (bnot (inB (ilen p) (1 : Int) (400 : Int))))) ∧ ((Cont.boolss l) = (Cont.boolss l)) ∧ ((Cont.pts p) = (Cont.pts p)) ∧ True) ∧ (True)) ∧ (([GK.int, GK.bool] : List GK) = ([GK.int, GK.bool] : List GK)) ∧ I1 [GV.int (0 : Int), GV.bool false]) ∧ (∀ i1_0 : Int, ∀ b1_1 : Bool, I1 [GV.int i1_0, GV.bool b1_1] → ((true = true) ∧ ((True) ∧ True) ∧ ((ilt i1_0 (ilen p)) = true → ((true = true) ∧ ((True) ∧ (NLe 0 i1_0 ∧ NLt i1_0 (ilen p)) ∧ (True) ∧ (True) ∧ (True) ∧ True) ∧ (True) ∧ (true = true) ∧ ((True) ∧ (True) ∧ ((True)) ∧ (True) ∧ True) ∧ ((bnot (freeB l (getx p i1_0) (gety p i1_0))) = true → ((true = true) ∧ ((True) ∧ True) ∧ ((false : Bool) = (pvB l p)) ∧ True)) ∧ ((bnot (freeB l (getx p i1_0) (gety p i1_0))) = false → ((true = true) ∧ ((True) ∧ (True) ∧ True) ∧ ((ilt (0 : Int) i1_0) = true → ((true = true) ∧ ((True) ∧ (True) ∧ (True) ∧ (True) ∧ (True) ∧ (NLe 0 (isub i1_0 (1 : Int)) ∧ NLt (isub i1_0 (1 : Int)) (ilen p)) ∧ (True) ∧ (True) ∧ (True) ∧ (True) ∧ (True) ∧ (True) ∧ (True) ∧ (True) ∧ (NLe 0 (isub i1_0 (1 : Int)) ∧ NLt (isub i1_0 (1 : Int)) (ilen p)) ∧ (True) ∧ (True) ∧ (True) ∧ (True) ∧ (True) ∧ True) ∧ (true = true) ∧ ((True) ∧ (True) ∧ (True) ∧ (True) ∧ (True) ∧ (True) ∧ (True) ∧ (True) ∧ True) ∧ ((bnot (ieq (iadd (imul (isub (getx p i1_0) (getx p (isub i1_0 (1 : Int)))) (isub (getx p i1_0) (getx p (isub i1_0 (1 : Int))))) (imul (isub (gety p i1_0) (gety p (isub i1_0 (1 : Int)))) (isub (gety p i1_0) (gety p (isub i1_0 (1 : Int)))))) (1 : Int))) = true → ((true = true) ∧ ((True) ∧ True) ∧ ((false : Bool) = (pvB l p)) ∧ True)) ∧ ((bnot (ieq (iadd (imul (isub (getx p i1_0) (getx p (isub i1_0 (1 : Int)))) (isub (getx p i1_0) (getx p (isub i1_0 (1 : Int))))) (imul (isub (gety p i1_0) (gety p (isub i1_0 (1 : Int)))) (isub (gety p i1_0) (gety p (isub i1_0 (1 : Int)))))) (1 : Int))) = false → ((true = true) ∧ ((True) ∧ (True) ∧ True) ∧ ((true = true) ∧ (((b1_1 : Bool) = b1_1) ∧ (((iadd i1_0 (1 : Int)) : Int) = (iadd i1_0 (1 : Int))) ∧ ((Cont.pts p) = (Cont.pts p)) ∧ (((ilen p) : Int) = (ilen p)) ∧ ((Cont.boolss l) = (Cont.boolss l)) ∧ (((tblB l) : Bool) = (tblB l)) ∧ (((bnot (tblB l)) : Bool) = (bnot (tblB l))) ∧ (((bnot (tblB l)) : Bool) = (bnot (tblB l))) ∧ (((bite (bnot (tblB l)) true (bnot (inB (ilen p) (1 : Int) (400 : Int)))) : Bool) = (bite (bnot (tblB l)) true (bnot (inB (ilen p) (1 : Int) (400 : Int))))) ∧ ((Cont.boolss l) = (Cont.boolss l)) ∧ ((Cont.pts p) = (Cont.pts p)) ∧ True) ∧ (True)) ∧ ((([GK.int, GK.bool] : List GK) = ([GK.int, GK.bool] : List GK)) ∧ I1 [GV.int (iadd i1_0 (1 : Int)), GV.bool b1_1] ∧ μ1 [GV.int (iadd i1_0 (1 : Int)), GV.bool b1_1] < μ1 [GV.int i1_0, GV.bool b1_1]))))) ∧ ((ilt (0 : Int) i1_0) = false → ((true = true) ∧ ((True) ∧ (True) ∧ True) ∧ ((true = true) ∧ (((b1_1 : Bool) = b1_1) ∧ (((iadd i1_0 (1 : Int)) : Int) = (iadd i1_0 (1 : Int))) ∧ ((Cont.pts p) = (Cont.pts p)) ∧ (((ilen p) : Int) = (ilen p)) ∧ ((Cont.boolss l) = (Cont.boolss l)) ∧ (((tblB l) : Bool) = (tblB l)) ∧ (((bnot (tblB l)) : Bool) = (bnot (tblB l))) ∧ (((bnot (tblB l)) : Bool) = (bnot (tblB l))) ∧ (((bite (bnot (tblB l)) true (bnot (inB (ilen p) (1 : Int) (400 : Int)))) : Bool) = (bite (bnot (tblB l)) true (bnot (inB (ilen p) (1 : Int) (400 : Int))))) ∧ ((Cont.boolss l) = (Cont.boolss l)) ∧ ((Cont.pts p) = (Cont.pts p)) ∧ True) ∧ (True)) ∧ ((([GK.int, GK.bool] : List GK) = ([GK.int, GK.bool] : List GK)) ∧ I1 [GV.int (iadd i1_0 (1 : Int)), GV.bool b1_1] ∧ μ1 [GV.int (iadd i1_0 (1 : Int)), GV.bool b1_1] < μ1 [GV.int i1_0, GV.bool b1_1]))))))) ∧ ((ilt i1_0 (ilen p)) = false → ((true = true) ∧ ((True) ∧ True) ∧ ((true : Bool) = (pvB l p)) ∧ True))))))) = ev sig_impl_PathValid xs_impl_PathValid Try.f24.ntmps (fun b => if b == 0 then [.v 20, .v 4] else []) (codeOf Try.f24) 0 (initS [.s (.view (.boolss l)), .s (.view (.pts p))]) (retK Try.f24.results.toList [.s (.bool (pvB l p))]) := by kernel_rfl
set_option maxHeartbeats 400000 in
theorem F_impl_PathValid : FunOK 24 g_impl_PathValid := by
  refine fun_F (by kernel_rfl) Try.func24 rfl (by kernel_rfl) sig_impl_PathValid_ok xs_impl_PathValid_ok ?_
  intro avs sg h hn hl
  unfold g_impl_PathValid at h
  split at h
  · rename_i l p
    injection h with h; subst h
    refine ⟨by kernel_rfl, fun b => if b == 0 then [.v 20, .v 4] else [], Eq.mp (V_impl_PathValid l p) ?_⟩
    simp only [true_and, and_true, implies_true, and_self, forall_const, true_implies, lenA, lenL, SV.lenOK, Cont.lenOK] at hn hl ⊢
    have h0 := ilen_0 p
    simp only [ilt_t, ilt_f, ile_t, ile_f, ieq_t, ieq_f, bnot_e, band_e, bite_and, bite_or, NLt_e, NLe_e, NNe_e, NIs_e, imax_e, imin_e, irem_e, Bool.not_eq_true', Bool.not_eq_false', Bool.and_eq_true, Bool.or_eq_true, Bool.or_eq_false_iff, Bool.and_eq_false_iff, Cont.pts.injEq, Cont.ints.injEq, Cont.bools.injEq, Cont.ptss.injEq, Cont.intss.injEq, Cont.boolss.injEq, true_and, and_true, implies_true]
    refine ⟨fun h => by unfold pvB; rcases h with h | h <;> simp [h], fun h => ?_⟩
    obtain ⟨ht, hl1⟩ := h
    refine ⟨fun | .int k :: _ => 0 ≤ k ∧ k ≤ ilen p ∧ (∀ i, 0 ≤ i → i < k → pvE l p i = true) | _ => False, fun | .int k :: _ => (ilen p - k).toNat | _ => 0, ?_, ?_⟩
    · exact ⟨Int.le_refl 0, h0, fun j h0 h1 => absurd h1 (by omega)⟩
    · rintro k _ ⟨hk0, hk1, hk⟩
      simp only [ilt_t, ilt_f, ile_t, ile_f, ieq_t, ieq_f, bnot_e, band_e, bite_and, bite_or, NLt_e, NLe_e, NNe_e, NIs_e, imax_e, imin_e, irem_e, Bool.not_eq_true', Bool.not_eq_false', Bool.and_eq_true, Bool.or_eq_true, Bool.or_eq_false_iff, Bool.and_eq_false_iff, Cont.pts.injEq, Cont.ints.injEq, Cont.bools.injEq, Cont.ptss.injEq, Cont.intss.injEq, Cont.boolss.injEq, true_and, and_true, implies_true]
      have e4 : isub k 1 = k - 1 := isub_e (by omega) (by omega)
      simp only [e4]
      refine ⟨fun hkn => ⟨⟨hk0, hkn⟩, fun hx => ?_, fun hx => ?_⟩, fun hkn => ?_⟩
      · have hE : pvE l p k = false := by unfold pvE; rw [hx]; rfl
        unfold pvB; rw [allN_no k hk0 hkn hE]; simp
      · have e1 := iadd_1 hk0 hkn hl.2
        have fin : pvE l p k = true → (0 ≤ k + 1 ∧ k + 1 ≤ ilen p ∧ ∀ i, 0 ≤ i → i < k + 1 → pvE l p i = true) ∧ (ilen p - (k + 1)).toNat < (ilen p - k).toNat := fun hE => ⟨⟨by omega, by omega, upTo hk hE⟩, by omega⟩
        have bad : pvE l p k = false → false = pvB l p := fun hE => by unfold pvB; rw [allN_no k hk0 hkn hE]; simp
        have q1 := free_in ht hx
        have q2 : 0 < k → 0 ≤ getx p (k - 1) ∧ getx p (k - 1) < 20 ∧ 0 ≤ gety p (k - 1) ∧ gety p (k - 1) < 20 := fun h => by
          have := hk (k - 1) (by omega) (by omega)
          unfold pvE at this
          simp only [Bool.and_eq_true] at this
          exact free_in ht this.1
        simp only [e1]
        refine ⟨fun hp => ⟨⟨by omega, by omega⟩, ?_⟩, fun hp => fin (by unfold pvE; rw [hx]; simp [hp])⟩
        have q3 := q2 hp
        have s1 : isub (getx p k) (getx p (k - 1)) = getx p k - getx p (k - 1) := isub_e (by omega) (by omega)
        have s2 : isub (gety p k) (gety p (k - 1)) = gety p k - gety p (k - 1) := isub_e (by omega) (by omega)
        rw [s1, s2]
        have m1 := mul20 (x := getx p k - getx p (k - 1)) (y := getx p k - getx p (k - 1)) (by omega) (by omega)
        have m2 := mul20 (x := gety p k - gety p (k - 1)) (y := gety p k - gety p (k - 1)) (by omega) (by omega)
        rw [imul_e (by omega) (by omega), imul_e (by omega) (by omega), iadd_e (by omega) (by omega)]
        have se := step_e (d := getx p k - getx p (k - 1)) (e := gety p k - gety p (k - 1))
        have t1 : -(getx p k - getx p (k - 1)) = getx p (k - 1) - getx p k := by omega
        have t2 : -(gety p k - gety p (k - 1)) = gety p (k - 1) - gety p k := by omega
        rw [t1, t2] at se
        refine ⟨fun hy => bad ?_, fun hy => fin ?_⟩
        · have hS : stepB p k = false := by unfold stepB; simp only [decide_eq_false_iff_not]; exact fun h => hy (se.2 h)
          unfold pvE; rw [hx, hS]; simp; omega
        · have hS : stepB p k = true := by unfold stepB; simp only [decide_eq_true_eq]; exact se.1 hy
          unfold pvE; rw [hx, hS]; simp
      · unfold pvB; rw [ht, hl1, allN_mk fun j j0 j1 => hk j j0 (by omega)]; rfl
  · cases h
def g_spec_l11Square : List AV → Option Sg
  | [.s (.view (.boolss l))] => some ⟨True, [.s (.bool (tblB l))]⟩
  | _ => none
def sig_spec_l11Square : FuncId → List AV → Option Sg := sigL []
def xs_spec_l11Square : XS := ⟨xsigL [], ysigL []⟩
theorem sig_spec_l11Square_ok : SigOK sig_spec_l11Square := sigL_nil
theorem xs_spec_l11Square_ok : XSigOK xs_spec_l11Square := ⟨xsigL_nil, ysigL_nil⟩
theorem V_spec_l11Square (l : List (List Bool)) : ((true = true) ∧ ((True) ∧ True) ∧ (true = true) ∧ ((True) ∧ True) ∧ ∃ (I1 : List GV → Prop) (μ1 : List GV → Nat), (((true = true) ∧ (((false : Bool) = false) ∧ (((0 : Int) : Int) = (0 : Int)) ∧ ((Cont.boolss l) = (Cont.boolss l)) ∧ True) ∧ (True)) ∧ (([GK.int, GK.bool] : List GK) = ([GK.int, GK.bool] : List GK)) ∧ I1 [GV.int (0 : Int), GV.bool false]) ∧ (∀ i1_0 : Int, ∀ b1_1 : Bool, I1 [GV.int i1_0, GV.bool b1_1] → ((true = true) ∧ ((True) ∧ (True) ∧ (True) ∧ (True) ∧ True) ∧ ((ilt i1_0 (ilen l)) = true → ((true = true) ∧ ((True) ∧ (True) ∧ (NLe 0 i1_0 ∧ NLt i1_0 (ilen l)) ∧ (True) ∧ (True) ∧ (True) ∧ (NLe 0 (0 : Int) ∧ NLt (0 : Int) (ilen l)) ∧ (True) ∧ (True) ∧ (True) ∧ (True) ∧ (NIs (bnot (ieq (ilen (getl l i1_0)) (ilen (getl l (0 : Int))))) false → True) ∧ (NIs (bnot (ieq (ilen (getl l i1_0)) (ilen (getl l (0 : Int))))) false → True) ∧ (NIs (bnot (ieq (ilen (getl l i1_0)) (ilen (getl l (0 : Int))))) false → (NLe 0 i1_0 ∧ NLt i1_0 (ilen l))) ∧ (NIs (bnot (ieq (ilen (getl l i1_0)) (ilen (getl l (0 : Int))))) false → True) ∧ (NIs (bnot (ieq (ilen (getl l i1_0)) (ilen (getl l (0 : Int))))) false → True) ∧ (NIs (bnot (ieq (ilen (getl l i1_0)) (ilen (getl l (0 : Int))))) false → True) ∧ (True) ∧ True) ∧ ((bite (bnot (ieq (ilen (getl l i1_0)) (ilen (getl l (0 : Int))))) true (ilt (20 : Int) (ilen (getl l i1_0)))) = true → ((true = true) ∧ ((True) ∧ True) ∧ ((false : Bool) = (tblB l)) ∧ True)) ∧ ((bite (bnot (ieq (ilen (getl l i1_0)) (ilen (getl l (0 : Int))))) true (ilt (20 : Int) (ilen (getl l i1_0)))) = false → ((true = true) ∧ ((True) ∧ (True) ∧ (True) ∧ True) ∧ ((true = true) ∧ (((b1_1 : Bool) = b1_1) ∧ (((iadd i1_0 (1 : Int)) : Int) = (iadd i1_0 (1 : Int))) ∧ ((Cont.boolss l) = (Cont.boolss l)) ∧ True) ∧ (True)) ∧ ((([GK.int, GK.bool] : List GK) = ([GK.int, GK.bool] : List GK)) ∧ I1 [GV.int (iadd i1_0 (1 : Int)), GV.bool b1_1] ∧ μ1 [GV.int (iadd i1_0 (1 : Int)), GV.bool b1_1] < μ1 [GV.int i1_0, GV.bool b1_1]))))) ∧ ((ilt i1_0 (ilen l)) = false → ((true = true) ∧ ((True) ∧ (True) ∧ (True) ∧ (True) ∧ True) ∧ (((ile (ilen l) (20 : Int)) : Bool) = (tblB l)) ∧ True))))) = ev sig_spec_l11Square xs_spec_l11Square Try.f56.ntmps (fun b => if b == 0 then [.v 3, .v 2] else []) (codeOf Try.f56) 0 (initS [.s (.view (.boolss l))]) (retK Try.f56.results.toList [.s (.bool (tblB l))]) := by kernel_rfl
set_option maxHeartbeats 400000 in
theorem F_spec_l11Square : FunOK 56 g_spec_l11Square := by
  refine fun_F (by kernel_rfl) Try.func56 rfl (by kernel_rfl) sig_spec_l11Square_ok xs_spec_l11Square_ok ?_
  intro avs sg h hn hl
  unfold g_spec_l11Square at h
  split at h
  · rename_i l
    injection h with h; subst h
    refine ⟨by kernel_rfl, fun b => if b == 0 then [.v 3, .v 2] else [], Eq.mp (V_spec_l11Square l) ?_⟩
    simp only [true_and, and_true, implies_true, and_self, forall_const, true_implies, lenA, lenL, SV.lenOK, Cont.lenOK] at hn hl ⊢
    have h0 := ilen_0 l
    simp only [ilt_t, ilt_f, ile_t, ile_f, ieq_t, ieq_f, bnot_e, band_e, bite_and, bite_or, NLt_e, NLe_e, NNe_e, NIs_e, imax_e, imin_e, irem_e, Bool.not_eq_true', Bool.not_eq_false', Bool.and_eq_true, Bool.or_eq_true, Bool.or_eq_false_iff, Bool.and_eq_false_iff, Cont.pts.injEq, Cont.ints.injEq, Cont.bools.injEq, Cont.ptss.injEq, Cont.intss.injEq, Cont.boolss.injEq, true_and, and_true, implies_true]
    refine ⟨fun | .int k :: _ => 0 ≤ k ∧ k ≤ ilen l ∧ (∀ i, 0 ≤ i → i < k → tblE l i = true) | _ => False, fun | .int k :: _ => (ilen l - k).toNat | _ => 0, ?_, ?_⟩
    · exact ⟨Int.le_refl 0, h0, fun j h0 h1 => absurd h1 (by omega)⟩
    · rintro k _ ⟨hk0, hk1, hk⟩
      simp only [ilt_t, ilt_f, ile_t, ile_f, ieq_t, ieq_f, bnot_e, band_e, bite_and, bite_or, NLt_e, NLe_e, NNe_e, NIs_e, imax_e, imin_e, irem_e, Bool.not_eq_true', Bool.not_eq_false', Bool.and_eq_true, Bool.or_eq_true, Bool.or_eq_false_iff, Bool.and_eq_false_iff, Cont.pts.injEq, Cont.ints.injEq, Cont.bools.injEq, Cont.ptss.injEq, Cont.intss.injEq, Cont.boolss.injEq, true_and, and_true, implies_true]
      refine ⟨fun hkn => ⟨⟨⟨hk0, hkn⟩, ⟨by omega, by omega⟩, fun _ => ⟨hk0, hkn⟩⟩, fun hx => ?_, fun hx => ?_⟩, fun hkn => ?_⟩
      · have hE : tblE l k = false := by unfold tblE; simp only [decide_eq_false_iff_not]; omega
        unfold tblB; rw [allN_no k hk0 hkn hE]; simp
      · have hE : tblE l k = true := by unfold tblE; simp only [decide_eq_true_eq]; omega
        rw [iadd_1 hk0 hkn hl.1]
        exact ⟨⟨by omega, by omega, upTo hk hE⟩, by omega⟩
      · unfold tblB; rw [allN_mk fun j j0 j1 => hk j j0 (by omega)]; simp [ile]
  · cases h
def g_spec_l1In : List AV → Option Sg
  | [.s (.int n), .s (.int lo), .s (.int hi)] => some ⟨True, [.s (.bool (inB n lo hi))]⟩
  | _ => none
def sig_spec_l1In : FuncId → List AV → Option Sg := sigL []
def xs_spec_l1In : XS := ⟨xsigL [], ysigL []⟩
theorem sig_spec_l1In_ok : SigOK sig_spec_l1In := sigL_nil
theorem xs_spec_l1In_ok : XSigOK xs_spec_l1In := ⟨xsigL_nil, ysigL_nil⟩
theorem V_spec_l1In (n : Int) (lo : Int) (hi : Int) : ((true = true) ∧ ((True) ∧ True) ∧ (true = true) ∧ ((True) ∧ (True) ∧ (True) ∧ (True) ∧ (NIs (ile lo n) true → True) ∧ (NIs (ile lo n) true → True) ∧ (NIs (ile lo n) true → True) ∧ (True) ∧ (True) ∧ True) ∧ (((bite (ile lo n) (ile n hi) false) : Bool) = (inB n lo hi)) ∧ True) = ev sig_spec_l1In xs_spec_l1In Try.f73.ntmps (fun b => []) (codeOf Try.f73) 0 (initS [.s (.int n), .s (.int lo), .s (.int hi)]) (retK Try.f73.results.toList [.s (.bool (inB n lo hi))]) := by kernel_rfl
set_option maxHeartbeats 400000 in
theorem F_spec_l1In : FunOK 73 g_spec_l1In := by
  refine fun_F (by kernel_rfl) Try.func73 rfl (by kernel_rfl) sig_spec_l1In_ok xs_spec_l1In_ok ?_
  intro avs sg h hn hl
  unfold g_spec_l1In at h
  split at h
  · rename_i n lo hi
    injection h with h; subst h
    refine ⟨by kernel_rfl, fun b => [], Eq.mp (V_spec_l1In n lo hi) ?_⟩
    simp only [true_and, and_true, implies_true, and_self, forall_const, true_implies, lenA, lenL, SV.lenOK, Cont.lenOK] at hn hl ⊢
    simp only [bite_and, inB_eq]
  · cases h
def g_spec_l11Free : List AV → Option Sg
  | [.s (.view (.boolss l)), .agg [.int c1, .int c2]] => some ⟨True, [.s (.bool (freeB l c1 c2))]⟩
  | _ => none
def sig_spec_l11Free : FuncId → List AV → Option Sg := sigL [(73, g_spec_l1In)]
def xs_spec_l11Free : XS := ⟨xsigL [], ysigL []⟩
theorem sig_spec_l11Free_ok : SigOK sig_spec_l11Free := sigL_cons F_spec_l1In sigL_nil
theorem xs_spec_l11Free_ok : XSigOK xs_spec_l11Free := ⟨xsigL_nil, ysigL_nil⟩
theorem V_spec_l11Free (l : List (List Bool)) (c1 : Int) (c2 : Int) : ((true = true) ∧ ((True) ∧ (True) ∧ True) ∧ (true = true) ∧ ((True) ∧ (True) ∧ (True) ∧ (True) ∧ (True) ∧ ((True)) ∧ (True) ∧ (NIs (inB c1 (0 : Int) (isub (ilen l) (1 : Int))) true → True) ∧ (NIs (inB c1 (0 : Int) (isub (ilen l) (1 : Int))) true → True) ∧ (NIs (inB c1 (0 : Int) (isub (ilen l) (1 : Int))) true → True) ∧ (NIs (inB c1 (0 : Int) (isub (ilen l) (1 : Int))) true → True) ∧ (NIs (inB c1 (0 : Int) (isub (ilen l) (1 : Int))) true → True) ∧ (NIs (inB c1 (0 : Int) (isub (ilen l) (1 : Int))) true → (NLe 0 c1 ∧ NLt c1 (ilen l))) ∧ (NIs (inB c1 (0 : Int) (isub (ilen l) (1 : Int))) true → True) ∧ (NIs (inB c1 (0 : Int) (isub (ilen l) (1 : Int))) true → True) ∧ (NIs (inB c1 (0 : Int) (isub (ilen l) (1 : Int))) true → True) ∧ (NIs (inB c1 (0 : Int) (isub (ilen l) (1 : Int))) true → (True)) ∧ (True) ∧ (True) ∧ (NIs (bite (inB c1 (0 : Int) (isub (ilen l) (1 : Int))) (inB c2 (0 : Int) (isub (ilen (getl l c1)) (1 : Int))) false) true → True) ∧ (NIs (bite (inB c1 (0 : Int) (isub (ilen l) (1 : Int))) (inB c2 (0 : Int) (isub (ilen (getl l c1)) (1 : Int))) false) true → True) ∧ (NIs (bite (inB c1 (0 : Int) (isub (ilen l) (1 : Int))) (inB c2 (0 : Int) (isub (ilen (getl l c1)) (1 : Int))) false) true → True) ∧ (NIs (bite (inB c1 (0 : Int) (isub (ilen l) (1 : Int))) (inB c2 (0 : Int) (isub (ilen (getl l c1)) (1 : Int))) false) true → (NLe 0 c1 ∧ NLt c1 (ilen l))) ∧ (NIs (bite (inB c1 (0 : Int) (isub (ilen l) (1 : Int))) (inB c2 (0 : Int) (isub (ilen (getl l c1)) (1 : Int))) false) true → True) ∧ (NIs (bite (inB c1 (0 : Int) (isub (ilen l) (1 : Int))) (inB c2 (0 : Int) (isub (ilen (getl l c1)) (1 : Int))) false) true → True) ∧ (NIs (bite (inB c1 (0 : Int) (isub (ilen l) (1 : Int))) (inB c2 (0 : Int) (isub (ilen (getl l c1)) (1 : Int))) false) true → True) ∧ (NIs (bite (inB c1 (0 : Int) (isub (ilen l) (1 : Int))) (inB c2 (0 : Int) (isub (ilen (getl l c1)) (1 : Int))) false) true → (NLe 0 c2 ∧ NLt c2 (ilen (getl l c1)))) ∧ (NIs (bite (inB c1 (0 : Int) (isub (ilen l) (1 : Int))) (inB c2 (0 : Int) (isub (ilen (getl l c1)) (1 : Int))) false) true → True) ∧ (True) ∧ (True) ∧ True) ∧ (((bite (bite (inB c1 (0 : Int) (isub (ilen l) (1 : Int))) (inB c2 (0 : Int) (isub (ilen (getl l c1)) (1 : Int))) false) (getb (getl l c1) c2) false) : Bool) = (freeB l c1 c2)) ∧ True) = ev sig_spec_l11Free xs_spec_l11Free Try.f57.ntmps (fun b => []) (codeOf Try.f57) 0 (initS [.s (.view (.boolss l)), .agg [.int c1, .int c2]]) (retK Try.f57.results.toList [.s (.bool (freeB l c1 c2))]) := by kernel_rfl
set_option maxHeartbeats 400000 in
theorem F_spec_l11Free : FunOK 57 g_spec_l11Free := by
  refine fun_F (by kernel_rfl) Try.func57 rfl (by kernel_rfl) sig_spec_l11Free_ok xs_spec_l11Free_ok ?_
  intro avs sg h hn hl
  unfold g_spec_l11Free at h
  split at h
  · rename_i l c1 c2
    injection h with h; subst h
    refine ⟨by kernel_rfl, fun b => [], Eq.mp (V_spec_l11Free l c1 c2) ?_⟩
    simp only [true_and, and_true, implies_true, and_self, forall_const, true_implies, lenA, lenL, SV.lenOK, Cont.lenOK] at hn hl ⊢
    have h0 := ilen_0 l
    have g0 := ilen_0 (getl l c1)
    have g1 := getl_any hl.2 c1
    have e1 : isub (ilen l) 1 = ilen l - 1 := isub_e (by omega) (by omega)
    have e2 : isub (ilen (getl l c1)) 1 = ilen (getl l c1) - 1 := isub_e (by omega) (by omega)
    simp only [ilt_t, ilt_f, ile_t, ile_f, ieq_t, ieq_f, bnot_e, band_e, bite_and, bite_or, NLt_e, NLe_e, NNe_e, NIs_e, imax_e, imin_e, irem_e, Bool.not_eq_true', Bool.not_eq_false', Bool.and_eq_true, Bool.or_eq_true, Bool.or_eq_false_iff, Bool.and_eq_false_iff, Cont.pts.injEq, Cont.ints.injEq, Cont.bools.injEq, Cont.ptss.injEq, Cont.intss.injEq, Cont.boolss.injEq, true_and, and_true, implies_true, e1, e2]
    have i1 : inB c1 0 (ilen l - 1) = decide (0 ≤ c1 ∧ c1 < ilen l) := by unfold inB; exact decide_eq_decide.2 (by omega)
    have i2 : inB c2 0 (ilen (getl l c1) - 1) = decide (0 ≤ c2 ∧ c2 < ilen (getl l c1)) := by unfold inB; exact decide_eq_decide.2 (by omega)
    rw [i1, i2]
    simp only [decide_eq_true_eq]
    exact ⟨⟨fun h => h, fun h => h.1, fun h => h.2⟩, rfl⟩
  · cases h
def g_spec_PathValid : List AV → Option Sg
  | [.s (.view (.boolss l)), .s (.view (.pts p))] => some ⟨True, [.s (.bool (pvB l p))]⟩
  | _ => none
def sig_spec_PathValid : FuncId → List AV → Option Sg := sigL [(56, g_spec_l11Square), (73, g_spec_l1In), (57, g_spec_l11Free)]
def xs_spec_PathValid : XS := ⟨xsigL [], ysigL []⟩
theorem sig_spec_PathValid_ok : SigOK sig_spec_PathValid := sigL_cons F_spec_l11Square (sigL_cons F_spec_l1In (sigL_cons F_spec_l11Free sigL_nil))
theorem xs_spec_PathValid_ok : XSigOK xs_spec_PathValid := ⟨xsigL_nil, ysigL_nil⟩
theorem V_spec_PathValid (l : List (List Bool)) (p : List Pt) : ((true = true) ∧ ((True) ∧ True) ∧ (true = true) ∧ ((True) ∧ ((True)) ∧ (True) ∧ (True) ∧ (NIs (bnot (tblB l)) false → True) ∧ (NIs (bnot (tblB l)) false → True) ∧ (NIs (bnot (tblB l)) false → (True)) ∧ (NIs (bnot (tblB l)) false → True) ∧ (True) ∧ True) ∧ ((bite (bnot (tblB l)) true (bnot (inB (ilen p) (1 : Int) (400 : Int)))) = true → ((true = true) ∧ ((True) ∧ True) ∧ ((false : Bool) = (pvB l p)) ∧ True)) ∧ ((bite (bnot (tblB l)) true (bnot (inB (ilen p) (1 : Int) (400 : Int)))) = false → ((true = true) ∧ ((True) ∧ True) ∧ ∃ (I1 : List GV → Prop) (μ1 : List GV → Nat), (((true = true) ∧ (((false : Bool) = false) ∧ (((0 : Int) : Int) = (0 : Int)) ∧ ((Cont.boolss l) = (Cont.boolss l)) ∧ (((tblB l) : Bool) = (tblB l)) ∧ (((bnot (tblB l)) : Bool) = (bnot (tblB l))) ∧ (((bnot (tblB l)) : Bool) = (bnot (tblB l))) ∧ (((bite (bnot (tblB l)) true (bnot (inB (ilen p) (1 : Int) (400 : Int)))) : Bool) = (bite (bnot (tblB l)) true (bnot (inB (ilen p) (1 : Int) (400 : Int))))) ∧ ((Cont.boolss l) = (Cont.boolss l)) ∧ ((Cont.pts p) = (Cont.pts p)) ∧ True) ∧ (True)) ∧ (([GK.int, GK.bool] : List GK) = ([GK.int, GK.bool] : List GK)) ∧ I1 [GV.int (0 : Int), GV.bool false]) ∧ (∀ i1_0 : Int, ∀ b1_1 : Bool, I1 [GV.int i1_0, GV.bool b1_1] → ((true = true) ∧ ((True) ∧ (True) ∧ (True) ∧ (True) ∧ True) ∧ ((ilt i1_0 (ilen p)) = true → ((true = true) ∧ ((True) ∧ (True) ∧ (True) ∧ (NLe 0 i1_0 ∧ NLt i1_0 (ilen p)) ∧ (True) ∧ ((True)) ∧ (True) ∧ True) ∧ ((bnot (freeB l (getx p i1_0) (gety p i1_0))) = true → ((true = true) ∧ ((True) ∧ True) ∧ ((false : Bool) = (pvB l p)) ∧ True)) ∧ ((bnot (freeB l (getx p i1_0) (gety p i1_0))) = false → ((true = true) ∧ ((True) ∧ (True) ∧ (True) ∧ (NIs (ilt (0 : Int) i1_0) true → True) ∧ (NIs (ilt (0 : Int) i1_0) true → True) ∧ (NIs (ilt (0 : Int) i1_0) true → (NLe 0 i1_0 ∧ NLt i1_0 (ilen p))) ∧ (NIs (ilt (0 : Int) i1_0) true → True) ∧ (NIs (ilt (0 : Int) i1_0) true → True) ∧ (NIs (ilt (0 : Int) i1_0) true → True) ∧ (NIs (ilt (0 : Int) i1_0) true → True) ∧ (NIs (ilt (0 : Int) i1_0) true → True) ∧ (NIs (ilt (0 : Int) i1_0) true → (NLe 0 (isub i1_0 (1 : Int)) ∧ NLt (isub i1_0 (1 : Int)) (ilen p))) ∧ (NIs (ilt (0 : Int) i1_0) true → True) ∧ (NIs (ilt (0 : Int) i1_0) true → True) ∧ (NIs (ilt (0 : Int) i1_0) true → True) ∧ (NIs (ilt (0 : Int) i1_0) true → True) ∧ (NIs (ilt (0 : Int) i1_0) true → True) ∧ (NIs (ilt (0 : Int) i1_0) true → True) ∧ (NIs (ilt (0 : Int) i1_0) true → (NLe 0 (isub i1_0 (1 : Int)) ∧ NLt (isub i1_0 (1 : Int)) (ilen p))) ∧ (NIs (ilt (0 : Int) i1_0) true → True) ∧ (NIs (ilt (0 : Int) i1_0) true → True) ∧ (NIs (ilt (0 : Int) i1_0) true → True) ∧ (NIs (ilt (0 : Int) i1_0) true → True) ∧ (NIs (ilt (0 : Int) i1_0) true → (NLe 0 i1_0 ∧ NLt i1_0 (ilen p))) ∧ (NIs (ilt (0 : Int) i1_0) true → True) ∧ (NIs (ilt (0 : Int) i1_0) true → True) ∧ (NIs (ilt (0 : Int) i1_0) true → True) ∧ (NIs (ilt (0 : Int) i1_0) true → True) ∧ (NIs (ilt (0 : Int) i1_0) true → True) ∧ (NIs (ilt (0 : Int) i1_0) true → True) ∧ (NIs (ilt (0 : Int) i1_0) true → (NLe 0 i1_0 ∧ NLt i1_0 (ilen p))) ∧ (NIs (ilt (0 : Int) i1_0) true → True) ∧ (NIs (ilt (0 : Int) i1_0) true → True) ∧ (NIs (ilt (0 : Int) i1_0) true → True) ∧ (NIs (ilt (0 : Int) i1_0) true → True) ∧ (NIs (ilt (0 : Int) i1_0) true → True) ∧ (NIs (ilt (0 : Int) i1_0) true → (NLe 0 (isub i1_0 (1 : Int)) ∧ NLt (isub i1_0 (1 : Int)) (ilen p))) ∧ (NIs (ilt (0 : Int) i1_0) true → True) ∧ (NIs (ilt (0 : Int) i1_0) true → True) ∧ (NIs (ilt (0 : Int) i1_0) true → True) ∧ (NIs (ilt (0 : Int) i1_0) true → True) ∧ (NIs (ilt (0 : Int) i1_0) true → True) ∧ (NIs (ilt (0 : Int) i1_0) true → True) ∧ (NIs (ilt (0 : Int) i1_0) true → (NLe 0 (isub i1_0 (1 : Int)) ∧ NLt (isub i1_0 (1 : Int)) (ilen p))) ∧ (NIs (ilt (0 : Int) i1_0) true → True) ∧ (NIs (ilt (0 : Int) i1_0) true → True) ∧ (NIs (ilt (0 : Int) i1_0) true → True) ∧ (NIs (ilt (0 : Int) i1_0) true → True) ∧ (NIs (ilt (0 : Int) i1_0) true → (NLe 0 i1_0 ∧ NLt i1_0 (ilen p))) ∧ (NIs (ilt (0 : Int) i1_0) true → True) ∧ (NIs (ilt (0 : Int) i1_0) true → True) ∧ (NIs (ilt (0 : Int) i1_0) true → True) ∧ (NIs (ilt (0 : Int) i1_0) true → True) ∧ (NIs (ilt (0 : Int) i1_0) true → True) ∧ (NIs (ilt (0 : Int) i1_0) true → True) ∧ (True) ∧ True) ∧ ((bite (ilt (0 : Int) i1_0) (bnot (ieq (iadd (imax (isub (getx p i1_0) (getx p (isub i1_0 (1 : Int)))) (isub (getx p (isub i1_0 (1 : Int))) (getx p i1_0))) (imax (isub (gety p i1_0) (gety p (isub i1_0 (1 : Int)))) (isub (gety p (isub i1_0 (1 : Int))) (gety p i1_0)))) (1 : Int))) false) = true → ((true = true) ∧ ((True) ∧ True) ∧ ((false : Bool) = (pvB l p)) ∧ True)) ∧ ((bite (ilt (0 : Int) i1_0) (bnot (ieq (iadd (imax (isub (getx p i1_0) (getx p (isub i1_0 (1 : Int)))) (isub (getx p (isub i1_0 (1 : Int))) (getx p i1_0))) (imax (isub (gety p i1_0) (gety p (isub i1_0 (1 : Int)))) (isub (gety p (isub i1_0 (1 : Int))) (gety p i1_0)))) (1 : Int))) false) = false → ((true = true) ∧ ((True) ∧ (True) ∧ (True) ∧ True) ∧ ((true = true) ∧ (((b1_1 : Bool) = b1_1) ∧ (((iadd i1_0 (1 : Int)) : Int) = (iadd i1_0 (1 : Int))) ∧ ((Cont.boolss l) = (Cont.boolss l)) ∧ (((tblB l) : Bool) = (tblB l)) ∧ (((bnot (tblB l)) : Bool) = (bnot (tblB l))) ∧ (((bnot (tblB l)) : Bool) = (bnot (tblB l))) ∧ (((bite (bnot (tblB l)) true (bnot (inB (ilen p) (1 : Int) (400 : Int)))) : Bool) = (bite (bnot (tblB l)) true (bnot (inB (ilen p) (1 : Int) (400 : Int))))) ∧ ((Cont.boolss l) = (Cont.boolss l)) ∧ ((Cont.pts p) = (Cont.pts p)) ∧ True) ∧ (True)) ∧ ((([GK.int, GK.bool] : List GK) = ([GK.int, GK.bool] : List GK)) ∧ I1 [GV.int (iadd i1_0 (1 : Int)), GV.bool b1_1] ∧ μ1 [GV.int (iadd i1_0 (1 : Int)), GV.bool b1_1] < μ1 [GV.int i1_0, GV.bool b1_1]))))))) ∧ ((ilt i1_0 (ilen p)) = false → ((true = true) ∧ ((True) ∧ True) ∧ ((true : Bool) = (pvB l p)) ∧ True))))))) = ev sig_spec_PathValid xs_spec_PathValid Try.f27.ntmps (fun b => if b == 0 then [.v 5, .v 4] else []) (codeOf Try.f27) 0 (initS [.s (.view (.boolss l)), .s (.view (.pts p))]) (retK Try.f27.results.toList [.s (.bool (pvB l p))]) := by kernel_rfl
set_option maxHeartbeats 400000 in
theorem F_spec_PathValid : FunOK 27 g_spec_PathValid := by
  refine fun_F (by kernel_rfl) Try.func27 rfl (by kernel_rfl) sig_spec_PathValid_ok xs_spec_PathValid_ok ?_
  intro avs sg h hn hl
  unfold g_spec_PathValid at h
  split at h
  · rename_i l p
    injection h with h; subst h
    refine ⟨by kernel_rfl, fun b => if b == 0 then [.v 5, .v 4] else [], Eq.mp (V_spec_PathValid l p) ?_⟩
    simp only [true_and, and_true, implies_true, and_self, forall_const, true_implies, lenA, lenL, SV.lenOK, Cont.lenOK] at hn hl ⊢
    have h0 := ilen_0 p
    simp only [ilt_t, ilt_f, ile_t, ile_f, ieq_t, ieq_f, bnot_e, band_e, bite_and, bite_or, NLt_e, NLe_e, NNe_e, NIs_e, imax_e, imin_e, irem_e, Bool.not_eq_true', Bool.not_eq_false', Bool.and_eq_true, Bool.or_eq_true, Bool.or_eq_false_iff, Bool.and_eq_false_iff, Cont.pts.injEq, Cont.ints.injEq, Cont.bools.injEq, Cont.ptss.injEq, Cont.intss.injEq, Cont.boolss.injEq, true_and, and_true, implies_true]
    refine ⟨fun h => by unfold pvB; rcases h with h | h <;> simp [h], fun h => ?_⟩
    obtain ⟨ht, hl1⟩ := h
    refine ⟨fun | .int k :: _ => 0 ≤ k ∧ k ≤ ilen p ∧ (∀ i, 0 ≤ i → i < k → pvE l p i = true) | _ => False, fun | .int k :: _ => (ilen p - k).toNat | _ => 0, ?_, ?_⟩
    · exact ⟨Int.le_refl 0, h0, fun j h0 h1 => absurd h1 (by omega)⟩
    · rintro k _ ⟨hk0, hk1, hk⟩
      simp only [ilt_t, ilt_f, ile_t, ile_f, ieq_t, ieq_f, bnot_e, band_e, bite_and, bite_or, NLt_e, NLe_e, NNe_e, NIs_e, imax_e, imin_e, irem_e, Bool.not_eq_true', Bool.not_eq_false', Bool.and_eq_true, Bool.or_eq_true, Bool.or_eq_false_iff, Bool.and_eq_false_iff, Cont.pts.injEq, Cont.ints.injEq, Cont.bools.injEq, Cont.ptss.injEq, Cont.intss.injEq, Cont.boolss.injEq, true_and, and_true, implies_true]
      have e4 : isub k 1 = k - 1 := isub_e (by omega) (by omega)
      simp only [e4]
      refine ⟨fun hkn => ⟨⟨hk0, hkn⟩, fun hx => ?_, fun hx => ?_⟩, fun hkn => ?_⟩
      · have hE : pvE l p k = false := by unfold pvE; rw [hx]; rfl
        unfold pvB; rw [allN_no k hk0 hkn hE]; simp
      · have e1 := iadd_1 hk0 hkn hl.2
        have fin : pvE l p k = true → (0 ≤ k + 1 ∧ k + 1 ≤ ilen p ∧ ∀ i, 0 ≤ i → i < k + 1 → pvE l p i = true) ∧ (ilen p - (k + 1)).toNat < (ilen p - k).toNat := fun hE => ⟨⟨by omega, by omega, upTo hk hE⟩, by omega⟩
        have bad : pvE l p k = false → false = pvB l p := fun hE => by unfold pvB; rw [allN_no k hk0 hkn hE]; simp
        have q1 := free_in ht hx
        have q2 : 0 < k → 0 ≤ getx p (k - 1) ∧ getx p (k - 1) < 20 ∧ 0 ≤ gety p (k - 1) ∧ gety p (k - 1) < 20 := fun h => by
          have := hk (k - 1) (by omega) (by omega)
          unfold pvE at this
          simp only [Bool.and_eq_true] at this
          exact free_in ht this.1
        simp only [e1]
        refine ⟨⟨fun h => ⟨hk0, hkn⟩, fun h => ⟨by omega, by omega⟩, fun h => ⟨by omega, by omega⟩, fun h => ⟨hk0, hkn⟩, fun h => ⟨hk0, hkn⟩, fun h => ⟨by omega, by omega⟩, fun h => ⟨by omega, by omega⟩, fun h => ⟨hk0, hkn⟩⟩, fun hp => ?_, fun hp => fin ?_⟩
        · have q3 := q2 hp.1
          have hy := hp.2
          rw [isub_e (a := getx p k) (by omega) (by omega), isub_e (a := getx p (k - 1)) (by omega) (by omega), isub_e (a := gety p k) (by omega) (by omega), isub_e (a := gety p (k - 1)) (by omega) (by omega), iadd_e (by omega) (by omega)] at hy
          have hS : stepB p k = false := by unfold stepB; simp only [decide_eq_false_iff_not]; exact hy
          refine bad ?_
          unfold pvE; rw [hx, hS]; simp; omega
        · by_cases h0k : k ≤ 0
          · unfold pvE; rw [hx]; simp [h0k]
          · have q3 := q2 (by omega)
            rcases hp with hp | hy
            · exact absurd hp h0k
            · rw [isub_e (a := getx p k) (by omega) (by omega), isub_e (a := getx p (k - 1)) (by omega) (by omega), isub_e (a := gety p k) (by omega) (by omega), isub_e (a := gety p (k - 1)) (by omega) (by omega), iadd_e (by omega) (by omega)] at hy
              have hS : stepB p k = true := by unfold stepB; simp only [decide_eq_true_eq]; exact hy
              unfold pvE; rw [hx, hS]; simp
      · unfold pvB; rw [ht, hl1, allN_mk fun j j0 j1 => hk j j0 (by omega)]; rfl
  · cases h
def degW (d : Int) : Int := irem (iadd (irem d 360) 360) 360
def g_impl_Degrees : List AV → Option Sg
  | [.s (.int d)] => some ⟨True, [.s (.int (degW d))]⟩
  | _ => none
def sig_impl_Degrees : FuncId → List AV → Option Sg := sigL []
def xs_impl_Degrees : XS := ⟨xsigL [], ysigL []⟩
theorem sig_impl_Degrees_ok : SigOK sig_impl_Degrees := sigL_nil
theorem xs_impl_Degrees_ok : XSigOK xs_impl_Degrees := ⟨xsigL_nil, ysigL_nil⟩
theorem V_impl_Degrees (d : Int) : ((true = true) ∧ ((True) ∧ True) ∧ (true = true) ∧ ((True) ∧ (NNe (360 : Int) 0) ∧ (True) ∧ (NNe (360 : Int) 0) ∧ (True) ∧ True) ∧ (((irem (iadd (irem d (360 : Int)) (360 : Int)) (360 : Int)) : Int) = (degW d)) ∧ True) = ev sig_impl_Degrees xs_impl_Degrees Try.f70.ntmps (fun b => []) (codeOf Try.f70) 0 (initS [.s (.int d)]) (retK Try.f70.results.toList [.s (.int (degW d))]) := by kernel_rfl
set_option maxHeartbeats 400000 in
theorem F_impl_Degrees : FunOK 70 g_impl_Degrees := by
  refine fun_F (by kernel_rfl) Try.func70 rfl (by kernel_rfl) sig_impl_Degrees_ok xs_impl_Degrees_ok ?_
  intro avs sg h hn hl
  unfold g_impl_Degrees at h
  split at h
  · rename_i d
    injection h with h; subst h
    refine ⟨by kernel_rfl, fun b => [], Eq.mp (V_impl_Degrees d) ?_⟩
    simp only [true_and, and_true, implies_true, and_self, forall_const, true_implies, lenA, lenL, SV.lenOK, Cont.lenOK] at hn hl ⊢
    simp only [ilt_t, ilt_f, ile_t, ile_f, ieq_t, ieq_f, bnot_e, band_e, bite_and, bite_or, NLt_e, NLe_e, NNe_e, NIs_e, imax_e, imin_e, irem_e, Bool.not_eq_true', Bool.not_eq_false', Bool.and_eq_true, Bool.or_eq_true, Bool.or_eq_false_iff, Bool.and_eq_false_iff, Cont.pts.injEq, Cont.ints.injEq, Cont.bools.injEq, Cont.ptss.injEq, Cont.intss.injEq, Cont.boolss.injEq, true_and, and_true, implies_true]
    exact ⟨by decide, by simp [degW, irem_e]⟩
  · cases h
def g_laws_alive : List AV → Option Sg
  | [] => some ⟨True, [.s (.bool (true))]⟩
  | _ => none
def sig_laws_alive : FuncId → List AV → Option Sg := sigL [(70, g_impl_Degrees)]
def xs_laws_alive : XS := ⟨xsigL [], ysigL []⟩
theorem sig_laws_alive_ok : SigOK sig_laws_alive := sigL_cons F_impl_Degrees sigL_nil
theorem xs_laws_alive_ok : XSigOK xs_laws_alive := ⟨xsigL_nil, ysigL_nil⟩
theorem V_laws_alive  : ((true = true) ∧ ((True) ∧ True) ∧ (true = true) ∧ (((True)) ∧ (True) ∧ (True) ∧ True) ∧ (((ieq (degW (-1 : Int)) (359 : Int)) : Bool) = (true)) ∧ True) = ev sig_laws_alive xs_laws_alive Try.f23.ntmps (fun b => []) (codeOf Try.f23) 0 (initS []) (retK Try.f23.results.toList [.s (.bool (true))]) := by kernel_rfl
set_option maxHeartbeats 400000 in
theorem F_laws_alive : FunOK 23 g_laws_alive := by
  refine fun_F (by kernel_rfl) Try.func23 rfl (by kernel_rfl) sig_laws_alive_ok xs_laws_alive_ok ?_
  intro avs sg h hn hl
  unfold g_laws_alive at h
  split at h
  ·
    injection h with h; subst h
    refine ⟨by kernel_rfl, fun b => [], Eq.mp (V_laws_alive ) ?_⟩
    simp only [true_and, and_true, implies_true, and_self, forall_const, true_implies, lenA, lenL, SV.lenOK, Cont.lenOK] at hn hl ⊢
    unfold ieq degW
    rw [irem_e, irem_e, iadd_e (by decide) (by decide)]
    decide
  · cases h
def s_spec_DrawPathValid (n : Int) : SgY := ⟨n ≤ 1048576, [.boolss, .pts], (fun | [.boolss l, .pts p] => 1 ≤ ilen l ∧ ilen l ≤ 6 ∧ 1 ≤ ilen (getl l 0) ∧ ilen (getl l 0) ≤ 7 ∧ (∀ i, 0 ≤ i → i < ilen l → ilen (getl l i) ≤ 7) ∧ ilen p ≤ 401 | _ => False), (fun | [.boolss l, .pts p] => [.s (.view (.boolss (l))), .s (.view (.pts (p)))] | _ => [])⟩
def g_spec_DrawPathValid : List AV → Option SgY
  | [.s (.rdr n)] => some (s_spec_DrawPathValid n)
  | _ => none
def g_spec_l11Back : List AV → Option Sg
  | [.s (.view (.pts q)), .s (.view (.ints b)), .s (.int k)] => some ⟨-1 ≤ k ∧ k < ilen q ∧ wfB q b, [.nrow 29 (.pts (bkL q b (k + 1).toNat k []))]⟩
  | _ => none
def sig_spec_l11Back : FuncId → List AV → Option Sg := sigL []
def xs_spec_l11Back : XS := ⟨xsigL [], ysigL []⟩
theorem sig_spec_l11Back_ok : SigOK sig_spec_l11Back := sigL_nil
theorem xs_spec_l11Back_ok : XSigOK xs_spec_l11Back := ⟨xsigL_nil, ysigL_nil⟩
theorem V_spec_l11Back (q : List Pt) (b : List Int) (k : Int) : ((true = true) ∧ ((True) ∧ True) ∧ (true = true) ∧ ((True) ∧ (True) ∧ True) ∧ ∃ (I1 : List GV → Prop) (μ1 : List GV → Nat), (((true = true) ∧ (((k : Int) = k) ∧ (true = true) ∧ (true = true) ∧ ((Cont.pts q) = (Cont.pts q)) ∧ ((Cont.ints b) = (Cont.ints b)) ∧ True) ∧ (((true = true) ∧ ((Cont.pts []) = (Cont.pts []))) ∧ ((true = true) ∧ ((Cont.pts []) = (Cont.pts []))) ∧ True)) ∧ (([GK.pts, GK.int] : List GK) = ([GK.pts, GK.int] : List GK)) ∧ I1 [GV.pts [], GV.int k]) ∧ (∀ l1_0 : List Pt, ∀ i1_1 : Int, I1 [GV.pts l1_0, GV.int i1_1] → ((true = true) ∧ ((True) ∧ (True) ∧ True) ∧ ((ile (0 : Int) i1_1) = true → ((true = true) ∧ ((True) ∧ (True) ∧ (NLe 0 i1_1 ∧ NLt i1_1 (ilen q)) ∧ (True) ∧ (True) ∧ (True) ∧ True) ∧ (NLe (ilen [((getx q i1_1), (gety q i1_1))]) 1000000000 ∧ NLe (ilen l1_0) 1000000000) ∧ (True) ∧ (true = true) ∧ ((True) ∧ (True) ∧ (NLe 0 i1_1 ∧ NLt i1_1 (ilen b)) ∧ (True) ∧ (True) ∧ True) ∧ ((true = true) ∧ ((((geti b i1_1) : Int) = (geti b i1_1)) ∧ (true = true) ∧ (true = true) ∧ ((Cont.pts q) = (Cont.pts q)) ∧ ((Cont.ints b) = (Cont.ints b)) ∧ True) ∧ (((true = true) ∧ ((Cont.pts (iapp [((getx q i1_1), (gety q i1_1))] l1_0)) = (Cont.pts (iapp [((getx q i1_1), (gety q i1_1))] l1_0)))) ∧ ((true = true) ∧ ((Cont.pts []) = (Cont.pts []))) ∧ True)) ∧ ((([GK.pts, GK.int] : List GK) = ([GK.pts, GK.int] : List GK)) ∧ I1 [GV.pts (iapp [((getx q i1_1), (gety q i1_1))] l1_0), GV.int (geti b i1_1)] ∧ μ1 [GV.pts (iapp [((getx q i1_1), (gety q i1_1))] l1_0), GV.int (geti b i1_1)] < μ1 [GV.pts l1_0, GV.int i1_1]))) ∧ ((ile (0 : Int) i1_1) = false → ((true = true) ∧ ((True) ∧ (True) ∧ True) ∧ ((true = true) ∧ ((Cont.pts l1_0) = (Cont.pts (bkL q b (k + 1).toNat k [])))) ∧ True))))) = ev sig_spec_l11Back xs_spec_l11Back Try.f58.ntmps (fun b => if b == 0 then [.b 7, .v 2] else []) (codeOf Try.f58) 0 (initS [.s (.view (.pts q)), .s (.view (.ints b)), .s (.int k)]) (retK Try.f58.results.toList [.nrow 29 (.pts (bkL q b (k + 1).toNat k []))]) := by kernel_rfl
set_option maxHeartbeats 400000 in
theorem F_spec_l11Back : FunOK 58 g_spec_l11Back := by
  refine fun_F (by kernel_rfl) Try.func58 rfl (by kernel_rfl) sig_spec_l11Back_ok xs_spec_l11Back_ok ?_
  intro avs sg h hn hl
  unfold g_spec_l11Back at h
  split at h
  · rename_i q b k
    injection h with h; subst h
    refine ⟨by kernel_rfl, fun b => if b == 0 then [.b 7, .v 2] else [], Eq.mp (V_spec_l11Back q b k) ?_⟩
    simp only [true_and, and_true, implies_true, and_self, forall_const, true_implies, lenA, lenL, SV.lenOK, Cont.lenOK] at hn hl ⊢
    obtain ⟨n1, n2, n3⟩ := hn
    have hw := n3
    obtain ⟨w1, w2, w3⟩ := n3
    simp only [ilt_t, ilt_f, ile_t, ile_f, ieq_t, ieq_f, bnot_e, band_e, bite_and, bite_or, NLt_e, NLe_e, NNe_e, NIs_e, imax_e, imin_e, irem_e, Bool.not_eq_true', Bool.not_eq_false', Bool.and_eq_true, Bool.or_eq_true, Bool.or_eq_false_iff, Bool.and_eq_false_iff, Cont.pts.injEq, Cont.ints.injEq, Cont.bools.injEq, Cont.ptss.injEq, Cont.intss.injEq, Cont.boolss.injEq, true_and, and_true, implies_true]
    refine ⟨fun | [.pts o, .int i] => -1 ≤ i ∧ i ≤ k ∧ ilen o ≤ 400 - i ∧ bkL q b (k + 1).toNat k [] = bkL q b (i + 1).toNat i o | _ => False, fun | [_, .int i] => (i + 1).toNat | _ => 0, ⟨n1, by omega, by rw [ilen_nil]; omega, rfl⟩, ?_⟩
    rintro o i ⟨i0, i1, ho, he⟩
    refine ⟨fun hc => ?_, fun hc => ?_⟩
    · have hb := w3 i hc (by omega)
      have hs := bkL_step hw hc (by omega) o
      rw [hs] at he
      exact ⟨⟨hc, by omega⟩, ⟨by rw [ilen_one]; omega, by omega⟩, ⟨hc, by omega⟩, ⟨hb.1, by omega, by rw [ilen_app, ilen_one]; omega, he⟩, by show (geti b i + 1).toNat < (i + 1).toNat; omega⟩
    · rw [he, bkL_end hc]
  · cases h
def g_spec_l11Next : List AV → Option Sg
  | [.agg [.int c1, .int c2]] => some ⟨True, [.nrow 29 (.pts ([(isub c1 1, c2), (c1, isub c2 1), (c1, iadd c2 1), (iadd c1 1, c2)]))]⟩
  | _ => none
def sig_spec_l11Next : FuncId → List AV → Option Sg := sigL []
def xs_spec_l11Next : XS := ⟨xsigL [], ysigL []⟩
theorem sig_spec_l11Next_ok : SigOK sig_spec_l11Next := sigL_nil
theorem xs_spec_l11Next_ok : XSigOK xs_spec_l11Next := ⟨xsigL_nil, ysigL_nil⟩
theorem V_spec_l11Next (c1 : Int) (c2 : Int) : ((true = true) ∧ ((True) ∧ (True) ∧ True) ∧ (true = true) ∧ ((True) ∧ (True) ∧ (True) ∧ (True) ∧ (True) ∧ (True) ∧ (True) ∧ (True) ∧ (True) ∧ (True) ∧ (True) ∧ (True) ∧ (True) ∧ (True) ∧ (True) ∧ (True) ∧ (True) ∧ (True) ∧ (True) ∧ (True) ∧ (True) ∧ (True) ∧ (True) ∧ (True) ∧ (True) ∧ (True) ∧ True) ∧ ((true = true) ∧ ((Cont.pts [((isub c1 (1 : Int)), c2), (c1, (isub c2 (1 : Int))), (c1, (iadd c2 (1 : Int))), ((iadd c1 (1 : Int)), c2)]) = (Cont.pts ([(isub c1 1, c2), (c1, isub c2 1), (c1, iadd c2 1), (iadd c1 1, c2)])))) ∧ True) = ev sig_spec_l11Next xs_spec_l11Next Try.f59.ntmps (fun b => []) (codeOf Try.f59) 0 (initS [.agg [.int c1, .int c2]]) (retK Try.f59.results.toList [.nrow 29 (.pts ([(isub c1 1, c2), (c1, isub c2 1), (c1, iadd c2 1), (iadd c1 1, c2)]))]) := by kernel_rfl
set_option maxHeartbeats 400000 in
theorem F_spec_l11Next : FunOK 59 g_spec_l11Next := by
  refine fun_F (by kernel_rfl) Try.func59 rfl (by kernel_rfl) sig_spec_l11Next_ok xs_spec_l11Next_ok ?_
  intro avs sg h hn hl
  unfold g_spec_l11Next at h
  split at h
  · rename_i c1 c2
    injection h with h; subst h
    refine ⟨by kernel_rfl, fun b => [], Eq.mp (V_spec_l11Next c1 c2) ?_⟩
    simp only [true_and, and_true, implies_true, and_self, forall_const, true_implies, lenA, lenL, SV.lenOK, Cont.lenOK] at hn hl ⊢
  · cases h
def g_spec_PlanPath : List AV → Option Sg
  | [.s (.view (.boolss l)), .agg [.int a1, .int a2], .agg [.int z1, .int z2]] => some ⟨True, [.nrow 29 (.pts (plF l a1 a2 z1 z2))]⟩
  | _ => none
def sig_spec_PlanPath : FuncId → List AV → Option Sg := sigL [(56, g_spec_l11Square), (57, g_spec_l11Free), (58, g_spec_l11Back), (59, g_spec_l11Next)]
def xs_spec_PlanPath : XS := ⟨xsigL [], ysigL []⟩
theorem sig_spec_PlanPath_ok : SigOK sig_spec_PlanPath := sigL_cons F_spec_l11Square (sigL_cons F_spec_l11Free (sigL_cons F_spec_l11Back (sigL_cons F_spec_l11Next sigL_nil)))
theorem xs_spec_PlanPath_ok : XSigOK xs_spec_PlanPath := ⟨xsigL_nil, ysigL_nil⟩
theorem V_spec_PlanPath (l : List (List Bool)) (a1 : Int) (a2 : Int) (z1 : Int) (z2 : Int) : ((true = true) ∧ ((True) ∧ (True) ∧ (True) ∧ True) ∧ (true = true) ∧ ((True) ∧ ((True)) ∧ (True) ∧ (True) ∧ (NIs (bnot (tblB l)) false → True) ∧ (NIs (bnot (tblB l)) false → True) ∧ (NIs (bnot (tblB l)) false → (True)) ∧ (NIs (bnot (tblB l)) false → True) ∧ (True) ∧ (True) ∧ (NIs (bite (bnot (tblB l)) true (bnot (freeB l a1 a2))) false → True) ∧ (NIs (bite (bnot (tblB l)) true (bnot (freeB l a1 a2))) false → True) ∧ (NIs (bite (bnot (tblB l)) true (bnot (freeB l a1 a2))) false → (True)) ∧ (NIs (bite (bnot (tblB l)) true (bnot (freeB l a1 a2))) false → True) ∧ (True) ∧ True) ∧ ((bite (bite (bnot (tblB l)) true (bnot (freeB l a1 a2))) true (bnot (freeB l z1 z2))) = true → ((true = true) ∧ ((True) ∧ (True) ∧ True) ∧ ((true = true) ∧ ((Cont.pts []) = (Cont.pts (plF l a1 a2 z1 z2)))) ∧ True)) ∧ ((bite (bite (bnot (tblB l)) true (bnot (freeB l a1 a2))) true (bnot (freeB l z1 z2))) = false → ((true = true) ∧ ((True) ∧ (True) ∧ (True) ∧ True) ∧ (true = true) ∧ ((True) ∧ (True) ∧ True) ∧ (true = true) ∧ ((True) ∧ True) ∧ ∃ (I1 : List GV → Prop) (μ1 : List GV → Nat), (((true = true) ∧ ((((0 : Int) : Int) = (0 : Int)) ∧ (true = true) ∧ (((a1 : Int) = a1) ∧ ((a2 : Int) = a2) ∧ True) ∧ (true = true) ∧ ((Cont.boolss l) = (Cont.boolss l)) ∧ (((tblB l) : Bool) = (tblB l)) ∧ (((bnot (tblB l)) : Bool) = (bnot (tblB l))) ∧ (((bnot (tblB l)) : Bool) = (bnot (tblB l))) ∧ (((bite (bnot (tblB l)) true (bnot (freeB l a1 a2))) : Bool) = (bite (bnot (tblB l)) true (bnot (freeB l a1 a2)))) ∧ (((bite (bnot (tblB l)) true (bnot (freeB l a1 a2))) : Bool) = (bite (bnot (tblB l)) true (bnot (freeB l a1 a2)))) ∧ (((bite (bite (bnot (tblB l)) true (bnot (freeB l a1 a2))) true (bnot (freeB l z1 z2))) : Bool) = (bite (bite (bnot (tblB l)) true (bnot (freeB l a1 a2))) true (bnot (freeB l z1 z2)))) ∧ (true = true) ∧ (true = true) ∧ (true = true) ∧ ((Cont.boolss l) = (Cont.boolss l)) ∧ (((a1 : Int) = a1) ∧ ((a2 : Int) = a2) ∧ True) ∧ (((z1 : Int) = z1) ∧ ((z2 : Int) = z2) ∧ True) ∧ True) ∧ (((true = true) ∧ ((Cont.pts []) = (Cont.pts []))) ∧ ((true = true) ∧ ((Cont.pts [(a1, a2)]) = (Cont.pts [(a1, a2)]))) ∧ ((true = true) ∧ ((Cont.ints [(-1 : Int)]) = (Cont.ints [(-1 : Int)]))) ∧ (((a1 : Int) = a1) ∧ ((a2 : Int) = a2) ∧ True) ∧ (((z1 : Int) = z1) ∧ ((z2 : Int) = z2) ∧ True) ∧ True)) ∧ (([GK.int, GK.ints, GK.pts, GK.pts] : List GK) = ([GK.int, GK.ints, GK.pts, GK.pts] : List GK)) ∧ I1 [GV.int (0 : Int), GV.ints [(-1 : Int)], GV.pts [(a1, a2)], GV.pts []]) ∧ (∀ i1_0 : Int, ∀ l1_1 : List Int, ∀ l1_2 : List Pt, ∀ l1_3 : List Pt, I1 [GV.int i1_0, GV.ints l1_1, GV.pts l1_2, GV.pts l1_3] → ((true = true) ∧ ((True) ∧ (True) ∧ (True) ∧ (True) ∧ True) ∧ ((ilt i1_0 (ilen l1_2)) = true → ((true = true) ∧ ((True) ∧ (True) ∧ (NLe 0 i1_0 ∧ NLt i1_0 (ilen l1_2)) ∧ (NLt i1_0 (ilen l1_2)) ∧ (True) ∧ (True) ∧ True) ∧ ((band (ieq (getx l1_2 i1_0) z1) (ieq (gety l1_2 i1_0) z2)) = true → ((true = true) ∧ ((True) ∧ (True) ∧ (True) ∧ ((-1 ≤ i1_0 ∧ i1_0 < ilen l1_2 ∧ wfB l1_2 l1_1)) ∧ (True) ∧ True) ∧ ((true = true) ∧ ((Cont.pts (bkL l1_2 l1_1 (i1_0 + 1).toNat i1_0 [])) = (Cont.pts (plF l a1 a2 z1 z2)))) ∧ True)) ∧ ((band (ieq (getx l1_2 i1_0) z1) (ieq (gety l1_2 i1_0) z2)) = false → ((true = true) ∧ ((True) ∧ (True) ∧ (NLe 0 i1_0 ∧ NLt i1_0 (ilen l1_2)) ∧ (NLt i1_0 (ilen l1_2)) ∧ ((True)) ∧ (True) ∧ True) ∧ (true = true) ∧ ((True) ∧ True) ∧ ∃ (I2 : List GV → Prop) (μ2 : List GV → Nat), (((true = true) ∧ ((((0 : Int) : Int) = (0 : Int)) ∧ ((i1_0 : Int) = i1_0) ∧ ((((getx l1_2 i1_0) : Int) = (getx l1_2 i1_0)) ∧ (((gety l1_2 i1_0) : Int) = (gety l1_2 i1_0)) ∧ True) ∧ (true = true) ∧ (true = true) ∧ ((i1_0 : Int) = i1_0) ∧ ((((getx l1_2 i1_0) : Int) = (getx l1_2 i1_0)) ∧ (((gety l1_2 i1_0) : Int) = (gety l1_2 i1_0)) ∧ True) ∧ (((z1 : Int) = z1) ∧ ((z2 : Int) = z2) ∧ True) ∧ (((band (ieq (getx l1_2 i1_0) z1) (ieq (gety l1_2 i1_0) z2)) : Bool) = (band (ieq (getx l1_2 i1_0) z1) (ieq (gety l1_2 i1_0) z2))) ∧ ((i1_0 : Int) = i1_0) ∧ (((ilen l1_2) : Int) = (ilen l1_2)) ∧ (((ilt i1_0 (ilen l1_2)) : Bool) = (ilt i1_0 (ilen l1_2))) ∧ ((i1_0 : Int) = i1_0) ∧ (true = true) ∧ (((a1 : Int) = a1) ∧ ((a2 : Int) = a2) ∧ True) ∧ (true = true) ∧ ((Cont.boolss l) = (Cont.boolss l)) ∧ (((tblB l) : Bool) = (tblB l)) ∧ (((bnot (tblB l)) : Bool) = (bnot (tblB l))) ∧ (((bnot (tblB l)) : Bool) = (bnot (tblB l))) ∧ (((bite (bnot (tblB l)) true (bnot (freeB l a1 a2))) : Bool) = (bite (bnot (tblB l)) true (bnot (freeB l a1 a2)))) ∧ (((bite (bnot (tblB l)) true (bnot (freeB l a1 a2))) : Bool) = (bite (bnot (tblB l)) true (bnot (freeB l a1 a2)))) ∧ (((bite (bite (bnot (tblB l)) true (bnot (freeB l a1 a2))) true (bnot (freeB l z1 z2))) : Bool) = (bite (bite (bnot (tblB l)) true (bnot (freeB l a1 a2))) true (bnot (freeB l z1 z2)))) ∧ (true = true) ∧ (true = true) ∧ (true = true) ∧ ((Cont.boolss l) = (Cont.boolss l)) ∧ (((a1 : Int) = a1) ∧ ((a2 : Int) = a2) ∧ True) ∧ (((z1 : Int) = z1) ∧ ((z2 : Int) = z2) ∧ True) ∧ True) ∧ (((true = true) ∧ ((Cont.pts l1_2) = (Cont.pts l1_2))) ∧ ((true = true) ∧ ((Cont.ints l1_1) = (Cont.ints l1_1))) ∧ ((true = true) ∧ ((Cont.pts ([(isub (getx l1_2 i1_0) 1, (gety l1_2 i1_0)), ((getx l1_2 i1_0), isub (gety l1_2 i1_0) 1), ((getx l1_2 i1_0), iadd (gety l1_2 i1_0) 1), (iadd (getx l1_2 i1_0) 1, (gety l1_2 i1_0))])) = (Cont.pts ([(isub (getx l1_2 i1_0) 1, (gety l1_2 i1_0)), ((getx l1_2 i1_0), isub (gety l1_2 i1_0) 1), ((getx l1_2 i1_0), iadd (gety l1_2 i1_0) 1), (iadd (getx l1_2 i1_0) 1, (gety l1_2 i1_0))])))) ∧ ((true = true) ∧ ((Cont.pts l1_3) = (Cont.pts l1_3))) ∧ (((a1 : Int) = a1) ∧ ((a2 : Int) = a2) ∧ True) ∧ (((z1 : Int) = z1) ∧ ((z2 : Int) = z2) ∧ True) ∧ True)) ∧ (([GK.int, GK.ints, GK.pts] : List GK) = ([GK.int, GK.ints, GK.pts] : List GK)) ∧ I2 [GV.int (0 : Int), GV.ints l1_1, GV.pts l1_2]) ∧ (∀ i2_0 : Int, ∀ l2_1 : List Int, ∀ l2_2 : List Pt, I2 [GV.int i2_0, GV.ints l2_1, GV.pts l2_2] → ((true = true) ∧ ((True) ∧ (True) ∧ (True) ∧ (True) ∧ True) ∧ ((ilt i2_0 (ilen ([(isub (getx l1_2 i1_0) 1, (gety l1_2 i1_0)), ((getx l1_2 i1_0), isub (gety l1_2 i1_0) 1), ((getx l1_2 i1_0), iadd (gety l1_2 i1_0) 1), (iadd (getx l1_2 i1_0) 1, (gety l1_2 i1_0))]))) = true → ((true = true) ∧ ((True) ∧ True) ∧ (true = true) ∧ ((True) ∧ True) ∧ ∃ (I3 : List GV → Prop) (μ3 : List GV → Nat), (((true = true) ∧ (((false : Bool) = false) ∧ (((0 : Int) : Int) = (0 : Int)) ∧ ((i2_0 : Int) = i2_0) ∧ (true = true) ∧ (((ilen ([(isub (getx l1_2 i1_0) 1, (gety l1_2 i1_0)), ((getx l1_2 i1_0), isub (gety l1_2 i1_0) 1), ((getx l1_2 i1_0), iadd (gety l1_2 i1_0) 1), (iadd (getx l1_2 i1_0) 1, (gety l1_2 i1_0))])) : Int) = (ilen ([(isub (getx l1_2 i1_0) 1, (gety l1_2 i1_0)), ((getx l1_2 i1_0), isub (gety l1_2 i1_0) 1), ((getx l1_2 i1_0), iadd (gety l1_2 i1_0) 1), (iadd (getx l1_2 i1_0) 1, (gety l1_2 i1_0))]))) ∧ (((ilt i2_0 (ilen ([(isub (getx l1_2 i1_0) 1, (gety l1_2 i1_0)), ((getx l1_2 i1_0), isub (gety l1_2 i1_0) 1), ((getx l1_2 i1_0), iadd (gety l1_2 i1_0) 1), (iadd (getx l1_2 i1_0) 1, (gety l1_2 i1_0))]))) : Bool) = (ilt i2_0 (ilen ([(isub (getx l1_2 i1_0) 1, (gety l1_2 i1_0)), ((getx l1_2 i1_0), isub (gety l1_2 i1_0) 1), ((getx l1_2 i1_0), iadd (gety l1_2 i1_0) 1), (iadd (getx l1_2 i1_0) 1, (gety l1_2 i1_0))])))) ∧ ((i2_0 : Int) = i2_0) ∧ ((i1_0 : Int) = i1_0) ∧ ((((getx l1_2 i1_0) : Int) = (getx l1_2 i1_0)) ∧ (((gety l1_2 i1_0) : Int) = (gety l1_2 i1_0)) ∧ True) ∧ (true = true) ∧ (true = true) ∧ ((i1_0 : Int) = i1_0) ∧ ((((getx l1_2 i1_0) : Int) = (getx l1_2 i1_0)) ∧ (((gety l1_2 i1_0) : Int) = (gety l1_2 i1_0)) ∧ True) ∧ (((z1 : Int) = z1) ∧ ((z2 : Int) = z2) ∧ True) ∧ (((band (ieq (getx l1_2 i1_0) z1) (ieq (gety l1_2 i1_0) z2)) : Bool) = (band (ieq (getx l1_2 i1_0) z1) (ieq (gety l1_2 i1_0) z2))) ∧ ((i1_0 : Int) = i1_0) ∧ (((ilen l1_2) : Int) = (ilen l1_2)) ∧ (((ilt i1_0 (ilen l1_2)) : Bool) = (ilt i1_0 (ilen l1_2))) ∧ ((i1_0 : Int) = i1_0) ∧ (true = true) ∧ (((a1 : Int) = a1) ∧ ((a2 : Int) = a2) ∧ True) ∧ (true = true) ∧ ((Cont.boolss l) = (Cont.boolss l)) ∧ (((tblB l) : Bool) = (tblB l)) ∧ (((bnot (tblB l)) : Bool) = (bnot (tblB l))) ∧ (((bnot (tblB l)) : Bool) = (bnot (tblB l))) ∧ (((bite (bnot (tblB l)) true (bnot (freeB l a1 a2))) : Bool) = (bite (bnot (tblB l)) true (bnot (freeB l a1 a2)))) ∧ (((bite (bnot (tblB l)) true (bnot (freeB l a1 a2))) : Bool) = (bite (bnot (tblB l)) true (bnot (freeB l a1 a2)))) ∧ (((bite (bite (bnot (tblB l)) true (bnot (freeB l a1 a2))) true (bnot (freeB l z1 z2))) : Bool) = (bite (bite (bnot (tblB l)) true (bnot (freeB l a1 a2))) true (bnot (freeB l z1 z2)))) ∧ (true = true) ∧ (true = true) ∧ (true = true) ∧ ((Cont.boolss l) = (Cont.boolss l)) ∧ (((a1 : Int) = a1) ∧ ((a2 : Int) = a2) ∧ True) ∧ (((z1 : Int) = z1) ∧ ((z2 : Int) = z2) ∧ True) ∧ True) ∧ (((true = true) ∧ ((Cont.pts l2_2) = (Cont.pts l2_2))) ∧ ((true = true) ∧ ((Cont.ints l2_1) = (Cont.ints l2_1))) ∧ ((true = true) ∧ ((Cont.pts ([(isub (getx l1_2 i1_0) 1, (gety l1_2 i1_0)), ((getx l1_2 i1_0), isub (gety l1_2 i1_0) 1), ((getx l1_2 i1_0), iadd (gety l1_2 i1_0) 1), (iadd (getx l1_2 i1_0) 1, (gety l1_2 i1_0))])) = (Cont.pts ([(isub (getx l1_2 i1_0) 1, (gety l1_2 i1_0)), ((getx l1_2 i1_0), isub (gety l1_2 i1_0) 1), ((getx l1_2 i1_0), iadd (gety l1_2 i1_0) 1), (iadd (getx l1_2 i1_0) 1, (gety l1_2 i1_0))])))) ∧ ((true = true) ∧ ((Cont.pts l1_3) = (Cont.pts l1_3))) ∧ (((a1 : Int) = a1) ∧ ((a2 : Int) = a2) ∧ True) ∧ (((z1 : Int) = z1) ∧ ((z2 : Int) = z2) ∧ True) ∧ True)) ∧ (([GK.int, GK.bool] : List GK) = ([GK.int, GK.bool] : List GK)) ∧ I3 [GV.int (0 : Int), GV.bool false]) ∧ (∀ i3_0 : Int, ∀ b3_1 : Bool, I3 [GV.int i3_0, GV.bool b3_1] → ((true = true) ∧ ((True) ∧ (True) ∧ (True) ∧ (True) ∧ True) ∧ ((ilt i3_0 (ilen l2_2)) = true → ((true = true) ∧ ((True) ∧ (True) ∧ (NIs b3_1 false → True) ∧ (NIs b3_1 false → True) ∧ (NIs b3_1 false → (NLe 0 i3_0 ∧ NLt i3_0 (ilen l2_2))) ∧ (NIs b3_1 false → NLt i3_0 (ilen l2_2)) ∧ (NIs b3_1 false → True) ∧ (NIs b3_1 false → True) ∧ (NIs b3_1 false → (NLe 0 i2_0 ∧ NLt i2_0 (ilen ([(isub (getx l1_2 i1_0) 1, (gety l1_2 i1_0)), ((getx l1_2 i1_0), isub (gety l1_2 i1_0) 1), ((getx l1_2 i1_0), iadd (gety l1_2 i1_0) 1), (iadd (getx l1_2 i1_0) 1, (gety l1_2 i1_0))])))) ∧ (NIs b3_1 false → NLt i2_0 (ilen ([(isub (getx l1_2 i1_0) 1, (gety l1_2 i1_0)), ((getx l1_2 i1_0), isub (gety l1_2 i1_0) 1), ((getx l1_2 i1_0), iadd (gety l1_2 i1_0) 1), (iadd (getx l1_2 i1_0) 1, (gety l1_2 i1_0))]))) ∧ (NIs b3_1 false → True) ∧ (True) ∧ (True) ∧ True) ∧ (true = true) ∧ ((True) ∧ (True) ∧ (True) ∧ True) ∧ ((true = true) ∧ ((((bite b3_1 true (band (ieq (getx l2_2 i3_0) (getx ([(isub (getx l1_2 i1_0) 1, (gety l1_2 i1_0)), ((getx l1_2 i1_0), isub (gety l1_2 i1_0) 1), ((getx l1_2 i1_0), iadd (gety l1_2 i1_0) 1), (iadd (getx l1_2 i1_0) 1, (gety l1_2 i1_0))]) i2_0)) (ieq (gety l2_2 i3_0) (gety ([(isub (getx l1_2 i1_0) 1, (gety l1_2 i1_0)), ((getx l1_2 i1_0), isub (gety l1_2 i1_0) 1), ((getx l1_2 i1_0), iadd (gety l1_2 i1_0) 1), (iadd (getx l1_2 i1_0) 1, (gety l1_2 i1_0))]) i2_0)))) : Bool) = (bite b3_1 true (band (ieq (getx l2_2 i3_0) (getx ([(isub (getx l1_2 i1_0) 1, (gety l1_2 i1_0)), ((getx l1_2 i1_0), isub (gety l1_2 i1_0) 1), ((getx l1_2 i1_0), iadd (gety l1_2 i1_0) 1), (iadd (getx l1_2 i1_0) 1, (gety l1_2 i1_0))]) i2_0)) (ieq (gety l2_2 i3_0) (gety ([(isub (getx l1_2 i1_0) 1, (gety l1_2 i1_0)), ((getx l1_2 i1_0), isub (gety l1_2 i1_0) 1), ((getx l1_2 i1_0), iadd (gety l1_2 i1_0) 1), (iadd (getx l1_2 i1_0) 1, (gety l1_2 i1_0))]) i2_0))))) ∧ (((iadd i3_0 (1 : Int)) : Int) = (iadd i3_0 (1 : Int))) ∧ ((i2_0 : Int) = i2_0) ∧ (true = true) ∧ (((ilen ([(isub (getx l1_2 i1_0) 1, (gety l1_2 i1_0)), ((getx l1_2 i1_0), isub (gety l1_2 i1_0) 1), ((getx l1_2 i1_0), iadd (gety l1_2 i1_0) 1), (iadd (getx l1_2 i1_0) 1, (gety l1_2 i1_0))])) : Int) = (ilen ([(isub (getx l1_2 i1_0) 1, (gety l1_2 i1_0)), ((getx l1_2 i1_0), isub (gety l1_2 i1_0) 1), ((getx l1_2 i1_0), iadd (gety l1_2 i1_0) 1), (iadd (getx l1_2 i1_0) 1, (gety l1_2 i1_0))]))) ∧ (((ilt i2_0 (ilen ([(isub (getx l1_2 i1_0) 1, (gety l1_2 i1_0)), ((getx l1_2 i1_0), isub (gety l1_2 i1_0) 1), ((getx l1_2 i1_0), iadd (gety l1_2 i1_0) 1), (iadd (getx l1_2 i1_0) 1, (gety l1_2 i1_0))]))) : Bool) = (ilt i2_0 (ilen ([(isub (getx l1_2 i1_0) 1, (gety l1_2 i1_0)), ((getx l1_2 i1_0), isub (gety l1_2 i1_0) 1), ((getx l1_2 i1_0), iadd (gety l1_2 i1_0) 1), (iadd (getx l1_2 i1_0) 1, (gety l1_2 i1_0))])))) ∧ ((i2_0 : Int) = i2_0) ∧ ((i1_0 : Int) = i1_0) ∧ ((((getx l1_2 i1_0) : Int) = (getx l1_2 i1_0)) ∧ (((gety l1_2 i1_0) : Int) = (gety l1_2 i1_0)) ∧ True) ∧ (true = true) ∧ (true = true) ∧ ((i1_0 : Int) = i1_0) ∧ ((((getx l1_2 i1_0) : Int) = (getx l1_2 i1_0)) ∧ (((gety l1_2 i1_0) : Int) = (gety l1_2 i1_0)) ∧ True) ∧ (((z1 : Int) = z1) ∧ ((z2 : Int) = z2) ∧ True) ∧ (((band (ieq (getx l1_2 i1_0) z1) (ieq (gety l1_2 i1_0) z2)) : Bool) = (band (ieq (getx l1_2 i1_0) z1) (ieq (gety l1_2 i1_0) z2))) ∧ ((i1_0 : Int) = i1_0) ∧ (((ilen l1_2) : Int) = (ilen l1_2)) ∧ (((ilt i1_0 (ilen l1_2)) : Bool) = (ilt i1_0 (ilen l1_2))) ∧ ((i1_0 : Int) = i1_0) ∧ (true = true) ∧ (((a1 : Int) = a1) ∧ ((a2 : Int) = a2) ∧ True) ∧ (true = true) ∧ ((Cont.boolss l) = (Cont.boolss l)) ∧ (((tblB l) : Bool) = (tblB l)) ∧ (((bnot (tblB l)) : Bool) = (bnot (tblB l))) ∧ (((bnot (tblB l)) : Bool) = (bnot (tblB l))) ∧ (((bite (bnot (tblB l)) true (bnot (freeB l a1 a2))) : Bool) = (bite (bnot (tblB l)) true (bnot (freeB l a1 a2)))) ∧ (((bite (bnot (tblB l)) true (bnot (freeB l a1 a2))) : Bool) = (bite (bnot (tblB l)) true (bnot (freeB l a1 a2)))) ∧ (((bite (bite (bnot (tblB l)) true (bnot (freeB l a1 a2))) true (bnot (freeB l z1 z2))) : Bool) = (bite (bite (bnot (tblB l)) true (bnot (freeB l a1 a2))) true (bnot (freeB l z1 z2)))) ∧ (true = true) ∧ (true = true) ∧ (true = true) ∧ ((Cont.boolss l) = (Cont.boolss l)) ∧ (((a1 : Int) = a1) ∧ ((a2 : Int) = a2) ∧ True) ∧ (((z1 : Int) = z1) ∧ ((z2 : Int) = z2) ∧ True) ∧ True) ∧ (((true = true) ∧ ((Cont.pts l2_2) = (Cont.pts l2_2))) ∧ ((true = true) ∧ ((Cont.ints l2_1) = (Cont.ints l2_1))) ∧ ((true = true) ∧ ((Cont.pts ([(isub (getx l1_2 i1_0) 1, (gety l1_2 i1_0)), ((getx l1_2 i1_0), isub (gety l1_2 i1_0) 1), ((getx l1_2 i1_0), iadd (gety l1_2 i1_0) 1), (iadd (getx l1_2 i1_0) 1, (gety l1_2 i1_0))])) = (Cont.pts ([(isub (getx l1_2 i1_0) 1, (gety l1_2 i1_0)), ((getx l1_2 i1_0), isub (gety l1_2 i1_0) 1), ((getx l1_2 i1_0), iadd (gety l1_2 i1_0) 1), (iadd (getx l1_2 i1_0) 1, (gety l1_2 i1_0))])))) ∧ ((true = true) ∧ ((Cont.pts l1_3) = (Cont.pts l1_3))) ∧ (((a1 : Int) = a1) ∧ ((a2 : Int) = a2) ∧ True) ∧ (((z1 : Int) = z1) ∧ ((z2 : Int) = z2) ∧ True) ∧ True)) ∧ ((([GK.int, GK.bool] : List GK) = ([GK.int, GK.bool] : List GK)) ∧ I3 [GV.int (iadd i3_0 (1 : Int)), GV.bool (bite b3_1 true (band (ieq (getx l2_2 i3_0) (getx ([(isub (getx l1_2 i1_0) 1, (gety l1_2 i1_0)), ((getx l1_2 i1_0), isub (gety l1_2 i1_0) 1), ((getx l1_2 i1_0), iadd (gety l1_2 i1_0) 1), (iadd (getx l1_2 i1_0) 1, (gety l1_2 i1_0))]) i2_0)) (ieq (gety l2_2 i3_0) (gety ([(isub (getx l1_2 i1_0) 1, (gety l1_2 i1_0)), ((getx l1_2 i1_0), isub (gety l1_2 i1_0) 1), ((getx l1_2 i1_0), iadd (gety l1_2 i1_0) 1), (iadd (getx l1_2 i1_0) 1, (gety l1_2 i1_0))]) i2_0))))] ∧ μ3 [GV.int (iadd i3_0 (1 : Int)), GV.bool (bite b3_1 true (band (ieq (getx l2_2 i3_0) (getx ([(isub (getx l1_2 i1_0) 1, (gety l1_2 i1_0)), ((getx l1_2 i1_0), isub (gety l1_2 i1_0) 1), ((getx l1_2 i1_0), iadd (gety l1_2 i1_0) 1), (iadd (getx l1_2 i1_0) 1, (gety l1_2 i1_0))]) i2_0)) (ieq (gety l2_2 i3_0) (gety ([(isub (getx l1_2 i1_0) 1, (gety l1_2 i1_0)), ((getx l1_2 i1_0), isub (gety l1_2 i1_0) 1), ((getx l1_2 i1_0), iadd (gety l1_2 i1_0) 1), (iadd (getx l1_2 i1_0) 1, (gety l1_2 i1_0))]) i2_0))))] < μ3 [GV.int i3_0, GV.bool b3_1]))) ∧ ((ilt i3_0 (ilen l2_2)) = false → ((true = true) ∧ ((True) ∧ (True) ∧ (True) ∧ (NIs (bnot b3_1) true → True) ∧ (NIs (bnot b3_1) true → True) ∧ (NIs (bnot b3_1) true → True) ∧ (NIs (bnot b3_1) true → (NLe 0 i2_0 ∧ NLt i2_0 (ilen ([(isub (getx l1_2 i1_0) 1, (gety l1_2 i1_0)), ((getx l1_2 i1_0), isub (gety l1_2 i1_0) 1), ((getx l1_2 i1_0), iadd (gety l1_2 i1_0) 1), (iadd (getx l1_2 i1_0) 1, (gety l1_2 i1_0))])))) ∧ (NIs (bnot b3_1) true → NLt i2_0 (ilen ([(isub (getx l1_2 i1_0) 1, (gety l1_2 i1_0)), ((getx l1_2 i1_0), isub (gety l1_2 i1_0) 1), ((getx l1_2 i1_0), iadd (gety l1_2 i1_0) 1), (iadd (getx l1_2 i1_0) 1, (gety l1_2 i1_0))]))) ∧ (NIs (bnot b3_1) true → (True)) ∧ (True) ∧ True) ∧ ((bite (bnot b3_1) (freeB l (getx ([(isub (getx l1_2 i1_0) 1, (gety l1_2 i1_0)), ((getx l1_2 i1_0), isub (gety l1_2 i1_0) 1), ((getx l1_2 i1_0), iadd (gety l1_2 i1_0) 1), (iadd (getx l1_2 i1_0) 1, (gety l1_2 i1_0))]) i2_0) (gety ([(isub (getx l1_2 i1_0) 1, (gety l1_2 i1_0)), ((getx l1_2 i1_0), isub (gety l1_2 i1_0) 1), ((getx l1_2 i1_0), iadd (gety l1_2 i1_0) 1), (iadd (getx l1_2 i1_0) 1, (gety l1_2 i1_0))]) i2_0)) false) = true → ((true = true) ∧ ((True) ∧ (True) ∧ (True) ∧ (NLe 0 i2_0 ∧ NLt i2_0 (ilen ([(isub (getx l1_2 i1_0) 1, (gety l1_2 i1_0)), ((getx l1_2 i1_0), isub (gety l1_2 i1_0) 1), ((getx l1_2 i1_0), iadd (gety l1_2 i1_0) 1), (iadd (getx l1_2 i1_0) 1, (gety l1_2 i1_0))]))) ∧ (NLt i2_0 (ilen ([(isub (getx l1_2 i1_0) 1, (gety l1_2 i1_0)), ((getx l1_2 i1_0), isub (gety l1_2 i1_0) 1), ((getx l1_2 i1_0), iadd (gety l1_2 i1_0) 1), (iadd (getx l1_2 i1_0) 1, (gety l1_2 i1_0))]))) ∧ (True) ∧ True) ∧ (NLe (ilen l2_2) 1000000000 ∧ NLe (ilen [((getx ([(isub (getx l1_2 i1_0) 1, (gety l1_2 i1_0)), ((getx l1_2 i1_0), isub (gety l1_2 i1_0) 1), ((getx l1_2 i1_0), iadd (gety l1_2 i1_0) 1), (iadd (getx l1_2 i1_0) 1, (gety l1_2 i1_0))]) i2_0), (gety ([(isub (getx l1_2 i1_0) 1, (gety l1_2 i1_0)), ((getx l1_2 i1_0), isub (gety l1_2 i1_0) 1), ((getx l1_2 i1_0), iadd (gety l1_2 i1_0) 1), (iadd (getx l1_2 i1_0) 1, (gety l1_2 i1_0))]) i2_0))]) 1000000000) ∧ (True) ∧ (true = true) ∧ ((True) ∧ (True) ∧ (True) ∧ True) ∧ (NLe (ilen l2_1) 1000000000 ∧ NLe (ilen [i1_0]) 1000000000) ∧ (True) ∧ (true = true) ∧ ((True) ∧ (True) ∧ (True) ∧ True) ∧ ((true = true) ∧ ((((iadd i2_0 (1 : Int)) : Int) = (iadd i2_0 (1 : Int))) ∧ ((i1_0 : Int) = i1_0) ∧ ((((getx l1_2 i1_0) : Int) = (getx l1_2 i1_0)) ∧ (((gety l1_2 i1_0) : Int) = (gety l1_2 i1_0)) ∧ True) ∧ (true = true) ∧ (true = true) ∧ ((i1_0 : Int) = i1_0) ∧ ((((getx l1_2 i1_0) : Int) = (getx l1_2 i1_0)) ∧ (((gety l1_2 i1_0) : Int) = (gety l1_2 i1_0)) ∧ True) ∧ (((z1 : Int) = z1) ∧ ((z2 : Int) = z2) ∧ True) ∧ (((band (ieq (getx l1_2 i1_0) z1) (ieq (gety l1_2 i1_0) z2)) : Bool) = (band (ieq (getx l1_2 i1_0) z1) (ieq (gety l1_2 i1_0) z2))) ∧ ((i1_0 : Int) = i1_0) ∧ (((ilen l1_2) : Int) = (ilen l1_2)) ∧ (((ilt i1_0 (ilen l1_2)) : Bool) = (ilt i1_0 (ilen l1_2))) ∧ ((i1_0 : Int) = i1_0) ∧ (true = true) ∧ (((a1 : Int) = a1) ∧ ((a2 : Int) = a2) ∧ True) ∧ (true = true) ∧ ((Cont.boolss l) = (Cont.boolss l)) ∧ (((tblB l) : Bool) = (tblB l)) ∧ (((bnot (tblB l)) : Bool) = (bnot (tblB l))) ∧ (((bnot (tblB l)) : Bool) = (bnot (tblB l))) ∧ (((bite (bnot (tblB l)) true (bnot (freeB l a1 a2))) : Bool) = (bite (bnot (tblB l)) true (bnot (freeB l a1 a2)))) ∧ (((bite (bnot (tblB l)) true (bnot (freeB l a1 a2))) : Bool) = (bite (bnot (tblB l)) true (bnot (freeB l a1 a2)))) ∧ (((bite (bite (bnot (tblB l)) true (bnot (freeB l a1 a2))) true (bnot (freeB l z1 z2))) : Bool) = (bite (bite (bnot (tblB l)) true (bnot (freeB l a1 a2))) true (bnot (freeB l z1 z2)))) ∧ (true = true) ∧ (true = true) ∧ (true = true) ∧ ((Cont.boolss l) = (Cont.boolss l)) ∧ (((a1 : Int) = a1) ∧ ((a2 : Int) = a2) ∧ True) ∧ (((z1 : Int) = z1) ∧ ((z2 : Int) = z2) ∧ True) ∧ True) ∧ (((true = true) ∧ ((Cont.pts (iapp l2_2 [((getx ([(isub (getx l1_2 i1_0) 1, (gety l1_2 i1_0)), ((getx l1_2 i1_0), isub (gety l1_2 i1_0) 1), ((getx l1_2 i1_0), iadd (gety l1_2 i1_0) 1), (iadd (getx l1_2 i1_0) 1, (gety l1_2 i1_0))]) i2_0), (gety ([(isub (getx l1_2 i1_0) 1, (gety l1_2 i1_0)), ((getx l1_2 i1_0), isub (gety l1_2 i1_0) 1), ((getx l1_2 i1_0), iadd (gety l1_2 i1_0) 1), (iadd (getx l1_2 i1_0) 1, (gety l1_2 i1_0))]) i2_0))])) = (Cont.pts (iapp l2_2 [((getx ([(isub (getx l1_2 i1_0) 1, (gety l1_2 i1_0)), ((getx l1_2 i1_0), isub (gety l1_2 i1_0) 1), ((getx l1_2 i1_0), iadd (gety l1_2 i1_0) 1), (iadd (getx l1_2 i1_0) 1, (gety l1_2 i1_0))]) i2_0), (gety ([(isub (getx l1_2 i1_0) 1, (gety l1_2 i1_0)), ((getx l1_2 i1_0), isub (gety l1_2 i1_0) 1), ((getx l1_2 i1_0), iadd (gety l1_2 i1_0) 1), (iadd (getx l1_2 i1_0) 1, (gety l1_2 i1_0))]) i2_0))])))) ∧ ((true = true) ∧ ((Cont.ints (iapp l2_1 [i1_0])) = (Cont.ints (iapp l2_1 [i1_0])))) ∧ ((true = true) ∧ ((Cont.pts ([(isub (getx l1_2 i1_0) 1, (gety l1_2 i1_0)), ((getx l1_2 i1_0), isub (gety l1_2 i1_0) 1), ((getx l1_2 i1_0), iadd (gety l1_2 i1_0) 1), (iadd (getx l1_2 i1_0) 1, (gety l1_2 i1_0))])) = (Cont.pts ([(isub (getx l1_2 i1_0) 1, (gety l1_2 i1_0)), ((getx l1_2 i1_0), isub (gety l1_2 i1_0) 1), ((getx l1_2 i1_0), iadd (gety l1_2 i1_0) 1), (iadd (getx l1_2 i1_0) 1, (gety l1_2 i1_0))])))) ∧ ((true = true) ∧ ((Cont.pts l1_3) = (Cont.pts l1_3))) ∧ (((a1 : Int) = a1) ∧ ((a2 : Int) = a2) ∧ True) ∧ (((z1 : Int) = z1) ∧ ((z2 : Int) = z2) ∧ True) ∧ True)) ∧ ((([GK.int, GK.ints, GK.pts] : List GK) = ([GK.int, GK.ints, GK.pts] : List GK)) ∧ I2 [GV.int (iadd i2_0 (1 : Int)), GV.ints (iapp l2_1 [i1_0]), GV.pts (iapp l2_2 [((getx ([(isub (getx l1_2 i1_0) 1, (gety l1_2 i1_0)), ((getx l1_2 i1_0), isub (gety l1_2 i1_0) 1), ((getx l1_2 i1_0), iadd (gety l1_2 i1_0) 1), (iadd (getx l1_2 i1_0) 1, (gety l1_2 i1_0))]) i2_0), (gety ([(isub (getx l1_2 i1_0) 1, (gety l1_2 i1_0)), ((getx l1_2 i1_0), isub (gety l1_2 i1_0) 1), ((getx l1_2 i1_0), iadd (gety l1_2 i1_0) 1), (iadd (getx l1_2 i1_0) 1, (gety l1_2 i1_0))]) i2_0))])] ∧ μ2 [GV.int (iadd i2_0 (1 : Int)), GV.ints (iapp l2_1 [i1_0]), GV.pts (iapp l2_2 [((getx ([(isub (getx l1_2 i1_0) 1, (gety l1_2 i1_0)), ((getx l1_2 i1_0), isub (gety l1_2 i1_0) 1), ((getx l1_2 i1_0), iadd (gety l1_2 i1_0) 1), (iadd (getx l1_2 i1_0) 1, (gety l1_2 i1_0))]) i2_0), (gety ([(isub (getx l1_2 i1_0) 1, (gety l1_2 i1_0)), ((getx l1_2 i1_0), isub (gety l1_2 i1_0) 1), ((getx l1_2 i1_0), iadd (gety l1_2 i1_0) 1), (iadd (getx l1_2 i1_0) 1, (gety l1_2 i1_0))]) i2_0))])] < μ2 [GV.int i2_0, GV.ints l2_1, GV.pts l2_2]))) ∧ ((bite (bnot b3_1) (freeB l (getx ([(isub (getx l1_2 i1_0) 1, (gety l1_2 i1_0)), ((getx l1_2 i1_0), isub (gety l1_2 i1_0) 1), ((getx l1_2 i1_0), iadd (gety l1_2 i1_0) 1), (iadd (getx l1_2 i1_0) 1, (gety l1_2 i1_0))]) i2_0) (gety ([(isub (getx l1_2 i1_0) 1, (gety l1_2 i1_0)), ((getx l1_2 i1_0), isub (gety l1_2 i1_0) 1), ((getx l1_2 i1_0), iadd (gety l1_2 i1_0) 1), (iadd (getx l1_2 i1_0) 1, (gety l1_2 i1_0))]) i2_0)) false) = false → ((true = true) ∧ ((True) ∧ (True) ∧ (True) ∧ True) ∧ ((true = true) ∧ ((((iadd i2_0 (1 : Int)) : Int) = (iadd i2_0 (1 : Int))) ∧ ((i1_0 : Int) = i1_0) ∧ ((((getx l1_2 i1_0) : Int) = (getx l1_2 i1_0)) ∧ (((gety l1_2 i1_0) : Int) = (gety l1_2 i1_0)) ∧ True) ∧ (true = true) ∧ (true = true) ∧ ((i1_0 : Int) = i1_0) ∧ ((((getx l1_2 i1_0) : Int) = (getx l1_2 i1_0)) ∧ (((gety l1_2 i1_0) : Int) = (gety l1_2 i1_0)) ∧ True) ∧ (((z1 : Int) = z1) ∧ ((z2 : Int) = z2) ∧ True) ∧ (((band (ieq (getx l1_2 i1_0) z1) (ieq (gety l1_2 i1_0) z2)) : Bool) = (band (ieq (getx l1_2 i1_0) z1) (ieq (gety l1_2 i1_0) z2))) ∧ ((i1_0 : Int) = i1_0) ∧ (((ilen l1_2) : Int) = (ilen l1_2)) ∧ (((ilt i1_0 (ilen l1_2)) : Bool) = (ilt i1_0 (ilen l1_2))) ∧ ((i1_0 : Int) = i1_0) ∧ (true = true) ∧ (((a1 : Int) = a1) ∧ ((a2 : Int) = a2) ∧ True) ∧ (true = true) ∧ ((Cont.boolss l) = (Cont.boolss l)) ∧ (((tblB l) : Bool) = (tblB l)) ∧ (((bnot (tblB l)) : Bool) = (bnot (tblB l))) ∧ (((bnot (tblB l)) : Bool) = (bnot (tblB l))) ∧ (((bite (bnot (tblB l)) true (bnot (freeB l a1 a2))) : Bool) = (bite (bnot (tblB l)) true (bnot (freeB l a1 a2)))) ∧ (((bite (bnot (tblB l)) true (bnot (freeB l a1 a2))) : Bool) = (bite (bnot (tblB l)) true (bnot (freeB l a1 a2)))) ∧ (((bite (bite (bnot (tblB l)) true (bnot (freeB l a1 a2))) true (bnot (freeB l z1 z2))) : Bool) = (bite (bite (bnot (tblB l)) true (bnot (freeB l a1 a2))) true (bnot (freeB l z1 z2)))) ∧ (true = true) ∧ (true = true) ∧ (true = true) ∧ ((Cont.boolss l) = (Cont.boolss l)) ∧ (((a1 : Int) = a1) ∧ ((a2 : Int) = a2) ∧ True) ∧ (((z1 : Int) = z1) ∧ ((z2 : Int) = z2) ∧ True) ∧ True) ∧ (((true = true) ∧ ((Cont.pts l2_2) = (Cont.pts l2_2))) ∧ ((true = true) ∧ ((Cont.ints l2_1) = (Cont.ints l2_1))) ∧ ((true = true) ∧ ((Cont.pts ([(isub (getx l1_2 i1_0) 1, (gety l1_2 i1_0)), ((getx l1_2 i1_0), isub (gety l1_2 i1_0) 1), ((getx l1_2 i1_0), iadd (gety l1_2 i1_0) 1), (iadd (getx l1_2 i1_0) 1, (gety l1_2 i1_0))])) = (Cont.pts ([(isub (getx l1_2 i1_0) 1, (gety l1_2 i1_0)), ((getx l1_2 i1_0), isub (gety l1_2 i1_0) 1), ((getx l1_2 i1_0), iadd (gety l1_2 i1_0) 1), (iadd (getx l1_2 i1_0) 1, (gety l1_2 i1_0))])))) ∧ ((true = true) ∧ ((Cont.pts l1_3) = (Cont.pts l1_3))) ∧ (((a1 : Int) = a1) ∧ ((a2 : Int) = a2) ∧ True) ∧ (((z1 : Int) = z1) ∧ ((z2 : Int) = z2) ∧ True) ∧ True)) ∧ ((([GK.int, GK.ints, GK.pts] : List GK) = ([GK.int, GK.ints, GK.pts] : List GK)) ∧ I2 [GV.int (iadd i2_0 (1 : Int)), GV.ints l2_1, GV.pts l2_2] ∧ μ2 [GV.int (iadd i2_0 (1 : Int)), GV.ints l2_1, GV.pts l2_2] < μ2 [GV.int i2_0, GV.ints l2_1, GV.pts l2_2]))))))))) ∧ ((ilt i2_0 (ilen ([(isub (getx l1_2 i1_0) 1, (gety l1_2 i1_0)), ((getx l1_2 i1_0), isub (gety l1_2 i1_0) 1), ((getx l1_2 i1_0), iadd (gety l1_2 i1_0) 1), (iadd (getx l1_2 i1_0) 1, (gety l1_2 i1_0))]))) = false → ((true = true) ∧ ((True) ∧ (True) ∧ (True) ∧ True) ∧ ((true = true) ∧ ((((iadd i1_0 (1 : Int)) : Int) = (iadd i1_0 (1 : Int))) ∧ (true = true) ∧ (((a1 : Int) = a1) ∧ ((a2 : Int) = a2) ∧ True) ∧ (true = true) ∧ ((Cont.boolss l) = (Cont.boolss l)) ∧ (((tblB l) : Bool) = (tblB l)) ∧ (((bnot (tblB l)) : Bool) = (bnot (tblB l))) ∧ (((bnot (tblB l)) : Bool) = (bnot (tblB l))) ∧ (((bite (bnot (tblB l)) true (bnot (freeB l a1 a2))) : Bool) = (bite (bnot (tblB l)) true (bnot (freeB l a1 a2)))) ∧ (((bite (bnot (tblB l)) true (bnot (freeB l a1 a2))) : Bool) = (bite (bnot (tblB l)) true (bnot (freeB l a1 a2)))) ∧ (((bite (bite (bnot (tblB l)) true (bnot (freeB l a1 a2))) true (bnot (freeB l z1 z2))) : Bool) = (bite (bite (bnot (tblB l)) true (bnot (freeB l a1 a2))) true (bnot (freeB l z1 z2)))) ∧ (true = true) ∧ (true = true) ∧ (true = true) ∧ ((Cont.boolss l) = (Cont.boolss l)) ∧ (((a1 : Int) = a1) ∧ ((a2 : Int) = a2) ∧ True) ∧ (((z1 : Int) = z1) ∧ ((z2 : Int) = z2) ∧ True) ∧ True) ∧ (((true = true) ∧ ((Cont.pts l1_3) = (Cont.pts l1_3))) ∧ ((true = true) ∧ ((Cont.pts l2_2) = (Cont.pts l2_2))) ∧ ((true = true) ∧ ((Cont.ints l2_1) = (Cont.ints l2_1))) ∧ (((a1 : Int) = a1) ∧ ((a2 : Int) = a2) ∧ True) ∧ (((z1 : Int) = z1) ∧ ((z2 : Int) = z2) ∧ True) ∧ True)) ∧ ((([GK.int, GK.ints, GK.pts, GK.pts] : List GK) = ([GK.int, GK.ints, GK.pts, GK.pts] : List GK)) ∧ I1 [GV.int (iadd i1_0 (1 : Int)), GV.ints l2_1, GV.pts l2_2, GV.pts l1_3] ∧ μ1 [GV.int (iadd i1_0 (1 : Int)), GV.ints l2_1, GV.pts l2_2, GV.pts l1_3] < μ1 [GV.int i1_0, GV.ints l1_1, GV.pts l1_2, GV.pts l1_3]))))))))) ∧ ((ilt i1_0 (ilen l1_2)) = false → ((true = true) ∧ ((True) ∧ (True) ∧ True) ∧ ((true = true) ∧ ((Cont.pts []) = (Cont.pts (plF l a1 a2 z1 z2)))) ∧ True))))))) = ev sig_spec_PlanPath xs_spec_PlanPath Try.f13.ntmps (fun b => if b == 0 then [.v 9, .b 8, .b 7, .b 6] else if b == 2 then [.v 11, .b 8, .b 7] else if b == 4 then [.v 13, .v 12] else []) (codeOf Try.f13) 0 (initS [.s (.view (.boolss l)), .agg [.int a1, .int a2], .agg [.int z1, .int z2]]) (retK Try.f13.results.toList [.nrow 29 (.pts (plF l a1 a2 z1 z2))]) := by kernel_rfl
set_option maxHeartbeats 1000000 in
theorem F_spec_PlanPath : FunOK 13 g_spec_PlanPath := by
  refine fun_F (by kernel_rfl) Try.func13 rfl (by kernel_rfl) sig_spec_PlanPath_ok xs_spec_PlanPath_ok ?_
  intro avs sg h hn hl
  unfold g_spec_PlanPath at h
  split at h
  · rename_i l a1 a2 z1 z2
    injection h with h; subst h
    refine ⟨by kernel_rfl, fun b => if b == 0 then [.v 9, .b 8, .b 7, .b 6] else if b == 2 then [.v 11, .b 8, .b 7] else if b == 4 then [.v 13, .v 12] else [], Eq.mp (V_spec_PlanPath l a1 a2 z1 z2) ?_⟩
    simp only [true_and, and_true, implies_true, and_self, forall_const, true_implies, lenA, lenL, SV.lenOK, Cont.lenOK] at hn hl ⊢
    simp only [ilt_t, ilt_f, ile_t, ile_f, ieq_t, ieq_f, bnot_e, band_e, bite_and, bite_or, NLt_e, NLe_e, NNe_e, NIs_e, imax_e, imin_e, irem_e, Bool.not_eq_true', Bool.not_eq_false', Bool.and_eq_true, Bool.or_eq_true, Bool.or_eq_false_iff, Bool.and_eq_false_iff, Cont.pts.injEq, Cont.ints.injEq, Cont.bools.injEq, Cont.ptss.injEq, Cont.intss.injEq, Cont.boolss.injEq, true_and, and_true, implies_true]
    refine ⟨fun h => by unfold plF; rcases h with (h | h) | h <;> simp [h], fun h => ?_⟩
    obtain ⟨⟨ht, ha⟩, hz⟩ := h
    have hp : plF l a1 a2 z1 z2 = planB (frF l) (a1, a2) (z1, z2) := by unfold plF; simp only [ht, ha, hz, Bool.and_self, if_true]
    have hb := frF_in ht
    have hfa : frF l (a1, a2) = true := ha
    rw [hp]
    refine ⟨fun | [.int k, .ints b, .pts q, .pts _] => 0 ≤ k ∧ (q, b) = bfK (frF l) (a1, a2) k.toNat ∧ k ≤ ilen q ∧ (∀ i, 0 ≤ i → i < k → ¬ (getx q i = z1 ∧ gety q i = z2)) | _ => False, fun | .int k :: _ => (401 - k).toNat | _ => 0, ⟨by omega, rfl, by rw [ilen_one]; omega, fun i i0 i1 => by omega⟩, ?_⟩
    rintro k b q nx ⟨k0, hs, kq, hne⟩
    obtain ⟨n, rfl⟩ := Int.eq_ofNat_of_zero_le k0
    rw [Int.toNat_natCast] at hs
    have hI := (bfK_ok hfa n).1
    rw [← hs] at hI
    have hlen := bi_len hI hb
    have wf := hI.wf hb
    have hl0 : ilen q ≤ 400 := wf.2.1
    refine ⟨fun hc => ⟨⟨⟨k0, hc⟩, hc⟩, fun hx => ⟨⟨by omega, hc, wf⟩, ?_⟩, fun hx => ⟨⟨⟨k0, hc⟩, hc⟩, ?_⟩⟩, fun hc => ?_⟩
    · have hq : q[n]? = some (z1, z2) := by
        have := pt_at k0 hc
        rw [Int.toNat_natCast] at this
        rw [this, hx.1, hx.2]
      have := (plan_at hb hfa (k := n) (i := n) (z := (z1, z2)) (by rw [← hs]; exact hq) (n + 1) (by omega)).1
      rw [this, ← hs, show ((n : Int) + 1).toNat = n + 1 by omega]
    · have hcn : q[n]? = some (getx q n, gety q n) := by have := pt_at k0 hc; rwa [Int.toNat_natCast] at this
      have hfr : freeB l (getx q n) (gety q n) = true := hI.free _ (List.mem_of_getElem? hcn)
      have hin := free_in ht hfr
      have e1 : isub (getx q n) 1 = getx q n - 1 := isub_e (by omega) (by omega)
      have e2 : isub (gety q n) 1 = gety q n - 1 := isub_e (by omega) (by omega)
      have e3 : iadd (getx q n) 1 = getx q n + 1 := iadd_e (by omega) (by omega)
      have e4 : iadd (gety q n) 1 = gety q n + 1 := iadd_e (by omega) (by omega)
      rw [e1, e2, e3, e4]
      have hN : [(getx q n - 1, gety q n), (getx q n, gety q n - 1), (getx q n, gety q n + 1), (getx q n + 1, gety q n)] = nbs (getx q n, gety q n) := rfl
      rw [hN]
      have hl4 : ilen (nbs (getx q n, gety q n)) = 4 := by simp [nbs, ilen]
      have hna : ∀ x ∈ nbs (getx q n, gety q n), adj (getx q n, gety q n) x := fun x hx => hx
      have hnS : bfS (frF l) n (q, b) = bfN (frF l) n (nbs (getx q n, gety q n)) (q, b) := by
        have := bfS_at (fr := frF l) (s := (q, b)) k0 hc
        rw [Int.toNat_natCast] at this; exact this
      generalize nbs (getx q n, gety q n) = nb at *
      rw [hl4]
      refine ⟨fun | [.int j, .ints b', .pts q'] => 0 ≤ j ∧ j ≤ 4 ∧ (q', b') = bfN (frF l) n (nb.take j.toNat) (q, b) | _ => False, fun | .int j :: _ => (4 - j).toNat | _ => 0, ⟨by omega, by omega, rfl⟩, ?_⟩
      rintro j b' q' ⟨j0, j4, hs'⟩
      obtain ⟨hI', hX, -⟩ := bfN_ok (nb.take j.toNat) (q, b) hI hcn (fun x hx => hna x (List.mem_of_mem_take hx))
      rw [← hs'] at hI' hX
      have hl' := (hI'.wf hb).2.1
      have hlb := (hI'.wf hb).1
      have hq0 := ilen_0 q'
      simp only at hl' hlb
      refine ⟨fun hj => ?_, fun hj => ?_⟩
      · have ej : iadd j 1 = j + 1 := iadd_e (by omega) (by omega)
        have ht1 := take_1 (l := nb) j0 (by omega)
        have hst : bfN (frF l) n (nb.take (j + 1).toNat) (q, b) = if !(q'.contains (getx nb j, gety nb j)) && frF l (getx nb j, gety nb j) then (q' ++ [(getx nb j, gety nb j)], b' ++ [(n : Int)]) else (q', b') := by
          rw [ht1, bfN_app, ← hs', bfN_one]
        rw [cont_b] at hst
        rw [ej]
        generalize getx nb j = X at *
        generalize gety nb j = Y at *
        refine ⟨fun | [.int i, .bool sn] => 0 ≤ i ∧ i ≤ ilen q' ∧ sn = anyN i (fun t => decide (getx q' t = X ∧ gety q' t = Y)) | _ => False, fun | .int i :: _ => (ilen q' - i).toNat | _ => 0, ⟨by omega, hq0, rfl⟩, ?_⟩
        rintro i sn ⟨i0, i1, hsn⟩
        refine ⟨fun hi => ?_, fun hi => ?_⟩
        · rw [iadd_e (by omega) (by omega)]
          refine ⟨⟨fun _ => ⟨i0, hi⟩, fun _ => hi, fun _ => ⟨j0, hj⟩, fun _ => hj⟩, ⟨by omega, by omega, ?_⟩, by show (ilen q' - (i + 1)).toNat < (ilen q' - i).toNat; omega⟩
          rw [anyN_1 i0, ← hsn]
          simp only [ieq, Bool.decide_and]
        · have ei : i = ilen q' := by omega
          rw [ei] at hsn
          rw [← hsn] at hst
          refine ⟨⟨fun _ => ⟨j0, hj⟩, fun _ => hj⟩, fun hx2 => ⟨⟨⟨j0, hj⟩, hj⟩, ⟨by omega, by rw [ilen_one]; omega⟩, ⟨by omega, by rw [ilen_one]; omega⟩, ⟨by omega, by omega, ?_⟩, by show (4 - (j + 1)).toNat < (4 - j).toNat; omega⟩, fun hx2 => ⟨⟨by omega, by omega, ?_⟩, by show (4 - (j + 1)).toNat < (4 - j).toNat; omega⟩⟩
          · have hf2 : frF l (X, Y) = true := hx2.2
            rw [hst, hx2.1, hf2]
            unfold iapp
            rfl
          · rw [hst]
            rcases hx2 with h | h
            · rw [h]; rfl
            · have hf2 : frF l (X, Y) = false := h
              rw [hf2]; simp
      · have e4 : j = 4 := by omega
        subst e4
        have hnl : nb.take (4 : Int).toNat = nb := List.take_of_length_le (by unfold ilen at hl4; omega)
        rw [hnl, ← hnS] at hs'
        have hK : (q', b') = bfK (frF l) (a1, a2) (n + 1) := by rw [hs', hs]; rfl
        have hEx : Ext (q, b) (q', b') := hX
        rw [iadd_e (by omega) (by omega)]
        have hgk := (ext_get hEx k0 hc).2.2
        simp only at hgk
        refine ⟨⟨by omega, by rw [show ((n : Int) + 1).toNat = n + 1 by omega]; exact hK, by omega, fun i i0 i1 => ?_⟩, by show (401 - ((n : Int) + 1)).toNat < (401 - (n : Int)).toNat; omega⟩
        have hg := ext_get hEx (i := i) i0 (by show i < ilen q; omega)
        simp only at hg
        rw [hg.1, hg.2.1]
        rcases Int.lt_or_le i n with g | g
        · exact hne i i0 g
        · rw [show i = (n : Int) by omega]; intro e; rcases hx with h | h
          · exact h e.1
          · exact h e.2
    · refine (plan_none hb hfa (k := n) (by rw [← hs]; unfold ilen at hc; simp only; omega) ?_).symm
      rw [← hs]
      intro hm
      obtain ⟨i, hi, e⟩ := List.mem_iff_getElem.1 hm
      have e' : q[i]? = some (z1, z2) := by rw [List.getElem?_eq_getElem hi, e]
      obtain ⟨p1, p2, p3⟩ := pt_of e'
      exact hne i (by omega) (by omega) ⟨p2, p3⟩
  · cases h
def s_spec_l20Cell (r1 : Int) (r2 : Int) (l : List (List Bool)) : SgX := ⟨r1 ≤ 2000 ∧ 0 ≤ r2 ∧ r2 ≤ 100000 ∧ 1 ≤ ilen l ∧ ilen l ≤ 6 ∧ 1 ≤ ilen (getl l 0) ∧ ilen (getl l 0) ≤ 7, [.int, .int], (fun | [.int x, .int y] => -1 ≤ x ∧ x ≤ 7 ∧ 0 ≤ y ∧ y ≤ 7 | _ => False), (fun | [.int x, .int y] => [.agg [.int (x), .int (y)]] | _ => []), (fun | [.int x, .int y] => .box [.rdr r1, .int (r2 + 4)] | _ => .box [])⟩
def g_spec_l20Cell : Bx → List AV → Option SgX
  | .box [.rdr r1, .int r2], [.s (.view (.boolss l))] => some (s_spec_l20Cell r1 r2 l)
  | _, _ => none
def sig_spec_l20Cell : FuncId → List AV → Option Sg := sigL []
def xs_spec_l20Cell : XS := ⟨xsigL [(72, g_spec_l20Rd_pick)], ysigL []⟩
theorem sig_spec_l20Cell_ok : SigOK sig_spec_l20Cell := sigL_nil
theorem xs_spec_l20Cell_ok : XSigOK xs_spec_l20Cell := ⟨xsigL_cons F_spec_l20Rd_pick xsigL_nil, ysigL_nil⟩
def L_spec_l20Cell_0 (k_2 : Int) (k_3 : Int) (k_4 : Int) (r1 : Int) (r2 : Int) : Prop := ∃ x : Int, ∃ y : Int, ((-1 ≤ x ∧ x ≤ 7 ∧ 0 ≤ y ∧ y ≤ 7) ∧ (((((isub (k_2) (iquo (k_3) (15 : Int))) : Int) = (x)) ∧ (((k_4) : Int) = (y)) ∧ True) ∧ True) ∧ ((true = true) ∧ (true = true) ∧ ((r1 : Int) = r1) ∧ ((((((r2 + 1) + 1) + 1) + 1) : Int) = (r2 + 4)) ∧ True))
theorem V_spec_l20Cell (r1 : Int) (r2 : Int) (l : List (List Bool)) : ((true = true) ∧ ((True) ∧ True) ∧ (true = true) ∧ ((true = true) ∧ (True) ∧ ((true = true) ∧ (True) ∧ ((true = true) ∧ (True) ∧ ((true = true) ∧ (True) ∧ ((true = true) ∧ (True) ∧ ((true = true) ∧ (True) ∧ ((true = true) ∧ (True) ∧ ((true = true) ∧ (NLe 0 (0 : Int) ∧ NLt (0 : Int) (ilen l)) ∧ ((true = true) ∧ (True) ∧ ((true = true) ∧ (True) ∧ ((true = true) ∧ ((r1 ≤ 2000 ∧ 0 ≤ r2 ∧ r2 ≤ 1000000)) ∧ (∀ k_1 : Int, ((pickP (16 : Int) k_1) → ((true = true) ∧ (NNe (15 : Int) 0) ∧ ((true = true) ∧ (True) ∧ ((true = true) ∧ ((r1 ≤ 2000 ∧ 0 ≤ (r2 + 1) ∧ (r2 + 1) ≤ 1000000)) ∧ (∀ k_2 : Int, ((pickP (iadd (ilen l) (iquo (k_1) (15 : Int))) k_2) → ((true = true) ∧ ((r1 ≤ 2000 ∧ 0 ≤ ((r2 + 1) + 1) ∧ ((r2 + 1) + 1) ≤ 1000000)) ∧ (∀ k_3 : Int, ((pickP (16 : Int) k_3) → ((true = true) ∧ (NNe (15 : Int) 0) ∧ ((true = true) ∧ (True) ∧ ((true = true) ∧ ((r1 ≤ 2000 ∧ 0 ≤ (((r2 + 1) + 1) + 1) ∧ (((r2 + 1) + 1) + 1) ≤ 1000000)) ∧ (∀ k_4 : Int, ((pickP (ilen (getl l (0 : Int))) k_4) → ((True) ∧ (True) ∧ L_spec_l20Cell_0 k_2 k_3 k_4 r1 r2)))))))))))))))))))))))))))) = (fun sg => ev sig_spec_l20Cell xs_spec_l20Cell Try.f69.ntmps (fun b => []) (codeOf Try.f69) 0 (initX (.box [.rdr r1, .int r2]) [.s (.view (.boolss l))]) (retX Try.f69.results.toList sg.kinds sg.post sg.ret sg.out)) (s_spec_l20Cell r1 r2 l) := by kernel_rfl
set_option maxHeartbeats 400000 in
theorem F_spec_l20Cell : FunX 69 g_spec_l20Cell := by
  refine fun_X (by kernel_rfl) Try.func69 rfl (by kernel_rfl) sig_spec_l20Cell_ok xs_spec_l20Cell_ok ?_
  intro bx avs sg h hn hl hlb
  unfold g_spec_l20Cell at h
  split at h
  · rename_i r1 r2 l
    injection h with h; subst h
    refine ⟨by kernel_rfl, fun b => [], Eq.mp (V_spec_l20Cell r1 r2 l) ?_⟩
    simp only [true_and, and_true, implies_true, and_self, forall_const, true_implies, lenA, lenL, SV.lenOK, Cont.lenOK, lenB, s_spec_l20Cell, L_spec_l20Cell_0] at hn hl hlb ⊢
    obtain ⟨n1, n2, n3, n4, n5, n6, n7⟩ := hn
    simp only [ilt_t, ilt_f, ile_t, ile_f, ieq_t, ieq_f, bnot_e, band_e, bite_and, bite_or, NLt_e, NLe_e, NNe_e, NIs_e, imax_e, imin_e, irem_e, Bool.not_eq_true', Bool.not_eq_false', Bool.and_eq_true, Bool.or_eq_true, Bool.or_eq_false_iff, Bool.and_eq_false_iff, Cont.pts.injEq, Cont.ints.injEq, Cont.bools.injEq, Cont.ptss.injEq, Cont.intss.injEq, Cont.boolss.injEq, true_and, and_true, implies_true, pickP]
    have q15 : ∀ k : Int, 0 ≤ k → k < 16 → 0 ≤ iquo k 15 ∧ iquo k 15 ≤ 1 := fun k h0 h1 => by
      rw [iquo_e (by omega) (by omega) (by omega), Int.tdiv_eq_ediv_of_nonneg h0]; omega
    refine ⟨by omega, by omega, fun k1 h1 => ⟨by omega, by omega, fun k2 h2 => ⟨by omega, fun k3 h3 => ⟨by omega, by omega, fun k4 h4 => ?_⟩⟩⟩⟩
    have p1 := h1.2 (by omega); have p3 := h3.2 (by omega); have p4 := h4.2 (by omega)
    have w1 := q15 k1 p1.1 p1.2; have w3 := q15 k3 p3.1 p3.2
    have e1 : iadd (ilen l) (iquo k1 15) = ilen l + iquo k1 15 := iadd_e (by omega) (by omega)
    rw [e1] at h2
    have p2 := h2.2 (by omega)
    have e2 : isub k2 (iquo k3 15) = k2 - iquo k3 15 := isub_e (by omega) (by omega)
    rw [e2]
    exact ⟨_, _, by omega, ⟨rfl, rfl⟩, by omega⟩
  · cases h
theorem info_cell : (Try.prog.info? 29).map (fun i => (i.zero, i.size, i.bytes)) = some (some (.agg #[.int .i64 0, .int .i64 0]), 2, 16) := by kernel_rfl
/-- The reader's box. -/
def RB (L : Nat → Prop) (g : Nat) (m q : Int) (w : World) : Prop := (Bx.box [.rdr m, .int q]).ok 0 (EL L) w (.pointer (some ⟨g, 0, none⟩))
theorem RB.bel {L : Nat → Prop} {g : Nat} {m q : Int} {w w' : World} (h : RB L g m q w) (hb : Bel w w') : RB L g m q w' :=
  Bx.ok_evo (E := EL L) (E' := EL L) (grown_evo (bel_grown hb)) (fun b e => hb.block b (by obtain ⟨g', cs, e', e1, _, e2, _⟩ := h; rw [e1] at e; injection e with e; subst e; exact heap_lt e2)) (fun _ _ _ _ _ _ => rfl) h
theorem ltI_grow {L : Nat → Prop} {w w' : World} {r : Option Nat} (h : LtI L w) (hg : w.grownBy w' r) (hr : ∀ b, r = some b → L b) : LtI L w' := h.grow hg hr
theorem pick_b {L : Nat → Prop} {g : Nat} {m q : Int} {w : World} (hL : LtI L w) (hg : L g) (h : RB L g m q w) (hm : m ≤ 2000) (h0 : 0 ≤ q) (h1 : q ≤ 1000000) (n : Int) :
    Calls Try.prog 72 #[.pointer (some ⟨g, 0, none⟩), .int .i64 n] w fun e w' => ∃ k, e = .returned (.int .i64 k) ∧ pickP n k ∧ RB L g m (q + 1) w' ∧ w.grownBy w' (some g) := by
  have hc := F_spec_l20Rd_pick (.box [.rdr m, .int q]) [.s (.int n)] _ rfl ⟨hm, h0, h1⟩ L (.pointer (some ⟨g, 0, none⟩)) [.int .i64 n] w hL (fun b e => by injection e with e; exact e ▸ hg) h ⟨rfl, trivial⟩
  refine hc.2.mono ?_
  rintro e w' ⟨v, gs, rfl, hk, hp, hr, ho, _, hgr⟩
  match gs, hk, hp, hr, ho with
  | [.int k], _, hp, hr, ho =>
    have hr' : v = .int .i64 k := hr
    exact ⟨k, by rw [hr'], hp, ho, hgr⟩
theorem cell_b {L : Nat → Prop} {g : Nat} {m q : Int} {w : World} {v : Value} {l : List (List Bool)} (hL : LtI L w) (hg : L g) (h : RB L g m q w) (hm : m ≤ 2000) (h0 : 0 ≤ q) (h1 : q ≤ 100000) (hv : Reads L w v (.boolss l)) (l1 : 1 ≤ ilen l) (l2 : ilen l ≤ 6) (l3 : 1 ≤ ilen (getl l 0)) (l4 : ilen (getl l 0) ≤ 7) :
    Calls Try.prog 69 #[.pointer (some ⟨g, 0, none⟩), v] w fun e w' => ∃ x y, e = .returned (.agg #[.int .i64 x, .int .i64 y]) ∧ RB L g m (q + 4) w' ∧ w.grownBy w' (some g) := by
  have hc := F_spec_l20Cell (.box [.rdr m, .int q]) [.s (.view (.boolss l))] _ rfl ⟨hm, h0, h1, l1, l2, l3, l4⟩ L (.pointer (some ⟨g, 0, none⟩)) [v] w hL (fun b e => by injection e with e; exact e ▸ hg) h ⟨hv, trivial⟩
  refine hc.2.mono ?_
  rintro e w' ⟨v, gs, rfl, hk, hp, hr, ho, _, hgr⟩
  match gs, hk, hp, hr, ho with
  | [.int x, .int y], _, hp, hr, ho =>
    obtain ⟨⟨cl⟩, rfl, hr2⟩ := hr
    match cl, hr2 with
    | [a, b], ⟨ha, hb, _⟩ =>
      have ha' : a = .int .i64 x := ha
      have hb' : b = .int .i64 y := hb
      subst ha' hb'
      exact ⟨x, y, rfl, ho, hgr⟩
theorem table_b {L : Nat → Prop} {g : Nat} {m q : Int} {w : World} (hL : LtI L w) (hg : L g) (h : RB L g m q w) (hm : m ≤ 2000) (h0 : 0 ≤ q) (h1 : q ≤ 100000) (n : Int) (n1 : -1000000 ≤ n) (n2 : n ≤ 1000000) :
    Calls Try.prog 68 #[.pointer (some ⟨g, 0, none⟩), .int .i64 n] w fun e w' => ∃ v l q', e = .returned v ∧ (1 ≤ ilen l ∧ ilen l ≤ 6 ∧ 1 ≤ ilen (getl l 0) ∧ ilen (getl l 0) ≤ 7 ∧ (∀ i, 0 ≤ i → i < ilen l → ilen (getl l i) ≤ 7) ∧ q ≤ q' ∧ q' ≤ q + 100) ∧ Reads L w' v (.boolss l) ∧ RB L g m q' w' ∧ w.grownBy w' (some g) := by
  have hc := F_spec_l20Table (.box [.rdr m, .int q]) [.s (.int n)] _ rfl ⟨hm, h0, h1, n1, n2⟩ L (.pointer (some ⟨g, 0, none⟩)) [.int .i64 n] w hL (fun b e => by injection e with e; exact e ▸ hg) h ⟨rfl, trivial⟩
  refine hc.2.mono ?_
  rintro e w' ⟨v, gs, rfl, hk, hp, hr, ho, _, hgr⟩
  match gs, hk, hp, hr, ho with
  | [.boolss l, .int q'], _, hp, hr, ho => exact ⟨v, l, q', rfl, hp, hr, ho, hgr⟩
theorem plan_b {L : Nat → Prop} {w : World} {v : Value} {l : List (List Bool)} (hL : LtI L w) (hv : Reads L w v (.boolss l)) (x y s t : Int) :
    Calls Try.prog 13 #[v, .agg #[.int .i64 x, .int .i64 y], .agg #[.int .i64 s, .int .i64 t]] w fun e w' => ∃ u, e = .returned u ∧ w'.ownsRow w.heap.size 29 2 u (plF l x y s t).length (ptCells (plF l x y s t)) ∧ Bel w w' := by
  have hc := F_spec_PlanPath [.s (.view (.boolss l)), .agg [.int x, .int y], .agg [.int s, .int t]] _ rfl trivial L #[v, .agg #[.int .i64 x, .int .i64 y], .agg #[.int .i64 s, .int .i64 t]] w hL ⟨hv, ⟨_, rfl, rfl, rfl, trivial⟩, ⟨_, rfl, rfl, rfl, trivial⟩, trivial⟩
  refine hc.2.mono ?_
  rintro e w' ⟨u, rfl, hr, hb⟩
  obtain ⟨xs, h1, h2⟩ := hr
  have h2' : xs = ptCells (plF l x y s t) := h2
  subst h2'
  exact ⟨u, rfl, h1, hb⟩
theorem open_b {L0 : Nat → Prop} {A : Option Addr} {n c : Nat} {w : World} (hL : LtI L0 w) (hn : (n : Int) ≤ 1048576) (hA : BytesOK L0 w (.slice A n c) n) :
    Calls Try.prog 67 #[.slice A n c] w fun e w' => ∃ g m, e = .returned (.pointer (some ⟨g, 0, none⟩)) ∧ m ≤ 2000 ∧ w.heap.size ≤ g ∧ RB (fun b => L0 b ∨ b = g) g m 0 w' ∧ LtI (fun b => L0 b ∨ b = g) w' ∧ Bel w w' := by
  have hc := F_spec_l20Open [.s (.rdr n)] _ rfl hn L0 #[.slice A n c] w hL ⟨hA, trivial⟩
  refine hc.2.mono ?_
  rintro e w' ⟨v, rfl, ⟨g, cs, E, rfl, hg, hh, hcs⟩, hb⟩
  have e1 : (fun b => L0 b ∨ blk (.pointer (some ⟨g, 0, none⟩)) = some b) = (fun b => L0 b ∨ b = g) := by
    funext b; simp [blk, eq_comm]
  rw [e1] at hcs
  exact ⟨g, _, rfl, by split <;> omega, hg, ⟨g, cs, E, rfl, Nat.zero_le _, hh, hcs⟩, ⟨fun b hb' => hb'.elim (fun h => ⟨Nat.zero_le _, Nat.lt_of_lt_of_le (hL b h) hb.size⟩) (fun h => ⟨Nat.zero_le _, h ▸ heap_lt hh⟩), trivial⟩, hb⟩
theorem ptCells_set (z : Int) : ∀ (ps : List Pt) (k : Nat), (ptCells ps).set (k * 2) (.int .i64 z) = ptCells (ps.set k (z, (ps.getD k (0, 0)).2))
  | [], k => by simp [ptCells]
  | p :: ps, 0 => rfl
  | p :: ps, k + 1 => by
    have h := ptCells_set z ps k
    show (Value.int .i64 p.1 :: .int .i64 p.2 :: ptCells ps).set ((k + 1) * 2) _ = _
    rw [show (k + 1) * 2 = k * 2 + 1 + 1 from by omega, List.set_cons_succ, List.set_cons_succ, h]
    rfl
theorem ptCells_app (a b : List Pt) : ptCells (a ++ b) = ptCells a ++ ptCells b := by simp [ptCells]
/-- What is known ahead of the path. -/
structure DS (L0 : Nat → Prop) (g : Nat) (m : Int) (w0 : World) (v5 : Value) (l : List (List Bool)) (q : Int) (w : World) : Prop where
  lt : LtI (fun b => L0 b ∨ b = g) w
  rb : RB (fun b => L0 b ∨ b = g) g m q w
  rd : Reads (fun b => L0 b ∨ b = g) w v5 (.boolss l)
  be : Bel w0 w
  gs : w0.heap.size ≤ g
/-- .. and behind it. -/
structure DT (L0 : Nat → Prop) (g : Nat) (m : Int) (w0 : World) (v5 : Value) (l : List (List Bool)) (wb : Nat) (v6 : Value) (p : List Pt) (q : Int) (w : World) : Prop where
  lt : LtI (fun b => L0 b ∨ b = g) w
  rb : RB (fun b => L0 b ∨ b = g) g m q w
  rd : Reads (fun b => (L0 b ∨ b = g) ∨ wb ≤ b) w v5 (.boolss l)
  be : Bel w0 w
  gs : w0.heap.size ≤ g
  own : w.ownsRow wb 29 2 v6 p.length (ptCells p)
  hg : g < wb
def DPV (L0 : Nat → Prop) (w w' : World) (v5 v6 : Value) : Prop := ∃ l p, (1 ≤ ilen l ∧ ilen l ≤ 6 ∧ 1 ≤ ilen (getl l 0) ∧ ilen (getl l 0) ≤ 7 ∧ (∀ i, 0 ≤ i → i < ilen l → ilen (getl l i) ≤ 7)) ∧ ilen p ≤ 401 ∧ Reads L0 w' v5 (.boolss l) ∧ Reads L0 w' v6 (.pts p) ∧ Bel w w'
section
variable {L0 : Nat → Prop} {g wb : Nat} {m q q' : Int} {w0 w w' : World} {v5 v6 : Value} {l : List (List Bool)} {p : List Pt}
theorem DS.read (h : DS L0 g m w0 v5 l q w) (hr : RB (fun b => L0 b ∨ b = g) g m q' w') (k : w.grownBy w' (some g)) : DS L0 g m w0 v5 l q' w' :=
  ⟨h.lt.grow k (fun b e => by injection e with e; exact .inr e.symm), hr, h.rd.step k (fun b e => by injection e with e; exact .inr e.symm), bel_step h.be k (fun b e => by injection e with e; exact e ▸ h.gs), h.gs⟩
theorem DS.plan (h : DS L0 g m w0 v5 l q w) (hb : Bel w w') (ho : w'.ownsRow w.heap.size 29 2 v6 p.length (ptCells p)) : DT L0 g m w0 v5 l w.heap.size v6 p q w' :=
  ⟨h.lt.grow (bel_grown hb) (fun b e => by cases e), h.rb.bel hb, h.rd.more.step (bel_grown hb) (fun b e => by cases e), h.be.trans hb, h.gs, ho, h.lt g (.inr rfl)⟩
theorem DT.read (h : DT L0 g m w0 v5 l wb v6 p q w) (hr : RB (fun b => L0 b ∨ b = g) g m q' w') (k : w.grownBy w' (some g)) : DT L0 g m w0 v5 l wb v6 p q' w' :=
  ⟨h.lt.grow k (fun b e => by injection e with e; exact .inr e.symm), hr, h.rd.step k (fun b e => by injection e with e; exact .inl (.inr e.symm)), bel_step h.be k (fun b e => by injection e with e; exact e ▸ h.gs), h.gs, h.own.kept k (none_or fun b e hv => by have := (h.own.lt b hv).1; have := h.hg; injection e with e; omega), h.hg⟩
theorem DT.bel (h : DT L0 g m w0 v5 l wb v6 p q w) (hb : Bel w w') : DT L0 g m w0 v5 l wb v6 p q w' :=
  ⟨h.lt.grow (bel_grown hb) (fun b e => by cases e), h.rb.bel hb, h.rd.step (bel_grown hb) (fun b e => by cases e), h.be.trans hb, h.gs, h.own.kept (bel_grown hb) (none_or fun b e => by cases e), h.hg⟩
/-- The end: the row as it was left. -/
theorem DT.fin {w1 : World} {v7 : Value} {p7 : List Pt} {r : Option Nat} (h : DT L0 g m w0 v5 l wb v6 p q w) (hL : LtI L0 w0) (k : w.grownBy w1 r) (hr : ∀ b, r = some b → wb ≤ b) (ho : w1.ownsRow wb 29 2 v7 p7.length (ptCells p7))
    (hl : 1 ≤ ilen l ∧ ilen l ≤ 6 ∧ 1 ≤ ilen (getl l 0) ∧ ilen (getl l 0) ≤ 7 ∧ (∀ i, 0 ≤ i → i < ilen l → ilen (getl l i) ≤ 7)) (hp : ilen p7 ≤ 401) : DPV L0 w0 w1 v5 v7 :=
  have h1 := h.rd.step k (fun b e => .inr (hr b e))
  have hlt : ∀ b, wb ≤ b → ¬ L0 b := fun b hb hl => by have := hL b hl; have := h.gs; have := h.hg; omega
  ⟨l, p7, hl, hp, h1.less (fun b hb => .inl (.inl hb)), ⟨_, Owned.flat ho (fun b hb => hlt b (by
    rcases ho.2 with ⟨rfl, _⟩ | ⟨g', cap, cur, rfl, hg', _⟩
    · cases hb
    · simp only [blk, Option.some.injEq] at hb; omega)), rfl⟩, bel_step h.be k (fun b e => by have := hr b e; have := h.gs; have := h.hg; omega)⟩
end
theorem own_some {w : World} {base : Nat} {e : TypeId} {sz n c : Nat} {A : Option Addr} {xs : List Value} (h : w.ownsRow base e sz (.slice A n c) n xs) (hn : 0 < n) : ∃ g, A = some ⟨g, 0, none⟩ ∧ base ≤ g := by
  rcases h.2 with ⟨_, h1⟩ | ⟨g, cap, cur, h1, hg, _⟩
  · omega
  · injection h1 with h1 _ _; exact ⟨g, h1, hg⟩
theorem two_cells (w : World) (x y : Value) (e : TypeId) : ∀ j u, [x, y][j]? = some u → (w.alloc (.cells #[x, y] e)).cell? ((⟨w.heap.size, 0, none⟩ : Addr).add j) = some u := by
  intro j u hj
  match j, hj with
  | 0, hj => simp at hj; subst hj; simp [Addr.add]
  | 1, hj => simp at hj; subst hj; simp [Addr.add]
set_option maxHeartbeats 1000000 in
theorem dpv_x {L0 : Nat → Prop} {A : Option Addr} {n c : Nat} {w : World} (hL : LtI L0 w) (hn : (n : Int) ≤ 1048576) (hA : BytesOK L0 w (.slice A n c) n) :
    Calls Try.prog 26 #[.slice A n c] w fun e w' => ∃ v5 v6, e = .returned (.tuple #[v5, v6]) ∧ DPV L0 w w' v5 v6 := by
  obtain ⟨iC, hiC, hzC, hsC, hbC⟩ := info_parts info_cell
  have HOP := Lib.hid (open_b hL hn hA)
  have HL := Lib.hid hL
  clear hA hL
  go_enter Try.func26, Try.ntmps26
  go_wp2_with (first
    | (go_at_call 67; refine HOP.out.mono ?_; rintro e w1 ⟨g, m, rfl, hm, hg0, hRB, hL1, hb1⟩)
    | (go_at_call 68; refine (table_b hL1 (.inr rfl) hRB hm (by omega) (by omega) 14 (by omega) (by omega)).mono ?_; rintro e w2 ⟨v5, l, q2, rfl, ⟨l1, l2, l3, l4, l5, l6, l7⟩, hv5, hRB2, hgr2⟩; have hS2 : DS L0 g m w v5 l q2 w2 := ⟨hL1.grow hgr2 (fun b e => by injection e with e; exact .inr e.symm), hRB2, hv5, bel_step hb1 hgr2 (fun b e => by injection e with e; exact e ▸ hg0), hg0⟩; clear hRB hL1 hb1 hv5 hRB2 hgr2)
    | (go_at_call 69; first
        | (refine (cell_b hT8.lt (.inr rfl) hT8.rb hm (by omega) (by omega) (hT8.rd.less (fun b h => .inl h)) l1 l2 l3 l4).mono ?_; rintro e w9 ⟨x9, y9, rfl, hRB9, hgr9⟩; have hT9 := hT8.read hRB9 hgr9; clear hT8 hRB9 hgr9)
        | (refine (cell_b hS3.lt (.inr rfl) hS3.rb hm (by omega) (by omega) hS3.rd l1 l2 l3 l4).mono ?_; rintro e w4 ⟨s, t, rfl, hRB4, hgr4⟩; have hS4 := hS3.read hRB4 hgr4; clear hS3 hRB4 hgr4)
        | (refine (cell_b hS2.lt (.inr rfl) hS2.rb hm (by omega) (by omega) hS2.rd l1 l2 l3 l4).mono ?_; rintro e w3 ⟨x, y, rfl, hRB3, hgr3⟩; have hS3 := hS2.read hRB3 hgr3; clear hS2 hRB3 hgr3))
    | (go_at_call 13; refine (plan_b hS4.lt hS4.rd x y s t).mono ?_; rintro e w5 ⟨v6, rfl, ho5, hb5⟩; have hT5 := hS4.plan hb5 ho5; obtain ⟨A6, c6, rfl⟩ := own_form ho5; clear hS4 ho5 hb5; have hpl := (stp1_pl l x y s t).2; unfold ilen at hpl; generalize plF l x y s t = p at hT5 hpl ⊢)
    | (go_at_call 72; first
        | (refine (pick_b hT7.lt (.inr rfl) hT7.rb hm (by omega) (by omega) 3).mono ?_; rintro e w8 ⟨k8, rfl, hk8, hRB8, hgr8⟩; have hT8 := hT7.read hRB8 hgr8; clear hT7 hRB8 hgr8; have hc8 := hT8.own.cellAt (k * 2) (by omega); rw [(ptCells_x p k (by omega)).1] at hc8; have hf8 := hT8.own.frozenAt (k * 2))
        | (refine (pick_b hT6.lt (.inr rfl) hT6.rb hm (by omega) (by omega) _).mono ?_; rintro e w7 ⟨k7, rfl, hk7, hRB7, hgr7⟩; have hT7 := hT6.read hRB7 hgr7; clear hT6 hRB7 hgr7; obtain ⟨hk0, hk1⟩ := hk7.2 (by omega); obtain ⟨k, rfl⟩ := Int.eq_ofNat_of_zero_le hk0; obtain ⟨g6, rfl, hg6⟩ := own_some hT7.own (by omega))
        | (refine (pick_b hT5.lt (.inr rfl) hT5.rb hm (by omega) (by omega) 2).mono ?_; rintro e w6 ⟨k6, rfl, hk6, hRB6, hgr6⟩; have hT6 := hT5.read hRB6 hgr6; clear hT5 hRB6 hgr6))
    | (at_builtin; refine wpList_append_ownB rfl _ _ 26 rfl _ 29 iC (.agg #[.int .i64 0, .int .i64 0]) 2 16 Try.underlying26 hiC hzC hsC hbC rfl (by decide) _ _ _ rfl (hT9.own.alloc _) ⟨w9.heap.size, 0, none⟩ 1 1 [.int .i64 x9, .int .i64 y9] rfl rfl (two_cells _ _ _ _) (fun u hu => by simp at hu; rcases hu with rfl | rfl <;> rfl) (by unfold maxLen; omega) (by omega) (Nat.le_trans hg6 (Nat.le_of_lt ((hT9.own.alloc _).lt _ rfl).2)) ?_; intro v' w10 ho10 hg10 hb10))
  · go_ret2
    refine ⟨_, _, rfl, ?_⟩
    generalize wrap64 (p[k].fst + 1) = z
    obtain ⟨s1, s2⟩ := hT8.own.stored (k * 2) (.int .i64 z)
    rw [ptCells_set] at s1
    exact hT8.fin (p7 := p.set k (z, (p.getD k (0, 0)).2)) (r := some g6) HL.out s2 (fun b e => by injection e with e; omega) (by rw [List.length_set]; exact s1) ⟨l1, l2, l3, l4, l5⟩ (by unfold ilen; rw [List.length_set]; omega)
  · have hcap : p.length ≤ c6 := by
      rcases hT8.own.2 with ⟨h1, _⟩ | ⟨g', cap, cur, h1, _, _, h2, _⟩
      · cases h1
      · injection h1 with _ _ h3; omega
    have hpl2 : (ptCells p).length = p.length * 2 := ptCells_length p
    obtain ⟨AD, hAD, hnews⟩ : ∃ AD : Addr, (if c6 = k + 1 then some (⟨g6, 0, none⟩ : Addr) else some ⟨g6, (k + 1) * 2, none⟩) = some AD ∧ Hid (∀ j u, ((ptCells p).drop ((k + 1) * 2))[j]? = some u → w8.drew.cell? (AD.add j) = some u) := by
      by_cases h : c6 = k + 1
      · refine ⟨⟨g6, 0, none⟩, by simp [h], Lib.hid fun j u hu => ?_⟩
        rw [List.drop_eq_nil_of_le (by omega)] at hu
        simp at hu
      · refine ⟨⟨g6, (k + 1) * 2, none⟩, by simp [h], Lib.hid fun j u hu => ?_⟩
        rw [List.getElem?_drop] at hu
        rw [Addr.add_lit]
        have hj := (List.getElem?_eq_some_iff.1 hu).1
        exact (hT8.own.cellAt ((k + 1) * 2 + j) (by omega)).trans hu
    have s1 := Lib.hid (show ((ptCells p).drop ((k + 1) * 2)).length = (p.length - (k + 1)) * 2 by rw [List.length_drop]; omega)
    have s2 := Lib.hid (show ∀ u ∈ (ptCells p).drop ((k + 1) * 2), u.oneCell' = true by
      intro u hu
      obtain ⟨j, hj⟩ := List.mem_iff_getElem?.1 (List.mem_of_mem_drop hu)
      obtain ⟨i, hi, ⟨_, rfl⟩ | ⟨_, rfl⟩⟩ := ptCells_get hj <;> rfl)
    have hO := Lib.hid (show w8.drew.ownsRow w4.heap.size 29 2 (.slice (some ⟨g6, 0, none⟩) k c6) k ((ptCells p).take (k * 2)) from own_take hT8.own.drew (by omega))
    have hsz := Lib.hid (show w4.heap.size ≤ w8.drew.heap.size from Nat.le_trans hg6 (Nat.le_of_lt (hT8.own.lt _ rfl).2))
    have hm : maxLen = 9223372036854775807 := by decide
    have b1 := Lib.hid (show k + (p.length - (k + 1)) ≤ maxLen by rw [hm]; omega)
    have b2 := Lib.hid (show (k + (p.length - (k + 1))) * 16 ≤ 140737488355328 by omega)
    clear hm
    have hic : k ≤ c6 := by omega
    have hwr : IntKind.i64.wrap ((k : Int) + 1) = (k : Int) + 1 := by rw [IntKind.wrap_i64]; omega
    have hp0 : (0 : Int) ≤ (k : Int) + 1 := by omega
    have hp1 : (k : Int) + 1 ≤ (p.length : Int) := by omega
    have hp2 : ((k : Int) + 1).toNat = k + 1 := by omega
    have HT := Lib.hid hT8
    clear hT8 hc8 hf8
    go_region_law (refine step_append_ownB rfl (.tmp 56) (.tmp 60) 26 rfl w4.heap.size 29 iC (.agg #[.int .i64 0, .int .i64 0]) 2 16 Try.underlying26 hiC hzC hsC hbC rfl (by decide) (.slice (some ⟨g6, 0, none⟩) k c6) k ((ptCells p).take (k * 2)) (by simp [Act.eval, Act.put]) hO.out AD (p.length - (k + 1)) (c6 - (k + 1)) ((ptCells p).drop ((k + 1) * 2)) (by simp [Act.eval, Act.put]) s1.out hnews.out s2.out b1.out b2.out hsz.out ?_; intro v' w10 ho10 hg10 hb10)
    go_wp2
    go_ret2
    have e1 : (ptCells p).take (k * 2) ++ (ptCells p).drop ((k + 1) * 2) = ptCells (p.take k ++ p.drop (k + 1)) := by rw [ptCells_app, ptCells_take, ptCells_drop]
    have e2 : (p.take k ++ p.drop (k + 1)).length = k + (p.length - (k + 1)) := by rw [List.length_append, List.length_take, List.length_drop]; omega
    exact ⟨_, _, rfl, (HT.out.bel (w' := w8.drew) ⟨rfl, rfl, rfl, Nat.le_refl _, fun _ _ => rfl⟩).fin (p7 := p.take k ++ p.drop (k + 1)) (r := some g6) HL.out hg10 (fun b e => by injection e with e; omega) (by rw [e2, ← e1]; exact ho10) ⟨l1, l2, l3, l4, l5⟩ (by unfold ilen; rw [e2]; omega)⟩
  · go_ret2
    have e1 : ptCells p ++ [.int .i64 x9, .int .i64 y9] = ptCells (p ++ [(x9, y9)]) := by rw [ptCells_app]; rfl
    exact ⟨_, _, rfl, (hT9.bel ((Bel.refl w9).alloc _)).fin (p7 := p ++ [(x9, y9)]) (r := some g6) HL.out hg10 (fun b e => by injection e with e; omega) (by rw [List.length_append, List.length_singleton, ← e1]; exact ho10) ⟨l1, l2, l3, l4, l5⟩ (by unfold ilen; rw [List.length_append, List.length_singleton]; omega)⟩
  · go_ret2
    exact ⟨_, _, rfl, hT6.fin (r := none) HL.out ⟨rfl, rfl, rfl, Nat.le_refl _, fun _ _ _ => rfl⟩ (fun b e => by cases e) hT6.own ⟨l1, l2, l3, l4, l5⟩ (by unfold ilen; omega)⟩
  · go_ret2
    exact ⟨_, _, rfl, hT5.fin (r := none) HL.out ⟨rfl, rfl, rfl, Nat.le_refl _, fun _ _ _ => rfl⟩ (fun b e => by cases e) hT5.own ⟨l1, l2, l3, l4, l5⟩ (by unfold ilen; omega)⟩
theorem F_spec_DrawPathValid : FunY 26 g_spec_DrawPathValid := by
  intro avs sg hg hn L0 args w hL hA
  refine ⟨callFunc_enter Try.func26 (by kernel_rfl) (by kernel_rfl) _ w, ?_⟩
  unfold g_spec_DrawPathValid at hg
  split at hg
  · rename_i n
    injection hg with hg; subst hg
    obtain ⟨al⟩ := args
    match al, hA with
    | [v], ⟨hv, _⟩ =>
      have hv0 := hv
      obtain ⟨A, k, c, rfl, rfl, _⟩ := hv
      refine (dpv_x hL hn hv0).mono ?_
      rintro e w' ⟨v5, v6, rfl, l, p, ⟨l1, l2, l3, l4, l5⟩, hp, h5, h6, hb⟩
      exact ⟨_, [.boolss l, .pts p], rfl, rfl, ⟨l1, l2, l3, l4, l5, hp⟩, ⟨_, rfl, h5, h6, trivial⟩, hb⟩
  · cases hg
theorem reads_old {w w' : World} {v : Value} {c : Cont} (h : Reads (fun _ => False) w v c) (hb : Bel w w') : Reads (fun _ => False) w' v c :=
  Reads.step h (bel_grown hb) (fun b e => by cases e)
theorem ltI_no (w : World) : LtI (fun _ => False) w := ⟨fun _ h => h.elim, trivial⟩
theorem pvi_b {w : World} {v5 v6 : Value} {l : List (List Bool)} {p : List Pt} (h5 : Reads (fun _ => False) w v5 (.boolss l)) (h6 : Reads (fun _ => False) w v6 (.pts p)) :
    Calls Try.prog 24 #[v5, v6] w fun e w' => e = .returned (.bool (pvB l p)) ∧ Bel w w' := by
  refine (F_impl_PathValid [.s (.view (.boolss l)), .s (.view (.pts p))] _ rfl trivial _ #[v5, v6] w (ltI_no w) ⟨h5, h6, trivial⟩).2.mono ?_
  rintro e w' ⟨v, rfl, hv, hb⟩
  have hv' : v = .bool (pvB l p) := hv
  exact ⟨by rw [hv'], hb⟩
theorem pvs_b {w : World} {v5 v6 : Value} {l : List (List Bool)} {p : List Pt} (h5 : Reads (fun _ => False) w v5 (.boolss l)) (h6 : Reads (fun _ => False) w v6 (.pts p)) :
    Calls Try.prog 27 #[v5, v6] w fun e w' => e = .returned (.bool (pvB l p)) ∧ Bel w w' := by
  refine (F_spec_PathValid [.s (.view (.boolss l)), .s (.view (.pts p))] _ rfl trivial _ #[v5, v6] w (ltI_no w) ⟨h5, h6, trivial⟩).2.mono ?_
  rintro e w' ⟨v, rfl, hv, hb⟩
  have hv' : v = .bool (pvB l p) := hv
  exact ⟨by rw [hv'], hb⟩
theorem alive_b (w : World) : Calls Try.prog 23 #[] w fun e w' => e = .returned (.bool true) ∧ Bel w w' := by
  refine (F_laws_alive [] _ rfl trivial _ #[] w (ltI_no w) trivial).2.mono ?_
  rintro e w' ⟨v, rfl, hv, hb⟩
  have hv' : v = .bool true := hv
  exact ⟨by rw [hv'], hb⟩
theorem dpv_b {A : Option Addr} {n c : Nat} {w : World} (hn : (n : Int) ≤ 1048576) (hA : BytesOK (fun _ => False) w (.slice A n c) n) :
    Calls Try.prog 26 #[.slice A n c] w fun e w' => ∃ v5 v6 l p, e = .returned (.tuple #[v5, v6]) ∧ ilen p ≤ 401 ∧ Reads (fun _ => False) w' v5 (.boolss l) ∧ Reads (fun _ => False) w' v6 (.pts p) ∧ Bel w w' := by
  refine (dpv_x (ltI_no w) hn hA).mono ?_
  rintro e w' ⟨v5, v6, rfl, l, p, _, hp, h5, h6, hb⟩
  exact ⟨v5, v6, l, p, rfl, hp, h5, h6, hb⟩
theorem own_readsP {w : World} {base : Nat} {v : Value} {p : List Pt} {n : Nat} (h : w.ownsRow base 29 2 v n (ptCells p)) (hn : n = p.length) : Reads (fun _ => False) w v (.pts p) := by
  subst hn
  exact ⟨_, Owned.flat h (fun _ _ h => h), rfl⟩
theorem reads_take {w : World} {A : Option Addr} {n c k : Nat} {p : List Pt} (h : Reads (fun _ => False) w (.slice A n c) (.pts p)) (hk : k ≤ p.length) : Reads (fun _ => False) w (.slice A k c) (.pts (p.take k)) := by
  obtain ⟨xs, ⟨A', cap, e, h1, h2, h3, h4⟩, h5⟩ := h
  injection e with e1 e2 e3
  subst e1 e3
  have h1' : p.length ≤ c := h1
  have h5' : xs = ptCells p := h5
  subst h5'
  refine ⟨ptCells (p.take k), ⟨A, c, by rw [show (Cont.pts (p.take k)).len = k from by simp [Cont.len]; omega], ?_, h2, ptCells_length _, fun hn => ?_⟩, rfl⟩
  · simp [Cont.len]; omega
  · have hn' : 0 < (p.take k).length := hn
    rw [List.length_take] at hn'
    obtain ⟨b, off, q1, q2, q3, q4⟩ := h4 (by show 0 < p.length; omega)
    refine ⟨b, off, q1, q2, q3, fun j u hu => q4 j u ?_⟩
    rw [← ptCells_take, List.getElem?_take] at hu
    split at hu
    · exact hu
    · cases hu
/-- A path's beginning; a path turned; a cell twice in a row. -/
theorem pv_iff {l : List (List Bool)} {p : List Pt} : pvB l p = true ↔ tblB l = true ∧ 1 ≤ p.length ∧ p.length ≤ 400 ∧ ∀ k : Nat, k < p.length → pvE l p k = true := by
  unfold pvB
  rw [Bool.and_eq_true, Bool.and_eq_true, allN_iff, show (inB (ilen p) 1 400 = true) = (1 ≤ ilen p ∧ ilen p ≤ 400) by unfold inB; simp]
  unfold ilen
  constructor
  · rintro ⟨⟨h1, h2, h3⟩, h4⟩
    exact ⟨h1, by omega, by omega, fun k hk => h4 k (by omega) (by omega)⟩
  · rintro ⟨h1, h2, h3, h4⟩
    refine ⟨⟨h1, by omega, by omega⟩, fun i i0 i1 => ?_⟩
    have := h4 i.toNat (by omega)
    rwa [Int.toNat_of_nonneg i0] at this
theorem getxy {p : List Pt} {k : Nat} (h : k < p.length) : getx p k = p[k].1 ∧ gety p k = p[k].2 := by
  unfold getx gety; simp [List.getD_eq_getElem?_getD, h]
theorem pvE_iff {l : List (List Bool)} {p : List Pt} {k : Nat} (h : k < p.length) : pvE l p k = true ↔ freeB l p[k].1 p[k].2 = true ∧ ∀ h0 : 0 < k, max (p[k].1 - p[k - 1].1) (p[k - 1].1 - p[k].1) + max (p[k].2 - p[k - 1].2) (p[k - 1].2 - p[k].2) = 1 := by
  unfold pvE stepB
  obtain ⟨e1, e2⟩ := getxy h
  rw [Bool.and_eq_true, Bool.or_eq_true, decide_eq_true_eq, decide_eq_true_eq, e1, e2]
  refine and_congr_right fun _ => ?_
  constructor
  · intro hh h0
    rcases hh with hh | hh
    · omega
    · have e3 : ((k : Int) - 1) = ((k - 1 : Nat) : Int) := by omega
      rw [e3] at hh
      obtain ⟨e4, e5⟩ := getxy (p := p) (k := k - 1) (by omega)
      rw [e4, e5] at hh
      exact hh
  · intro hh
    by_cases h0 : 0 < k
    · right
      have e3 : ((k : Int) - 1) = ((k - 1 : Nat) : Int) := by omega
      rw [e3]
      obtain ⟨e4, e5⟩ := getxy (p := p) (k := k - 1) (by omega)
      rw [e4, e5]
      exact hh h0
    · left; omega
theorem pv_one {l : List (List Bool)} {p : List Pt} (h : pvB l p = true) : pvB l (p.take 1) = true := by
  obtain ⟨h1, h2, h3, h4⟩ := pv_iff.1 h
  have hl : (p.take 1).length = 1 := by rw [List.length_take]; omega
  refine pv_iff.2 ⟨h1, by omega, by omega, fun k hk => ?_⟩
  have hk0 : k = 0 := by omega
  subst hk0
  refine (pvE_iff hk).2 ⟨?_, fun h0 => by omega⟩
  have := ((pvE_iff (p := p) (k := 0) (by omega)).1 (h4 0 (by omega))).1
  rw [List.getElem_take]; exact this
theorem pv_turn {l : List (List Bool)} {p : List Pt} (h : pvB l p = true) : pvB l p.reverse = true := by
  obtain ⟨h1, h2, h3, h4⟩ := pv_iff.1 h
  refine pv_iff.2 ⟨h1, by simpa using h2, by simpa using h3, fun k hk => ?_⟩
  have hk' : k < p.length := by simpa using hk
  refine (pvE_iff hk).2 ⟨?_, fun h0 => ?_⟩
  · rw [List.getElem_reverse]
    exact ((pvE_iff (by omega)).1 (h4 (p.length - 1 - k) (by omega))).1
  · have e := ((pvE_iff (by omega)).1 (h4 (p.length - 1 - (k - 1)) (by omega))).2 (by omega)
    have e2 : p.length - 1 - (k - 1) - 1 = p.length - 1 - k := by omega
    simp only [e2] at e
    rw [List.getElem_reverse, List.getElem_reverse]
    omega
theorem pv_twice {l : List (List Bool)} {p : List Pt} (h2 : 0 < p.length) : pvB l (p.reverse ++ [p[0]]) = false := by
  cases hq : pvB l (p.reverse ++ [p[0]]) with
  | false => rfl
  | true =>
    exfalso
    obtain ⟨_, _, _, h4⟩ := pv_iff.1 hq
    have e := ((pvE_iff (by simp)).1 (h4 p.length (by simp))).2 h2
    rw [List.getElem_append_right (by simp), List.getElem_append_left (by simp; omega), List.getElem_reverse] at e
    simp only [List.length_reverse, Nat.sub_self, List.getElem_singleton] at e
    have e3 : p.length - 1 - (p.length - 1) = 0 := by omega
    simp [e3] at e
theorem pcells {w1 : World} {A : Option Addr} {n c : Nat} {p : List Pt} (h : Reads (fun _ => False) w1 (.slice A n c) (.pts p)) (hp : 0 < p.length) : p.length ≤ c ∧ ∃ b off, A = some ⟨b, off, none⟩ ∧ ∀ wq, Bel w1 wq → ∀ j, (hj : j < p.length) → wq.cell? ⟨b, off + j * 2, none⟩ = some (.int .i64 p[j].1) ∧ wq.cell? ⟨b, off + j * 2 + 1, none⟩ = some (.int .i64 p[j].2) := by
  obtain ⟨xs, ⟨A', cap, e, h1, h2, h3, h4⟩, h5⟩ := h
  injection e with e1 e2 e3
  subst e1 e3
  have h5' : xs = ptCells p := h5
  subst h5'
  obtain ⟨b, off, q1, q2, _, q4⟩ := h4 hp
  refine ⟨h1, b, off, q1, fun wq hq j hj => ?_⟩
  obtain ⟨k1, k2⟩ := ptCells_x p j hj
  exact ⟨hq.cell q2 (q4 _ _ k1), hq.cell q2 (q4 _ _ k2)⟩
theorem turn_step {p : List Pt} {j : Nat} (hj : j < p.length) : ptCells ((p.drop (j + 1)).reverse) ++ [.int .i64 p[j].1, .int .i64 p[j].2] = ptCells ((p.drop j).reverse) := by
  rw [List.drop_eq_getElem_cons hj, List.reverse_cons, ptCells_app]; rfl
set_option maxHeartbeats 1000000 in
theorem fpv_x {A : Option Addr} {n c : Nat} {w : World} (hA : BytesOK (fun _ => False) w (.slice A n c) n) :
    Calls Try.prog 6 #[.slice A n c] w fun e w' => e = .returned (.bool true) ∧ Bel w w' := by
  by_cases hn : (n : Int) ≤ 1048576
  · have HD := Lib.hid (dpv_b hn hA)
    have hn1 : n ≤ 1048576 := by omega
    obtain ⟨iC, hiC, hzC, hsC, hbC⟩ := info_parts info_cell
    clear hA
    go_enter Try.func6, Try.ntmps6
    go_wp2_with (first
      | (go_at_call 26; refine HD.out.mono ?_; rintro e w1 ⟨v5, v6, l, p, rfl, hp, h5, h6, hb1⟩; obtain ⟨A6, c6, rfl⟩ : ∃ A c, v6 = .slice A p.length c := (by obtain ⟨_, ⟨A, c, e, _⟩, _⟩ := h6; exact ⟨A, c, e⟩); have H5 := Lib.hid h5; have H6 := Lib.hid h6; clear h5 h6; have hB := Bel.refl w1; unfold ilen at hp)
      | (go_at_call 24; refine (pvi_b (reads_old H5.out (by repeat (first | assumption | exact Bel.refl _ | refine Bel.alloc ?_ _ | refine Bel.drew ?_ | refine Bel.drewN ?_ _ | (apply Bel.snart; assumption)))) (reads_old H6.out (by repeat (first | assumption | exact Bel.refl _ | refine Bel.alloc ?_ _ | refine Bel.drew ?_ | refine Bel.drewN ?_ _ | (apply Bel.snart; assumption))))).mono ?_; rintro e w2 ⟨rfl, hb2⟩; generalize hok : pvB l p = ok)
      | (go_at_call 27; refine (pvs_b (reads_old H5.out (by repeat (first | assumption | exact Bel.refl _ | refine Bel.alloc ?_ _ | refine Bel.drew ?_ | refine Bel.drewN ?_ _ | (apply Bel.snart; assumption)))) (reads_old H6.out (by repeat (first | assumption | exact Bel.refl _ | refine Bel.alloc ?_ _ | refine Bel.drew ?_ | refine Bel.drewN ?_ _ | (apply Bel.snart; assumption))))).mono ?_; rintro e w3 ⟨rfl, hb3⟩; rw [hok])
      | (go_at_call 23; refine (alive_b _).mono ?_; rintro e w4 ⟨rfl, hb4⟩))
    · go_ret
      exact ⟨rfl, (by repeat (first | assumption | exact Bel.refl _ | refine Bel.alloc ?_ _ | refine Bel.drew ?_ | refine Bel.drewN ?_ _ | (apply Bel.snart; assumption)))⟩
    · have hok1 : (!ok) = false := by assumption
      obtain rfl : ok = true := by simpa using hok1
      have hok2 : pvB l p = true := hok
      clear hok1 hok
      try simp only [Bool.not_true]
      obtain ⟨hv1, hv2, hv3, _⟩ := pv_iff.1 hok2
      obtain ⟨hc6, b6, off6, rfl, hcell⟩ := pcells H6.out (by omega)
      have HV := Lib.hid hv1
      clear hv1
      go_loopw [6, 7] (fun v i wr => ∃ (k : Nat) (z : Int), k ≤ p.length ∧ i = .int .i64 z ∧ z = (k : Int) - 1 ∧ wr.ownsRow w1.heap.size 29 2 v (p.length - k) (ptCells ((p.drop k).reverse)) ∧ Bel w1 wr) (fun _ i _ => (intOf i + 1).toNat)
      case atStart => exact ⟨p.length, _, Nat.le_refl _, rfl, by omega, by
        rw [Nat.sub_self, List.drop_length]
        exact World.ownsRow_lit w3 #[] 0 (hb2.trans hb3).size (by unfold maxLen; omega) rfl, (by repeat (first | assumption | exact Bel.refl _ | refine Bel.alloc ?_ _ | refine Bel.drew ?_ | refine Bel.drewN ?_ _ | (apply Bel.snart; assumption)))⟩
      case round =>
        obtain ⟨k, z, hk, rfl, hz, hown, hB⟩ := hrel
        obtain ⟨A7, c7, rfl⟩ := own_form hown
        by_cases hk0 : k = 0
        · subst hk0
          obtain rfl : z = -1 := by omega
          clear hz
          rw [Nat.sub_zero, List.drop_zero] at hown
          rw [Nat.sub_zero]
          go_wp2_with (first
            | (go_at_call 24; first
                | (refine (pvi_b (reads_old H5.out hB9) (own_readsP ho9' (by simp))).mono ?_; rintro e w10 ⟨rfl, hb10⟩; rw [pv_twice (by omega)])
                | (refine (pvi_b (reads_old H5.out hB7) (own_readsP (own_bel hown hb7) (by simp))).mono ?_; rintro e w8 ⟨rfl, hb8⟩; rw [pv_turn hok2]; have hB8 := hB7.trans hb8; obtain ⟨cc1, cc2⟩ := hcell _ hB8 0 (by omega); simp only [Nat.zero_mul, Nat.add_zero] at cc1 cc2)
                | (refine (pvi_b (reads_old H5.out hB) (reads_take (reads_old H6.out hB) (by omega))).mono ?_; rintro e w7 ⟨rfl, hb7⟩; rw [pv_one hok2]; have hB7 := hB.trans hb7))
            | (at_builtin; refine wpList_append_ownG rfl (.tmp 53) (.tmp 57) 26 rfl w1.heap.size 29 iC (.agg #[.int .i64 0, .int .i64 0]) 2 16 Try.underlying26 hiC hzC hsC hbC rfl (by decide) _ _ _ rfl ((own_bel (own_bel hown hb7) hb8).alloc _) ⟨w8.heap.size, 0, none⟩ 1 1 [.int .i64 p[0].1, .int .i64 p[0].2] rfl rfl (two_cells _ _ _ _) (fun u hu => by simp at hu; rcases hu with rfl | rfl <;> rfl) (by unfold maxLen; omega) (by omega) (hB8.alloc _).size ?_; intro v' w9 ho9 hg9 hbk9; have hB9 : Bel w1 w9 := bel_step (hB8.alloc _) hg9 (fun b e => (hown.lt b e).1); have ho9' : w9.ownsRow w1.heap.size 29 2 v' (p.length + 1) (ptCells (p.reverse ++ [p[0]])) := (by rw [ptCells_app]; exact ho9); clear hbk9))
          go_ret
          exact ⟨rfl, hb1.trans (hB9.trans hb10)⟩
        · obtain ⟨j, rfl⟩ : ∃ j, k = j + 1 := ⟨k - 1, by omega⟩
          obtain rfl : z = (j : Int) := by omega
          clear hz
          obtain ⟨cc1, cc2⟩ := hcell _ hB j (by omega)
          go_wp2_with (at_builtin; refine wpList_append_ownB rfl _ _ 26 rfl w1.heap.size 29 iC (.agg #[.int .i64 0, .int .i64 0]) 2 16 Try.underlying26 hiC hzC hsC hbC rfl (by decide) _ _ _ rfl (hown.alloc _) ⟨wr.heap.size, 0, none⟩ 1 1 [.int .i64 p[j].1, .int .i64 p[j].2] rfl rfl (two_cells _ _ _ _) (fun u hu => by simp at hu; rcases hu with rfl | rfl <;> rfl) (by unfold maxLen; omega) (by omega) (hB.alloc _).size ?_; intro v' w5 ho5 hg5 hb5; clear hb5)
          go_roundw
          case rel => exact ⟨j, (j : Int) - 1, by omega, rfl, rfl, by rw [← turn_step (by omega), show p.length - j = p.length - (j + 1) + 1 by omega]; exact ho5, bel_step (hB.alloc _) hg5 (fun b e => (hown.lt b e).1)⟩
          case measure => simp [intOf]
  · go_enter Try.func6, Try.ntmps6
    go_wp2
    go_ret
    exact ⟨rfl, Bel.refl _⟩
theorem F_laws_FnPathValid : FunOK 6 g_laws_FnPathValid := by
  intro avs sg hg hn L0 args w hL hA
  refine ⟨callFunc_enter Try.func6 (by kernel_rfl) (by kernel_rfl) _ w, ?_⟩
  unfold g_laws_FnPathValid at hg
  split at hg
  · rename_i n
    injection hg with hg; subst hg
    obtain ⟨al⟩ := args
    match al, hA with
    | [v], ⟨hv, _⟩ =>
      have hv0 : BytesOK (fun _ => False) w v n := BytesOK.less (L' := fun _ => False) hv (fun _ h => h.elim)
      obtain ⟨A, k, c, rfl, rfl, _⟩ := hv
      refine (fpv_x hv0).mono ?_
      rintro e w' ⟨rfl, hb⟩
      exact ⟨_, rfl, rfl, hb⟩
  · cases hg
theorem fnPathValid_walk (w : World) (v0 : Value) (x0 : Nat) (w0 : BytesArg w v0 x0) : Calls Try.prog 6 #[v0] w fun e w' => e = .returned (.bool true) ∧ Bel w w' :=
  walk_of F_laws_FnPathValid (avs := [.s (.rdr x0)]) rfl trivial ⟨bytes_reads w0, trivial⟩
set_option maxRecDepth 100000 in
theorem fnPathValid_lifted (os : Os) (started : os.Started) (H : Type) (enc : TypeId × Value → H) :
    ReturnsInHanded {} Try.checked os 6 .any (Rows.fnPathValidSpec.pre6 enc Try.prog Try.f6 Rows.fnPathValidRow.domain false) (Rows.fnPathValidSpec.post enc Try.prog Try.f6 false true false false) := by
  have own : ownKnob Try.prog.godebug = none := by kernel_rfl
  have laidOut : laidOutB Try.prog = true := by kernel_rfl
  refine returnsInHanded_of_change (C := Try.checked) own started (by kernel_rfl) Try.func6
    (ChangeSpec.witness6 (enc := enc) (C := Try.checked) false ⟨#[], #[.slice none 0 0], []⟩ 8 (by kernel_rfl) (by kernel_rfl) (by kernel_rfl) (by kernel_rfl)) ?_
  intro W base args ds gs before hval0 hW hcnd _
  have hval : ∀ (j : Nat) t v, Try.f6.params[j]? = some t → args[j]? = some v → Value.okWide Try.prog W .any base t v := hval0
  have hW' := hW
  obtain ⟨p, q, hA0, hV, rfl, hfz, hnd⟩ := hW
  have hA : DataW.TrodAll enc Try.prog W 0 (fun _ => true) true Try.f6.params.toList args.toList ds p := hA0
  rw [Try.params6] at hA hval
  obtain ⟨v0, vs0, d0, ds0, p0, q0, hargs, rfl, rfl, h0, r0⟩ := trodAll_cons hA
  obtain ⟨rfl, rfl, rfl⟩ := trodAll_nil r0
  obtain rfl : args = #[v0] := by cases args; simp_all
  obtain ⟨rfl, rfl⟩ := trodVars_none hV
  have k0 := h0
  have lt0 : ∀ x ∈ p0, x.block < W.heap.size := by obtain ⟨m, hm⟩ := k0; exact DataW.trod_lt m _ _ _ hm
  obtain ⟨x0, w0⟩ := opn_bytes (hval 0 35 v0 rfl rfl) h0
  clear hA0 hval0
  refine (fnPathValid_walk W v0 x0 w0).mono fun e W' ⟨he, bel⟩ => ?_
  subst he
  exact ⟨_, rfl, _, _, _, [], _, [], hW', trodAll_mk1 (shut_bool Try.underlying4 _), (trodAll_cons_mk (Below.trod laidOut (by kernel_rfl) (of_decide_eq_true (by kernel_rfl)) k0 bel lt0) trodAll_mk0), rfl, Below.frame bel _, fun h => by cases h⟩
theorem fnPathValid_over : Rows.fnPathValidRow.holds Try.pinned (OpenSpec.ofChange Rows.fnPathValidSpec) :=
  OpenClaim.holds_of_wide 6 Try.f6 rfl rfl rfl rfl rfl rfl rfl ⟨rfl, rfl, rfl, rfl, rfl⟩ rfl rfl rfl rfl rfl (by kernel_rfl) Try.func6 (by kernel_rfl)
    (of_decide_eq_true (by kernel_rfl)) (by unfold Func.isWrapper; first | (rw [if_pos (by decide +kernel)]; kernel_rfl) | (rw [if_neg (by decide +kernel)]; exact ⟨rfl, rfl⟩))
    (fun os started H enc _ => fnPathValid_lifted os started H enc)
theorem fnPathValid_proved : Rows.FnPathValidSaid := fnPathValid_over
#print axioms fnPathValid_proved
end Go.Proofs.Ytdpokkegkedlfaa

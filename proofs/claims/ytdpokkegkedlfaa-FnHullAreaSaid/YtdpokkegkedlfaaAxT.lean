/- Plain laws of the numbers and lists in which an evaluation speaks. No program in sight. -/
import Derived.Test.YtdpokkegkedlfaaAxF
import Derived.Test.YtdpokkegkedlfaaGeo
import Derived.Test.YtdpokkegkedlfaaPlane
set_option maxRecDepth 100000
namespace Go.Proofs.Ytdpokkegkedlfaa
open Go.RowKit
set_option linter.unusedSimpArgs false
theorem ilt_t {a b : Int} : (ilt a b = true) = (a < b) := by unfold ilt; simp
theorem ilt_f {a b : Int} : (ilt a b = false) = (b ≤ a) := by unfold ilt; simp
theorem ile_t {a b : Int} : (ile a b = true) = (a ≤ b) := by unfold ile; simp
theorem ile_f {a b : Int} : (ile a b = false) = (b < a) := by unfold ile; simp
theorem ieq_t {a b : Int} : (ieq a b = true) = (a = b) := by unfold ieq; simp
theorem ieq_f {a b : Int} : (ieq a b = false) = (a ≠ b) := by unfold ieq; simp
theorem bnot_e (a : Bool) : bnot a = !a := by unfold bnot; rfl
theorem band_e (a b : Bool) : band a b = (a && b) := by unfold band; rfl
theorem bxor_e (a b : Bool) : bxor a b = (a != b) := by unfold bxor; rfl
theorem bite_and (a b : Bool) : bite a b false = (a && b) := by cases a <;> simp [bite]
theorem bite_or (a b : Bool) : bite a true b = (a || b) := by cases a <;> simp [bite]
theorem iite_t (a b : Int) : iite true a b = a := by simp [iite]
theorem iite_f (a b : Int) : iite false a b = b := by simp [iite]
theorem NLt_e (a b : Int) : NLt a b = (a < b) := by unfold NLt; rfl
theorem NLe_e (a b : Int) : NLe a b = (a ≤ b) := by unfold NLe; rfl
theorem NNe_e (a b : Int) : NNe a b = (a ≠ b) := by unfold NNe; rfl
theorem NIs_e (a b : Bool) : NIs a b = (a = b) := by unfold NIs; rfl
theorem imax_e (a b : Int) : imax a b = max a b := by unfold imax; rfl
theorem imin_e (a b : Int) : imin a b = min a b := by unfold imin; rfl
theorem irem_e (a b : Int) : irem a b = a.tmod b := by unfold irem; rfl
theorem iadd_e {a b : Int} (h1 : -9223372036854775808 ≤ a + b) (h2 : a + b ≤ 9223372036854775807) : iadd a b = a + b := by unfold iadd; exact IntWalk.i64_in _ ⟨h1, h2⟩
theorem isub_e {a b : Int} (h1 : -9223372036854775808 ≤ a - b) (h2 : a - b ≤ 9223372036854775807) : isub a b = a - b := by unfold isub; exact IntWalk.i64_in _ ⟨h1, h2⟩
theorem imul_e {a b : Int} (h1 : -9223372036854775808 ≤ a * b) (h2 : a * b ≤ 9223372036854775807) : imul a b = a * b := by unfold imul; exact IntWalk.i64_in _ ⟨h1, h2⟩
theorem iquo_e {a b : Int} (h1 : -9223372036854775808 ≤ a) (h2 : a ≤ 9223372036854775807) (h3 : 1 ≤ b) : iquo a b = a.tdiv b := by unfold iquo; exact IntWalk.i64_quo' _ _ ⟨h1, h2, h3⟩
theorem ilen_0 {α : Type} (l : List α) : 0 ≤ ilen l := by unfold ilen; omega
theorem ilen_app {α : Type} (l m : List α) : ilen (iapp l m) = ilen l + ilen m := by unfold ilen iapp; simp
theorem ilen_one {α : Type} (a : α) : ilen [a] = 1 := by unfold ilen; rfl
theorem ilen_nil {α : Type} : ilen ([] : List α) = 0 := by unfold ilen; rfl
theorem ilen_rep {α : Type} {n : Int} (a : α) (h : 0 ≤ n) : ilen (irep n a) = n := by unfold ilen irep; simp [Int.toNat_of_nonneg h]
theorem ilen_setp (l : List Pt) (i x y : Int) : ilen (setp l i x y) = ilen l := by unfold ilen setp; simp
theorem ilen_seti (l : List Int) (i x : Int) : ilen (seti l i x) = ilen l := by unfold ilen seti; simp
theorem ilen_setb (l : List Bool) (i : Int) (x : Bool) : ilen (setb l i x) = ilen l := by unfold ilen setb; simp
theorem ilen_setl {α : Type} (l : List (List α)) (i : Int) (x : List α) : ilen (setl l i x) = ilen l := by unfold ilen setl; simp
theorem get_at {l : List Pt} {i : Int} (h0 : 0 ≤ i) (h1 : i < ilen l) : ∃ h : i.toNat < l.length, getx l i = l[i.toNat].1 ∧ gety l i = l[i.toNat].2 := by
  unfold ilen at h1
  have h : i.toNat < l.length := by omega
  refine ⟨h, ?_, ?_⟩ <;> simp [getx, gety, List.getD_eq_getElem?_getD, h]
theorem getx_setp {l : List Pt} {i j x y : Int} (h0 : 0 ≤ i) (h1 : i < ilen l) (h2 : 0 ≤ j) : getx (setp l i x y) j = if j = i then x else getx l j := by
  unfold ilen at h1
  unfold getx setp
  by_cases h : j = i
  · subst h; simp [List.getD_eq_getElem?_getD, List.getElem?_set, show j.toNat < l.length by omega]
  · rw [if_neg h]; simp [List.getD_eq_getElem?_getD, List.getElem?_set, show ¬ i.toNat = j.toNat by omega]
theorem gety_setp {l : List Pt} {i j x y : Int} (h0 : 0 ≤ i) (h1 : i < ilen l) (h2 : 0 ≤ j) : gety (setp l i x y) j = if j = i then y else gety l j := by
  unfold ilen at h1
  unfold gety setp
  by_cases h : j = i
  · subst h; simp [List.getD_eq_getElem?_getD, List.getElem?_set, show j.toNat < l.length by omega]
  · rw [if_neg h]; simp [List.getD_eq_getElem?_getD, List.getElem?_set, show ¬ i.toNat = j.toNat by omega]
theorem geti_seti {l : List Int} {i j x : Int} (h0 : 0 ≤ i) (h1 : i < ilen l) (h2 : 0 ≤ j) : geti (seti l i x) j = if j = i then x else geti l j := by
  unfold ilen at h1
  unfold geti seti
  by_cases h : j = i
  · subst h; simp [List.getD_eq_getElem?_getD, List.getElem?_set, show j.toNat < l.length by omega]
  · rw [if_neg h]; simp [List.getD_eq_getElem?_getD, List.getElem?_set, show ¬ i.toNat = j.toNat by omega]
theorem getx_app {l m : List Pt} {j : Int} (h2 : 0 ≤ j) : getx (iapp l m) j = if j < ilen l then getx l j else getx m (j - ilen l) := by
  unfold getx iapp ilen
  by_cases h : j < (l.length : Int)
  · rw [if_pos h]; simp [List.getD_eq_getElem?_getD, List.getElem?_append, show j.toNat < l.length by omega]
  · rw [if_neg h]; simp [List.getD_eq_getElem?_getD, List.getElem?_append, show ¬ j.toNat < l.length by omega, show (j - (l.length : Int)).toNat = j.toNat - l.length by omega]
theorem gety_app {l m : List Pt} {j : Int} (h2 : 0 ≤ j) : gety (iapp l m) j = if j < ilen l then gety l j else gety m (j - ilen l) := by
  unfold gety iapp ilen
  by_cases h : j < (l.length : Int)
  · rw [if_pos h]; simp [List.getD_eq_getElem?_getD, List.getElem?_append, show j.toNat < l.length by omega]
  · rw [if_neg h]; simp [List.getD_eq_getElem?_getD, List.getElem?_append, show ¬ j.toNat < l.length by omega, show (j - (l.length : Int)).toNat = j.toNat - l.length by omega]
theorem geti_app {l m : List Int} {j : Int} (h2 : 0 ≤ j) : geti (iapp l m) j = if j < ilen l then geti l j else geti m (j - ilen l) := by
  unfold geti iapp ilen
  by_cases h : j < (l.length : Int)
  · rw [if_pos h]; simp [List.getD_eq_getElem?_getD, List.getElem?_append, show j.toNat < l.length by omega]
  · rw [if_neg h]; simp [List.getD_eq_getElem?_getD, List.getElem?_append, show ¬ j.toNat < l.length by omega, show (j - (l.length : Int)).toNat = j.toNat - l.length by omega]
theorem getx_one (a : Pt) : getx [a] 0 = a.1 := by simp [getx]
theorem gety_one (a : Pt) : gety [a] 0 = a.2 := by simp [gety]
theorem geti_one (a : Int) : geti [a] 0 = a := by simp [geti]
theorem pts_ext {l m : List Pt} (h : ilen l = ilen m) (hx : ∀ j, 0 ≤ j → j < ilen l → getx l j = getx m j ∧ gety l j = gety m j) : l = m := by
  unfold ilen at h hx
  refine List.ext_getElem (by omega) fun i h1 h2 => ?_
  obtain ⟨e1, e2⟩ := hx i (by omega) (by omega)
  simp [getx, gety, List.getD_eq_getElem?_getD, h1, h2] at e1 e2
  exact Prod.ext e1 e2
theorem ints_ext {l m : List Int} (h : ilen l = ilen m) (hx : ∀ j, 0 ≤ j → j < ilen l → geti l j = geti m j) : l = m := by
  unfold ilen at h hx
  refine List.ext_getElem (by omega) fun i h1 h2 => ?_
  have e1 := hx i (by omega) (by omega)
  simpa [geti, List.getD_eq_getElem?_getD, h1, h2] using e1
/-- For all, for one, and a count through 0, 1, .. -/
def allN (n : Int) (f : Int → Bool) : Bool := (List.range n.toNat).all fun (i : Nat) => f i
def anyN (n : Int) (f : Int → Bool) : Bool := (List.range n.toNat).any fun (i : Nat) => f i
def foldN {α : Type} (n : Int) (f : α → Int → α) (a : α) : α := (List.range n.toNat).foldl (fun a (i : Nat) => f a i) a
theorem allN_iff {n : Int} {f : Int → Bool} : allN n f = true ↔ ∀ j, 0 ≤ j → j < n → f j = true := by
  unfold allN
  rw [List.all_eq_true]
  constructor
  · intro h j h0 h1
    have := h j.toNat (List.mem_range.2 (by omega))
    rwa [Int.toNat_of_nonneg h0] at this
  · intro h i hi
    have := List.mem_range.1 hi
    exact h i (by omega) (by omega)
theorem allN_mk {n : Int} {f : Int → Bool} (h : ∀ j, 0 ≤ j → j < n → f j = true) : allN n f = true := allN_iff.2 h
theorem allN_no {n : Int} {f : Int → Bool} (j : Int) (h0 : 0 ≤ j) (h1 : j < n) (h : f j = false) : allN n f = false := by
  cases e : allN n f with
  | false => rfl
  | true => rw [allN_iff.1 e j h0 h1] at h; cases h
theorem anyN_not {n : Int} {f : Int → Bool} : anyN n f = !allN n fun j => !f j := by
  unfold anyN allN; rw [List.any_eq_not_all_not]
theorem anyN_mk {n : Int} {f : Int → Bool} (j : Int) (h0 : 0 ≤ j) (h1 : j < n) (h : f j = true) : anyN n f = true := by
  rw [anyN_not, allN_no j h0 h1 (by rw [h]; rfl)]; rfl
theorem anyN_no {n : Int} {f : Int → Bool} (h : ∀ j, 0 ≤ j → j < n → f j = false) : anyN n f = false := by
  rw [anyN_not, allN_mk (fun j h0 h1 => by rw [h j h0 h1]; rfl)]; rfl
theorem anyN_iff {n : Int} {f : Int → Bool} : anyN n f = true ↔ ∃ j, 0 ≤ j ∧ j < n ∧ f j = true := by
  constructor
  · intro h
    apply Classical.byContradiction
    intro hn
    rw [anyN_no (fun j h0 h1 => by cases e : f j with | false => rfl | true => exact absurd ⟨j, h0, h1, e⟩ hn)] at h
    cases h
  · rintro ⟨j, h0, h1, h2⟩; exact anyN_mk j h0 h1 h2
theorem allN_congr {n : Int} {f g : Int → Bool} (h : ∀ j, 0 ≤ j → j < n → f j = g j) : allN n f = allN n g := by
  cases e : allN n g with
  | true => exact allN_mk fun j h0 h1 => by rw [h j h0 h1]; exact allN_iff.1 e j h0 h1
  | false =>
    cases e' : allN n f with
    | false => rfl
    | true => rw [allN_mk (fun j h0 h1 => by rw [← h j h0 h1]; exact allN_iff.1 e' j h0 h1)] at e; cases e
theorem foldN_0 {α : Type} {f : α → Int → α} {a : α} : foldN 0 f a = a := rfl
theorem foldN_1 {α : Type} {n : Int} {f : α → Int → α} {a : α} (h : 0 ≤ n) : foldN (n + 1) f a = f (foldN n f a) n := by
  unfold foldN
  rw [show (n + 1).toNat = n.toNat + 1 by omega, List.range_succ, List.foldl_append]
  simp [Int.toNat_of_nonneg h]
theorem foldN_congr {α : Type} {n : Int} {f g : α → Int → α} {a : α} (h : ∀ a j, 0 ≤ j → j < n → f a j = g a j) : foldN n f a = foldN n g a := by
  by_cases hn : n < 0
  · unfold foldN; rw [show n.toNat = 0 by omega]; rfl
  · obtain ⟨k, rfl⟩ := Int.eq_ofNat_of_zero_le (show 0 ≤ n by omega)
    clear hn
    induction k with
    | zero => rfl
    | succ k ih =>
      have e : ((k + 1 : Nat) : Int) = (k : Int) + 1 := by omega
      rw [e, foldN_1 (by omega), foldN_1 (by omega), ih (fun a j h0 h1 => h a j h0 (by omega)), h _ _ (by omega) (by omega)]
theorem allB_N (l : List Pt) : allB l = allN (ilen l) fun j => vB (getx l j) (gety l j) := by
  cases e : allN (ilen l) (fun j => vB (getx l j) (gety l j)) with
  | true =>
    refine allB_true fun q hq => ?_
    obtain ⟨k, hk, rfl⟩ := List.getElem_of_mem hq
    have := allN_iff.1 e k (by omega) (by unfold ilen; omega)
    obtain ⟨h, h1, h2⟩ := get_at (l := l) (i := k) (by omega) (by unfold ilen; omega)
    simpa [h1, h2] using this
  | false =>
    cases e' : allB l with
    | false => rfl
    | true =>
      rw [allN_mk] at e
      · cases e
      · intro j h0 h1
        obtain ⟨h, h2, h3⟩ := get_at h0 h1
        rw [h2, h3]
        unfold allB at e'
        exact List.all_eq_true.1 e' _ (List.getElem_mem h)
/-! Numbers as the processor has them, for linear arithmetic. -/
theorem iadd_u (a b : Int) : iadd a b = (a + b + 9223372036854775808) % 18446744073709551616 - 9223372036854775808 := by unfold iadd; rw [IntKind.wrap_i64]
theorem isub_u (a b : Int) : isub a b = (a - b + 9223372036854775808) % 18446744073709551616 - 9223372036854775808 := by unfold isub; rw [IntKind.wrap_i64]
theorem imul_u (a b : Int) : imul a b = (a * b + 9223372036854775808) % 18446744073709551616 - 9223372036854775808 := by unfold imul; rw [IntKind.wrap_i64]
theorem ineg_u (a : Int) : ineg a = (-a + 9223372036854775808) % 18446744073709551616 - 9223372036854775808 := by unfold ineg; rw [IntKind.wrap_i64]
theorem ilen_cons {α : Type} (a : α) (l : List α) : ilen (a :: l) = ilen l + 1 := by unfold ilen; simp
theorem geti_nil (k : Int) : geti [] k = 0 := by simp [geti]
theorem geti_cons (a : Int) (l : List Int) (k : Int) : geti (a :: l) k = if k ≤ 0 then a else geti l (k - 1) := by
  unfold geti
  by_cases h : k ≤ 0
  · rw [if_pos h, show k.toNat = 0 by omega]; simp
  · rw [if_neg h, show k.toNat = (k - 1).toNat + 1 by omega]; simp
theorem vB_mk {x y : Int} (h : -10000 ≤ x ∧ x ≤ 10000 ∧ -10000 ≤ y ∧ y ≤ 10000) : vB x y = true := by
  unfold vB; rw [inB_mk (by omega) (by omega), inB_mk (by omega) (by omega)]; rfl
end Go.Proofs.Ytdpokkegkedlfaa

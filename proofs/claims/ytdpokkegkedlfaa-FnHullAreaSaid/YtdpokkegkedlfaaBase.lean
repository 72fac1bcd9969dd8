/- Words for memory: a slice value that reads as a list of cells. -/
import Derived.Test.YtdpokkegkedlfaaProg
import Derived.Test.YtdpokkegkedlfaaPt
import Derived.WalkKit
import Derived.Lib.Hide
import Derived.Below
import Derived.Deep.Draws
import Derived.Laws.OwnMore
import Derived.Laws.MakeOwn
namespace Go.Proofs.Ytdpokkegkedlfaa
open Go.RowKit
def ptV (p : Pt) : Value := .agg #[.int .i64 p.1, .int .i64 p.2]
/-- What was there when the call began reads as it did. -/
def Bel (w w' : World) : Prop := Below w.heap.size w w'
theorem Bel.refl (w : World) : Bel w w := Below.refl _ _
theorem Bel.size {w w' : World} (h : Bel w w') : w.heap.size ≤ w'.heap.size := Below.size h
theorem Bel.alloc {w w' : World} (h : Bel w w') (o : Obj) : Bel w (w'.alloc o) := Below.alloc h h.size o
theorem Bel.drew {w w' : World} (h : Bel w w') : Bel w w'.drew := Below.drew h
theorem Bel.drewN {w w' : World} (h : Bel w w') (n : Nat) : Bel w (w'.drewN n) := ⟨h.os, h.tape, h.output, h.size, h.block⟩
theorem Bel.trans {a b c : World} (h : Bel a b) (k : Bel b c) : Bel a c := Below.trans h (Below.mono k h.size)
theorem Bel.setCell {w w' : World} (h : Bel w w') {p : Addr} (hp : w.heap.size ≤ p.block) (u : Value) : Bel w (w'.setCell p u) := Below.setCell h hp u
theorem Bel.cell {w w' : World} (h : Bel w w') {b o : Nat} {u : Value} (hb : b < w.heap.size) (hc : w.cell? ⟨b, o, none⟩ = some u) : w'.cell? ⟨b, o, none⟩ = some u :=
  (Below.cell (p := ⟨b, o, none⟩) h hb).trans hc
theorem Bel.snart {a b c : World} (k : Bel b c) (h : Bel a b) : Bel a c := h.trans k
theorem Bel.cells {w w' : World} (h : Bel w w') : ∀ b o, b < w.heap.size → w'.cell? ⟨b, o, none⟩ = w.cell? ⟨b, o, none⟩ := fun b o hb => Below.cell (p := ⟨b, o, none⟩) h hb
def Cells (w : World) (v : Value) (sz n : Nat) (xs : List Value) : Prop :=
  ∃ A c, v = .slice A n c ∧ n ≤ c ∧ c ≤ maxLen ∧ xs.length = n * sz ∧
    (0 < n → ∃ b off, A = some ⟨b, off, none⟩ ∧ b < w.heap.size ∧ ∀ j u, xs[j]? = some u → w.cell? ⟨b, off + j, none⟩ = some u)
def ptCells (ps : List Pt) : List Value := ps.flatMap fun p => [.int .i64 p.1, .int .i64 p.2]
def Pts (w : World) (v : Value) (ps : List Pt) : Prop := Cells w v 2 ps.length (ptCells ps)
def Ints (w : World) (v : Value) (ns : List Int) : Prop := Cells w v 1 ns.length (ns.map (Value.int .i64))
theorem ptCells_length (ps : List Pt) : (ptCells ps).length = ps.length * 2 := by
  induction ps with
  | nil => rfl
  | cons p ps ih => simp only [ptCells, List.flatMap_cons, List.length_append, List.length_cons, List.length_nil] at *; omega
theorem ptCells_x (ps : List Pt) : ∀ (i : Nat) (h : i < ps.length), (ptCells ps)[i * 2]? = some (.int .i64 ps[i].1) ∧ (ptCells ps)[i * 2 + 1]? = some (.int .i64 ps[i].2) := by
  induction ps with
  | nil => intro i h; simp at h
  | cons p ps ih =>
    intro i h
    cases i with
    | zero => exact ⟨rfl, rfl⟩
    | succ i =>
      have := ih i (by simpa using h)
      constructor
      · show (.int .i64 p.1 :: .int .i64 p.2 :: ptCells ps)[(i + 1) * 2]? = _
        rw [show (i + 1) * 2 = i * 2 + 1 + 1 from by omega]; simpa using this.1
      · show (.int .i64 p.1 :: .int .i64 p.2 :: ptCells ps)[(i + 1) * 2 + 1]? = _
        rw [show (i + 1) * 2 + 1 = i * 2 + 1 + 1 + 1 from by omega]; simpa using this.2
section
variable {w w' : World} {v : Value} {sz n : Nat} {xs : List Value} {ps : List Pt} {ns : List Int}
theorem Cells.keep (h : Cells w v sz n xs) (hs : w.heap.size ≤ w'.heap.size) (hk : ∀ b o, b < w.heap.size → w'.cell? ⟨b, o, none⟩ = w.cell? ⟨b, o, none⟩) : Cells w' v sz n xs := by
  obtain ⟨A, c, rfl, h1, h2, h3, h4⟩ := h
  refine ⟨A, c, rfl, h1, h2, h3, fun hn => ?_⟩
  obtain ⟨b, off, rfl, hb, hc⟩ := h4 hn
  exact ⟨b, off, rfl, by omega, fun j u hu => (hk _ _ hb).trans (hc j u hu)⟩
theorem Cells.below (h : Cells w v sz n xs) (hb : Bel w w') : Cells w' v sz n xs :=
  h.keep hb.size fun b o hlt => Below.cell (p := ⟨b, o, none⟩) hb hlt
theorem Pts.below (h : Pts w v ps) (hb : Bel w w') : Pts w' v ps := Cells.below h hb
theorem Ints.below (h : Ints w v ns) (hb : Bel w w') : Ints w' v ns := Cells.below h hb
theorem Pts.form (h : Pts w v ps) : ∃ A c, v = .slice A ps.length c ∧ ps.length ≤ c ∧ c ≤ maxLen ∧
    (0 < ps.length → ∃ b off, A = some ⟨b, off, none⟩ ∧ b < w.heap.size ∧ ∀ i (h : i < ps.length), w.cell? ⟨b, off + i * 2, none⟩ = some (.int .i64 ps[i].1) ∧ w.cell? ⟨b, off + i * 2 + 1, none⟩ = some (.int .i64 ps[i].2)) := by
  obtain ⟨A, c, rfl, h1, h2, h3, h4⟩ := h
  refine ⟨A, c, rfl, h1, h2, fun hn => ?_⟩
  obtain ⟨b, off, rfl, hb, hc⟩ := h4 hn
  exact ⟨b, off, rfl, hb, fun i hi => ⟨hc _ _ (ptCells_x ps i hi).1, hc _ _ (ptCells_x ps i hi).2⟩⟩
theorem Ints.form (h : Ints w v ns) : ∃ A c, v = .slice A ns.length c ∧ ns.length ≤ c ∧ c ≤ maxLen ∧
    (0 < ns.length → ∃ b off, A = some ⟨b, off, none⟩ ∧ b < w.heap.size ∧ ∀ i (h : i < ns.length), w.cell? ⟨b, off + i, none⟩ = some (.int .i64 ns[i])) := by
  obtain ⟨A, c, rfl, h1, h2, h3, h4⟩ := h
  refine ⟨A, c, rfl, h1, h2, fun hn => ?_⟩
  obtain ⟨b, off, rfl, hb, hc⟩ := h4 hn
  exact ⟨b, off, rfl, hb, fun i hi => hc _ _ (by simp [hi])⟩
end
theorem Bel.grown {a w : World} (h : Bel a w) (row : Option Nat) : a.grownBy w row := ⟨h.os, h.tape, h.output, h.size, fun k hk _ => h.block k hk⟩
theorem own_bel {w w' : World} {base : Nat} {e : TypeId} {size : Nat} {v : Value} {n : Nat} {xs : List Value} (h : w.ownsRow base e size v n xs) (hb : Bel w w') : w'.ownsRow base e size v n xs :=
  h.kept (hb.grown none) (by cases v.ownBlock <;> simp)
section
variable {w : World} {base : Nat} {e : TypeId} {g n cap : Nat} {xs : List Value}
theorem own_cell {size : Nat} (h : w.ownsRow base e size (.slice (some ⟨g, 0, none⟩) n cap) n xs) (j : Nat) (hj : j < n * size) : ∃ u, w.cell? ⟨g, j, none⟩ = some u := by
  have hl : xs.length = n * size := h.1
  exact ⟨xs[j]'(by omega), by rw [h.cellAt j hj]; exact List.getElem?_eq_getElem _⟩
theorem own_store2 (h : w.ownsRow base e 2 (.slice (some ⟨g, 0, none⟩) n cap) n xs) (k : Nat) (x y : Value) :
    ((w.setCell ⟨g, k * 2, none⟩ x).setCell ⟨g, k * 2 + 1, none⟩ y).ownsRow base e 2 (.slice (some ⟨g, 0, none⟩) n cap) n ((xs.set (k * 2) x).set (k * 2 + 1) y) ∧
    w.grownBy ((w.setCell ⟨g, k * 2, none⟩ x).setCell ⟨g, k * 2 + 1, none⟩ y) (some g) := by
  have s1 := h.stored (k * 2) x
  have s2 := s1.1.stored (k * 2 + 1) y
  exact ⟨s2.1, ⟨s2.2.os.trans s1.2.os, s2.2.tape.trans s1.2.tape, s2.2.output.trans s1.2.output, Nat.le_trans s1.2.size s2.2.size, fun i hi hne => (s2.2.block i (Nat.lt_of_lt_of_le hi s1.2.size) hne).trans (s1.2.block i hi hne)⟩⟩
end
theorem set2_prefix {xs ys : List Value} {k : Nat} {x y : Value} (hl : k * 2 + 1 < xs.length) (h : ∀ j, j < k * 2 → xs[j]? = ys[j]?) (hx : ys[k * 2]? = some x) (hy : ys[k * 2 + 1]? = some y) :
    ∀ j, j < (k + 1) * 2 → ((xs.set (k * 2) x).set (k * 2 + 1) y)[j]? = ys[j]? := by
  intro j hj
  rw [List.getElem?_set, List.getElem?_set]
  by_cases h1 : k * 2 + 1 = j
  · subst h1; simp [hl, hy]
  · rw [if_neg h1]
    by_cases h2 : k * 2 = j
    · subst h2; simp [show k * 2 < xs.length by omega, hx]
    · rw [if_neg h2]; exact h j (by omega)
theorem eq_of_prefix {xs ys : List Value} {n : Nat} (h1 : xs.length = n) (h2 : ys.length = n) (h : ∀ j, j < n → xs[j]? = ys[j]?) : xs = ys := by
  apply List.ext_getElem?
  intro j
  by_cases hj : j < n
  · exact h j hj
  · rw [List.getElem?_eq_none (by omega), List.getElem?_eq_none (by omega)]
/-- A row of the call's own reads as points. -/
theorem own_pts {w : World} {base : Nat} {e : TypeId} {v : Value} {ps : List Pt} (h : w.ownsRow base e 2 v ps.length (ptCells ps)) : Pts w v ps := by
  rcases h.2 with ⟨rfl, h0⟩ | ⟨g, cap, cur, rfl, _, hg, hn, hm, _, htake⟩
  · exact ⟨none, 0, by rw [h0], by omega, by unfold maxLen; omega, ptCells_length ps, fun hn => by omega⟩
  · refine ⟨some ⟨g, 0, none⟩, cap, rfl, hn, hm, ptCells_length ps, fun _ => ⟨g, 0, rfl, (Array.getElem?_eq_some_iff.1 hg).1, fun j u hu => ?_⟩⟩
    rw [Nat.zero_add, cell_of_row w g j cur e (0, 0) hg]
    rw [← htake, List.getElem?_take] at hu
    split at hu
    · simpa using hu
    · cases hu
theorem ptCells_get {ps : List Pt} {j : Nat} {u : Value} (h : (ptCells ps)[j]? = some u) : ∃ (i : Nat) (hi : i < ps.length), (j = i * 2 ∧ u = .int .i64 ps[i].1) ∨ (j = i * 2 + 1 ∧ u = .int .i64 ps[i].2) := by
  have hj : j < ps.length * 2 := by
    rw [← ptCells_length]
    rcases Nat.lt_or_ge j (ptCells ps).length with h1 | h1
    · exact h1
    · rw [List.getElem?_eq_none h1] at h; cases h
  have hi : j / 2 < ps.length := by omega
  have hc := ptCells_x ps (j / 2) hi
  refine ⟨j / 2, hi, ?_⟩
  rcases (show j = j / 2 * 2 ∨ j = j / 2 * 2 + 1 by omega) with e | e
  · left; refine ⟨e, ?_⟩
    rw [e, hc.1] at h; injection h with h; exact h.symm
  · right; refine ⟨e, ?_⟩
    rw [e, hc.2] at h; injection h with h; exact h.symm
theorem pts_of {w : World} {A : Option Addr} {c : Nat} {ps : List Pt} (h1 : ps.length ≤ c) (h2 : c ≤ maxLen)
    (h : 0 < ps.length → ∃ b off, A = some ⟨b, off, none⟩ ∧ ∀ i (hi : i < ps.length), w.cell? ⟨b, off + i * 2, none⟩ = some (.int .i64 ps[i].1) ∧ w.cell? ⟨b, off + i * 2 + 1, none⟩ = some (.int .i64 ps[i].2)) : Pts w (.slice A ps.length c) ps := by
  refine ⟨A, c, rfl, h1, h2, ptCells_length ps, fun hn => ?_⟩
  obtain ⟨b, off, rfl, hc⟩ := h hn
  refine ⟨b, off, rfl, ?_, fun j u hu => ?_⟩
  · have := (hc 0 hn).1
    rcases Nat.lt_or_ge b w.heap.size with hlt | hge
    · exact hlt
    · simp [World.cell?, Array.getElem?_eq_none hge] at this
  · obtain ⟨i, hi, ⟨rfl, rfl⟩ | ⟨rfl, rfl⟩⟩ := ptCells_get hu
    · exact (hc i hi).1
    · exact (hc i hi).2
end Go.Proofs.Ytdpokkegkedlfaa

/- Words for memory: a slice value that reads as a list of cells. -/
import Derived.Test.YtaidmimahakeeaaProg
import Derived.WalkKit
import Derived.Lib.Hide
import Derived.Below
import Derived.Deep.Draws
namespace Go.Proofs.Ytaidmimahakeeaa
open Go.RowKit
abbrev Pt := Int × Int
def ptV (p : Pt) : Value := .agg #[.int .i64 p.1, .int .i64 p.2]
/-- What was there when the call began reads as it did. -/
def Bel (w w' : World) : Prop := Below w.heap.size w w'
theorem Bel.refl (w : World) : Bel w w := Below.refl _ _
theorem Bel.size {w w' : World} (h : Bel w w') : w.heap.size ≤ w'.heap.size := Below.size h
theorem Bel.alloc {w w' : World} (h : Bel w w') (o : Obj) : Bel w (w'.alloc o) := Below.alloc h h.size o
theorem Bel.drew {w w' : World} (h : Bel w w') : Bel w w'.drew := Below.drew h
theorem Bel.drewN {w w' : World} (h : Bel w w') (n : Nat) : Bel w (w'.drewN n) := ⟨h.os, h.tape, h.output, h.size, h.block⟩
theorem Bel.trans {a b c : World} (h : Bel a b) (k : Bel b c) : Bel a c := Below.trans h (Below.mono k h.size)
theorem Bel.setCell {w w' : World} (h : Bel w w') {p : Addr} (hp : w.heap.size ≤ p.block) (u : Value) : Bel w (w'.setCell p u) := Below.setCell h hp u
theorem Bel.cell {w w' : World} (h : Bel w w') {b o : Nat} {u : Value} (hb : b < w.heap.size) (hc : w.cell? ⟨b, o, none⟩ = some u) : w'.cell? ⟨b, o, none⟩ = some u :=
  (Below.cell (p := ⟨b, o, none⟩) h hb).trans hc
def Cells (w : World) (v : Value) (sz n : Nat) (xs : List Value) : Prop :=
  ∃ A c, v = .slice A n c ∧ n ≤ c ∧ c ≤ maxLen ∧ xs.length = n * sz ∧
    (0 < n → ∃ b off, A = some ⟨b, off, none⟩ ∧ b < w.heap.size ∧ ∀ j u, xs[j]? = some u → w.cell? ⟨b, off + j, none⟩ = some u)
def ptCells (ps : List Pt) : List Value := ps.flatMap fun p => [.int .i64 p.1, .int .i64 p.2]
def Pts (w : World) (v : Value) (ps : List Pt) : Prop := Cells w v 2 ps.length (ptCells ps)
def Ints (w : World) (v : Value) (ns : List Int) : Prop := Cells w v 1 ns.length (ns.map (Value.int .i64))
theorem ptCells_length (ps : List Pt) : (ptCells ps).length = ps.length * 2 := by
  induction ps with
  | nil => rfl
  | cons p ps ih => simp only [ptCells, List.flatMap_cons, List.length_append, List.length_cons, List.length_nil] at *; omega
theorem ptCells_x (ps : List Pt) : ∀ (i : Nat) (h : i < ps.length), (ptCells ps)[i * 2]? = some (.int .i64 ps[i].1) ∧ (ptCells ps)[i * 2 + 1]? = some (.int .i64 ps[i].2) := by
  induction ps with
  | nil => intro i h; simp at h
  | cons p ps ih =>
    intro i h
    cases i with
    | zero => exact ⟨rfl, rfl⟩
    | succ i =>
      have := ih i (by simpa using h)
      constructor
      · show (.int .i64 p.1 :: .int .i64 p.2 :: ptCells ps)[(i + 1) * 2]? = _
        rw [show (i + 1) * 2 = i * 2 + 1 + 1 from by omega]; simpa using this.1
      · show (.int .i64 p.1 :: .int .i64 p.2 :: ptCells ps)[(i + 1) * 2 + 1]? = _
        rw [show (i + 1) * 2 + 1 = i * 2 + 1 + 1 + 1 from by omega]; simpa using this.2
section
variable {w w' : World} {v : Value} {sz n : Nat} {xs : List Value} {ps : List Pt} {ns : List Int}
theorem Cells.keep (h : Cells w v sz n xs) (hs : w.heap.size ≤ w'.heap.size) (hk : ∀ b o, b < w.heap.size → w'.cell? ⟨b, o, none⟩ = w.cell? ⟨b, o, none⟩) : Cells w' v sz n xs := by
  obtain ⟨A, c, rfl, h1, h2, h3, h4⟩ := h
  refine ⟨A, c, rfl, h1, h2, h3, fun hn => ?_⟩
  obtain ⟨b, off, rfl, hb, hc⟩ := h4 hn
  exact ⟨b, off, rfl, by omega, fun j u hu => (hk _ _ hb).trans (hc j u hu)⟩
theorem Cells.below (h : Cells w v sz n xs) (hb : Bel w w') : Cells w' v sz n xs :=
  h.keep hb.size fun b o hlt => Below.cell (p := ⟨b, o, none⟩) hb hlt
theorem Pts.below (h : Pts w v ps) (hb : Bel w w') : Pts w' v ps := Cells.below h hb
theorem Ints.below (h : Ints w v ns) (hb : Bel w w') : Ints w' v ns := Cells.below h hb
theorem Pts.form (h : Pts w v ps) : ∃ A c, v = .slice A ps.length c ∧ ps.length ≤ c ∧ c ≤ maxLen ∧
    (0 < ps.length → ∃ b off, A = some ⟨b, off, none⟩ ∧ b < w.heap.size ∧ ∀ i (h : i < ps.length), w.cell? ⟨b, off + i * 2, none⟩ = some (.int .i64 ps[i].1) ∧ w.cell? ⟨b, off + i * 2 + 1, none⟩ = some (.int .i64 ps[i].2)) := by
  obtain ⟨A, c, rfl, h1, h2, h3, h4⟩ := h
  refine ⟨A, c, rfl, h1, h2, fun hn => ?_⟩
  obtain ⟨b, off, rfl, hb, hc⟩ := h4 hn
  exact ⟨b, off, rfl, hb, fun i hi => ⟨hc _ _ (ptCells_x ps i hi).1, hc _ _ (ptCells_x ps i hi).2⟩⟩
theorem Ints.form (h : Ints w v ns) : ∃ A c, v = .slice A ns.length c ∧ ns.length ≤ c ∧ c ≤ maxLen ∧
    (0 < ns.length → ∃ b off, A = some ⟨b, off, none⟩ ∧ b < w.heap.size ∧ ∀ i (h : i < ns.length), w.cell? ⟨b, off + i, none⟩ = some (.int .i64 ns[i])) := by
  obtain ⟨A, c, rfl, h1, h2, h3, h4⟩ := h
  refine ⟨A, c, rfl, h1, h2, fun hn => ?_⟩
  obtain ⟨b, off, rfl, hb, hc⟩ := h4 hn
  exact ⟨b, off, rfl, hb, fun i hi => hc _ _ (by simp [hi])⟩
end
end Go.Proofs.Ytaidmimahakeeaa

/- The arguments of a law as they are read: what the walk is told of each. -/
import Derived.Test.YtdpokkegkedlfaaDraw
import Derived.Test.YtdpokkegkedlfaaRows
import Derived.ProofKit
import Derived.OpenShut
import Derived.ChangeOld
import Derived.Deep.Slices
import Derived.Deep.SlicePairs
import Derived.Lib.SmallJoins
set_option maxRecDepth 100000
namespace Go.Proofs.Ytdpokkegkedlfaa
open Go.ChangeShapes Go.WideShapes Go.ChangeAt Go.RowKit Go.Joins Go.Deep
section
variable {H : Type} {enc : TypeId × Value → H} {W : World} {base : Nat} {v : Value} {d : DataW H} {p : List MemPlace}
def IntArg (v : Value) (x : Int) : Prop := v = .int .i64 x ∧ -9223372036854775808 ≤ x ∧ x ≤ 9223372036854775807
theorem opn_int (hv : Value.okWide Try.prog W .any base 3 v) (h : DataW.Trod enc Try.prog W 0 (fun _ => true) true 3 v d p) : ∃ x, IntArg v x := by
  obtain ⟨x, rfl, rfl, rfl, wx⟩ := Go.ChangeShapes.open_int Try.underlying3 hv h
  have h1 : IntKind.i64.min = -9223372036854775808 := rfl
  have h2 : IntKind.i64.max = 9223372036854775807 := rfl
  simp only [Lit.wf, h1, h2, Bool.and_eq_true, decide_eq_true_eq] at wx
  exact ⟨x, rfl, wx.1, wx.2⟩
def BytesArg (W : World) (v : Value) (n : Nat) : Prop := ∃ A c, v = .slice A n c ∧ n ≤ c ∧ c ≤ maxLen ∧ BytesIn W A n W.heap.size
theorem opn_bytes (hv : Value.okWide Try.prog W .any base 35 v) (h : DataW.Trod enc Try.prog W 0 (fun _ => true) true 35 v d p) : ∃ n, BytesArg W v n := by
  obtain ⟨a0, len, cap, rfl⟩ := okWide_slice Try.underlying35 hv
  obtain ⟨fuel, hf⟩ := h
  rcases open_ints Try.underlying35 Try.underlying5 (by kernel_rfl) hf with ⟨hcs, _⟩ | ⟨x, l, c, zs, hcs, _, hl, hm, hz, _, hcell, hwz⟩
  · simp [Value.cells] at hcs
    obtain ⟨rfl, rfl, rfl⟩ := hcs
    exact ⟨0, _, _, rfl, Nat.le_refl _, by simp [maxLen], fun h => absurd h (by omega)⟩
  · simp [Value.cells] at hcs
    obtain ⟨rfl, rfl, rfl⟩ := hcs
    refine ⟨len, _, _, rfl, hl, hm, fun hn => ?_⟩
    have hz' : zs.length = cap := by simpa using hz
    obtain ⟨b, off, spot⟩ := x
    have hspot : spot = none := by
      have hc := hcell 0 (by omega)
      simpa [Addr.add] using World.cell?_spot hc
    subst hspot
    have key : ∀ j, j < len → W.cell? ⟨b, off + j, none⟩ = some (.int .u8 (zs.getD j 0)) := by
      intro j hj
      have hc := hcell j (by omega)
      unfold Addr.add at hc
      by_cases h0 : j = 0
      · subst h0; simpa using hc
      · simpa [h0] using hc
    refine ⟨b, off, rfl, ?_, fun j hj => ⟨_, key j hj, ?_⟩⟩
    · rcases Nat.lt_or_ge b W.heap.size with hlt | hge
      · exact hlt
      · have := key 0 hn
        simp [World.cell?, Array.getElem?_eq_none hge] at this
    · have hw := hwz (zs.getD j 0) (by rw [List.getD_eq_getElem?_getD, List.getElem?_eq_getElem (by omega)]; exact List.getElem_mem _)
      have h1 : IntKind.u8.min = 0 := rfl
      have h2 : IntKind.u8.max = 255 := rfl
      simp only [Lit.wf, h1, h2, Bool.and_eq_true, decide_eq_true_eq] at hw
      exact hw
def Big (x : Int) : Prop := -9223372036854775808 ≤ x ∧ x ≤ 9223372036854775807
theorem big_wf {x : Int} (h : (Lit.int .i64 x).wf = true) : Big x := by
  have h1 : IntKind.i64.min = -9223372036854775808 := rfl
  have h2 : IntKind.i64.max = 9223372036854775807 := rfl
  simp only [Lit.wf, h1, h2, Bool.and_eq_true, decide_eq_true_eq] at h
  exact h
theorem open_pairs {P : Program} {t e : TypeId} {f0 f1 : Field} {fuel : Nat} {cs : List Value} {x : DataW H × List MemPlace} (ht : P.underlying t = some (.slice e)) (he : P.underlying e = some (.struct #[f0, f1]))
    (o0 : f0.offset = 0) (o1 : f1.offset = 1) (ce0 : P.cellsOf e = 2) (ce1 : P.cellsOf f0.type = 1) (ce2 : P.cellsOf f1.type = 1) (t0 : f0.type = 3) (t1 : f1.type = 3) (hi : P.underlying 3 = some (.int .i64)) (h : DataW.trod enc P W 0 (fun _ => true) true fuel t cs = some x) :
    ∃ (A : Option Addr) (n c : Nat) (ps : List Pt), cs = [.slice A n c] ∧ Pts W (.slice A n c) ps ∧ ∀ p ∈ ps, Big p.1 ∧ Big p.2 := by
  rcases open_slice_pairs ht he ce0 o0 o1 ce1 ce2 h with ⟨rfl, _⟩ | ⟨a, len, cap, m, n, V0, V1, D0, D1, P0, P1, rfl, _, hl, hm, hmm, _, hc⟩
  · exact ⟨none, 0, 0, [], rfl, pts_of (ps := []) (c := 0) (Nat.le_refl _) (by simp [maxLen]) (fun h => absurd h (by simp)), by simp⟩
  · have hm' : m = cap := by simpa using hmm
    subst hm'
    rw [t0, t1] at hc
    have key : ∀ i, i < m → ∃ q : Pt, V0 i = .int .i64 q.1 ∧ V1 i = .int .i64 q.2 ∧ Big q.1 ∧ Big q.2 := by
      intro i hi'
      obtain ⟨_, _, h3, h4⟩ := hc i hi'
      obtain ⟨n1, e1, _, w1⟩ := DataW.trod_int hi h3
      obtain ⟨n2, e2, _, w2⟩ := DataW.trod_int hi h4
      simp only [List.cons.injEq, and_true] at e1 e2
      exact ⟨(n1, n2), e1, e2, big_wf w1, big_wf w2⟩
    obtain ⟨f, hf⟩ := choose_lt key
    refine ⟨some a, len, m, (List.range len).map f, rfl, ?_, ?_⟩
    · have e1 : len = ((List.range len).map f).length := by simp
      have hpts := pts_of (w := W) (A := some a) (c := m) (ps := (List.range len).map f) (by simpa using hl) hm (fun hn => by
        have hn' : 0 < len := by simpa using hn
        obtain ⟨b, off, spot⟩ := a
        have hspot : spot = none := by
          have := (hc 0 (by omega)).1
          simpa [Addr.add] using World.cell?_spot this
        subst hspot
        refine ⟨b, off, rfl, fun i hi' => ?_⟩
        have hi2 : i < len := by simpa using hi'
        obtain ⟨h1, h2, _, _⟩ := hc i (by omega)
        obtain ⟨g1, g2, _, _⟩ := hf i (by omega)
        have a1 : ∀ k, Addr.add ⟨b, off, none⟩ k = ⟨b, off + k, none⟩ := by
          intro k; unfold Addr.add; by_cases hk : k = 0 <;> simp [hk]
        rw [a1, g1] at h1
        rw [a1, g2] at h2
        simp only [List.getElem_map, List.getElem_range]
        exact ⟨h1, h2⟩)
      rw [← e1] at hpts
      exact hpts
    · intro p hp
      obtain ⟨i, hi', rfl⟩ := List.mem_map.1 hp
      exact ⟨(hf i (by have := List.mem_range.1 hi'; omega)).2.2.1, (hf i (by have := List.mem_range.1 hi'; omega)).2.2.2⟩
def PointsArg (W : World) (v : Value) (ps : List Pt) : Prop := Pts W v ps ∧ ∀ p ∈ ps, Big p.1 ∧ Big p.2
theorem opn_Points (hv : Value.okWide Try.prog W .any base 63 v) (h : DataW.Trod enc Try.prog W 0 (fun _ => true) true 63 v d p) : ∃ ps, PointsArg W v ps := by
  obtain ⟨a0, len, cap, rfl⟩ := okWide_slice Try.underlying63 hv
  obtain ⟨fuel, hf⟩ := h
  obtain ⟨A, n, c, ps, he, h1, h2⟩ := open_pairs Try.underlying63 Try.underlying105 rfl rfl (by kernel_rfl) (by kernel_rfl) (by kernel_rfl) rfl rfl Try.underlying3 hf
  simp [Value.cells] at he
  rw [he.1, he.2.1, he.2.2]
  exact ⟨ps, h1, h2⟩
def PointArg (v : Value) (q : Pt) : Prop := v = .agg #[.int .i64 q.1, .int .i64 q.2] ∧ Big q.1 ∧ Big q.2
theorem opn_Point (hv : Value.okWide Try.prog W .any base 105 v) (h : DataW.Trod enc Try.prog W 0 (fun _ => true) true 105 v d p) : ∃ q, PointArg v q := by
  obtain ⟨c0, c1, y0, y1, m, rfl, _, _, h0, h1⟩ := open_agg2 Try.underlying105 (by kernel_rfl) (by kernel_rfl) hv h
  obtain ⟨n1, e1, _, w1⟩ := DataW.trod_int Try.underlying3 h0
  obtain ⟨n2, e2, _, w2⟩ := DataW.trod_int Try.underlying3 h1
  simp only [List.cons.injEq, and_true] at e1 e2
  subst e1 e2
  exact ⟨(n1, n2), rfl, big_wf w1, big_wf w2⟩
def CellArg (v : Value) (q : Pt) : Prop := v = .agg #[.int .i64 q.1, .int .i64 q.2] ∧ Big q.1 ∧ Big q.2
theorem opn_Cell (hv : Value.okWide Try.prog W .any base 24 v) (h : DataW.Trod enc Try.prog W 0 (fun _ => true) true 24 v d p) : ∃ q, CellArg v q := by
  obtain ⟨c0, c1, y0, y1, m, rfl, _, _, h0, h1⟩ := open_agg2 Try.underlying24 (by kernel_rfl) (by kernel_rfl) hv h
  obtain ⟨n1, e1, _, w1⟩ := DataW.trod_int Try.underlying3 h0
  obtain ⟨n2, e2, _, w2⟩ := DataW.trod_int Try.underlying3 h1
  simp only [List.cons.injEq, and_true] at e1 e2
  subst e1 e2
  exact ⟨(n1, n2), rfl, big_wf w1, big_wf w2⟩
end
end Go.Proofs.Ytdpokkegkedlfaa

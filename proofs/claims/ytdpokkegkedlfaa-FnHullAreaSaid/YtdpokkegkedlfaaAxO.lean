/- Arguments that are slices of numbers, of slices, and arms: how they read. -/
import Derived.Test.YtdpokkegkedlfaaAxY
import Derived.Test.YtdpokkegkedlfaaAxR
import Derived.Deep.Grids
set_option maxRecDepth 100000
namespace Go.Proofs.Ytdpokkegkedlfaa
open Go.ChangeShapes Go.WideShapes Go.ChangeAt Go.RowKit Go.Joins Go.Deep
section
variable {H : Type} {enc : TypeId × Value → H} {W : World} {base : Nat} {v : Value} {d : DataW H} {p : List MemPlace}
theorem cell_lt {w : World} {b o : Nat} {u : Value} (h : w.cell? ⟨b, o, none⟩ = some u) : b < w.heap.size := by
  rcases Nat.lt_or_ge b w.heap.size with hlt | hge
  · exact hlt
  · simp [World.cell?, Array.getElem?_eq_none hge] at h
theorem spot_none {w : World} {a : Addr} {u : Value} (h : w.cell? (a.add 0) = some u) : ∃ b off, a = ⟨b, off, none⟩ := by
  obtain ⟨b, off, spot⟩ := a
  have hspot : spot = none := by simpa [Addr.add] using World.cell?_spot h
  exact ⟨b, off, by rw [hspot]⟩
theorem one_flat {P : Program} {t e : TypeId} {fuel : Nat} {cs : List Value} {x : DataW H × List MemPlace} (ht : P.underlying t = some (.slice e)) (hc : P.cellsOf e = 1) (h : DataW.trod enc P W 0 (fun _ => true) true fuel t cs = some x) :
    ∃ (u : Value) (n : Nat) (V : Nat → Value), cs = [u] ∧ Flat L00 W u 1 n ((List.range n).map V) ∧ ∀ i, i < n → ∃ m y, DataW.trod enc P W 0 (fun _ => true) true m e [V i] = some y := by
  rcases open_slice1 ht hc h with ⟨rfl, _⟩ | ⟨a, len, cap, m, n, V, D, Pl, rfl, _, hl, hm, hmm, _, hx⟩
  · exact ⟨_, 0, fun _ => undef, rfl, ⟨none, 0, rfl, by omega, by unfold maxLen; omega, by simp, fun h => by omega⟩, fun i hi => by omega⟩
  · have hm' : m = cap := by simpa using hmm
    subst hm'
    refine ⟨_, len, V, rfl, ⟨some a, m, rfl, hl, hm, by simp, fun hn => ?_⟩, fun i hi => ⟨n, _, (hx i (by omega)).2⟩⟩
    obtain ⟨b, off, rfl⟩ := spot_none (hx 0 (by omega)).1
    refine ⟨b, off, rfl, cell_lt (o := off) (by have := (hx 0 (by omega)).1; rw [Addr.add_mid] at this; simpa using this), fun h => h, fun j u hu => ?_⟩
    have hj : j < len := by have := (List.getElem?_eq_some_iff.1 hu).1; simpa using this
    have := (hx j (by omega)).1
    rw [Addr.add_mid] at this
    simp [List.getElem?_map, List.getElem?_range hj] at hu
    rw [this, hu]
theorem ints_open {P : Program} {t e : TypeId} {fuel : Nat} {cs : List Value} {x : DataW H × List MemPlace} (ht : P.underlying t = some (.slice e)) (he : P.underlying e = some (.int .i64)) (hc : P.cellsOf e = 1) (h : DataW.trod enc P W 0 (fun _ => true) true fuel t cs = some x) :
    ∃ (u : Value) (ns : List Int), cs = [u] ∧ Reads L00 W u (.ints ns) ∧ ∀ n ∈ ns, Big n := by
  obtain ⟨u, n, V, rfl, hF, hV⟩ := one_flat ht hc h
  obtain ⟨f, hf⟩ := choose_lt (α := Int) (p := fun i z => V i = .int .i64 z ∧ Big z) (fun i hi => by
    obtain ⟨m, y, hy⟩ := hV i hi
    obtain ⟨z, e1, _, w1⟩ := DataW.trod_int he hy
    exact ⟨z, by simpa using e1, big_wf w1⟩)
  refine ⟨u, (List.range n).map f, rfl, ⟨(List.range n).map V, by simpa [Cont.sz, Cont.len] using hF, ?_⟩, fun z hz => ?_⟩
  · show _ = _
    rw [List.map_map]
    exact List.map_congr_left fun i hi => (hf i (List.mem_range.1 hi)).1
  · obtain ⟨i, hi, rfl⟩ := List.mem_map.1 hz
    exact (hf i (List.mem_range.1 hi)).2
theorem bools_open {P : Program} {t e : TypeId} {fuel : Nat} {cs : List Value} {x : DataW H × List MemPlace} (ht : P.underlying t = some (.slice e)) (he : P.underlying e = some .bool) (hc : P.cellsOf e = 1) (h : DataW.trod enc P W 0 (fun _ => true) true fuel t cs = some x) :
    ∃ (u : Value) (ns : List Bool), cs = [u] ∧ Reads L00 W u (.bools ns) := by
  obtain ⟨u, n, V, rfl, hF, hV⟩ := one_flat ht hc h
  obtain ⟨f, hf⟩ := choose_lt (α := Bool) (p := fun i z => V i = .bool z) (fun i hi => by
    obtain ⟨m, y, hy⟩ := hV i hi
    obtain ⟨z, e1, _⟩ := DataW.trod_bool he hy
    exact ⟨z, by simpa using e1⟩)
  refine ⟨u, (List.range n).map f, rfl, ⟨(List.range n).map V, by simpa [Cont.sz, Cont.len] using hF, ?_⟩⟩
  show _ = _
  rw [List.map_map]
  exact List.map_congr_left fun i hi => hf i (List.mem_range.1 hi)
def BoolSSArg (W : World) (v : Value) (l : List (List Bool)) : Prop := Reads L00 W v (.boolss l)
theorem boolss_reads {W : World} {v : Value} {l : List (List Bool)} (h : BoolSSArg W v l) : Reads L00 W v (.boolss l) := h
set_option maxRecDepth 100000 in
theorem opn_BoolSS (hv : Value.okWide Try.prog W .any base 22 v) (h : DataW.Trod enc Try.prog W 0 (fun _ => true) true 22 v d p) : ∃ l, BoolSSArg W v l := by
  obtain ⟨a0, len, cap, rfl⟩ := okWide_slice Try.underlying22 hv
  obtain ⟨fuel, hf⟩ := h
  obtain ⟨u, n, V, he, hF, hV⟩ := one_flat Try.underlying22 (by kernel_rfl) hf
  simp [Value.cells] at he
  subst he
  obtain ⟨f, hf⟩ := choose_lt (α := List Bool) (p := fun i z => Reads L00 W (V i) (.bools z)) (fun i hi => by
    obtain ⟨m, y, hy⟩ := hV i hi
    obtain ⟨u, ns, he, h1⟩ := bools_open Try.underlying42 Try.underlying4 (by kernel_rfl) hy
    simp at he
    rw [he]
    exact ⟨ns, h1⟩)
  refine ⟨(List.range n).map f, (List.range n).map V, by simpa [Cont.sz, Cont.len] using hF, by simp, fun i u m hu hm => ?_⟩
  have hi : i < n := by have := (List.getElem?_eq_some_iff.1 hu).1; simpa using this
  simp [List.getElem?_map, List.getElem?_range hi] at hu hm
  subst hu hm
  obtain ⟨xs, q1, q2⟩ := hf i hi
  have q2' : xs = (f i).map Value.bool := q2
  subst q2'
  exact q1
def IntSSArg (W : World) (v : Value) (l : List (List Int)) : Prop := Reads L00 W v (.intss l)
theorem intss_reads {W : World} {v : Value} {l : List (List Int)} (h : IntSSArg W v l) : Reads L00 W v (.intss l) := h
set_option maxRecDepth 100000 in
theorem opn_IntSS (hv : Value.okWide Try.prog W .any base 57 v) (h : DataW.Trod enc Try.prog W 0 (fun _ => true) true 57 v d p) : ∃ l, IntSSArg W v l := by
  obtain ⟨a0, len, cap, rfl⟩ := okWide_slice Try.underlying57 hv
  obtain ⟨fuel, hf⟩ := h
  obtain ⟨u, n, V, he, hF, hV⟩ := one_flat Try.underlying57 (by kernel_rfl) hf
  simp [Value.cells] at he
  subst he
  obtain ⟨f, hf⟩ := choose_lt (α := List Int) (p := fun i z => Reads L00 W (V i) (.ints z)) (fun i hi => by
    obtain ⟨m, y, hy⟩ := hV i hi
    obtain ⟨u, ns, he, h1⟩ := ints_open Try.underlying45 Try.underlying3 (by kernel_rfl) hy
    simp at he
    rw [he]
    exact ⟨ns, h1.1⟩)
  refine ⟨(List.range n).map f, (List.range n).map V, by simpa [Cont.sz, Cont.len] using hF, by simp, fun i u m hu hm => ?_⟩
  have hi : i < n := by have := (List.getElem?_eq_some_iff.1 hu).1; simpa using this
  simp [List.getElem?_map, List.getElem?_range hi] at hu hm
  subst hu hm
  obtain ⟨xs, q1, q2⟩ := hf i hi
  have q2' : xs = (f i).map (Value.int .i64) := q2
  subst q2'
  exact q1
def ArmArg (W : World) (v : Value) (x : List Int × List Int × List Int) : Prop :=
  ∃ a b c, v = .agg #[a, b, c] ∧ Reads L00 W a (.ints x.1) ∧ Reads L00 W b (.ints x.2.1) ∧ Reads L00 W c (.ints x.2.2)
theorem arm_reads {W : World} {v : Value} {x : List Int × List Int × List Int} (h : ArmArg W v x) : AV.has (EL L00) W v (.agg [.view (.ints x.1), .view (.ints x.2.1), .view (.ints x.2.2)]) := by
  obtain ⟨a, b, c, rfl, h1, h2, h3⟩ := h
  exact ⟨_, rfl, h1, h2, h3, trivial⟩
set_option maxRecDepth 100000 in
theorem opn_Arm (hv : Value.okWide Try.prog W .any base 47 v) (h : DataW.Trod enc Try.prog W 0 (fun _ => true) true 47 v d p) : ∃ x, ArmArg W v x := by
  obtain ⟨c0, c1, c2, y0, y1, y2, m, rfl, _, _, h0, h1, h2⟩ := open_agg3 Try.underlying47 (by kernel_rfl) (by kernel_rfl) hv h
  obtain ⟨u0, n0, e0, r0, _⟩ := ints_open Try.underlying45 Try.underlying3 (by kernel_rfl) h0
  obtain ⟨u1, n1, e1, r1, _⟩ := ints_open Try.underlying45 Try.underlying3 (by kernel_rfl) h1
  obtain ⟨u2, n2, e2, r2, _⟩ := ints_open Try.underlying45 Try.underlying3 (by kernel_rfl) h2
  simp at e0 e1 e2
  subst e0 e1 e2
  exact ⟨(n0, n1, n2), _, _, _, rfl, r0, r1, r2⟩
def IntsArg (W : World) (v : Value) (ns : List Int) : Prop := Reads L00 W v (.ints ns) ∧ ∀ n ∈ ns, Big n
set_option maxRecDepth 100000 in
theorem opn_Ints (hv : Value.okWide Try.prog W .any base 45 v) (h : DataW.Trod enc Try.prog W 0 (fun _ => true) true 45 v d p) : ∃ ns, IntsArg W v ns := by
  obtain ⟨a0, len, cap, rfl⟩ := okWide_slice Try.underlying45 hv
  obtain ⟨fuel, hf⟩ := h
  obtain ⟨u, ns, e, r, b⟩ := ints_open Try.underlying45 Try.underlying3 (by kernel_rfl) hf
  simp [Value.cells] at e
  subst e
  exact ⟨ns, r, b⟩
end
end Go.Proofs.Ytdpokkegkedlfaa

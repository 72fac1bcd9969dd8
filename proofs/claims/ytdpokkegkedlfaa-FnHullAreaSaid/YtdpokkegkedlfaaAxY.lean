/- The shelf's contracts on rows of points. -/
import Derived.Test.YtdpokkegkedlfaaAxL
import Derived.Shelf.SlicesQ.Reverse
namespace Go.Proofs.Ytdpokkegkedlfaa
open Go.RowKit
set_option maxRecDepth 100000
def encP (p : Pt) : List Value := [.int .i64 p.1, .int .i64 p.2]
theorem flat_pt (l : List Pt) : (Go.Sort.flatK encP 2 l.toArray).toList = ptCells l := by
  apply List.ext_getElem?
  intro k
  by_cases hk : k < l.length * 2
  · have q := ptCells_x l (k / 2) (by omega)
    have hs : k < (Go.Sort.flatK encP 2 l.toArray).size := by rw [Go.Sort.size_flatK]; simpa using hk
    have e0 := Go.Sort.get_flatK encP 2 l.toArray k (by simpa using hk)
    rw [getElem!_pos _ k hs] at e0
    rw [Array.getElem?_toList, Array.getElem?_eq_getElem hs, e0]
    have hl : k / 2 < l.length := by omega
    have e1 : l.toArray[k / 2]! = l[k / 2] := by simp [hl]
    rw [e1]
    rcases (show k = k / 2 * 2 ∨ k = k / 2 * 2 + 1 by omega) with e | e
    · have h0 : k % 2 = 0 := by omega
      rw [h0]
      conv => rhs; rw [e]
      rw [q.1]; rfl
    · have h0 : k % 2 = 1 := by omega
      rw [h0]
      conv => rhs; rw [e]
      rw [q.2]; rfl
  · rw [List.getElem?_eq_none (by rw [Array.length_toList, Go.Sort.size_flatK]; simpa using hk), List.getElem?_eq_none (by rw [ptCells_length]; omega)]
theorem holds_pt {w : World} {g cap : Nat} {e : TypeId} {cur : Array Value} {l : List Pt} (hb : w.heap[g]? = some (.cells cur e (0, 0))) (h1 : l.length ≤ cap) (h3 : cur.size = cap * 2) (ht : cur.toList.take (l.length * 2) = ptCells l) : Go.Sort.HoldsK encP 2 w g 0 l.toArray := by
  intro j hj
  have hj2 : j < l.length * 2 := by simpa using hj
  refine ⟨?_, by simp [World.frozen?, hb]⟩
  rw [Nat.zero_add, cell_of_row w g j cur e (0, 0) hb]
  have e1 : (Go.Sort.flatK encP 2 l.toArray).toList[j]? = cur.toList[j]? := by rw [flat_pt, ← ht, List.getElem?_take_of_lt hj2]
  rw [Array.getElem?_toList, Array.getElem?_toList] at e1
  rw [← e1, Array.getElem?_eq_getElem hj, getElem!_pos _ j hj]; rfl
theorem heap_putK {w : World} {g n : Nat} {os : Array Obj} {cur : Array Value} {e : TypeId} {fr : Nat × Nat} (m : List Pt) (hb : w.heap[g]? = some (.cells cur e fr)) :
    (Go.Sort.grow (Go.Sort.putRowK encP 2 (Go.Sort.ahead w n) g 0 m.toArray) os).heap[g]? = some (.cells (Go.Sort.putCells id 0 (Go.Sort.flatK encP 2 m.toArray) cur) e fr) := by
  have hg : g < w.heap.size := (Array.getElem?_eq_some_iff.1 hb).1
  rw [Go.Sort.heap_grow_old _ _ (by simpa [Go.Sort.putRowK] using hg)]
  simp [Go.Sort.putRowK, Go.Sort.putRow, Go.Sort.mapBlock, Go.Sort.ahead, Array.getElem?_modify, hb, Go.Sort.onCells]
theorem grown_putK {w : World} {g n : Nat} {os : Array Obj} (m : List Pt) : w.grownBy (Go.Sort.grow (Go.Sort.putRowK encP 2 (Go.Sort.ahead w n) g 0 m.toArray) os) (some g) := by
  refine ⟨rfl, rfl, rfl, by simp [Go.Sort.putRowK, Go.Sort.grow, Go.Sort.putRow, Go.Sort.mapBlock, Go.Sort.ahead], fun k hk hne => ?_⟩
  rw [Go.Sort.heap_grow_old _ _ (by simpa [Go.Sort.putRowK] using hk)]
  have : g ≠ k := fun e => hne (by rw [e])
  simp [Go.Sort.putRowK, Go.Sort.putRow, Go.Sort.mapBlock, Go.Sort.ahead, Array.getElem?_modify, this]
theorem owns_putK {w : World} {base g cap n : Nat} {e : TypeId} {os : Array Obj} {cur : Array Value} {l m : List Pt} (hl : m.length = l.length) (hbase : base ≤ g) (hb : w.heap[g]? = some (.cells cur e (0, 0))) (h1 : l.length ≤ cap) (h2 : cap ≤ maxLen) (h3 : cur.size = cap * 2) :
    (Go.Sort.grow (Go.Sort.putRowK encP 2 (Go.Sort.ahead w n) g 0 m.toArray) os).ownsRow base e 2 (.slice (some ⟨g, 0, none⟩) l.length cap) m.length (ptCells m) := by
  refine ⟨ptCells_length m, .inr ⟨g, cap, _, by rw [hl], hbase, heap_putK m hb, by omega, h2, by simp [Go.Sort.putCells, h3], ?_⟩⟩
  apply List.ext_getElem?
  intro j
  by_cases hj : j < m.length * 2
  · rw [List.getElem?_take_of_lt hj, Array.getElem?_toList, ← flat_pt, Array.getElem?_toList]
    have hs : j < (Go.Sort.flatK encP 2 m.toArray).size := by rw [Go.Sort.size_flatK]; simpa using hj
    have hc : j < cur.size := by omega
    simp [Go.Sort.putCells, hj, hc]
  · rw [List.getElem?_take_eq_none (by omega), List.getElem?_eq_none (by rw [ptCells_length]; omega)]
def revC_ren : Go.Shelf.Ren := ⟨fun | 35 => 63 | n => n, fun | 22 => 26 | 23 => 29 | 3 => 3 | 4 => 4 | 0 => 0 | n => n, fun | n => n⟩
theorem revC : Go.Proofs.SlLaysE0.n35 Try.prog revC_ren := {
  mixed := by kernel_rfl
  f35 := ⟨Try.f63.name, by decide, Try.func63.trans (congrArg some (by kernel_rfl))⟩
  t0 := Try.underlying0
  a0 := Try.isAgg0
  z0 := Try.sizeOf0
  v0 := Try.zeroValue0
  t3 := Try.underlying3
  a3 := Try.isAgg3
  z3 := Try.sizeOf3
  v3 := Try.zeroValue3
  t4 := Try.underlying4
  a4 := Try.isAgg4
  z4 := Try.sizeOf4
  v4 := Try.zeroValue4
  t22 := Try.underlying26
  a22 := Try.isAgg26
  z22 := Try.sizeOf26
  v22 := Try.zeroValue26 }
def s_slices_Reverse_Simpl_Cell_impl_Cell (l : List Pt) : SgX := ⟨True, [], (fun _ => True), (fun _ => []), (fun _ => .row 29 (.pts l.reverse))⟩
def g_slices_Reverse_Simpl_Cell_impl_Cell : Bx → List AV → Option SgX
  | .row e (.pts l), [] => if e == 29 then some (s_slices_Reverse_Simpl_Cell_impl_Cell l) else none
  | _, _ => none
theorem F_slices_Reverse_Simpl_Cell_impl_Cell : FunX 63 g_slices_Reverse_Simpl_Cell_impl_Cell := by
  intro bx avs sg hg hn L0 v0 args w hL hv0 hbx hA
  unfold g_slices_Reverse_Simpl_Cell_impl_Cell at hg
  split at hg
  · rename_i e l
    split at hg
    · rename_i he
      obtain rfl := beq_iff_eq.1 he
      injection hg with hg; subst hg
      obtain rfl : args = [] := by cases args with
        | nil => rfl
        | cons _ _ => exact hA.elim
      refine ⟨callFunc_enter Try.func63 (by kernel_rfl) (by kernel_rfl) _ w, ?_⟩
      obtain ⟨xs, hown, hC⟩ := hbx
      have hC' : xs = ptCells l := hC
      subst hC'
      rcases hown.2 with ⟨rfl, hz⟩ | ⟨g, cap, cur, rfl, hbg, hgg, hnc, hcm, hcs, htake⟩
      · have hl0 : l.length = 0 := hz
        have hl : l = [] := List.eq_nil_of_length_eq_zero hl0
        subst hl
        refine (@AnyQ.slices_Reverse_empty _ _ revC none 0 w).mono ?_
        rintro e w' ⟨rfl, rfl⟩
        exact ⟨_, [], rfl, rfl, trivial, ⟨#[], rfl, trivial⟩, ⟨_, hown, rfl⟩, rfl, ⟨rfl, rfl, rfl, Nat.le_refl _, fun _ _ _ => rfl⟩⟩
      · have hn' : l.length ≤ cap := hnc
        have hH := holds_pt hgg hn' hcs htake
        have hm : maxLen = 9223372036854775807 := by decide
        have hr := AnyQ.slices_Reverse revC 2 Try.isAgg29 Try.sizeOf29 encP (fun _ => rfl) (fun x v hv => by simp [encP] at hv; rcases hv with rfl | rfl <;> rfl) g 0 cap l.toArray w hH (by simp; omega)
        refine Calls.mono (R := _) hr ?_
        rintro e w' ⟨rfl, n, rfl⟩
        rw [List.reverse_toArray]
        have e0 : Go.Sort.putRowK encP 2 (Go.Sort.ahead w n) g 0 l.reverse.toArray = Go.Sort.grow (Go.Sort.putRowK encP 2 (Go.Sort.ahead w n) g 0 l.reverse.toArray) #[] := by rw [Go.Sort.grow_empty]
        rw [e0]
        exact ⟨_, [], rfl, rfl, trivial, ⟨#[], rfl, trivial⟩, ⟨_, owns_putK (by simp) (Nat.zero_le _) hgg hn' hcm hcs, rfl⟩, rfl, grown_putK _⟩
    · cases hg
  · cases hg
end Go.Proofs.Ytdpokkegkedlfaa

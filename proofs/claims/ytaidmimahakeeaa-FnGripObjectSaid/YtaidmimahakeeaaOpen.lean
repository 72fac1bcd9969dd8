/- The arguments of a law as they are read: what the walk is told of each. -/
import Derived.Test.YtaidmimahakeeaaDraw
import Derived.Test.YtaidmimahakeeaaRows
import Derived.ProofKit
import Derived.OpenShut
import Derived.ChangeOld
import Derived.Deep.Slices
import Derived.Lib.SmallJoins
namespace Go.Proofs.Ytaidmimahakeeaa
open Go.ChangeShapes Go.WideShapes Go.ChangeAt Go.RowKit Go.Joins Go.Deep
section
variable {H : Type} {enc : TypeId × Value → H} {W : World} {base : Nat} {v : Value} {d : DataW H} {p : List MemPlace}
def IntArg (v : Value) (x : Int) : Prop := v = .int .i64 x ∧ -9223372036854775808 ≤ x ∧ x ≤ 9223372036854775807
theorem opn_int (hv : Value.okWide Try.prog W .any base 3 v) (h : DataW.Trod enc Try.prog W 0 (fun _ => true) true 3 v d p) : ∃ x, IntArg v x := by
  obtain ⟨x, rfl, rfl, rfl, wx⟩ := Go.ChangeShapes.open_int Try.underlying3 hv h
  have h1 : IntKind.i64.min = -9223372036854775808 := rfl
  have h2 : IntKind.i64.max = 9223372036854775807 := rfl
  simp only [Lit.wf, h1, h2, Bool.and_eq_true, decide_eq_true_eq] at wx
  exact ⟨x, rfl, wx.1, wx.2⟩
def BytesArg (W : World) (v : Value) (n : Nat) : Prop := ∃ A c, v = .slice A n c ∧ n ≤ c ∧ c ≤ maxLen ∧ BytesIn W A n W.heap.size
theorem opn_bytes (hv : Value.okWide Try.prog W .any base 26 v) (h : DataW.Trod enc Try.prog W 0 (fun _ => true) true 26 v d p) : ∃ n, BytesArg W v n := by
  obtain ⟨a0, len, cap, rfl⟩ := okWide_slice Try.underlying26 hv
  obtain ⟨fuel, hf⟩ := h
  rcases open_ints Try.underlying26 Try.underlying5 (by kernel_rfl) hf with ⟨hcs, _⟩ | ⟨x, l, c, zs, hcs, _, hl, hm, hz, _, hcell, hwz⟩
  · simp [Value.cells] at hcs
    obtain ⟨rfl, rfl, rfl⟩ := hcs
    exact ⟨0, _, _, rfl, Nat.le_refl _, by simp [maxLen], fun h => absurd h (by omega)⟩
  · simp [Value.cells] at hcs
    obtain ⟨rfl, rfl, rfl⟩ := hcs
    refine ⟨len, _, _, rfl, hl, hm, fun hn => ?_⟩
    have hz' : zs.length = cap := by simpa using hz
    obtain ⟨b, off, spot⟩ := x
    have hspot : spot = none := by
      have hc := hcell 0 (by omega)
      simpa [Addr.add] using World.cell?_spot hc
    subst hspot
    have key : ∀ j, j < len → W.cell? ⟨b, off + j, none⟩ = some (.int .u8 (zs.getD j 0)) := by
      intro j hj
      have hc := hcell j (by omega)
      unfold Addr.add at hc
      by_cases h0 : j = 0
      · subst h0; simpa using hc
      · simpa [h0] using hc
    refine ⟨b, off, rfl, ?_, fun j hj => ⟨_, key j hj, ?_⟩⟩
    · rcases Nat.lt_or_ge b W.heap.size with hlt | hge
      · exact hlt
      · have := key 0 hn
        simp [World.cell?, Array.getElem?_eq_none hge] at this
    · have hw := hwz (zs.getD j 0) (by rw [List.getD_eq_getElem?_getD, List.getElem?_eq_getElem (by omega)]; exact List.getElem_mem _)
      have h1 : IntKind.u8.min = 0 := rfl
      have h2 : IntKind.u8.max = 255 := rfl
      simp only [Lit.wf, h1, h2, Bool.and_eq_true, decide_eq_true_eq] at hw
      exact hw
end
end Go.Proofs.Ytaidmimahakeeaa

/- From the condition on the package-level variables to the readings of the evaluation; a start that meets it. -/
import Derived.Test.YtejiomhoflnboaaDoorAxS
import Derived.Test.YtejiomhoflnboaaDoorTie
import Derived.Test.YtejiomhoflnboaaDoorCards
import Derived.ProofKit
import Derived.LaidMore
import Derived.OpenShut
import Derived.Stop.Joined
import Derived.LaidHandle
namespace Go.Proofs.YtejiomhoflnboaaDoor
open Go.ChangeShapes Go.WideShapes Go.ChangeAt Go.RowKit
set_option maxRecDepth 100000
def laid3 : List (String × DataW Unit) := [("math._sin", Rows.laid_math_sin), ("math._cos", Rows.laid_math_cos), ("math.mPi4", Rows.laid_math_mPi4)]
theorem door_met (os : Os) (args : Array Value) : laidMetH Tryd.prog laid3 ((World.doorLaid Tryd.prog 400 os).forCall (fun _ _ => 0) ⟨#[], args, []⟩).memory :=
  laidMetH_of_parts3 (fuel := 8) (laidMet_of_run' 8 (by kernel_rfl) (by kernel_rfl)) (by kernel_rfl) (by kernel_rfl)
theorem trod_float {H : Type} {enc : TypeId × Value → H} {P : Program} {w : World} {base : Nat} {spare : Nat → Bool} {held : Bool} {fuel : Nat} {t : TypeId} {cs : List Value} {x : DataW H × List MemPlace} {k : FloatKind} (ht : P.underlying t = some (.float k)) (h : DataW.trod enc P w base spare held fuel t cs = some x) : ∃ n, cs = [.float k n] ∧ x = (.lit (.float k n), []) := by
  cases fuel with
  | zero => simp [DataW.trod] at h
  | succ n =>
    unfold DataW.trod at h
    rw [ht] at h
    split at h <;> simp_all
theorem arr_at {H : Type} {enc : TypeId × Value → H} {P : Program} {w : World} {base : Nat} {spare : Nat → Bool} {held : Bool} {fuel : Nat} {t e : TypeId} {cs : List Value} {p : List MemPlace} {n : Nat} {L : List Nat}
    (hu : P.underlying t = some (.array n e)) (he : P.underlying e = some (.float .f64)) (hc : P.cellsOf e = 1) (h : DataW.trod enc P w base spare held fuel t cs = some (.agg (L.map fun b => .lit (.float .f64 b)), p)) (i : Nat) (hi : i < n) : cs[i]? = (L[i]?).map (Value.float .f64) := by
  obtain ⟨xs, m, -, hx, -, hl, hel⟩ := DataW.trod_array hu h
  simp only [Prod.mk.injEq, DataW.agg.injEq] at hx
  have h1 := hel i hi
  rw [hc, Nat.mul_one] at h1
  have hix : i < xs.length := by omega
  rw [List.getElem?_eq_getElem hix] at h1
  obtain ⟨b, e1, e2⟩ := trod_float he h1
  have h2 : (xs.map (·.1))[i]? = some (.lit (.float .f64 b)) := by simp [hix, e2]
  rw [← hx.1] at h2
  simp only [List.getElem?_map, Option.map_eq_some_iff] at h2
  obtain ⟨b', hb, hb2⟩ := h2
  have hbb : b' = b := by injection hb2 with q; injection q
  have h3 : cs[i]? = some (.float .f64 b) := by
    have : ((cs.drop i).take 1)[0]? = some (.float .f64 b) := by rw [e1]; rfl
    simpa using this
  rw [h3, hb, hbb]; rfl
theorem of_laid {W : World} (h : laidMetH Tryd.prog laid3 W) : GInv W := by
  rw [MakeChecks.laidMetH_plain _ _ _ (by kernel_rfl)] at h
  obtain ⟨ps, ⟨g0, t0, cs0, f0, p0, q0, hg0, ht0, hv0, hd0, ⟨g1, t1, cs1, f1, p1, q1, hg1, ht1, hv1, hd1, _, _⟩, _⟩, _, _⟩ := h
  obtain rfl := Option.some.inj ((show Tryd.prog.globalNamed "math._sin" = some 2 by kernel_rfl).symm.trans hg0)
  obtain rfl := Option.some.inj ((show Tryd.prog.globalNamed "math._cos" = some 1 by kernel_rfl).symm.trans hg1)
  obtain rfl := Option.some.inj ((show (Tryd.prog.globals[2]?).map (·.type) = some 107 by kernel_rfl).symm.trans ht0)
  obtain rfl := Option.some.inj ((show (Tryd.prog.globals[1]?).map (·.type) = some 107 by kernel_rfl).symm.trans ht1)
  have hu : Tryd.prog.underlying 107 = some (.array 6 94) := by kernel_rfl
  have he : Tryd.prog.underlying 94 = some (.float .f64) := by kernel_rfl
  have hc : Tryd.prog.cellsOf 94 = 1 := by kernel_rfl
  have a0 : ∀ i, i < 6 → cs0.toList[i]? = (sinC[i]?).map (Value.float .f64) := arr_at (L := sinC) hu he hc hd0
  have a1 : ∀ i, i < 6 → cs1.toList[i]? = (cosC[i]?).map (Value.float .f64) := arr_at (L := cosC) hu he hc hd1
  have c0 : ∀ i b, sinC[i]? = some b → W.cell? ⟨2, i, none⟩ = some (.float .f64 b) := by
    intro i b hb
    have hi : i < 6 := (List.getElem?_eq_some_iff.1 hb).1
    have := World.var?_cell hg0 hv0 i
    rw [this, ← Array.getElem?_toList, a0 i hi, hb]; rfl
  have c1 : ∀ i b, cosC[i]? = some b → W.cell? ⟨1, i, none⟩ = some (.float .f64 b) := by
    intro i b hb
    have hi : i < 6 := (List.getElem?_eq_some_iff.1 hb).1
    have := World.var?_cell hg1 hv1 i
    rw [this, ← Array.getElem?_toList, a1 i hi, hb]; rfl
  refine ⟨?_, fun ad u hu => ?_⟩
  · have h0 := c0 0 _ rfl
    unfold NG
    rcases Nat.lt_or_ge 2 W.heap.size with h | h
    · omega
    · simp [World.cell?, Array.getElem?_eq_none h] at h0
  · unfold ldG at hu
    split at hu
    · obtain ⟨b, hb, rfl⟩ := Option.map_eq_some_iff.1 hu
      exact c1 _ _ hb
    · obtain ⟨b, hb, rfl⟩ := Option.map_eq_some_iff.1 hu
      exact c0 _ _ hb
    · cases hu
end Go.Proofs.YtejiomhoflnboaaDoor

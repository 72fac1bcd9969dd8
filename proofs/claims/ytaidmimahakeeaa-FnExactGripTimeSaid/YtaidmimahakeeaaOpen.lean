/- The arguments of a law as they are read: what the walk is told of each. -/
import Derived.Test.YtaidmimahakeeaaBase
import Derived.Test.YtaidmimahakeeaaRows
import Derived.ProofKit
import Derived.OpenShut
import Derived.ChangeOld
import Derived.Deep.Slices
import Derived.Lib.SmallJoins
namespace Go.Proofs.Ytaidmimahakeeaa
open Go.ChangeShapes Go.WideShapes Go.ChangeAt Go.RowKit Go.Joins Go.Deep
section
variable {H : Type} {enc : TypeId × Value → H} {W : World} {base : Nat} {v : Value} {d : DataW H} {p : List MemPlace}
def IntArg (v : Value) (x : Int) : Prop := v = .int .i64 x ∧ -9223372036854775808 ≤ x ∧ x ≤ 9223372036854775807
theorem opn_int (hv : Value.okWide Try.prog W .any base 3 v) (h : DataW.Trod enc Try.prog W 0 (fun _ => true) true 3 v d p) : ∃ x, IntArg v x := by
  obtain ⟨x, rfl, rfl, rfl, wx⟩ := Go.ChangeShapes.open_int Try.underlying3 hv h
  have h1 : IntKind.i64.min = -9223372036854775808 := rfl
  have h2 : IntKind.i64.max = 9223372036854775807 := rfl
  simp only [Lit.wf, h1, h2, Bool.and_eq_true, decide_eq_true_eq] at wx
  exact ⟨x, rfl, wx.1, wx.2⟩
end
end Go.Proofs.Ytaidmimahakeeaa

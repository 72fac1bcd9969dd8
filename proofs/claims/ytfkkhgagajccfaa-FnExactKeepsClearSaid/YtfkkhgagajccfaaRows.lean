/-
  No cell of these rows narrows 'for every input' (looked for: loops, veiled, ifaces, maps, wideKeys, modest, calm, conditions, laid).
  DERIVED. THE GIVEN ROWS OF THIS SEAT. 10 by the template 'for every input the law returns true; each argument reads behind the call as it read before'; 0 by the template 'total and deterministic' (their statements: YtfkkhgagajccfaaTotals.lean).
  GIVEN WITH THE SEED: the statements are not yours to turn. If you find one false, say at which input.
  Laid BY PROGRAM, IN A SANDBOX (cutbox-rows.mjs): the forced cells as the released guide's own fill.sh prints them over the translation ecac5184eb3c77ba… (all of the seat's roots in one cut). By AI agents, Wed Nov 11 2026. No macro, syntax, notation, axiom, sorry.
-/
import Derived.Test.YtfkkhgagajccfaaChecked
import GoSem.Claim
import GoSem.ClaimJoined
import GoSem.ClaimMapViews
import Derived.JoinedTies
import Derived.KernelRfl
namespace Go.Proofs.Ytfkkhgagajccfaa
/- THE CELL 'sum', in the pinned program and in every row, IS THE sha256 OF THE DUMP (.gsa) THAT YtfkkhgagajccfaaProg.lean LOADS. Nothing in Lean hashes anything: it is a label: what it is worth is what the hold of that sum in a sandbox is worth. -/
noncomputable def Try.pinned : Pinned := { name := "ytfkkhgagajccfaa", sum := "ecac5184eb3c77ba7f1d1aae77958276d89f8fd76c0de17dad770436a9a29f4a", checked := Try.checked }
namespace Rows
def none {H : Type} : Left H := { results := [], args := [] }

/-- 'laws.FnExactConvexValid': WHATEVER THE INPUT: true; the input reads as it did. -/
def fnExactConvexValidSpec : ChangeSpec := { name := "fnExactConvexValid", fn := fun _ => fun
  | [d] => { results := [.lit (.bool true)], args := [d] }
  | _ => none }
def fnExactConvexValidRow : OpenClaim := { program := "ytfkkhgagajccfaa", sum := "ecac5184eb3c77ba7f1d1aae77958276d89f8fd76c0de17dad770436a9a29f4a", func := "loop.example/robotcell/laws.FnExactConvexValid", spec := "fnExactConvexValid", apart := false }
def FnExactConvexValidSaid : Prop := fnExactConvexValidRow.holds Try.pinned (OpenSpec.ofChange fnExactConvexValidSpec)

/-- ITS FALSE NEIGHBOUR: 'it returns false'. Refute it at one input. -/
def fnExactConvexValidWrong : ChangeSpec := { name := "fnExactConvexValid", fn := fun _ => fun
  | [d] => { results := [.lit (.bool false)], args := [d] }
  | _ => none }
def FnExactConvexValidWrongFalsely : Prop := fnExactConvexValidRow.holds Try.pinned (OpenSpec.ofChange fnExactConvexValidWrong)

/-- 'laws.FnExactDoubleArea': WHATEVER THE INPUT: true; the input reads as it did. -/
def fnExactDoubleAreaSpec : ChangeSpec := { name := "fnExactDoubleArea", fn := fun _ => fun
  | [d] => { results := [.lit (.bool true)], args := [d] }
  | _ => none }
def fnExactDoubleAreaRow : OpenClaim := { program := "ytfkkhgagajccfaa", sum := "ecac5184eb3c77ba7f1d1aae77958276d89f8fd76c0de17dad770436a9a29f4a", func := "loop.example/robotcell/laws.FnExactDoubleArea", spec := "fnExactDoubleArea", apart := false }
def FnExactDoubleAreaSaid : Prop := fnExactDoubleAreaRow.holds Try.pinned (OpenSpec.ofChange fnExactDoubleAreaSpec)

/-- ITS FALSE NEIGHBOUR: 'it returns false'. Refute it at one input. -/
def fnExactDoubleAreaWrong : ChangeSpec := { name := "fnExactDoubleArea", fn := fun _ => fun
  | [d] => { results := [.lit (.bool false)], args := [d] }
  | _ => none }
def FnExactDoubleAreaWrongFalsely : Prop := fnExactDoubleAreaRow.holds Try.pinned (OpenSpec.ofChange fnExactDoubleAreaWrong)

/-- 'laws.FnExactInsideConvex': WHATEVER THE INPUT: true; the input reads as it did. -/
def fnExactInsideConvexSpec : ChangeSpec := { name := "fnExactInsideConvex", fn := fun _ => fun
  | [d1, d2] => { results := [.lit (.bool true)], args := [d1, d2] }
  | _ => none }
def fnExactInsideConvexRow : OpenClaim := { program := "ytfkkhgagajccfaa", sum := "ecac5184eb3c77ba7f1d1aae77958276d89f8fd76c0de17dad770436a9a29f4a", func := "loop.example/robotcell/laws.FnExactInsideConvex", spec := "fnExactInsideConvex", apart := false }
def FnExactInsideConvexSaid : Prop := fnExactInsideConvexRow.holds Try.pinned (OpenSpec.ofChange fnExactInsideConvexSpec)

/-- ITS FALSE NEIGHBOUR: 'it returns false'. Refute it at one input. -/
def fnExactInsideConvexWrong : ChangeSpec := { name := "fnExactInsideConvex", fn := fun _ => fun
  | [d1, d2] => { results := [.lit (.bool false)], args := [d1, d2] }
  | _ => none }
def FnExactInsideConvexWrongFalsely : Prop := fnExactInsideConvexRow.holds Try.pinned (OpenSpec.ofChange fnExactInsideConvexWrong)

/-- 'laws.FnExactSceneValid': WHATEVER THE INPUT: true; the input reads as it did. -/
def fnExactSceneValidSpec : ChangeSpec := { name := "fnExactSceneValid", fn := fun _ => fun
  | [d] => { results := [.lit (.bool true)], args := [d] }
  | _ => none }
def fnExactSceneValidRow : OpenClaim := { program := "ytfkkhgagajccfaa", sum := "ecac5184eb3c77ba7f1d1aae77958276d89f8fd76c0de17dad770436a9a29f4a", func := "loop.example/robotcell/laws.FnExactSceneValid", spec := "fnExactSceneValid", unfollowed := true, recurses := true, apart := false }
def FnExactSceneValidSaid : Prop := fnExactSceneValidRow.holds Try.pinned (OpenSpec.ofChange fnExactSceneValidSpec)

/-- ITS FALSE NEIGHBOUR: 'it returns false'. Refute it at one input. -/
def fnExactSceneValidWrong : ChangeSpec := { name := "fnExactSceneValid", fn := fun _ => fun
  | [d] => { results := [.lit (.bool false)], args := [d] }
  | _ => none }
def FnExactSceneValidWrongFalsely : Prop := fnExactSceneValidRow.holds Try.pinned (OpenSpec.ofChange fnExactSceneValidWrong)

/-- 'laws.FnExactSegmentHits': WHATEVER THE INPUT: true; the input reads as it did. -/
def fnExactSegmentHitsSpec : ChangeSpec := { name := "fnExactSegmentHits", fn := fun _ => fun
  | [d1, d2, d3] => { results := [.lit (.bool true)], args := [d1, d2, d3] }
  | _ => none }
def fnExactSegmentHitsRow : OpenClaim := { program := "ytfkkhgagajccfaa", sum := "ecac5184eb3c77ba7f1d1aae77958276d89f8fd76c0de17dad770436a9a29f4a", func := "loop.example/robotcell/laws.FnExactSegmentHits", spec := "fnExactSegmentHits", apart := false }
def FnExactSegmentHitsSaid : Prop := fnExactSegmentHitsRow.holds Try.pinned (OpenSpec.ofChange fnExactSegmentHitsSpec)

/-- ITS FALSE NEIGHBOUR: 'it returns false'. Refute it at one input. -/
def fnExactSegmentHitsWrong : ChangeSpec := { name := "fnExactSegmentHits", fn := fun _ => fun
  | [d1, d2, d3] => { results := [.lit (.bool false)], args := [d1, d2, d3] }
  | _ => none }
def FnExactSegmentHitsWrongFalsely : Prop := fnExactSegmentHitsRow.holds Try.pinned (OpenSpec.ofChange fnExactSegmentHitsWrong)

/-- 'laws.FnExactPolygonSquare': WHATEVER THE INPUT: true; the input reads as it did. -/
def fnExactPolygonSquareSpec : ChangeSpec := { name := "fnExactPolygonSquare", fn := fun _ => fun
  | [d1, d2] => { results := [.lit (.bool true)], args := [d1, d2] }
  | _ => none }
def fnExactPolygonSquareRow : OpenClaim := { program := "ytfkkhgagajccfaa", sum := "ecac5184eb3c77ba7f1d1aae77958276d89f8fd76c0de17dad770436a9a29f4a", func := "loop.example/robotcell/laws.FnExactPolygonSquare", spec := "fnExactPolygonSquare", unfollowed := true, recurses := true, apart := false }
def FnExactPolygonSquareSaid : Prop := fnExactPolygonSquareRow.holds Try.pinned (OpenSpec.ofChange fnExactPolygonSquareSpec)

/-- ITS FALSE NEIGHBOUR: 'it returns false'. Refute it at one input. -/
def fnExactPolygonSquareWrong : ChangeSpec := { name := "fnExactPolygonSquare", fn := fun _ => fun
  | [d1, d2] => { results := [.lit (.bool false)], args := [d1, d2] }
  | _ => none }
def FnExactPolygonSquareWrongFalsely : Prop := fnExactPolygonSquareRow.holds Try.pinned (OpenSpec.ofChange fnExactPolygonSquareWrong)

/-- 'laws.FnExactConvexMeet': WHATEVER THE INPUT: true; the input reads as it did. -/
def fnExactConvexMeetSpec : ChangeSpec := { name := "fnExactConvexMeet", fn := fun _ => fun
  | [d1, d2] => { results := [.lit (.bool true)], args := [d1, d2] }
  | _ => none }
def fnExactConvexMeetRow : OpenClaim := { program := "ytfkkhgagajccfaa", sum := "ecac5184eb3c77ba7f1d1aae77958276d89f8fd76c0de17dad770436a9a29f4a", func := "loop.example/robotcell/laws.FnExactConvexMeet", spec := "fnExactConvexMeet", apart := false }
def FnExactConvexMeetSaid : Prop := fnExactConvexMeetRow.holds Try.pinned (OpenSpec.ofChange fnExactConvexMeetSpec)

/-- ITS FALSE NEIGHBOUR: 'it returns false'. Refute it at one input. -/
def fnExactConvexMeetWrong : ChangeSpec := { name := "fnExactConvexMeet", fn := fun _ => fun
  | [d1, d2] => { results := [.lit (.bool false)], args := [d1, d2] }
  | _ => none }
def FnExactConvexMeetWrongFalsely : Prop := fnExactConvexMeetRow.holds Try.pinned (OpenSpec.ofChange fnExactConvexMeetWrong)

/-- 'laws.FnExactKeepsClear': WHATEVER THE INPUT: true; the input reads as it did. -/
def fnExactKeepsClearSpec : ChangeSpec := { name := "fnExactKeepsClear", fn := fun _ => fun
  | [d1, d2, d3] => { results := [.lit (.bool true)], args := [d1, d2, d3] }
  | _ => none }
def fnExactKeepsClearRow : OpenClaim := { program := "ytfkkhgagajccfaa", sum := "ecac5184eb3c77ba7f1d1aae77958276d89f8fd76c0de17dad770436a9a29f4a", func := "loop.example/robotcell/laws.FnExactKeepsClear", spec := "fnExactKeepsClear", unfollowed := true, recurses := true, apart := false }
def FnExactKeepsClearSaid : Prop := fnExactKeepsClearRow.holds Try.pinned (OpenSpec.ofChange fnExactKeepsClearSpec)

/-- ITS FALSE NEIGHBOUR: 'it returns false'. Refute it at one input. -/
def fnExactKeepsClearWrong : ChangeSpec := { name := "fnExactKeepsClear", fn := fun _ => fun
  | [d1, d2, d3] => { results := [.lit (.bool false)], args := [d1, d2, d3] }
  | _ => none }
def FnExactKeepsClearWrongFalsely : Prop := fnExactKeepsClearRow.holds Try.pinned (OpenSpec.ofChange fnExactKeepsClearWrong)

/-- 'laws.FnExactHullOf': WHATEVER THE INPUT: true; the input reads as it did. -/
def fnExactHullOfSpec : ChangeSpec := { name := "fnExactHullOf", fn := fun _ => fun
  | [d] => { results := [.lit (.bool true)], args := [d] }
  | _ => none }
def fnExactHullOfRow : OpenClaim := { program := "ytfkkhgagajccfaa", sum := "ecac5184eb3c77ba7f1d1aae77958276d89f8fd76c0de17dad770436a9a29f4a", func := "loop.example/robotcell/laws.FnExactHullOf", spec := "fnExactHullOf", unfollowed := true, recurses := true, apart := false }
def FnExactHullOfSaid : Prop := fnExactHullOfRow.holds Try.pinned (OpenSpec.ofChange fnExactHullOfSpec)

/-- ITS FALSE NEIGHBOUR: 'it returns false'. Refute it at one input. -/
def fnExactHullOfWrong : ChangeSpec := { name := "fnExactHullOf", fn := fun _ => fun
  | [d] => { results := [.lit (.bool false)], args := [d] }
  | _ => none }
def FnExactHullOfWrongFalsely : Prop := fnExactHullOfRow.holds Try.pinned (OpenSpec.ofChange fnExactHullOfWrong)

/-- 'laws.FnOrientArea': WHATEVER THE INPUT: true; the input reads as it did. -/
def fnOrientAreaSpec : ChangeSpec := { name := "fnOrientArea", fn := fun _ => fun
  | [d] => { results := [.lit (.bool true)], args := [d] }
  | _ => none }
def fnOrientAreaRow : OpenClaim := { program := "ytfkkhgagajccfaa", sum := "ecac5184eb3c77ba7f1d1aae77958276d89f8fd76c0de17dad770436a9a29f4a", func := "loop.example/robotcell/laws.FnOrientArea", spec := "fnOrientArea", apart := false }
def FnOrientAreaSaid : Prop := fnOrientAreaRow.holds Try.pinned (OpenSpec.ofChange fnOrientAreaSpec)

/-- ITS FALSE NEIGHBOUR: 'it returns false'. Refute it at one input. -/
def fnOrientAreaWrong : ChangeSpec := { name := "fnOrientArea", fn := fun _ => fun
  | [d] => { results := [.lit (.bool false)], args := [d] }
  | _ => none }
def FnOrientAreaWrongFalsely : Prop := fnOrientAreaRow.holds Try.pinned (OpenSpec.ofChange fnOrientAreaWrong)

/- THE SECOND FORM. 'bulk': how many values and letters a reading holds, each counted each time it is reached (what is shared counts as often as it is met; a slice's spare places count too). A statement '..UptoSaid' is the law's where the arguments, and the package variables that the reading takes, are together of bulk at most 1048576: NARROWER than '..Said'. Prove '..Said' where nothing that the law and all that it calls make is longer than what came in: it says more and counts as full. Else prove '..UptoSaid'. A law counts once. -/
mutual
def uptoBulk {H : Type} : DataW H → Nat
  | .lit (.string bytes) => bytes.length + 1
  | .lit _ => 1
  | .nil => 1
  | .ptr d => uptoBulk d + 1
  | .slice elems spare => uptoBulkAll elems + uptoBulkAll spare + 1
  | .agg parts => uptoBulkAll parts + 1
  | .iface _ d => uptoBulk d + 1
  | .map entries => uptoBulkEntries entries + 1
  | .held _ => 1
def uptoBulkAll {H : Type} : List (DataW H) → Nat
  | [] => 0
  | d :: r => uptoBulk d + uptoBulkAll r
def uptoBulkEntries {H : Type} : List (Lit × DataW H) → Nat
  | [] => 0
  | x :: r => uptoBulkEntry x + uptoBulkEntries r
def uptoBulkEntry {H : Type} : Lit × DataW H → Nat
  | (.string bytes, d) => bytes.length + uptoBulk d + 1
  | (_, d) => uptoBulk d + 1
 end
def uptoSmall : (H : Type) → List (DataW H) → Bool := fun _ ds => decide (uptoBulkAll ds ≤ 1048576)
def OpenSpec.upto (s : _root_.Go.ChangeSpec) : _root_.Go.OpenSpec := { _root_.Go.OpenSpec.ofChange s with cond := some uptoSmall }

/-- 'laws.FnExactConvexValid', WHERE WHAT IT READS IS OF BULK AT MOST 1048576: true; the input reads as it did. -/
def fnExactConvexValidUptoRow : OpenClaim := { program := "ytfkkhgagajccfaa", sum := "ecac5184eb3c77ba7f1d1aae77958276d89f8fd76c0de17dad770436a9a29f4a", func := "loop.example/robotcell/laws.FnExactConvexValid", spec := "fnExactConvexValid", apart := false, narrowed := true }
def FnExactConvexValidUptoSaid : Prop := fnExactConvexValidUptoRow.holds Try.pinned (OpenSpec.upto fnExactConvexValidSpec)

/-- 'laws.FnExactDoubleArea', WHERE WHAT IT READS IS OF BULK AT MOST 1048576: true; the input reads as it did. -/
def fnExactDoubleAreaUptoRow : OpenClaim := { program := "ytfkkhgagajccfaa", sum := "ecac5184eb3c77ba7f1d1aae77958276d89f8fd76c0de17dad770436a9a29f4a", func := "loop.example/robotcell/laws.FnExactDoubleArea", spec := "fnExactDoubleArea", apart := false, narrowed := true }
def FnExactDoubleAreaUptoSaid : Prop := fnExactDoubleAreaUptoRow.holds Try.pinned (OpenSpec.upto fnExactDoubleAreaSpec)

/-- 'laws.FnExactInsideConvex', WHERE WHAT IT READS IS OF BULK AT MOST 1048576: true; the input reads as it did. -/
def fnExactInsideConvexUptoRow : OpenClaim := { program := "ytfkkhgagajccfaa", sum := "ecac5184eb3c77ba7f1d1aae77958276d89f8fd76c0de17dad770436a9a29f4a", func := "loop.example/robotcell/laws.FnExactInsideConvex", spec := "fnExactInsideConvex", apart := false, narrowed := true }
def FnExactInsideConvexUptoSaid : Prop := fnExactInsideConvexUptoRow.holds Try.pinned (OpenSpec.upto fnExactInsideConvexSpec)

/-- 'laws.FnExactSceneValid', WHERE WHAT IT READS IS OF BULK AT MOST 1048576: true; the input reads as it did. -/
def fnExactSceneValidUptoRow : OpenClaim := { program := "ytfkkhgagajccfaa", sum := "ecac5184eb3c77ba7f1d1aae77958276d89f8fd76c0de17dad770436a9a29f4a", func := "loop.example/robotcell/laws.FnExactSceneValid", spec := "fnExactSceneValid", unfollowed := true, recurses := true, apart := false, narrowed := true }
def FnExactSceneValidUptoSaid : Prop := fnExactSceneValidUptoRow.holds Try.pinned (OpenSpec.upto fnExactSceneValidSpec)

/-- 'laws.FnExactSegmentHits', WHERE WHAT IT READS IS OF BULK AT MOST 1048576: true; the input reads as it did. -/
def fnExactSegmentHitsUptoRow : OpenClaim := { program := "ytfkkhgagajccfaa", sum := "ecac5184eb3c77ba7f1d1aae77958276d89f8fd76c0de17dad770436a9a29f4a", func := "loop.example/robotcell/laws.FnExactSegmentHits", spec := "fnExactSegmentHits", apart := false, narrowed := true }
def FnExactSegmentHitsUptoSaid : Prop := fnExactSegmentHitsUptoRow.holds Try.pinned (OpenSpec.upto fnExactSegmentHitsSpec)

/-- 'laws.FnExactPolygonSquare', WHERE WHAT IT READS IS OF BULK AT MOST 1048576: true; the input reads as it did. -/
def fnExactPolygonSquareUptoRow : OpenClaim := { program := "ytfkkhgagajccfaa", sum := "ecac5184eb3c77ba7f1d1aae77958276d89f8fd76c0de17dad770436a9a29f4a", func := "loop.example/robotcell/laws.FnExactPolygonSquare", spec := "fnExactPolygonSquare", unfollowed := true, recurses := true, apart := false, narrowed := true }
def FnExactPolygonSquareUptoSaid : Prop := fnExactPolygonSquareUptoRow.holds Try.pinned (OpenSpec.upto fnExactPolygonSquareSpec)

/-- 'laws.FnExactConvexMeet', WHERE WHAT IT READS IS OF BULK AT MOST 1048576: true; the input reads as it did. -/
def fnExactConvexMeetUptoRow : OpenClaim := { program := "ytfkkhgagajccfaa", sum := "ecac5184eb3c77ba7f1d1aae77958276d89f8fd76c0de17dad770436a9a29f4a", func := "loop.example/robotcell/laws.FnExactConvexMeet", spec := "fnExactConvexMeet", apart := false, narrowed := true }
def FnExactConvexMeetUptoSaid : Prop := fnExactConvexMeetUptoRow.holds Try.pinned (OpenSpec.upto fnExactConvexMeetSpec)

/-- 'laws.FnExactKeepsClear', WHERE WHAT IT READS IS OF BULK AT MOST 1048576: true; the input reads as it did. -/
def fnExactKeepsClearUptoRow : OpenClaim := { program := "ytfkkhgagajccfaa", sum := "ecac5184eb3c77ba7f1d1aae77958276d89f8fd76c0de17dad770436a9a29f4a", func := "loop.example/robotcell/laws.FnExactKeepsClear", spec := "fnExactKeepsClear", unfollowed := true, recurses := true, apart := false, narrowed := true }
def FnExactKeepsClearUptoSaid : Prop := fnExactKeepsClearUptoRow.holds Try.pinned (OpenSpec.upto fnExactKeepsClearSpec)

/-- 'laws.FnExactHullOf', WHERE WHAT IT READS IS OF BULK AT MOST 1048576: true; the input reads as it did. -/
def fnExactHullOfUptoRow : OpenClaim := { program := "ytfkkhgagajccfaa", sum := "ecac5184eb3c77ba7f1d1aae77958276d89f8fd76c0de17dad770436a9a29f4a", func := "loop.example/robotcell/laws.FnExactHullOf", spec := "fnExactHullOf", unfollowed := true, recurses := true, apart := false, narrowed := true }
def FnExactHullOfUptoSaid : Prop := fnExactHullOfUptoRow.holds Try.pinned (OpenSpec.upto fnExactHullOfSpec)

/-- 'laws.FnOrientArea', WHERE WHAT IT READS IS OF BULK AT MOST 1048576: true; the input reads as it did. -/
def fnOrientAreaUptoRow : OpenClaim := { program := "ytfkkhgagajccfaa", sum := "ecac5184eb3c77ba7f1d1aae77958276d89f8fd76c0de17dad770436a9a29f4a", func := "loop.example/robotcell/laws.FnOrientArea", spec := "fnOrientArea", apart := false, narrowed := true }
def FnOrientAreaUptoSaid : Prop := fnOrientAreaUptoRow.holds Try.pinned (OpenSpec.upto fnOrientAreaSpec)

end Rows
end Go.Proofs.Ytfkkhgagajccfaa

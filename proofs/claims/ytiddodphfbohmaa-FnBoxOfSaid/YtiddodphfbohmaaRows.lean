/-
  No cell of these rows narrows 'for every input' (looked for: loops, veiled, ifaces, maps, wideKeys, modest, calm, conditions, laid).
  DERIVED. THE GIVEN ROWS OF THIS SEAT. 13 by the template 'for every input the law returns true; each argument reads behind the call as it read before'; 0 by the template 'total and deterministic' (their statements: YtiddodphfbohmaaTotals.lean).
  GIVEN WITH THE SEED: the statements are not yours to turn. If you find one false, say at which input.
  Laid BY PROGRAM, IN A SANDBOX (cutbox-rows.mjs): the forced cells as the released guide's own fill.sh prints them over the translation 0e912868743606a8… (all of the seat's roots in one cut). By AI agents, Wed Nov 11 2026. No macro, syntax, notation, axiom, sorry.
-/
import Derived.Test.YtiddodphfbohmaaChecked
import GoSem.Claim
import GoSem.ClaimJoined
import GoSem.ClaimMapViews
import Derived.JoinedTies
import Derived.KernelRfl
namespace Go.Proofs.Ytiddodphfbohmaa
/- THE CELL 'sum', in the pinned program and in every row, IS THE sha256 OF THE DUMP (.gsa) THAT YtiddodphfbohmaaProg.lean LOADS. Nothing in Lean hashes anything: it is a label: what it is worth is what the hold of that sum in a sandbox is worth. -/
noncomputable def Try.pinned : Pinned := { name := "ytiddodphfbohmaa", sum := "0e912868743606a8ec91746c6830b6139b37dd3123bacbf970969f5b9432ff94", checked := Try.checked }
namespace Rows
def none {H : Type} : Left H := { results := [], args := [] }

/-- 'laws.FnExactBoxOf': WHATEVER THE INPUT: true; the input reads as it did. -/
def fnExactBoxOfSpec : ChangeSpec := { name := "fnExactBoxOf", fn := fun _ => fun
  | [d] => { results := [.lit (.bool true)], args := [d] }
  | _ => none }
def fnExactBoxOfRow : OpenClaim := { program := "ytiddodphfbohmaa", sum := "0e912868743606a8ec91746c6830b6139b37dd3123bacbf970969f5b9432ff94", func := "loop.example/robotcell/laws.FnExactBoxOf", spec := "fnExactBoxOf", apart := false }
def FnExactBoxOfSaid : Prop := fnExactBoxOfRow.holds Try.pinned (OpenSpec.ofChange fnExactBoxOfSpec)

/-- ITS FALSE NEIGHBOUR: 'it returns false'. Refute it at one input. -/
def fnExactBoxOfWrong : ChangeSpec := { name := "fnExactBoxOf", fn := fun _ => fun
  | [d] => { results := [.lit (.bool false)], args := [d] }
  | _ => none }
def FnExactBoxOfWrongFalsely : Prop := fnExactBoxOfRow.holds Try.pinned (OpenSpec.ofChange fnExactBoxOfWrong)

/-- 'laws.FnBoxOf': WHATEVER THE INPUT: true; the input reads as it did. -/
def fnBoxOfSpec : ChangeSpec := { name := "fnBoxOf", fn := fun _ => fun
  | [d] => { results := [.lit (.bool true)], args := [d] }
  | _ => none }
def fnBoxOfRow : OpenClaim := { program := "ytiddodphfbohmaa", sum := "0e912868743606a8ec91746c6830b6139b37dd3123bacbf970969f5b9432ff94", func := "loop.example/robotcell/laws.FnBoxOf", spec := "fnBoxOf", apart := false }
def FnBoxOfSaid : Prop := fnBoxOfRow.holds Try.pinned (OpenSpec.ofChange fnBoxOfSpec)

/-- ITS FALSE NEIGHBOUR: 'it returns false'. Refute it at one input. -/
def fnBoxOfWrong : ChangeSpec := { name := "fnBoxOf", fn := fun _ => fun
  | [d] => { results := [.lit (.bool false)], args := [d] }
  | _ => none }
def FnBoxOfWrongFalsely : Prop := fnBoxOfRow.holds Try.pinned (OpenSpec.ofChange fnBoxOfWrong)

/-- 'laws.FnCurveValid': WHATEVER THE INPUT: true; the input reads as it did. -/
def fnCurveValidSpec : ChangeSpec := { name := "fnCurveValid", fn := fun _ => fun
  | [d] => { results := [.lit (.bool true)], args := [d] }
  | _ => none }
def fnCurveValidRow : OpenClaim := { program := "ytiddodphfbohmaa", sum := "0e912868743606a8ec91746c6830b6139b37dd3123bacbf970969f5b9432ff94", func := "loop.example/robotcell/laws.FnCurveValid", spec := "fnCurveValid", apart := false }
def FnCurveValidSaid : Prop := fnCurveValidRow.holds Try.pinned (OpenSpec.ofChange fnCurveValidSpec)

/-- ITS FALSE NEIGHBOUR: 'it returns false'. Refute it at one input. -/
def fnCurveValidWrong : ChangeSpec := { name := "fnCurveValid", fn := fun _ => fun
  | [d] => { results := [.lit (.bool false)], args := [d] }
  | _ => none }
def FnCurveValidWrongFalsely : Prop := fnCurveValidRow.holds Try.pinned (OpenSpec.ofChange fnCurveValidWrong)

/-- 'laws.FnExactCurvePoint': WHATEVER THE INPUT: true; the input reads as it did. -/
def fnExactCurvePointSpec : ChangeSpec := { name := "fnExactCurvePoint", fn := fun _ => fun
  | [d1, d2] => { results := [.lit (.bool true)], args := [d1, d2] }
  | _ => none }
def fnExactCurvePointRow : OpenClaim := { program := "ytiddodphfbohmaa", sum := "0e912868743606a8ec91746c6830b6139b37dd3123bacbf970969f5b9432ff94", func := "loop.example/robotcell/laws.FnExactCurvePoint", spec := "fnExactCurvePoint", apart := false }
def FnExactCurvePointSaid : Prop := fnExactCurvePointRow.holds Try.pinned (OpenSpec.ofChange fnExactCurvePointSpec)

/-- ITS FALSE NEIGHBOUR: 'it returns false'. Refute it at one input. -/
def fnExactCurvePointWrong : ChangeSpec := { name := "fnExactCurvePoint", fn := fun _ => fun
  | [d1, d2] => { results := [.lit (.bool false)], args := [d1, d2] }
  | _ => none }
def FnExactCurvePointWrongFalsely : Prop := fnExactCurvePointRow.holds Try.pinned (OpenSpec.ofChange fnExactCurvePointWrong)

/-- 'laws.FnExactCurvePoints': WHATEVER THE INPUT: true; the input reads as it did. -/
def fnExactCurvePointsSpec : ChangeSpec := { name := "fnExactCurvePoints", fn := fun _ => fun
  | [d1, d2] => { results := [.lit (.bool true)], args := [d1, d2] }
  | _ => none }
def fnExactCurvePointsRow : OpenClaim := { program := "ytiddodphfbohmaa", sum := "0e912868743606a8ec91746c6830b6139b37dd3123bacbf970969f5b9432ff94", func := "loop.example/robotcell/laws.FnExactCurvePoints", spec := "fnExactCurvePoints", apart := false }
def FnExactCurvePointsSaid : Prop := fnExactCurvePointsRow.holds Try.pinned (OpenSpec.ofChange fnExactCurvePointsSpec)

/-- ITS FALSE NEIGHBOUR: 'it returns false'. Refute it at one input. -/
def fnExactCurvePointsWrong : ChangeSpec := { name := "fnExactCurvePoints", fn := fun _ => fun
  | [d1, d2] => { results := [.lit (.bool false)], args := [d1, d2] }
  | _ => none }
def FnExactCurvePointsWrongFalsely : Prop := fnExactCurvePointsRow.holds Try.pinned (OpenSpec.ofChange fnExactCurvePointsWrong)

/-- 'laws.FnCurvePoint': WHATEVER THE INPUT: true; the input reads as it did. -/
def fnCurvePointSpec : ChangeSpec := { name := "fnCurvePoint", fn := fun _ => fun
  | [d] => { results := [.lit (.bool true)], args := [d] }
  | _ => none }
def fnCurvePointRow : OpenClaim := { program := "ytiddodphfbohmaa", sum := "0e912868743606a8ec91746c6830b6139b37dd3123bacbf970969f5b9432ff94", func := "loop.example/robotcell/laws.FnCurvePoint", spec := "fnCurvePoint", apart := false }
def FnCurvePointSaid : Prop := fnCurvePointRow.holds Try.pinned (OpenSpec.ofChange fnCurvePointSpec)

/-- ITS FALSE NEIGHBOUR: 'it returns false'. Refute it at one input. -/
def fnCurvePointWrong : ChangeSpec := { name := "fnCurvePoint", fn := fun _ => fun
  | [d] => { results := [.lit (.bool false)], args := [d] }
  | _ => none }
def FnCurvePointWrongFalsely : Prop := fnCurvePointRow.holds Try.pinned (OpenSpec.ofChange fnCurvePointWrong)

/-- 'laws.FnCurveLine': WHATEVER THE INPUT: true; the input reads as it did. -/
def fnCurveLineSpec : ChangeSpec := { name := "fnCurveLine", fn := fun _ => fun
  | [d] => { results := [.lit (.bool true)], args := [d] }
  | _ => none }
def fnCurveLineRow : OpenClaim := { program := "ytiddodphfbohmaa", sum := "0e912868743606a8ec91746c6830b6139b37dd3123bacbf970969f5b9432ff94", func := "loop.example/robotcell/laws.FnCurveLine", spec := "fnCurveLine", apart := false }
def FnCurveLineSaid : Prop := fnCurveLineRow.holds Try.pinned (OpenSpec.ofChange fnCurveLineSpec)

/-- ITS FALSE NEIGHBOUR: 'it returns false'. Refute it at one input. -/
def fnCurveLineWrong : ChangeSpec := { name := "fnCurveLine", fn := fun _ => fun
  | [d] => { results := [.lit (.bool false)], args := [d] }
  | _ => none }
def FnCurveLineWrongFalsely : Prop := fnCurveLineRow.holds Try.pinned (OpenSpec.ofChange fnCurveLineWrong)

/-- 'laws.FnCurvePoints': WHATEVER THE INPUT: true; the input reads as it did. -/
def fnCurvePointsSpec : ChangeSpec := { name := "fnCurvePoints", fn := fun _ => fun
  | [d] => { results := [.lit (.bool true)], args := [d] }
  | _ => none }
def fnCurvePointsRow : OpenClaim := { program := "ytiddodphfbohmaa", sum := "0e912868743606a8ec91746c6830b6139b37dd3123bacbf970969f5b9432ff94", func := "loop.example/robotcell/laws.FnCurvePoints", spec := "fnCurvePoints", apart := false }
def FnCurvePointsSaid : Prop := fnCurvePointsRow.holds Try.pinned (OpenSpec.ofChange fnCurvePointsSpec)

/-- ITS FALSE NEIGHBOUR: 'it returns false'. Refute it at one input. -/
def fnCurvePointsWrong : ChangeSpec := { name := "fnCurvePoints", fn := fun _ => fun
  | [d] => { results := [.lit (.bool false)], args := [d] }
  | _ => none }
def FnCurvePointsWrongFalsely : Prop := fnCurvePointsRow.holds Try.pinned (OpenSpec.ofChange fnCurvePointsWrong)

/-- 'laws.FnExactMoveJoints': WHATEVER THE INPUT: true; the input reads as it did. -/
def fnExactMoveJointsSpec : ChangeSpec := { name := "fnExactMoveJoints", fn := fun _ => fun
  | [d1, d2, d3, d4, d5] => { results := [.lit (.bool true)], args := [d1, d2, d3, d4, d5] }
  | _ => none }
def fnExactMoveJointsRow : OpenClaim := { program := "ytiddodphfbohmaa", sum := "0e912868743606a8ec91746c6830b6139b37dd3123bacbf970969f5b9432ff94", func := "loop.example/robotcell/laws.FnExactMoveJoints", spec := "fnExactMoveJoints", apart := false }
def FnExactMoveJointsSaid : Prop := fnExactMoveJointsRow.holds Try.pinned (OpenSpec.ofChange fnExactMoveJointsSpec)

/-- ITS FALSE NEIGHBOUR: 'it returns false'. Refute it at one input. -/
def fnExactMoveJointsWrong : ChangeSpec := { name := "fnExactMoveJoints", fn := fun _ => fun
  | [d1, d2, d3, d4, d5] => { results := [.lit (.bool false)], args := [d1, d2, d3, d4, d5] }
  | _ => none }
def FnExactMoveJointsWrongFalsely : Prop := fnExactMoveJointsRow.holds Try.pinned (OpenSpec.ofChange fnExactMoveJointsWrong)

/-- 'laws.FnMoveJoints': WHATEVER THE INPUT: true; the input reads as it did. -/
def fnMoveJointsSpec : ChangeSpec := { name := "fnMoveJoints", fn := fun _ => fun
  | [d] => { results := [.lit (.bool true)], args := [d] }
  | _ => none }
def fnMoveJointsRow : OpenClaim := { program := "ytiddodphfbohmaa", sum := "0e912868743606a8ec91746c6830b6139b37dd3123bacbf970969f5b9432ff94", func := "loop.example/robotcell/laws.FnMoveJoints", spec := "fnMoveJoints", apart := false }
def FnMoveJointsSaid : Prop := fnMoveJointsRow.holds Try.pinned (OpenSpec.ofChange fnMoveJointsSpec)

/-- ITS FALSE NEIGHBOUR: 'it returns false'. Refute it at one input. -/
def fnMoveJointsWrong : ChangeSpec := { name := "fnMoveJoints", fn := fun _ => fun
  | [d] => { results := [.lit (.bool false)], args := [d] }
  | _ => none }
def FnMoveJointsWrongFalsely : Prop := fnMoveJointsRow.holds Try.pinned (OpenSpec.ofChange fnMoveJointsWrong)

/-- 'laws.FnExactSegmentsMeet': WHATEVER THE INPUT: true; the input reads as it did. -/
def fnExactSegmentsMeetSpec : ChangeSpec := { name := "fnExactSegmentsMeet", fn := fun _ => fun
  | [d1, d2, d3, d4] => { results := [.lit (.bool true)], args := [d1, d2, d3, d4] }
  | _ => none }
def fnExactSegmentsMeetRow : OpenClaim := { program := "ytiddodphfbohmaa", sum := "0e912868743606a8ec91746c6830b6139b37dd3123bacbf970969f5b9432ff94", func := "loop.example/robotcell/laws.FnExactSegmentsMeet", spec := "fnExactSegmentsMeet", apart := false }
def FnExactSegmentsMeetSaid : Prop := fnExactSegmentsMeetRow.holds Try.pinned (OpenSpec.ofChange fnExactSegmentsMeetSpec)

/-- ITS FALSE NEIGHBOUR: 'it returns false'. Refute it at one input. -/
def fnExactSegmentsMeetWrong : ChangeSpec := { name := "fnExactSegmentsMeet", fn := fun _ => fun
  | [d1, d2, d3, d4] => { results := [.lit (.bool false)], args := [d1, d2, d3, d4] }
  | _ => none }
def FnExactSegmentsMeetWrongFalsely : Prop := fnExactSegmentsMeetRow.holds Try.pinned (OpenSpec.ofChange fnExactSegmentsMeetWrong)

/-- 'laws.FnSegmentsMeet': WHATEVER THE INPUT: true; the input reads as it did. -/
def fnSegmentsMeetSpec : ChangeSpec := { name := "fnSegmentsMeet", fn := fun _ => fun
  | [d] => { results := [.lit (.bool true)], args := [d] }
  | _ => none }
def fnSegmentsMeetRow : OpenClaim := { program := "ytiddodphfbohmaa", sum := "0e912868743606a8ec91746c6830b6139b37dd3123bacbf970969f5b9432ff94", func := "loop.example/robotcell/laws.FnSegmentsMeet", spec := "fnSegmentsMeet", apart := false }
def FnSegmentsMeetSaid : Prop := fnSegmentsMeetRow.holds Try.pinned (OpenSpec.ofChange fnSegmentsMeetSpec)

/-- ITS FALSE NEIGHBOUR: 'it returns false'. Refute it at one input. -/
def fnSegmentsMeetWrong : ChangeSpec := { name := "fnSegmentsMeet", fn := fun _ => fun
  | [d] => { results := [.lit (.bool false)], args := [d] }
  | _ => none }
def FnSegmentsMeetWrongFalsely : Prop := fnSegmentsMeetRow.holds Try.pinned (OpenSpec.ofChange fnSegmentsMeetWrong)

/-- 'laws.FnSegmentSquare': WHATEVER THE INPUT: true; the input reads as it did. -/
def fnSegmentSquareSpec : ChangeSpec := { name := "fnSegmentSquare", fn := fun _ => fun
  | [d] => { results := [.lit (.bool true)], args := [d] }
  | _ => none }
def fnSegmentSquareRow : OpenClaim := { program := "ytiddodphfbohmaa", sum := "0e912868743606a8ec91746c6830b6139b37dd3123bacbf970969f5b9432ff94", func := "loop.example/robotcell/laws.FnSegmentSquare", spec := "fnSegmentSquare", apart := false }
def FnSegmentSquareSaid : Prop := fnSegmentSquareRow.holds Try.pinned (OpenSpec.ofChange fnSegmentSquareSpec)

/-- ITS FALSE NEIGHBOUR: 'it returns false'. Refute it at one input. -/
def fnSegmentSquareWrong : ChangeSpec := { name := "fnSegmentSquare", fn := fun _ => fun
  | [d] => { results := [.lit (.bool false)], args := [d] }
  | _ => none }
def FnSegmentSquareWrongFalsely : Prop := fnSegmentSquareRow.holds Try.pinned (OpenSpec.ofChange fnSegmentSquareWrong)

/- THE SECOND FORM. 'bulk': how many values and letters a reading holds, each counted each time it is reached (what is shared counts as often as it is met; a slice's spare places count too). A statement '..UptoSaid' is the law's where the arguments, and the package variables that the reading takes, are together of bulk at most 1048576: NARROWER than '..Said'. Prove '..Said' where nothing that the law and all that it calls make is longer than what came in: it says more and counts as full. Else prove '..UptoSaid'. A law counts once. -/
mutual
def uptoBulk {H : Type} : DataW H → Nat
  | .lit (.string bytes) => bytes.length + 1
  | .lit _ => 1
  | .nil => 1
  | .ptr d => uptoBulk d + 1
  | .slice elems spare => uptoBulkAll elems + uptoBulkAll spare + 1
  | .agg parts => uptoBulkAll parts + 1
  | .iface _ d => uptoBulk d + 1
  | .map entries => uptoBulkEntries entries + 1
  | .held _ => 1
def uptoBulkAll {H : Type} : List (DataW H) → Nat
  | [] => 0
  | d :: r => uptoBulk d + uptoBulkAll r
def uptoBulkEntries {H : Type} : List (Lit × DataW H) → Nat
  | [] => 0
  | x :: r => uptoBulkEntry x + uptoBulkEntries r
def uptoBulkEntry {H : Type} : Lit × DataW H → Nat
  | (.string bytes, d) => bytes.length + uptoBulk d + 1
  | (_, d) => uptoBulk d + 1
 end
def uptoSmall : (H : Type) → List (DataW H) → Bool := fun _ ds => decide (uptoBulkAll ds ≤ 1048576)
def OpenSpec.upto (s : _root_.Go.ChangeSpec) : _root_.Go.OpenSpec := { _root_.Go.OpenSpec.ofChange s with cond := some uptoSmall }

/-- 'laws.FnExactBoxOf', WHERE WHAT IT READS IS OF BULK AT MOST 1048576: true; the input reads as it did. -/
def fnExactBoxOfUptoRow : OpenClaim := { program := "ytiddodphfbohmaa", sum := "0e912868743606a8ec91746c6830b6139b37dd3123bacbf970969f5b9432ff94", func := "loop.example/robotcell/laws.FnExactBoxOf", spec := "fnExactBoxOf", apart := false, narrowed := true }
def FnExactBoxOfUptoSaid : Prop := fnExactBoxOfUptoRow.holds Try.pinned (OpenSpec.upto fnExactBoxOfSpec)

/-- 'laws.FnBoxOf', WHERE WHAT IT READS IS OF BULK AT MOST 1048576: true; the input reads as it did. -/
def fnBoxOfUptoRow : OpenClaim := { program := "ytiddodphfbohmaa", sum := "0e912868743606a8ec91746c6830b6139b37dd3123bacbf970969f5b9432ff94", func := "loop.example/robotcell/laws.FnBoxOf", spec := "fnBoxOf", apart := false, narrowed := true }
def FnBoxOfUptoSaid : Prop := fnBoxOfUptoRow.holds Try.pinned (OpenSpec.upto fnBoxOfSpec)

/-- 'laws.FnCurveValid', WHERE WHAT IT READS IS OF BULK AT MOST 1048576: true; the input reads as it did. -/
def fnCurveValidUptoRow : OpenClaim := { program := "ytiddodphfbohmaa", sum := "0e912868743606a8ec91746c6830b6139b37dd3123bacbf970969f5b9432ff94", func := "loop.example/robotcell/laws.FnCurveValid", spec := "fnCurveValid", apart := false, narrowed := true }
def FnCurveValidUptoSaid : Prop := fnCurveValidUptoRow.holds Try.pinned (OpenSpec.upto fnCurveValidSpec)

/-- 'laws.FnExactCurvePoint', WHERE WHAT IT READS IS OF BULK AT MOST 1048576: true; the input reads as it did. -/
def fnExactCurvePointUptoRow : OpenClaim := { program := "ytiddodphfbohmaa", sum := "0e912868743606a8ec91746c6830b6139b37dd3123bacbf970969f5b9432ff94", func := "loop.example/robotcell/laws.FnExactCurvePoint", spec := "fnExactCurvePoint", apart := false, narrowed := true }
def FnExactCurvePointUptoSaid : Prop := fnExactCurvePointUptoRow.holds Try.pinned (OpenSpec.upto fnExactCurvePointSpec)

/-- 'laws.FnExactCurvePoints', WHERE WHAT IT READS IS OF BULK AT MOST 1048576: true; the input reads as it did. -/
def fnExactCurvePointsUptoRow : OpenClaim := { program := "ytiddodphfbohmaa", sum := "0e912868743606a8ec91746c6830b6139b37dd3123bacbf970969f5b9432ff94", func := "loop.example/robotcell/laws.FnExactCurvePoints", spec := "fnExactCurvePoints", apart := false, narrowed := true }
def FnExactCurvePointsUptoSaid : Prop := fnExactCurvePointsUptoRow.holds Try.pinned (OpenSpec.upto fnExactCurvePointsSpec)

/-- 'laws.FnCurvePoint', WHERE WHAT IT READS IS OF BULK AT MOST 1048576: true; the input reads as it did. -/
def fnCurvePointUptoRow : OpenClaim := { program := "ytiddodphfbohmaa", sum := "0e912868743606a8ec91746c6830b6139b37dd3123bacbf970969f5b9432ff94", func := "loop.example/robotcell/laws.FnCurvePoint", spec := "fnCurvePoint", apart := false, narrowed := true }
def FnCurvePointUptoSaid : Prop := fnCurvePointUptoRow.holds Try.pinned (OpenSpec.upto fnCurvePointSpec)

/-- 'laws.FnCurveLine', WHERE WHAT IT READS IS OF BULK AT MOST 1048576: true; the input reads as it did. -/
def fnCurveLineUptoRow : OpenClaim := { program := "ytiddodphfbohmaa", sum := "0e912868743606a8ec91746c6830b6139b37dd3123bacbf970969f5b9432ff94", func := "loop.example/robotcell/laws.FnCurveLine", spec := "fnCurveLine", apart := false, narrowed := true }
def FnCurveLineUptoSaid : Prop := fnCurveLineUptoRow.holds Try.pinned (OpenSpec.upto fnCurveLineSpec)

/-- 'laws.FnCurvePoints', WHERE WHAT IT READS IS OF BULK AT MOST 1048576: true; the input reads as it did. -/
def fnCurvePointsUptoRow : OpenClaim := { program := "ytiddodphfbohmaa", sum := "0e912868743606a8ec91746c6830b6139b37dd3123bacbf970969f5b9432ff94", func := "loop.example/robotcell/laws.FnCurvePoints", spec := "fnCurvePoints", apart := false, narrowed := true }
def FnCurvePointsUptoSaid : Prop := fnCurvePointsUptoRow.holds Try.pinned (OpenSpec.upto fnCurvePointsSpec)

/-- 'laws.FnExactMoveJoints', WHERE WHAT IT READS IS OF BULK AT MOST 1048576: true; the input reads as it did. -/
def fnExactMoveJointsUptoRow : OpenClaim := { program := "ytiddodphfbohmaa", sum := "0e912868743606a8ec91746c6830b6139b37dd3123bacbf970969f5b9432ff94", func := "loop.example/robotcell/laws.FnExactMoveJoints", spec := "fnExactMoveJoints", apart := false, narrowed := true }
def FnExactMoveJointsUptoSaid : Prop := fnExactMoveJointsUptoRow.holds Try.pinned (OpenSpec.upto fnExactMoveJointsSpec)

/-- 'laws.FnMoveJoints', WHERE WHAT IT READS IS OF BULK AT MOST 1048576: true; the input reads as it did. -/
def fnMoveJointsUptoRow : OpenClaim := { program := "ytiddodphfbohmaa", sum := "0e912868743606a8ec91746c6830b6139b37dd3123bacbf970969f5b9432ff94", func := "loop.example/robotcell/laws.FnMoveJoints", spec := "fnMoveJoints", apart := false, narrowed := true }
def FnMoveJointsUptoSaid : Prop := fnMoveJointsUptoRow.holds Try.pinned (OpenSpec.upto fnMoveJointsSpec)

/-- 'laws.FnExactSegmentsMeet', WHERE WHAT IT READS IS OF BULK AT MOST 1048576: true; the input reads as it did. -/
def fnExactSegmentsMeetUptoRow : OpenClaim := { program := "ytiddodphfbohmaa", sum := "0e912868743606a8ec91746c6830b6139b37dd3123bacbf970969f5b9432ff94", func := "loop.example/robotcell/laws.FnExactSegmentsMeet", spec := "fnExactSegmentsMeet", apart := false, narrowed := true }
def FnExactSegmentsMeetUptoSaid : Prop := fnExactSegmentsMeetUptoRow.holds Try.pinned (OpenSpec.upto fnExactSegmentsMeetSpec)

/-- 'laws.FnSegmentsMeet', WHERE WHAT IT READS IS OF BULK AT MOST 1048576: true; the input reads as it did. -/
def fnSegmentsMeetUptoRow : OpenClaim := { program := "ytiddodphfbohmaa", sum := "0e912868743606a8ec91746c6830b6139b37dd3123bacbf970969f5b9432ff94", func := "loop.example/robotcell/laws.FnSegmentsMeet", spec := "fnSegmentsMeet", apart := false, narrowed := true }
def FnSegmentsMeetUptoSaid : Prop := fnSegmentsMeetUptoRow.holds Try.pinned (OpenSpec.upto fnSegmentsMeetSpec)

/-- 'laws.FnSegmentSquare', WHERE WHAT IT READS IS OF BULK AT MOST 1048576: true; the input reads as it did. -/
def fnSegmentSquareUptoRow : OpenClaim := { program := "ytiddodphfbohmaa", sum := "0e912868743606a8ec91746c6830b6139b37dd3123bacbf970969f5b9432ff94", func := "loop.example/robotcell/laws.FnSegmentSquare", spec := "fnSegmentSquare", apart := false, narrowed := true }
def FnSegmentSquareUptoSaid : Prop := fnSegmentSquareUptoRow.holds Try.pinned (OpenSpec.upto fnSegmentSquareSpec)

end Rows
end Go.Proofs.Ytiddodphfbohmaa

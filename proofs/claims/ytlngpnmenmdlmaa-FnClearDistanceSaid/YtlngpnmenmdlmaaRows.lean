/-
  No cell of these rows narrows 'for every input' (looked for: loops, veiled, ifaces, maps, wideKeys, modest, calm, conditions, laid).
  DERIVED. THE GIVEN ROWS OF THIS SEAT. 11 by the template 'for every input the law returns true; each argument reads behind the call as it read before'; 0 by the template 'total and deterministic' (their statements: YtlngpnmenmdlmaaTotals.lean).
  GIVEN WITH THE SEED: the statements are not yours to turn. If you find one false, say at which input.
  Laid BY PROGRAM, IN A SANDBOX (cutbox-rows.mjs): the forced cells as the released guide's own fill.sh prints them over the translation b71ce493e546237a… (all of the seat's roots in one cut). By AI agents, Wed Nov 11 2026. No macro, syntax, notation, axiom, sorry.
-/
import Derived.Test.YtlngpnmenmdlmaaChecked
import GoSem.Claim
import GoSem.ClaimJoined
import GoSem.ClaimMapViews
import Derived.JoinedTies
import Derived.KernelRfl
namespace Go.Proofs.Ytlngpnmenmdlmaa
/- THE CELL 'sum', in the pinned program and in every row, IS THE sha256 OF THE DUMP (.gsa) THAT YtlngpnmenmdlmaaProg.lean LOADS. Nothing in Lean hashes anything: it is a label: what it is worth is what the hold of that sum in a sandbox is worth. -/
noncomputable def Try.pinned : Pinned := { name := "ytlngpnmenmdlmaa", sum := "b71ce493e546237a0321528ba7ece815f35e52511a726d600be872cbf9c3b327", checked := Try.checked }
namespace Rows
def none {H : Type} : Left H := { results := [], args := [] }

/-- 'laws.FnConvexValid': WHATEVER THE INPUT: true; the input reads as it did. -/
def fnConvexValidSpec : ChangeSpec := { name := "fnConvexValid", fn := fun _ => fun
  | [d] => { results := [.lit (.bool true)], args := [d] }
  | _ => none }
def fnConvexValidRow : OpenClaim := { program := "ytlngpnmenmdlmaa", sum := "b71ce493e546237a0321528ba7ece815f35e52511a726d600be872cbf9c3b327", func := "loop.example/robotcell/laws.FnConvexValid", spec := "fnConvexValid", apart := false }
def FnConvexValidSaid : Prop := fnConvexValidRow.holds Try.pinned (OpenSpec.ofChange fnConvexValidSpec)

/-- ITS FALSE NEIGHBOUR: 'it returns false'. Refute it at one input. -/
def fnConvexValidWrong : ChangeSpec := { name := "fnConvexValid", fn := fun _ => fun
  | [d] => { results := [.lit (.bool false)], args := [d] }
  | _ => none }
def FnConvexValidWrongFalsely : Prop := fnConvexValidRow.holds Try.pinned (OpenSpec.ofChange fnConvexValidWrong)

/-- 'laws.FnDoubleArea': WHATEVER THE INPUT: true; the input reads as it did. -/
def fnDoubleAreaSpec : ChangeSpec := { name := "fnDoubleArea", fn := fun _ => fun
  | [d] => { results := [.lit (.bool true)], args := [d] }
  | _ => none }
def fnDoubleAreaRow : OpenClaim := { program := "ytlngpnmenmdlmaa", sum := "b71ce493e546237a0321528ba7ece815f35e52511a726d600be872cbf9c3b327", func := "loop.example/robotcell/laws.FnDoubleArea", spec := "fnDoubleArea", apart := false }
def FnDoubleAreaSaid : Prop := fnDoubleAreaRow.holds Try.pinned (OpenSpec.ofChange fnDoubleAreaSpec)

/-- ITS FALSE NEIGHBOUR: 'it returns false'. Refute it at one input. -/
def fnDoubleAreaWrong : ChangeSpec := { name := "fnDoubleArea", fn := fun _ => fun
  | [d] => { results := [.lit (.bool false)], args := [d] }
  | _ => none }
def FnDoubleAreaWrongFalsely : Prop := fnDoubleAreaRow.holds Try.pinned (OpenSpec.ofChange fnDoubleAreaWrong)

/-- 'laws.FnSceneValid': WHATEVER THE INPUT: true; the input reads as it did. -/
def fnSceneValidSpec : ChangeSpec := { name := "fnSceneValid", fn := fun _ => fun
  | [d] => { results := [.lit (.bool true)], args := [d] }
  | _ => none }
def fnSceneValidRow : OpenClaim := { program := "ytlngpnmenmdlmaa", sum := "b71ce493e546237a0321528ba7ece815f35e52511a726d600be872cbf9c3b327", func := "loop.example/robotcell/laws.FnSceneValid", spec := "fnSceneValid", unfollowed := true, recurses := true, apart := false }
def FnSceneValidSaid : Prop := fnSceneValidRow.holds Try.pinned (OpenSpec.ofChange fnSceneValidSpec)

/-- ITS FALSE NEIGHBOUR: 'it returns false'. Refute it at one input. -/
def fnSceneValidWrong : ChangeSpec := { name := "fnSceneValid", fn := fun _ => fun
  | [d] => { results := [.lit (.bool false)], args := [d] }
  | _ => none }
def FnSceneValidWrongFalsely : Prop := fnSceneValidRow.holds Try.pinned (OpenSpec.ofChange fnSceneValidWrong)

/-- 'laws.FnInsideConvex': WHATEVER THE INPUT: true; the input reads as it did. -/
def fnInsideConvexSpec : ChangeSpec := { name := "fnInsideConvex", fn := fun _ => fun
  | [d] => { results := [.lit (.bool true)], args := [d] }
  | _ => none }
def fnInsideConvexRow : OpenClaim := { program := "ytlngpnmenmdlmaa", sum := "b71ce493e546237a0321528ba7ece815f35e52511a726d600be872cbf9c3b327", func := "loop.example/robotcell/laws.FnInsideConvex", spec := "fnInsideConvex", apart := false }
def FnInsideConvexSaid : Prop := fnInsideConvexRow.holds Try.pinned (OpenSpec.ofChange fnInsideConvexSpec)

/-- ITS FALSE NEIGHBOUR: 'it returns false'. Refute it at one input. -/
def fnInsideConvexWrong : ChangeSpec := { name := "fnInsideConvex", fn := fun _ => fun
  | [d] => { results := [.lit (.bool false)], args := [d] }
  | _ => none }
def FnInsideConvexWrongFalsely : Prop := fnInsideConvexRow.holds Try.pinned (OpenSpec.ofChange fnInsideConvexWrong)

/-- 'laws.FnConvexMeet': WHATEVER THE INPUT: true; the input reads as it did. -/
def fnConvexMeetSpec : ChangeSpec := { name := "fnConvexMeet", fn := fun _ => fun
  | [d] => { results := [.lit (.bool true)], args := [d] }
  | _ => none }
def fnConvexMeetRow : OpenClaim := { program := "ytlngpnmenmdlmaa", sum := "b71ce493e546237a0321528ba7ece815f35e52511a726d600be872cbf9c3b327", func := "loop.example/robotcell/laws.FnConvexMeet", spec := "fnConvexMeet", apart := false }
def FnConvexMeetSaid : Prop := fnConvexMeetRow.holds Try.pinned (OpenSpec.ofChange fnConvexMeetSpec)

/-- ITS FALSE NEIGHBOUR: 'it returns false'. Refute it at one input. -/
def fnConvexMeetWrong : ChangeSpec := { name := "fnConvexMeet", fn := fun _ => fun
  | [d] => { results := [.lit (.bool false)], args := [d] }
  | _ => none }
def FnConvexMeetWrongFalsely : Prop := fnConvexMeetRow.holds Try.pinned (OpenSpec.ofChange fnConvexMeetWrong)

/-- 'laws.FnSegmentHits': WHATEVER THE INPUT: true; the input reads as it did. -/
def fnSegmentHitsSpec : ChangeSpec := { name := "fnSegmentHits", fn := fun _ => fun
  | [d] => { results := [.lit (.bool true)], args := [d] }
  | _ => none }
def fnSegmentHitsRow : OpenClaim := { program := "ytlngpnmenmdlmaa", sum := "b71ce493e546237a0321528ba7ece815f35e52511a726d600be872cbf9c3b327", func := "loop.example/robotcell/laws.FnSegmentHits", spec := "fnSegmentHits", apart := false }
def FnSegmentHitsSaid : Prop := fnSegmentHitsRow.holds Try.pinned (OpenSpec.ofChange fnSegmentHitsSpec)

/-- ITS FALSE NEIGHBOUR: 'it returns false'. Refute it at one input. -/
def fnSegmentHitsWrong : ChangeSpec := { name := "fnSegmentHits", fn := fun _ => fun
  | [d] => { results := [.lit (.bool false)], args := [d] }
  | _ => none }
def FnSegmentHitsWrongFalsely : Prop := fnSegmentHitsRow.holds Try.pinned (OpenSpec.ofChange fnSegmentHitsWrong)

/-- 'laws.FnPolygonSquare': WHATEVER THE INPUT: true; the input reads as it did. -/
def fnPolygonSquareSpec : ChangeSpec := { name := "fnPolygonSquare", fn := fun _ => fun
  | [d] => { results := [.lit (.bool true)], args := [d] }
  | _ => none }
def fnPolygonSquareRow : OpenClaim := { program := "ytlngpnmenmdlmaa", sum := "b71ce493e546237a0321528ba7ece815f35e52511a726d600be872cbf9c3b327", func := "loop.example/robotcell/laws.FnPolygonSquare", spec := "fnPolygonSquare", unfollowed := true, recurses := true, apart := false }
def FnPolygonSquareSaid : Prop := fnPolygonSquareRow.holds Try.pinned (OpenSpec.ofChange fnPolygonSquareSpec)

/-- ITS FALSE NEIGHBOUR: 'it returns false'. Refute it at one input. -/
def fnPolygonSquareWrong : ChangeSpec := { name := "fnPolygonSquare", fn := fun _ => fun
  | [d] => { results := [.lit (.bool false)], args := [d] }
  | _ => none }
def FnPolygonSquareWrongFalsely : Prop := fnPolygonSquareRow.holds Try.pinned (OpenSpec.ofChange fnPolygonSquareWrong)

/-- 'laws.FnKeepsClear': WHATEVER THE INPUT: true; the input reads as it did. -/
def fnKeepsClearSpec : ChangeSpec := { name := "fnKeepsClear", fn := fun _ => fun
  | [d] => { results := [.lit (.bool true)], args := [d] }
  | _ => none }
def fnKeepsClearRow : OpenClaim := { program := "ytlngpnmenmdlmaa", sum := "b71ce493e546237a0321528ba7ece815f35e52511a726d600be872cbf9c3b327", func := "loop.example/robotcell/laws.FnKeepsClear", spec := "fnKeepsClear", unfollowed := true, recurses := true, apart := false }
def FnKeepsClearSaid : Prop := fnKeepsClearRow.holds Try.pinned (OpenSpec.ofChange fnKeepsClearSpec)

/-- ITS FALSE NEIGHBOUR: 'it returns false'. Refute it at one input. -/
def fnKeepsClearWrong : ChangeSpec := { name := "fnKeepsClear", fn := fun _ => fun
  | [d] => { results := [.lit (.bool false)], args := [d] }
  | _ => none }
def FnKeepsClearWrongFalsely : Prop := fnKeepsClearRow.holds Try.pinned (OpenSpec.ofChange fnKeepsClearWrong)

/-- 'laws.FnClearDistance': WHATEVER THE INPUT: true; the input reads as it did. -/
def fnClearDistanceSpec : ChangeSpec := { name := "fnClearDistance", fn := fun _ => fun
  | [d] => { results := [.lit (.bool true)], args := [d] }
  | _ => none }
def fnClearDistanceRow : OpenClaim := { program := "ytlngpnmenmdlmaa", sum := "b71ce493e546237a0321528ba7ece815f35e52511a726d600be872cbf9c3b327", func := "loop.example/robotcell/laws.FnClearDistance", spec := "fnClearDistance", inPlace := ["math.sqrt"], unfollowed := true, recurses := true, apart := false }
def FnClearDistanceSaid : Prop := fnClearDistanceRow.holds Try.pinned (OpenSpec.ofChange fnClearDistanceSpec)

/-- ITS FALSE NEIGHBOUR: 'it returns false'. Refute it at one input. -/
def fnClearDistanceWrong : ChangeSpec := { name := "fnClearDistance", fn := fun _ => fun
  | [d] => { results := [.lit (.bool false)], args := [d] }
  | _ => none }
def FnClearDistanceWrongFalsely : Prop := fnClearDistanceRow.holds Try.pinned (OpenSpec.ofChange fnClearDistanceWrong)

/-- 'laws.FnHullArea': WHATEVER THE INPUT: true; the input reads as it did. -/
def fnHullAreaSpec : ChangeSpec := { name := "fnHullArea", fn := fun _ => fun
  | [d] => { results := [.lit (.bool true)], args := [d] }
  | _ => none }
def fnHullAreaRow : OpenClaim := { program := "ytlngpnmenmdlmaa", sum := "b71ce493e546237a0321528ba7ece815f35e52511a726d600be872cbf9c3b327", func := "loop.example/robotcell/laws.FnHullArea", spec := "fnHullArea", unfollowed := true, recurses := true, apart := false }
def FnHullAreaSaid : Prop := fnHullAreaRow.holds Try.pinned (OpenSpec.ofChange fnHullAreaSpec)

/-- ITS FALSE NEIGHBOUR: 'it returns false'. Refute it at one input. -/
def fnHullAreaWrong : ChangeSpec := { name := "fnHullArea", fn := fun _ => fun
  | [d] => { results := [.lit (.bool false)], args := [d] }
  | _ => none }
def FnHullAreaWrongFalsely : Prop := fnHullAreaRow.holds Try.pinned (OpenSpec.ofChange fnHullAreaWrong)

/-- 'laws.FnHullOf': WHATEVER THE INPUT: true; the input reads as it did. -/
def fnHullOfSpec : ChangeSpec := { name := "fnHullOf", fn := fun _ => fun
  | [d] => { results := [.lit (.bool true)], args := [d] }
  | _ => none }
def fnHullOfRow : OpenClaim := { program := "ytlngpnmenmdlmaa", sum := "b71ce493e546237a0321528ba7ece815f35e52511a726d600be872cbf9c3b327", func := "loop.example/robotcell/laws.FnHullOf", spec := "fnHullOf", unfollowed := true, recurses := true, apart := false }
def FnHullOfSaid : Prop := fnHullOfRow.holds Try.pinned (OpenSpec.ofChange fnHullOfSpec)

/-- ITS FALSE NEIGHBOUR: 'it returns false'. Refute it at one input. -/
def fnHullOfWrong : ChangeSpec := { name := "fnHullOf", fn := fun _ => fun
  | [d] => { results := [.lit (.bool false)], args := [d] }
  | _ => none }
def FnHullOfWrongFalsely : Prop := fnHullOfRow.holds Try.pinned (OpenSpec.ofChange fnHullOfWrong)

/- THE SECOND FORM. 'bulk': how many values and letters a reading holds, each counted each time it is reached (what is shared counts as often as it is met; a slice's spare places count too). A statement '..UptoSaid' is the law's where the arguments, and the package variables that the reading takes, are together of bulk at most 1048576: NARROWER than '..Said'. Prove '..Said' where nothing that the law and all that it calls make is longer than what came in: it says more and counts as full. Else prove '..UptoSaid'. A law counts once. -/
mutual
def uptoBulk {H : Type} : DataW H → Nat
  | .lit (.string bytes) => bytes.length + 1
  | .lit _ => 1
  | .nil => 1
  | .ptr d => uptoBulk d + 1
  | .slice elems spare => uptoBulkAll elems + uptoBulkAll spare + 1
  | .agg parts => uptoBulkAll parts + 1
  | .iface _ d => uptoBulk d + 1
  | .map entries => uptoBulkEntries entries + 1
  | .held _ => 1
def uptoBulkAll {H : Type} : List (DataW H) → Nat
  | [] => 0
  | d :: r => uptoBulk d + uptoBulkAll r
def uptoBulkEntries {H : Type} : List (Lit × DataW H) → Nat
  | [] => 0
  | x :: r => uptoBulkEntry x + uptoBulkEntries r
def uptoBulkEntry {H : Type} : Lit × DataW H → Nat
  | (.string bytes, d) => bytes.length + uptoBulk d + 1
  | (_, d) => uptoBulk d + 1
 end
def uptoSmall : (H : Type) → List (DataW H) → Bool := fun _ ds => decide (uptoBulkAll ds ≤ 1048576)
def OpenSpec.upto (s : _root_.Go.ChangeSpec) : _root_.Go.OpenSpec := { _root_.Go.OpenSpec.ofChange s with cond := some uptoSmall }

/-- 'laws.FnConvexValid', WHERE WHAT IT READS IS OF BULK AT MOST 1048576: true; the input reads as it did. -/
def fnConvexValidUptoRow : OpenClaim := { program := "ytlngpnmenmdlmaa", sum := "b71ce493e546237a0321528ba7ece815f35e52511a726d600be872cbf9c3b327", func := "loop.example/robotcell/laws.FnConvexValid", spec := "fnConvexValid", apart := false, narrowed := true }
def FnConvexValidUptoSaid : Prop := fnConvexValidUptoRow.holds Try.pinned (OpenSpec.upto fnConvexValidSpec)

/-- 'laws.FnDoubleArea', WHERE WHAT IT READS IS OF BULK AT MOST 1048576: true; the input reads as it did. -/
def fnDoubleAreaUptoRow : OpenClaim := { program := "ytlngpnmenmdlmaa", sum := "b71ce493e546237a0321528ba7ece815f35e52511a726d600be872cbf9c3b327", func := "loop.example/robotcell/laws.FnDoubleArea", spec := "fnDoubleArea", apart := false, narrowed := true }
def FnDoubleAreaUptoSaid : Prop := fnDoubleAreaUptoRow.holds Try.pinned (OpenSpec.upto fnDoubleAreaSpec)

/-- 'laws.FnSceneValid', WHERE WHAT IT READS IS OF BULK AT MOST 1048576: true; the input reads as it did. -/
def fnSceneValidUptoRow : OpenClaim := { program := "ytlngpnmenmdlmaa", sum := "b71ce493e546237a0321528ba7ece815f35e52511a726d600be872cbf9c3b327", func := "loop.example/robotcell/laws.FnSceneValid", spec := "fnSceneValid", unfollowed := true, recurses := true, apart := false, narrowed := true }
def FnSceneValidUptoSaid : Prop := fnSceneValidUptoRow.holds Try.pinned (OpenSpec.upto fnSceneValidSpec)

/-- 'laws.FnInsideConvex', WHERE WHAT IT READS IS OF BULK AT MOST 1048576: true; the input reads as it did. -/
def fnInsideConvexUptoRow : OpenClaim := { program := "ytlngpnmenmdlmaa", sum := "b71ce493e546237a0321528ba7ece815f35e52511a726d600be872cbf9c3b327", func := "loop.example/robotcell/laws.FnInsideConvex", spec := "fnInsideConvex", apart := false, narrowed := true }
def FnInsideConvexUptoSaid : Prop := fnInsideConvexUptoRow.holds Try.pinned (OpenSpec.upto fnInsideConvexSpec)

/-- 'laws.FnConvexMeet', WHERE WHAT IT READS IS OF BULK AT MOST 1048576: true; the input reads as it did. -/
def fnConvexMeetUptoRow : OpenClaim := { program := "ytlngpnmenmdlmaa", sum := "b71ce493e546237a0321528ba7ece815f35e52511a726d600be872cbf9c3b327", func := "loop.example/robotcell/laws.FnConvexMeet", spec := "fnConvexMeet", apart := false, narrowed := true }
def FnConvexMeetUptoSaid : Prop := fnConvexMeetUptoRow.holds Try.pinned (OpenSpec.upto fnConvexMeetSpec)

/-- 'laws.FnSegmentHits', WHERE WHAT IT READS IS OF BULK AT MOST 1048576: true; the input reads as it did. -/
def fnSegmentHitsUptoRow : OpenClaim := { program := "ytlngpnmenmdlmaa", sum := "b71ce493e546237a0321528ba7ece815f35e52511a726d600be872cbf9c3b327", func := "loop.example/robotcell/laws.FnSegmentHits", spec := "fnSegmentHits", apart := false, narrowed := true }
def FnSegmentHitsUptoSaid : Prop := fnSegmentHitsUptoRow.holds Try.pinned (OpenSpec.upto fnSegmentHitsSpec)

/-- 'laws.FnPolygonSquare', WHERE WHAT IT READS IS OF BULK AT MOST 1048576: true; the input reads as it did. -/
def fnPolygonSquareUptoRow : OpenClaim := { program := "ytlngpnmenmdlmaa", sum := "b71ce493e546237a0321528ba7ece815f35e52511a726d600be872cbf9c3b327", func := "loop.example/robotcell/laws.FnPolygonSquare", spec := "fnPolygonSquare", unfollowed := true, recurses := true, apart := false, narrowed := true }
def FnPolygonSquareUptoSaid : Prop := fnPolygonSquareUptoRow.holds Try.pinned (OpenSpec.upto fnPolygonSquareSpec)

/-- 'laws.FnKeepsClear', WHERE WHAT IT READS IS OF BULK AT MOST 1048576: true; the input reads as it did. -/
def fnKeepsClearUptoRow : OpenClaim := { program := "ytlngpnmenmdlmaa", sum := "b71ce493e546237a0321528ba7ece815f35e52511a726d600be872cbf9c3b327", func := "loop.example/robotcell/laws.FnKeepsClear", spec := "fnKeepsClear", unfollowed := true, recurses := true, apart := false, narrowed := true }
def FnKeepsClearUptoSaid : Prop := fnKeepsClearUptoRow.holds Try.pinned (OpenSpec.upto fnKeepsClearSpec)

/-- 'laws.FnClearDistance', WHERE WHAT IT READS IS OF BULK AT MOST 1048576: true; the input reads as it did. -/
def fnClearDistanceUptoRow : OpenClaim := { program := "ytlngpnmenmdlmaa", sum := "b71ce493e546237a0321528ba7ece815f35e52511a726d600be872cbf9c3b327", func := "loop.example/robotcell/laws.FnClearDistance", spec := "fnClearDistance", inPlace := ["math.sqrt"], unfollowed := true, recurses := true, apart := false, narrowed := true }
def FnClearDistanceUptoSaid : Prop := fnClearDistanceUptoRow.holds Try.pinned (OpenSpec.upto fnClearDistanceSpec)

/-- 'laws.FnHullArea', WHERE WHAT IT READS IS OF BULK AT MOST 1048576: true; the input reads as it did. -/
def fnHullAreaUptoRow : OpenClaim := { program := "ytlngpnmenmdlmaa", sum := "b71ce493e546237a0321528ba7ece815f35e52511a726d600be872cbf9c3b327", func := "loop.example/robotcell/laws.FnHullArea", spec := "fnHullArea", unfollowed := true, recurses := true, apart := false, narrowed := true }
def FnHullAreaUptoSaid : Prop := fnHullAreaUptoRow.holds Try.pinned (OpenSpec.upto fnHullAreaSpec)

/-- 'laws.FnHullOf', WHERE WHAT IT READS IS OF BULK AT MOST 1048576: true; the input reads as it did. -/
def fnHullOfUptoRow : OpenClaim := { program := "ytlngpnmenmdlmaa", sum := "b71ce493e546237a0321528ba7ece815f35e52511a726d600be872cbf9c3b327", func := "loop.example/robotcell/laws.FnHullOf", spec := "fnHullOf", unfollowed := true, recurses := true, apart := false, narrowed := true }
def FnHullOfUptoSaid : Prop := fnHullOfUptoRow.holds Try.pinned (OpenSpec.upto fnHullOfSpec)

end Rows
end Go.Proofs.Ytlngpnmenmdlmaa

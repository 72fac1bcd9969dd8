/-
  No cell of these rows narrows 'for every input' (looked for: loops, veiled, ifaces, maps, wideKeys, modest, calm, conditions, laid).
  DERIVED. THE GIVEN ROWS OF THIS SEAT. 9 by the template 'for every input the law returns true; each argument reads behind the call as it read before'; 0 by the template 'total and deterministic' (their statements: YtdpokkegkedlfaaTotals.lean).
  GIVEN WITH THE SEED: the statements are not yours to turn. If you find one false, say at which input.
  Laid BY PROGRAM, IN A SANDBOX (cutbox-rows.mjs): the forced cells as the released guide's own fill.sh prints them over the translation baea264529fd12e2… (all of the seat's roots in one cut). By AI agents, Wed Nov 11 2026. No macro, syntax, notation, axiom, sorry.
-/
import Derived.Test.YtdpokkegkedlfaaChecked
import GoSem.Claim
import GoSem.ClaimJoined
import GoSem.ClaimMapViews
import Derived.JoinedTies
import Derived.KernelRfl
namespace Go.Proofs.Ytdpokkegkedlfaa
/- THE CELL 'sum', in the pinned program and in every row, IS THE sha256 OF THE DUMP (.gsa) THAT YtdpokkegkedlfaaProg.lean LOADS. Nothing in Lean hashes anything: it is a label: what it is worth is what the hold of that sum in a sandbox is worth. -/
noncomputable def Try.pinned : Pinned := { name := "ytdpokkegkedlfaa", sum := "baea264529fd12e2baae1bbe3c286af334ac0549b813aac7e5a19269dad05d91", checked := Try.checked }
namespace Rows
def none {H : Type} : Left H := { results := [], args := [] }

/-- 'laws.FnExactPlanPath': WHATEVER THE INPUT: true; the input reads as it did. -/
def fnExactPlanPathSpec : ChangeSpec := { name := "fnExactPlanPath", fn := fun _ => fun
  | [d1, d2, d3] => { results := [.lit (.bool true)], args := [d1, d2, d3] }
  | _ => none }
def fnExactPlanPathRow : OpenClaim := { program := "ytdpokkegkedlfaa", sum := "baea264529fd12e2baae1bbe3c286af334ac0549b813aac7e5a19269dad05d91", func := "loop.example/robotcell/laws.FnExactPlanPath", spec := "fnExactPlanPath", plainKeys := false, apart := false }
def FnExactPlanPathSaid : Prop := fnExactPlanPathRow.holds Try.pinned (OpenSpec.ofChange fnExactPlanPathSpec)

/-- ITS FALSE NEIGHBOUR: 'it returns false'. Refute it at one input. -/
def fnExactPlanPathWrong : ChangeSpec := { name := "fnExactPlanPath", fn := fun _ => fun
  | [d1, d2, d3] => { results := [.lit (.bool false)], args := [d1, d2, d3] }
  | _ => none }
def FnExactPlanPathWrongFalsely : Prop := fnExactPlanPathRow.holds Try.pinned (OpenSpec.ofChange fnExactPlanPathWrong)

/-- 'laws.FnPlanPath': WHATEVER THE INPUT: true; the input reads as it did. -/
def fnPlanPathSpec : ChangeSpec := { name := "fnPlanPath", fn := fun _ => fun
  | [d] => { results := [.lit (.bool true)], args := [d] }
  | _ => none }
def fnPlanPathRow : OpenClaim := { program := "ytdpokkegkedlfaa", sum := "baea264529fd12e2baae1bbe3c286af334ac0549b813aac7e5a19269dad05d91", func := "loop.example/robotcell/laws.FnPlanPath", spec := "fnPlanPath", plainKeys := false, apart := false }
def FnPlanPathSaid : Prop := fnPlanPathRow.holds Try.pinned (OpenSpec.ofChange fnPlanPathSpec)

/-- ITS FALSE NEIGHBOUR: 'it returns false'. Refute it at one input. -/
def fnPlanPathWrong : ChangeSpec := { name := "fnPlanPath", fn := fun _ => fun
  | [d] => { results := [.lit (.bool false)], args := [d] }
  | _ => none }
def FnPlanPathWrongFalsely : Prop := fnPlanPathRow.holds Try.pinned (OpenSpec.ofChange fnPlanPathWrong)

/-- 'laws.FnPlanMonotone': WHATEVER THE INPUT: true; the input reads as it did. -/
def fnPlanMonotoneSpec : ChangeSpec := { name := "fnPlanMonotone", fn := fun _ => fun
  | [d] => { results := [.lit (.bool true)], args := [d] }
  | _ => none }
def fnPlanMonotoneRow : OpenClaim := { program := "ytdpokkegkedlfaa", sum := "baea264529fd12e2baae1bbe3c286af334ac0549b813aac7e5a19269dad05d91", func := "loop.example/robotcell/laws.FnPlanMonotone", spec := "fnPlanMonotone", plainKeys := false, apart := false }
def FnPlanMonotoneSaid : Prop := fnPlanMonotoneRow.holds Try.pinned (OpenSpec.ofChange fnPlanMonotoneSpec)

/-- ITS FALSE NEIGHBOUR: 'it returns false'. Refute it at one input. -/
def fnPlanMonotoneWrong : ChangeSpec := { name := "fnPlanMonotone", fn := fun _ => fun
  | [d] => { results := [.lit (.bool false)], args := [d] }
  | _ => none }
def FnPlanMonotoneWrongFalsely : Prop := fnPlanMonotoneRow.holds Try.pinned (OpenSpec.ofChange fnPlanMonotoneWrong)

/-- 'laws.FnPathValid': WHATEVER THE INPUT: true; the input reads as it did. -/
def fnPathValidSpec : ChangeSpec := { name := "fnPathValid", fn := fun _ => fun
  | [d] => { results := [.lit (.bool true)], args := [d] }
  | _ => none }
def fnPathValidRow : OpenClaim := { program := "ytdpokkegkedlfaa", sum := "baea264529fd12e2baae1bbe3c286af334ac0549b813aac7e5a19269dad05d91", func := "loop.example/robotcell/laws.FnPathValid", spec := "fnPathValid", plainKeys := false, apart := false }
def FnPathValidSaid : Prop := fnPathValidRow.holds Try.pinned (OpenSpec.ofChange fnPathValidSpec)

/-- ITS FALSE NEIGHBOUR: 'it returns false'. Refute it at one input. -/
def fnPathValidWrong : ChangeSpec := { name := "fnPathValid", fn := fun _ => fun
  | [d] => { results := [.lit (.bool false)], args := [d] }
  | _ => none }
def FnPathValidWrongFalsely : Prop := fnPathValidRow.holds Try.pinned (OpenSpec.ofChange fnPathValidWrong)

/-- 'laws.FnExactCellJoints': WHATEVER THE INPUT: true; the input reads as it did. -/
def fnExactCellJointsSpec : ChangeSpec := { name := "fnExactCellJoints", fn := fun _ => fun
  | [d1, d2, d3] => { results := [.lit (.bool true)], args := [d1, d2, d3] }
  | _ => none }
def fnExactCellJointsRow : OpenClaim := { program := "ytdpokkegkedlfaa", sum := "baea264529fd12e2baae1bbe3c286af334ac0549b813aac7e5a19269dad05d91", func := "loop.example/robotcell/laws.FnExactCellJoints", spec := "fnExactCellJoints", plainKeys := false, apart := false }
def FnExactCellJointsSaid : Prop := fnExactCellJointsRow.holds Try.pinned (OpenSpec.ofChange fnExactCellJointsSpec)

/-- ITS FALSE NEIGHBOUR: 'it returns false'. Refute it at one input. -/
def fnExactCellJointsWrong : ChangeSpec := { name := "fnExactCellJoints", fn := fun _ => fun
  | [d1, d2, d3] => { results := [.lit (.bool false)], args := [d1, d2, d3] }
  | _ => none }
def FnExactCellJointsWrongFalsely : Prop := fnExactCellJointsRow.holds Try.pinned (OpenSpec.ofChange fnExactCellJointsWrong)

/-- 'laws.FnExactMoveJoints': WHATEVER THE INPUT: true; the input reads as it did. -/
def fnExactMoveJointsSpec : ChangeSpec := { name := "fnExactMoveJoints", fn := fun _ => fun
  | [d1, d2, d3, d4, d5] => { results := [.lit (.bool true)], args := [d1, d2, d3, d4, d5] }
  | _ => none }
def fnExactMoveJointsRow : OpenClaim := { program := "ytdpokkegkedlfaa", sum := "baea264529fd12e2baae1bbe3c286af334ac0549b813aac7e5a19269dad05d91", func := "loop.example/robotcell/laws.FnExactMoveJoints", spec := "fnExactMoveJoints", plainKeys := false, apart := false }
def FnExactMoveJointsSaid : Prop := fnExactMoveJointsRow.holds Try.pinned (OpenSpec.ofChange fnExactMoveJointsSpec)

/-- ITS FALSE NEIGHBOUR: 'it returns false'. Refute it at one input. -/
def fnExactMoveJointsWrong : ChangeSpec := { name := "fnExactMoveJoints", fn := fun _ => fun
  | [d1, d2, d3, d4, d5] => { results := [.lit (.bool false)], args := [d1, d2, d3, d4, d5] }
  | _ => none }
def FnExactMoveJointsWrongFalsely : Prop := fnExactMoveJointsRow.holds Try.pinned (OpenSpec.ofChange fnExactMoveJointsWrong)

/-- 'laws.FnExactHullOf': WHATEVER THE INPUT: true; the input reads as it did. -/
def fnExactHullOfSpec : ChangeSpec := { name := "fnExactHullOf", fn := fun _ => fun
  | [d] => { results := [.lit (.bool true)], args := [d] }
  | _ => none }
def fnExactHullOfRow : OpenClaim := { program := "ytdpokkegkedlfaa", sum := "baea264529fd12e2baae1bbe3c286af334ac0549b813aac7e5a19269dad05d91", func := "loop.example/robotcell/laws.FnExactHullOf", spec := "fnExactHullOf", unfollowed := true, recurses := true, plainKeys := false, apart := false }
def FnExactHullOfSaid : Prop := fnExactHullOfRow.holds Try.pinned (OpenSpec.ofChange fnExactHullOfSpec)

/-- ITS FALSE NEIGHBOUR: 'it returns false'. Refute it at one input. -/
def fnExactHullOfWrong : ChangeSpec := { name := "fnExactHullOf", fn := fun _ => fun
  | [d] => { results := [.lit (.bool false)], args := [d] }
  | _ => none }
def FnExactHullOfWrongFalsely : Prop := fnExactHullOfRow.holds Try.pinned (OpenSpec.ofChange fnExactHullOfWrong)

/-- 'laws.FnHullArea': WHATEVER THE INPUT: true; the input reads as it did. -/
def fnHullAreaSpec : ChangeSpec := { name := "fnHullArea", fn := fun _ => fun
  | [d] => { results := [.lit (.bool true)], args := [d] }
  | _ => none }
def fnHullAreaRow : OpenClaim := { program := "ytdpokkegkedlfaa", sum := "baea264529fd12e2baae1bbe3c286af334ac0549b813aac7e5a19269dad05d91", func := "loop.example/robotcell/laws.FnHullArea", spec := "fnHullArea", unfollowed := true, recurses := true, plainKeys := false, apart := false }
def FnHullAreaSaid : Prop := fnHullAreaRow.holds Try.pinned (OpenSpec.ofChange fnHullAreaSpec)

/-- ITS FALSE NEIGHBOUR: 'it returns false'. Refute it at one input. -/
def fnHullAreaWrong : ChangeSpec := { name := "fnHullArea", fn := fun _ => fun
  | [d] => { results := [.lit (.bool false)], args := [d] }
  | _ => none }
def FnHullAreaWrongFalsely : Prop := fnHullAreaRow.holds Try.pinned (OpenSpec.ofChange fnHullAreaWrong)

/-- 'laws.FnHullOf': WHATEVER THE INPUT: true; the input reads as it did. -/
def fnHullOfSpec : ChangeSpec := { name := "fnHullOf", fn := fun _ => fun
  | [d] => { results := [.lit (.bool true)], args := [d] }
  | _ => none }
def fnHullOfRow : OpenClaim := { program := "ytdpokkegkedlfaa", sum := "baea264529fd12e2baae1bbe3c286af334ac0549b813aac7e5a19269dad05d91", func := "loop.example/robotcell/laws.FnHullOf", spec := "fnHullOf", unfollowed := true, recurses := true, plainKeys := false, apart := false }
def FnHullOfSaid : Prop := fnHullOfRow.holds Try.pinned (OpenSpec.ofChange fnHullOfSpec)

/-- ITS FALSE NEIGHBOUR: 'it returns false'. Refute it at one input. -/
def fnHullOfWrong : ChangeSpec := { name := "fnHullOf", fn := fun _ => fun
  | [d] => { results := [.lit (.bool false)], args := [d] }
  | _ => none }
def FnHullOfWrongFalsely : Prop := fnHullOfRow.holds Try.pinned (OpenSpec.ofChange fnHullOfWrong)

/- THE SECOND FORM. 'bulk': how many values and letters a reading holds, each counted each time it is reached (what is shared counts as often as it is met; a slice's spare places count too). A statement '..UptoSaid' is the law's where the arguments, and the package variables that the reading takes, are together of bulk at most 1048576: NARROWER than '..Said'. Prove '..Said' where nothing that the law and all that it calls make is longer than what came in: it says more and counts as full. Else prove '..UptoSaid'. A law counts once. -/
mutual
def uptoBulk {H : Type} : DataW H → Nat
  | .lit (.string bytes) => bytes.length + 1
  | .lit _ => 1
  | .nil => 1
  | .ptr d => uptoBulk d + 1
  | .slice elems spare => uptoBulkAll elems + uptoBulkAll spare + 1
  | .agg parts => uptoBulkAll parts + 1
  | .iface _ d => uptoBulk d + 1
  | .map entries => uptoBulkEntries entries + 1
  | .held _ => 1
def uptoBulkAll {H : Type} : List (DataW H) → Nat
  | [] => 0
  | d :: r => uptoBulk d + uptoBulkAll r
def uptoBulkEntries {H : Type} : List (Lit × DataW H) → Nat
  | [] => 0
  | x :: r => uptoBulkEntry x + uptoBulkEntries r
def uptoBulkEntry {H : Type} : Lit × DataW H → Nat
  | (.string bytes, d) => bytes.length + uptoBulk d + 1
  | (_, d) => uptoBulk d + 1
 end
def uptoSmall : (H : Type) → List (DataW H) → Bool := fun _ ds => decide (uptoBulkAll ds ≤ 1048576)
def OpenSpec.upto (s : _root_.Go.ChangeSpec) : _root_.Go.OpenSpec := { _root_.Go.OpenSpec.ofChange s with cond := some uptoSmall }

/-- 'laws.FnExactPlanPath', WHERE WHAT IT READS IS OF BULK AT MOST 1048576: true; the input reads as it did. -/
def fnExactPlanPathUptoRow : OpenClaim := { program := "ytdpokkegkedlfaa", sum := "baea264529fd12e2baae1bbe3c286af334ac0549b813aac7e5a19269dad05d91", func := "loop.example/robotcell/laws.FnExactPlanPath", spec := "fnExactPlanPath", plainKeys := false, apart := false, narrowed := true }
def FnExactPlanPathUptoSaid : Prop := fnExactPlanPathUptoRow.holds Try.pinned (OpenSpec.upto fnExactPlanPathSpec)

/-- 'laws.FnPlanPath', WHERE WHAT IT READS IS OF BULK AT MOST 1048576: true; the input reads as it did. -/
def fnPlanPathUptoRow : OpenClaim := { program := "ytdpokkegkedlfaa", sum := "baea264529fd12e2baae1bbe3c286af334ac0549b813aac7e5a19269dad05d91", func := "loop.example/robotcell/laws.FnPlanPath", spec := "fnPlanPath", plainKeys := false, apart := false, narrowed := true }
def FnPlanPathUptoSaid : Prop := fnPlanPathUptoRow.holds Try.pinned (OpenSpec.upto fnPlanPathSpec)

/-- 'laws.FnPlanMonotone', WHERE WHAT IT READS IS OF BULK AT MOST 1048576: true; the input reads as it did. -/
def fnPlanMonotoneUptoRow : OpenClaim := { program := "ytdpokkegkedlfaa", sum := "baea264529fd12e2baae1bbe3c286af334ac0549b813aac7e5a19269dad05d91", func := "loop.example/robotcell/laws.FnPlanMonotone", spec := "fnPlanMonotone", plainKeys := false, apart := false, narrowed := true }
def FnPlanMonotoneUptoSaid : Prop := fnPlanMonotoneUptoRow.holds Try.pinned (OpenSpec.upto fnPlanMonotoneSpec)

/-- 'laws.FnPathValid', WHERE WHAT IT READS IS OF BULK AT MOST 1048576: true; the input reads as it did. -/
def fnPathValidUptoRow : OpenClaim := { program := "ytdpokkegkedlfaa", sum := "baea264529fd12e2baae1bbe3c286af334ac0549b813aac7e5a19269dad05d91", func := "loop.example/robotcell/laws.FnPathValid", spec := "fnPathValid", plainKeys := false, apart := false, narrowed := true }
def FnPathValidUptoSaid : Prop := fnPathValidUptoRow.holds Try.pinned (OpenSpec.upto fnPathValidSpec)

/-- 'laws.FnExactCellJoints', WHERE WHAT IT READS IS OF BULK AT MOST 1048576: true; the input reads as it did. -/
def fnExactCellJointsUptoRow : OpenClaim := { program := "ytdpokkegkedlfaa", sum := "baea264529fd12e2baae1bbe3c286af334ac0549b813aac7e5a19269dad05d91", func := "loop.example/robotcell/laws.FnExactCellJoints", spec := "fnExactCellJoints", plainKeys := false, apart := false, narrowed := true }
def FnExactCellJointsUptoSaid : Prop := fnExactCellJointsUptoRow.holds Try.pinned (OpenSpec.upto fnExactCellJointsSpec)

/-- 'laws.FnExactMoveJoints', WHERE WHAT IT READS IS OF BULK AT MOST 1048576: true; the input reads as it did. -/
def fnExactMoveJointsUptoRow : OpenClaim := { program := "ytdpokkegkedlfaa", sum := "baea264529fd12e2baae1bbe3c286af334ac0549b813aac7e5a19269dad05d91", func := "loop.example/robotcell/laws.FnExactMoveJoints", spec := "fnExactMoveJoints", plainKeys := false, apart := false, narrowed := true }
def FnExactMoveJointsUptoSaid : Prop := fnExactMoveJointsUptoRow.holds Try.pinned (OpenSpec.upto fnExactMoveJointsSpec)

/-- 'laws.FnExactHullOf', WHERE WHAT IT READS IS OF BULK AT MOST 1048576: true; the input reads as it did. -/
def fnExactHullOfUptoRow : OpenClaim := { program := "ytdpokkegkedlfaa", sum := "baea264529fd12e2baae1bbe3c286af334ac0549b813aac7e5a19269dad05d91", func := "loop.example/robotcell/laws.FnExactHullOf", spec := "fnExactHullOf", unfollowed := true, recurses := true, plainKeys := false, apart := false, narrowed := true }
def FnExactHullOfUptoSaid : Prop := fnExactHullOfUptoRow.holds Try.pinned (OpenSpec.upto fnExactHullOfSpec)

/-- 'laws.FnHullArea', WHERE WHAT IT READS IS OF BULK AT MOST 1048576: true; the input reads as it did. -/
def fnHullAreaUptoRow : OpenClaim := { program := "ytdpokkegkedlfaa", sum := "baea264529fd12e2baae1bbe3c286af334ac0549b813aac7e5a19269dad05d91", func := "loop.example/robotcell/laws.FnHullArea", spec := "fnHullArea", unfollowed := true, recurses := true, plainKeys := false, apart := false, narrowed := true }
def FnHullAreaUptoSaid : Prop := fnHullAreaUptoRow.holds Try.pinned (OpenSpec.upto fnHullAreaSpec)

/-- 'laws.FnHullOf', WHERE WHAT IT READS IS OF BULK AT MOST 1048576: true; the input reads as it did. -/
def fnHullOfUptoRow : OpenClaim := { program := "ytdpokkegkedlfaa", sum := "baea264529fd12e2baae1bbe3c286af334ac0549b813aac7e5a19269dad05d91", func := "loop.example/robotcell/laws.FnHullOf", spec := "fnHullOf", unfollowed := true, recurses := true, plainKeys := false, apart := false, narrowed := true }
def FnHullOfUptoSaid : Prop := fnHullOfUptoRow.holds Try.pinned (OpenSpec.upto fnHullOfSpec)

end Rows
end Go.Proofs.Ytdpokkegkedlfaa

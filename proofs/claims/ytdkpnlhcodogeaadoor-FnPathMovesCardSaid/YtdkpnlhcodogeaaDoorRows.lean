/-
  NARROWER THAN 'FOR EVERY INPUT', by the rows' own cells (each row's printed sentence says how): FnFreeCells: laid · FnExactFreeCells: laid · FnPathMoves: laid · FnExactArcPoints: laid · FnArcPoints: laid · FnExactSelfClear: laid · FnSelfClear: laid · FnExactArmClear: laid · FnExactFirstContact: laid · FnArmClear: laid · FnFirstContact: laid.
  DERIVED. THE GIVEN ROWS OF THIS SEAT. 11 by the template 'for every input the law returns true; each argument reads behind the call as it read before'; 0 by the template 'total and deterministic' (their statements: YtdkpnlhcodogeaaDoorTotals.lean).
  GIVEN WITH THE SEED: the statements are not yours to turn. If you find one false, say at which input.
  Laid BY PROGRAM, IN A SANDBOX (cutbox-rows.mjs): the forced cells as the released guide's own fill.sh prints them over the translation 1979b9ca6c79ea98… (all of the seat's roots in one cut). By AI agents, Wed Nov 11 2026. No macro, syntax, notation, axiom, sorry.
-/
import Derived.Test.YtdkpnlhcodogeaaDoorChecked
import GoSem.Claim
import GoSem.ClaimJoined
import GoSem.ClaimMapViews
import Derived.JoinedTies
import Derived.KernelRfl
namespace Go.Proofs.YtdkpnlhcodogeaaDoor
/- THE CELL 'sum', in the pinned program and in every row, IS THE sha256 OF THE DUMP (.gsa) THAT YtdkpnlhcodogeaaDoorProg.lean LOADS. Nothing in Lean hashes anything: it is a label: what it is worth is what the hold of that sum in a sandbox is worth. -/
noncomputable def Tryd.pinned : Pinned := { name := "ytdkpnlhcodogeaadoor", sum := "1979b9ca6c79ea980fbf83d03c6312e77c88d8694eae72a9f99be174590b2b81", checked := Tryd.checked }
namespace Rows
def none {H : Type} : Left H := { results := [], args := [] }

/- WHAT THE LISTED PACKAGE-LEVEL VARIABLES READ AS WHEN THE CALL BEGINS. Each datum BY PROGRAM (the guide's laid-datum.mjs) off the statement by which the dump's own 'gosem.cut.vars' lays the variable. In a bare row this is a premise. The card (YtdkpnlhcodogeaaDoorCards.lean) ties it to the program's text. -/
def laid_math_sin {H : Type} : DataW H := .agg [.lit (.float .f64 4460209587652500685), .lit (.float .f64 13716528389658582877), .lit (.float .f64 4523617212962785441), .lit (.float .f64 13774824197404483331), .lit (.float .f64 4575957461383575504), .lit (.float .f64 13818544856648471880)]
def laid_math_cos {H : Type} : DataW H := .agg [.lit (.float .f64 13666448263388469915), .lit (.float .f64 4477121864728985349), .lit (.float .f64 13732177093698800582), .lit (.float .f64 4537941361668146421), .lit (.float .f64 13787419979223748497), .lit (.float .f64 4586165620538955083)]
def laid_math_mPi4 {H : Type} : DataW H := .agg [.lit (.int .u64 1), .lit (.int .u64 5040379952546458195), .lit (.int .u64 17892431488136887169), .lit (.int .u64 13169980181085364355), .lit (.int .u64 18204331823439776451), .lit (.int .u64 7946843935494350272), .lit (.int .u64 905889640498799673), .lit (.int .u64 18175356263134875261), .lit (.int .u64 15061281708168349961), .lit (.int .u64 15220161563773041794), .lit (.int .u64 8296664548579374057), .lit (.int .u64 4109744767560208502), .lit (.int .u64 4607516669194743839), .lit (.int .u64 16023283104648321598), .lit (.int .u64 15739233654134936430), .lit (.int .u64 11424645774684705882), .lit (.int .u64 16883842788696515318), .lit (.int .u64 8795094592981902804), .lit (.int .u64 15561835991111744016), .lit (.int .u64 12395701187267450711)]

/-- 'laws.FnFreeCells': WHATEVER THE INPUT: true; the input reads as it did. -/
def fnFreeCellsSpec : ChangeSpec := { name := "fnFreeCells", fn := fun _ => fun
  | [d] => { results := [.lit (.bool true)], args := [d] }
  | _ => none }
def fnFreeCellsRow : OpenClaim := { program := "ytdkpnlhcodogeaadoor", sum := "1979b9ca6c79ea980fbf83d03c6312e77c88d8694eae72a9f99be174590b2b81", func := "loop.example/robotcell/laws.FnFreeCells", spec := "fnFreeCells", inPlace := ["math.Float64bits", "math.Float64frombits", "math/bits.Add64"], unfollowed := true, recurses := true, named := ["math._cos", "math._sin", "math.mPi4"], plainKeys := false, apart := false, laid := [("math._sin", laid_math_sin), ("math._cos", laid_math_cos), ("math.mPi4", laid_math_mPi4)] }
def FnFreeCellsSaid : Prop := fnFreeCellsRow.holds Tryd.pinned (OpenSpec.ofChange fnFreeCellsSpec)

/-- ITS FALSE NEIGHBOUR: 'it returns false'. Refute it at one input. -/
def fnFreeCellsWrong : ChangeSpec := { name := "fnFreeCells", fn := fun _ => fun
  | [d] => { results := [.lit (.bool false)], args := [d] }
  | _ => none }
def FnFreeCellsWrongFalsely : Prop := fnFreeCellsRow.holds Tryd.pinned (OpenSpec.ofChange fnFreeCellsWrong)

/-- 'laws.FnExactFreeCells': WHATEVER THE INPUT: true; the input reads as it did. -/
def fnExactFreeCellsSpec : ChangeSpec := { name := "fnExactFreeCells", fn := fun _ => fun
  | [d1, d2, d3] => { results := [.lit (.bool true)], args := [d1, d2, d3] }
  | _ => none }
def fnExactFreeCellsRow : OpenClaim := { program := "ytdkpnlhcodogeaadoor", sum := "1979b9ca6c79ea980fbf83d03c6312e77c88d8694eae72a9f99be174590b2b81", func := "loop.example/robotcell/laws.FnExactFreeCells", spec := "fnExactFreeCells", inPlace := ["math.Float64bits", "math.Float64frombits", "math/bits.Add64"], unfollowed := true, recurses := true, named := ["math._cos", "math._sin", "math.mPi4"], plainKeys := false, apart := false, laid := [("math._sin", laid_math_sin), ("math._cos", laid_math_cos), ("math.mPi4", laid_math_mPi4)] }
def FnExactFreeCellsSaid : Prop := fnExactFreeCellsRow.holds Tryd.pinned (OpenSpec.ofChange fnExactFreeCellsSpec)

/-- ITS FALSE NEIGHBOUR: 'it returns false'. Refute it at one input. -/
def fnExactFreeCellsWrong : ChangeSpec := { name := "fnExactFreeCells", fn := fun _ => fun
  | [d1, d2, d3] => { results := [.lit (.bool false)], args := [d1, d2, d3] }
  | _ => none }
def FnExactFreeCellsWrongFalsely : Prop := fnExactFreeCellsRow.holds Tryd.pinned (OpenSpec.ofChange fnExactFreeCellsWrong)

/-- 'laws.FnPathMoves': WHATEVER THE INPUT: true; the input reads as it did. -/
def fnPathMovesSpec : ChangeSpec := { name := "fnPathMoves", fn := fun _ => fun
  | [d1, d2] => { results := [.lit (.bool true)], args := [d1, d2] }
  | _ => none }
def fnPathMovesRow : OpenClaim := { program := "ytdkpnlhcodogeaadoor", sum := "1979b9ca6c79ea980fbf83d03c6312e77c88d8694eae72a9f99be174590b2b81", func := "loop.example/robotcell/laws.FnPathMoves", spec := "fnPathMoves", inPlace := ["math.Float64bits", "math.Float64frombits", "math/bits.Add64"], unfollowed := true, recurses := true, named := ["math._cos", "math._sin", "math.mPi4"], plainKeys := false, apart := false, laid := [("math._sin", laid_math_sin), ("math._cos", laid_math_cos), ("math.mPi4", laid_math_mPi4)] }
def FnPathMovesSaid : Prop := fnPathMovesRow.holds Tryd.pinned (OpenSpec.ofChange fnPathMovesSpec)

/-- ITS FALSE NEIGHBOUR: 'it returns false'. Refute it at one input. -/
def fnPathMovesWrong : ChangeSpec := { name := "fnPathMoves", fn := fun _ => fun
  | [d1, d2] => { results := [.lit (.bool false)], args := [d1, d2] }
  | _ => none }
def FnPathMovesWrongFalsely : Prop := fnPathMovesRow.holds Tryd.pinned (OpenSpec.ofChange fnPathMovesWrong)

/-- 'laws.FnExactArcPoints': WHATEVER THE INPUT: true; the input reads as it did. -/
def fnExactArcPointsSpec : ChangeSpec := { name := "fnExactArcPoints", fn := fun _ => fun
  | [d1, d2, d3, d4, d5] => { results := [.lit (.bool true)], args := [d1, d2, d3, d4, d5] }
  | _ => none }
def fnExactArcPointsRow : OpenClaim := { program := "ytdkpnlhcodogeaadoor", sum := "1979b9ca6c79ea980fbf83d03c6312e77c88d8694eae72a9f99be174590b2b81", func := "loop.example/robotcell/laws.FnExactArcPoints", spec := "fnExactArcPoints", inPlace := ["math.Float64bits", "math.Float64frombits", "math/bits.Add64"], named := ["math._cos", "math._sin", "math.mPi4"], plainKeys := false, apart := false, laid := [("math._sin", laid_math_sin), ("math._cos", laid_math_cos), ("math.mPi4", laid_math_mPi4)] }
def FnExactArcPointsSaid : Prop := fnExactArcPointsRow.holds Tryd.pinned (OpenSpec.ofChange fnExactArcPointsSpec)

/-- ITS FALSE NEIGHBOUR: 'it returns false'. Refute it at one input. -/
def fnExactArcPointsWrong : ChangeSpec := { name := "fnExactArcPoints", fn := fun _ => fun
  | [d1, d2, d3, d4, d5] => { results := [.lit (.bool false)], args := [d1, d2, d3, d4, d5] }
  | _ => none }
def FnExactArcPointsWrongFalsely : Prop := fnExactArcPointsRow.holds Tryd.pinned (OpenSpec.ofChange fnExactArcPointsWrong)

/-- 'laws.FnArcPoints': WHATEVER THE INPUT: true; the input reads as it did. -/
def fnArcPointsSpec : ChangeSpec := { name := "fnArcPoints", fn := fun _ => fun
  | [d] => { results := [.lit (.bool true)], args := [d] }
  | _ => none }
def fnArcPointsRow : OpenClaim := { program := "ytdkpnlhcodogeaadoor", sum := "1979b9ca6c79ea980fbf83d03c6312e77c88d8694eae72a9f99be174590b2b81", func := "loop.example/robotcell/laws.FnArcPoints", spec := "fnArcPoints", inPlace := ["math.Float64bits", "math.Float64frombits", "math/bits.Add64"], named := ["math._cos", "math._sin", "math.mPi4"], plainKeys := false, apart := false, laid := [("math._sin", laid_math_sin), ("math._cos", laid_math_cos), ("math.mPi4", laid_math_mPi4)] }
def FnArcPointsSaid : Prop := fnArcPointsRow.holds Tryd.pinned (OpenSpec.ofChange fnArcPointsSpec)

/-- ITS FALSE NEIGHBOUR: 'it returns false'. Refute it at one input. -/
def fnArcPointsWrong : ChangeSpec := { name := "fnArcPoints", fn := fun _ => fun
  | [d] => { results := [.lit (.bool false)], args := [d] }
  | _ => none }
def FnArcPointsWrongFalsely : Prop := fnArcPointsRow.holds Tryd.pinned (OpenSpec.ofChange fnArcPointsWrong)

/-- 'laws.FnExactSelfClear': WHATEVER THE INPUT: true; the input reads as it did. -/
def fnExactSelfClearSpec : ChangeSpec := { name := "fnExactSelfClear", fn := fun _ => fun
  | [d1, d2] => { results := [.lit (.bool true)], args := [d1, d2] }
  | _ => none }
def fnExactSelfClearRow : OpenClaim := { program := "ytdkpnlhcodogeaadoor", sum := "1979b9ca6c79ea980fbf83d03c6312e77c88d8694eae72a9f99be174590b2b81", func := "loop.example/robotcell/laws.FnExactSelfClear", spec := "fnExactSelfClear", inPlace := ["math.Float64bits", "math.Float64frombits", "math/bits.Add64"], named := ["math._cos", "math._sin", "math.mPi4"], plainKeys := false, apart := false, laid := [("math._sin", laid_math_sin), ("math._cos", laid_math_cos), ("math.mPi4", laid_math_mPi4)] }
def FnExactSelfClearSaid : Prop := fnExactSelfClearRow.holds Tryd.pinned (OpenSpec.ofChange fnExactSelfClearSpec)

/-- ITS FALSE NEIGHBOUR: 'it returns false'. Refute it at one input. -/
def fnExactSelfClearWrong : ChangeSpec := { name := "fnExactSelfClear", fn := fun _ => fun
  | [d1, d2] => { results := [.lit (.bool false)], args := [d1, d2] }
  | _ => none }
def FnExactSelfClearWrongFalsely : Prop := fnExactSelfClearRow.holds Tryd.pinned (OpenSpec.ofChange fnExactSelfClearWrong)

/-- 'laws.FnSelfClear': WHATEVER THE INPUT: true; the input reads as it did. -/
def fnSelfClearSpec : ChangeSpec := { name := "fnSelfClear", fn := fun _ => fun
  | [d] => { results := [.lit (.bool true)], args := [d] }
  | _ => none }
def fnSelfClearRow : OpenClaim := { program := "ytdkpnlhcodogeaadoor", sum := "1979b9ca6c79ea980fbf83d03c6312e77c88d8694eae72a9f99be174590b2b81", func := "loop.example/robotcell/laws.FnSelfClear", spec := "fnSelfClear", inPlace := ["math.Float64bits", "math.Float64frombits", "math/bits.Add64"], named := ["math._cos", "math._sin", "math.mPi4"], plainKeys := false, apart := false, laid := [("math._sin", laid_math_sin), ("math._cos", laid_math_cos), ("math.mPi4", laid_math_mPi4)] }
def FnSelfClearSaid : Prop := fnSelfClearRow.holds Tryd.pinned (OpenSpec.ofChange fnSelfClearSpec)

/-- ITS FALSE NEIGHBOUR: 'it returns false'. Refute it at one input. -/
def fnSelfClearWrong : ChangeSpec := { name := "fnSelfClear", fn := fun _ => fun
  | [d] => { results := [.lit (.bool false)], args := [d] }
  | _ => none }
def FnSelfClearWrongFalsely : Prop := fnSelfClearRow.holds Tryd.pinned (OpenSpec.ofChange fnSelfClearWrong)

/-- 'laws.FnExactArmClear': WHATEVER THE INPUT: true; the input reads as it did. -/
def fnExactArmClearSpec : ChangeSpec := { name := "fnExactArmClear", fn := fun _ => fun
  | [d1, d2, d3] => { results := [.lit (.bool true)], args := [d1, d2, d3] }
  | _ => none }
def fnExactArmClearRow : OpenClaim := { program := "ytdkpnlhcodogeaadoor", sum := "1979b9ca6c79ea980fbf83d03c6312e77c88d8694eae72a9f99be174590b2b81", func := "loop.example/robotcell/laws.FnExactArmClear", spec := "fnExactArmClear", inPlace := ["math.Float64bits", "math.Float64frombits", "math/bits.Add64"], unfollowed := true, recurses := true, named := ["math._cos", "math._sin", "math.mPi4"], plainKeys := false, apart := false, laid := [("math._sin", laid_math_sin), ("math._cos", laid_math_cos), ("math.mPi4", laid_math_mPi4)] }
def FnExactArmClearSaid : Prop := fnExactArmClearRow.holds Tryd.pinned (OpenSpec.ofChange fnExactArmClearSpec)

/-- ITS FALSE NEIGHBOUR: 'it returns false'. Refute it at one input. -/
def fnExactArmClearWrong : ChangeSpec := { name := "fnExactArmClear", fn := fun _ => fun
  | [d1, d2, d3] => { results := [.lit (.bool false)], args := [d1, d2, d3] }
  | _ => none }
def FnExactArmClearWrongFalsely : Prop := fnExactArmClearRow.holds Tryd.pinned (OpenSpec.ofChange fnExactArmClearWrong)

/-- 'laws.FnExactFirstContact': WHATEVER THE INPUT: true; the input reads as it did. -/
def fnExactFirstContactSpec : ChangeSpec := { name := "fnExactFirstContact", fn := fun _ => fun
  | [d1, d2, d3] => { results := [.lit (.bool true)], args := [d1, d2, d3] }
  | _ => none }
def fnExactFirstContactRow : OpenClaim := { program := "ytdkpnlhcodogeaadoor", sum := "1979b9ca6c79ea980fbf83d03c6312e77c88d8694eae72a9f99be174590b2b81", func := "loop.example/robotcell/laws.FnExactFirstContact", spec := "fnExactFirstContact", inPlace := ["math.Float64bits", "math.Float64frombits", "math/bits.Add64"], unfollowed := true, recurses := true, named := ["math._cos", "math._sin", "math.mPi4"], plainKeys := false, apart := false, laid := [("math._sin", laid_math_sin), ("math._cos", laid_math_cos), ("math.mPi4", laid_math_mPi4)] }
def FnExactFirstContactSaid : Prop := fnExactFirstContactRow.holds Tryd.pinned (OpenSpec.ofChange fnExactFirstContactSpec)

/-- ITS FALSE NEIGHBOUR: 'it returns false'. Refute it at one input. -/
def fnExactFirstContactWrong : ChangeSpec := { name := "fnExactFirstContact", fn := fun _ => fun
  | [d1, d2, d3] => { results := [.lit (.bool false)], args := [d1, d2, d3] }
  | _ => none }
def FnExactFirstContactWrongFalsely : Prop := fnExactFirstContactRow.holds Tryd.pinned (OpenSpec.ofChange fnExactFirstContactWrong)

/-- 'laws.FnArmClear': WHATEVER THE INPUT: true; the input reads as it did. -/
def fnArmClearSpec : ChangeSpec := { name := "fnArmClear", fn := fun _ => fun
  | [d] => { results := [.lit (.bool true)], args := [d] }
  | _ => none }
def fnArmClearRow : OpenClaim := { program := "ytdkpnlhcodogeaadoor", sum := "1979b9ca6c79ea980fbf83d03c6312e77c88d8694eae72a9f99be174590b2b81", func := "loop.example/robotcell/laws.FnArmClear", spec := "fnArmClear", inPlace := ["math.Float64bits", "math.Float64frombits", "math/bits.Add64"], unfollowed := true, recurses := true, named := ["math._cos", "math._sin", "math.mPi4"], plainKeys := false, apart := false, laid := [("math._sin", laid_math_sin), ("math._cos", laid_math_cos), ("math.mPi4", laid_math_mPi4)] }
def FnArmClearSaid : Prop := fnArmClearRow.holds Tryd.pinned (OpenSpec.ofChange fnArmClearSpec)

/-- ITS FALSE NEIGHBOUR: 'it returns false'. Refute it at one input. -/
def fnArmClearWrong : ChangeSpec := { name := "fnArmClear", fn := fun _ => fun
  | [d] => { results := [.lit (.bool false)], args := [d] }
  | _ => none }
def FnArmClearWrongFalsely : Prop := fnArmClearRow.holds Tryd.pinned (OpenSpec.ofChange fnArmClearWrong)

/-- 'laws.FnFirstContact': WHATEVER THE INPUT: true; the input reads as it did. -/
def fnFirstContactSpec : ChangeSpec := { name := "fnFirstContact", fn := fun _ => fun
  | [d] => { results := [.lit (.bool true)], args := [d] }
  | _ => none }
def fnFirstContactRow : OpenClaim := { program := "ytdkpnlhcodogeaadoor", sum := "1979b9ca6c79ea980fbf83d03c6312e77c88d8694eae72a9f99be174590b2b81", func := "loop.example/robotcell/laws.FnFirstContact", spec := "fnFirstContact", inPlace := ["math.Float64bits", "math.Float64frombits", "math/bits.Add64"], unfollowed := true, recurses := true, named := ["math._cos", "math._sin", "math.mPi4"], plainKeys := false, apart := false, laid := [("math._sin", laid_math_sin), ("math._cos", laid_math_cos), ("math.mPi4", laid_math_mPi4)] }
def FnFirstContactSaid : Prop := fnFirstContactRow.holds Tryd.pinned (OpenSpec.ofChange fnFirstContactSpec)

/-- ITS FALSE NEIGHBOUR: 'it returns false'. Refute it at one input. -/
def fnFirstContactWrong : ChangeSpec := { name := "fnFirstContact", fn := fun _ => fun
  | [d] => { results := [.lit (.bool false)], args := [d] }
  | _ => none }
def FnFirstContactWrongFalsely : Prop := fnFirstContactRow.holds Tryd.pinned (OpenSpec.ofChange fnFirstContactWrong)

/- THE SECOND FORM. 'bulk': how many values and letters a reading holds, each counted each time it is reached (what is shared counts as often as it is met; a slice's spare places count too). A statement '..UptoSaid' is the law's where the arguments, and the package variables that the reading takes, are together of bulk at most 1048576: NARROWER than '..Said'. Prove '..Said' where nothing that the law and all that it calls make is longer than what came in: it says more and counts as full. Else prove '..UptoSaid'. A law counts once. -/
mutual
def uptoBulk {H : Type} : DataW H → Nat
  | .lit (.string bytes) => bytes.length + 1
  | .lit _ => 1
  | .nil => 1
  | .ptr d => uptoBulk d + 1
  | .slice elems spare => uptoBulkAll elems + uptoBulkAll spare + 1
  | .agg parts => uptoBulkAll parts + 1
  | .iface _ d => uptoBulk d + 1
  | .map entries => uptoBulkEntries entries + 1
  | .held _ => 1
def uptoBulkAll {H : Type} : List (DataW H) → Nat
  | [] => 0
  | d :: r => uptoBulk d + uptoBulkAll r
def uptoBulkEntries {H : Type} : List (Lit × DataW H) → Nat
  | [] => 0
  | x :: r => uptoBulkEntry x + uptoBulkEntries r
def uptoBulkEntry {H : Type} : Lit × DataW H → Nat
  | (.string bytes, d) => bytes.length + uptoBulk d + 1
  | (_, d) => uptoBulk d + 1
 end
def uptoSmall : (H : Type) → List (DataW H) → Bool := fun _ ds => decide (uptoBulkAll ds ≤ 1048576)
def OpenSpec.upto (s : _root_.Go.ChangeSpec) : _root_.Go.OpenSpec := { _root_.Go.OpenSpec.ofChange s with cond := some uptoSmall }

/-- 'laws.FnFreeCells', WHERE WHAT IT READS IS OF BULK AT MOST 1048576: true; the input reads as it did. -/
def fnFreeCellsUptoRow : OpenClaim := { program := "ytdkpnlhcodogeaadoor", sum := "1979b9ca6c79ea980fbf83d03c6312e77c88d8694eae72a9f99be174590b2b81", func := "loop.example/robotcell/laws.FnFreeCells", spec := "fnFreeCells", inPlace := ["math.Float64bits", "math.Float64frombits", "math/bits.Add64"], unfollowed := true, recurses := true, named := ["math._cos", "math._sin", "math.mPi4"], plainKeys := false, apart := false, laid := [("math._sin", laid_math_sin), ("math._cos", laid_math_cos), ("math.mPi4", laid_math_mPi4)], narrowed := true }
def FnFreeCellsUptoSaid : Prop := fnFreeCellsUptoRow.holds Tryd.pinned (OpenSpec.upto fnFreeCellsSpec)

/-- 'laws.FnExactFreeCells', WHERE WHAT IT READS IS OF BULK AT MOST 1048576: true; the input reads as it did. -/
def fnExactFreeCellsUptoRow : OpenClaim := { program := "ytdkpnlhcodogeaadoor", sum := "1979b9ca6c79ea980fbf83d03c6312e77c88d8694eae72a9f99be174590b2b81", func := "loop.example/robotcell/laws.FnExactFreeCells", spec := "fnExactFreeCells", inPlace := ["math.Float64bits", "math.Float64frombits", "math/bits.Add64"], unfollowed := true, recurses := true, named := ["math._cos", "math._sin", "math.mPi4"], plainKeys := false, apart := false, laid := [("math._sin", laid_math_sin), ("math._cos", laid_math_cos), ("math.mPi4", laid_math_mPi4)], narrowed := true }
def FnExactFreeCellsUptoSaid : Prop := fnExactFreeCellsUptoRow.holds Tryd.pinned (OpenSpec.upto fnExactFreeCellsSpec)

/-- 'laws.FnPathMoves', WHERE WHAT IT READS IS OF BULK AT MOST 1048576: true; the input reads as it did. -/
def fnPathMovesUptoRow : OpenClaim := { program := "ytdkpnlhcodogeaadoor", sum := "1979b9ca6c79ea980fbf83d03c6312e77c88d8694eae72a9f99be174590b2b81", func := "loop.example/robotcell/laws.FnPathMoves", spec := "fnPathMoves", inPlace := ["math.Float64bits", "math.Float64frombits", "math/bits.Add64"], unfollowed := true, recurses := true, named := ["math._cos", "math._sin", "math.mPi4"], plainKeys := false, apart := false, laid := [("math._sin", laid_math_sin), ("math._cos", laid_math_cos), ("math.mPi4", laid_math_mPi4)], narrowed := true }
def FnPathMovesUptoSaid : Prop := fnPathMovesUptoRow.holds Tryd.pinned (OpenSpec.upto fnPathMovesSpec)

/-- 'laws.FnExactArcPoints', WHERE WHAT IT READS IS OF BULK AT MOST 1048576: true; the input reads as it did. -/
def fnExactArcPointsUptoRow : OpenClaim := { program := "ytdkpnlhcodogeaadoor", sum := "1979b9ca6c79ea980fbf83d03c6312e77c88d8694eae72a9f99be174590b2b81", func := "loop.example/robotcell/laws.FnExactArcPoints", spec := "fnExactArcPoints", inPlace := ["math.Float64bits", "math.Float64frombits", "math/bits.Add64"], named := ["math._cos", "math._sin", "math.mPi4"], plainKeys := false, apart := false, laid := [("math._sin", laid_math_sin), ("math._cos", laid_math_cos), ("math.mPi4", laid_math_mPi4)], narrowed := true }
def FnExactArcPointsUptoSaid : Prop := fnExactArcPointsUptoRow.holds Tryd.pinned (OpenSpec.upto fnExactArcPointsSpec)

/-- 'laws.FnArcPoints', WHERE WHAT IT READS IS OF BULK AT MOST 1048576: true; the input reads as it did. -/
def fnArcPointsUptoRow : OpenClaim := { program := "ytdkpnlhcodogeaadoor", sum := "1979b9ca6c79ea980fbf83d03c6312e77c88d8694eae72a9f99be174590b2b81", func := "loop.example/robotcell/laws.FnArcPoints", spec := "fnArcPoints", inPlace := ["math.Float64bits", "math.Float64frombits", "math/bits.Add64"], named := ["math._cos", "math._sin", "math.mPi4"], plainKeys := false, apart := false, laid := [("math._sin", laid_math_sin), ("math._cos", laid_math_cos), ("math.mPi4", laid_math_mPi4)], narrowed := true }
def FnArcPointsUptoSaid : Prop := fnArcPointsUptoRow.holds Tryd.pinned (OpenSpec.upto fnArcPointsSpec)

/-- 'laws.FnExactSelfClear', WHERE WHAT IT READS IS OF BULK AT MOST 1048576: true; the input reads as it did. -/
def fnExactSelfClearUptoRow : OpenClaim := { program := "ytdkpnlhcodogeaadoor", sum := "1979b9ca6c79ea980fbf83d03c6312e77c88d8694eae72a9f99be174590b2b81", func := "loop.example/robotcell/laws.FnExactSelfClear", spec := "fnExactSelfClear", inPlace := ["math.Float64bits", "math.Float64frombits", "math/bits.Add64"], named := ["math._cos", "math._sin", "math.mPi4"], plainKeys := false, apart := false, laid := [("math._sin", laid_math_sin), ("math._cos", laid_math_cos), ("math.mPi4", laid_math_mPi4)], narrowed := true }
def FnExactSelfClearUptoSaid : Prop := fnExactSelfClearUptoRow.holds Tryd.pinned (OpenSpec.upto fnExactSelfClearSpec)

/-- 'laws.FnSelfClear', WHERE WHAT IT READS IS OF BULK AT MOST 1048576: true; the input reads as it did. -/
def fnSelfClearUptoRow : OpenClaim := { program := "ytdkpnlhcodogeaadoor", sum := "1979b9ca6c79ea980fbf83d03c6312e77c88d8694eae72a9f99be174590b2b81", func := "loop.example/robotcell/laws.FnSelfClear", spec := "fnSelfClear", inPlace := ["math.Float64bits", "math.Float64frombits", "math/bits.Add64"], named := ["math._cos", "math._sin", "math.mPi4"], plainKeys := false, apart := false, laid := [("math._sin", laid_math_sin), ("math._cos", laid_math_cos), ("math.mPi4", laid_math_mPi4)], narrowed := true }
def FnSelfClearUptoSaid : Prop := fnSelfClearUptoRow.holds Tryd.pinned (OpenSpec.upto fnSelfClearSpec)

/-- 'laws.FnExactArmClear', WHERE WHAT IT READS IS OF BULK AT MOST 1048576: true; the input reads as it did. -/
def fnExactArmClearUptoRow : OpenClaim := { program := "ytdkpnlhcodogeaadoor", sum := "1979b9ca6c79ea980fbf83d03c6312e77c88d8694eae72a9f99be174590b2b81", func := "loop.example/robotcell/laws.FnExactArmClear", spec := "fnExactArmClear", inPlace := ["math.Float64bits", "math.Float64frombits", "math/bits.Add64"], unfollowed := true, recurses := true, named := ["math._cos", "math._sin", "math.mPi4"], plainKeys := false, apart := false, laid := [("math._sin", laid_math_sin), ("math._cos", laid_math_cos), ("math.mPi4", laid_math_mPi4)], narrowed := true }
def FnExactArmClearUptoSaid : Prop := fnExactArmClearUptoRow.holds Tryd.pinned (OpenSpec.upto fnExactArmClearSpec)

/-- 'laws.FnExactFirstContact', WHERE WHAT IT READS IS OF BULK AT MOST 1048576: true; the input reads as it did. -/
def fnExactFirstContactUptoRow : OpenClaim := { program := "ytdkpnlhcodogeaadoor", sum := "1979b9ca6c79ea980fbf83d03c6312e77c88d8694eae72a9f99be174590b2b81", func := "loop.example/robotcell/laws.FnExactFirstContact", spec := "fnExactFirstContact", inPlace := ["math.Float64bits", "math.Float64frombits", "math/bits.Add64"], unfollowed := true, recurses := true, named := ["math._cos", "math._sin", "math.mPi4"], plainKeys := false, apart := false, laid := [("math._sin", laid_math_sin), ("math._cos", laid_math_cos), ("math.mPi4", laid_math_mPi4)], narrowed := true }
def FnExactFirstContactUptoSaid : Prop := fnExactFirstContactUptoRow.holds Tryd.pinned (OpenSpec.upto fnExactFirstContactSpec)

/-- 'laws.FnArmClear', WHERE WHAT IT READS IS OF BULK AT MOST 1048576: true; the input reads as it did. -/
def fnArmClearUptoRow : OpenClaim := { program := "ytdkpnlhcodogeaadoor", sum := "1979b9ca6c79ea980fbf83d03c6312e77c88d8694eae72a9f99be174590b2b81", func := "loop.example/robotcell/laws.FnArmClear", spec := "fnArmClear", inPlace := ["math.Float64bits", "math.Float64frombits", "math/bits.Add64"], unfollowed := true, recurses := true, named := ["math._cos", "math._sin", "math.mPi4"], plainKeys := false, apart := false, laid := [("math._sin", laid_math_sin), ("math._cos", laid_math_cos), ("math.mPi4", laid_math_mPi4)], narrowed := true }
def FnArmClearUptoSaid : Prop := fnArmClearUptoRow.holds Tryd.pinned (OpenSpec.upto fnArmClearSpec)

/-- 'laws.FnFirstContact', WHERE WHAT IT READS IS OF BULK AT MOST 1048576: true; the input reads as it did. -/
def fnFirstContactUptoRow : OpenClaim := { program := "ytdkpnlhcodogeaadoor", sum := "1979b9ca6c79ea980fbf83d03c6312e77c88d8694eae72a9f99be174590b2b81", func := "loop.example/robotcell/laws.FnFirstContact", spec := "fnFirstContact", inPlace := ["math.Float64bits", "math.Float64frombits", "math/bits.Add64"], unfollowed := true, recurses := true, named := ["math._cos", "math._sin", "math.mPi4"], plainKeys := false, apart := false, laid := [("math._sin", laid_math_sin), ("math._cos", laid_math_cos), ("math.mPi4", laid_math_mPi4)], narrowed := true }
def FnFirstContactUptoSaid : Prop := fnFirstContactUptoRow.holds Tryd.pinned (OpenSpec.upto fnFirstContactSpec)

end Rows
end Go.Proofs.YtdkpnlhcodogeaaDoor

/-
  No cell of these rows narrows 'for every input' (looked for: loops, veiled, ifaces, maps, wideKeys, modest, calm, conditions, laid).
  DERIVED. THE GIVEN ROWS OF THIS SEAT. 16 by the template 'for every input the law returns true; each argument reads behind the call as it read before'; 0 by the template 'total and deterministic' (their statements: YtmomgaiondjinaaTotals.lean).
  GIVEN WITH THE SEED: the statements are not yours to turn. If you find one false, say at which input.
  Laid BY PROGRAM, IN A SANDBOX (cutbox-rows.mjs): the forced cells as the released guide's own fill.sh prints them over the translation dc76742535c40003… (all of the seat's roots in one cut). By AI agents, Wed Nov 11 2026. No macro, syntax, notation, axiom, sorry.
-/
import Derived.Test.YtmomgaiondjinaaChecked
import GoSem.Claim
import GoSem.ClaimJoined
import GoSem.ClaimMapViews
import Derived.JoinedTies
import Derived.KernelRfl
namespace Go.Proofs.Ytmomgaiondjinaa
/- THE CELL 'sum', in the pinned program and in every row, IS THE sha256 OF THE DUMP (.gsa) THAT YtmomgaiondjinaaProg.lean LOADS. Nothing in Lean hashes anything: it is a label: what it is worth is what the hold of that sum in a sandbox is worth. -/
noncomputable def Try.pinned : Pinned := { name := "ytmomgaiondjinaa", sum := "dc76742535c4000347eae2049f8deb0584df8de21a2d4dabef3fdc2484bee95c", checked := Try.checked }
namespace Rows
def none {H : Type} : Left H := { results := [], args := [] }

/-- 'laws.FnExactDotNumbers': WHATEVER THE INPUT: true; the input reads as it did. -/
def fnExactDotNumbersSpec : ChangeSpec := { name := "fnExactDotNumbers", fn := fun _ => fun
  | [d1, d2] => { results := [.lit (.bool true)], args := [d1, d2] }
  | _ => none }
def fnExactDotNumbersRow : OpenClaim := { program := "ytmomgaiondjinaa", sum := "dc76742535c4000347eae2049f8deb0584df8de21a2d4dabef3fdc2484bee95c", func := "loop.example/g01231/laws.FnExactDotNumbers", spec := "fnExactDotNumbers", apart := false }
def FnExactDotNumbersSaid : Prop := fnExactDotNumbersRow.holds Try.pinned (OpenSpec.ofChange fnExactDotNumbersSpec)

/-- ITS FALSE NEIGHBOUR: 'it returns false'. Refute it at one input. -/
def fnExactDotNumbersWrong : ChangeSpec := { name := "fnExactDotNumbers", fn := fun _ => fun
  | [d1, d2] => { results := [.lit (.bool false)], args := [d1, d2] }
  | _ => none }
def FnExactDotNumbersWrongFalsely : Prop := fnExactDotNumbersRow.holds Try.pinned (OpenSpec.ofChange fnExactDotNumbersWrong)

/-- 'laws.FnExactSumNumbers': WHATEVER THE INPUT: true; the input reads as it did. -/
def fnExactSumNumbersSpec : ChangeSpec := { name := "fnExactSumNumbers", fn := fun _ => fun
  | [d] => { results := [.lit (.bool true)], args := [d] }
  | _ => none }
def fnExactSumNumbersRow : OpenClaim := { program := "ytmomgaiondjinaa", sum := "dc76742535c4000347eae2049f8deb0584df8de21a2d4dabef3fdc2484bee95c", func := "loop.example/g01231/laws.FnExactSumNumbers", spec := "fnExactSumNumbers", apart := false }
def FnExactSumNumbersSaid : Prop := fnExactSumNumbersRow.holds Try.pinned (OpenSpec.ofChange fnExactSumNumbersSpec)

/-- ITS FALSE NEIGHBOUR: 'it returns false'. Refute it at one input. -/
def fnExactSumNumbersWrong : ChangeSpec := { name := "fnExactSumNumbers", fn := fun _ => fun
  | [d] => { results := [.lit (.bool false)], args := [d] }
  | _ => none }
def FnExactSumNumbersWrongFalsely : Prop := fnExactSumNumbersRow.holds Try.pinned (OpenSpec.ofChange fnExactSumNumbersWrong)

/-- 'laws.FnExactSpeedsOfRoots': WHATEVER THE INPUT: true; the input reads as it did. -/
def fnExactSpeedsOfRootsSpec : ChangeSpec := { name := "fnExactSpeedsOfRoots", fn := fun _ => fun
  | [d1, d2] => { results := [.lit (.bool true)], args := [d1, d2] }
  | _ => none }
def fnExactSpeedsOfRootsRow : OpenClaim := { program := "ytmomgaiondjinaa", sum := "dc76742535c4000347eae2049f8deb0584df8de21a2d4dabef3fdc2484bee95c", func := "loop.example/g01231/laws.FnExactSpeedsOfRoots", spec := "fnExactSpeedsOfRoots", inPlace := ["math.sqrt"], apart := false }
def FnExactSpeedsOfRootsSaid : Prop := fnExactSpeedsOfRootsRow.holds Try.pinned (OpenSpec.ofChange fnExactSpeedsOfRootsSpec)

/-- ITS FALSE NEIGHBOUR: 'it returns false'. Refute it at one input. -/
def fnExactSpeedsOfRootsWrong : ChangeSpec := { name := "fnExactSpeedsOfRoots", fn := fun _ => fun
  | [d1, d2] => { results := [.lit (.bool false)], args := [d1, d2] }
  | _ => none }
def FnExactSpeedsOfRootsWrongFalsely : Prop := fnExactSpeedsOfRootsRow.holds Try.pinned (OpenSpec.ofChange fnExactSpeedsOfRootsWrong)

/-- 'laws.FnExactSameGround': WHATEVER THE INPUT: true; the input reads as it did. -/
def fnExactSameGroundSpec : ChangeSpec := { name := "fnExactSameGround", fn := fun _ => fun
  | [d1, d2] => { results := [.lit (.bool true)], args := [d1, d2] }
  | _ => none }
def fnExactSameGroundRow : OpenClaim := { program := "ytmomgaiondjinaa", sum := "dc76742535c4000347eae2049f8deb0584df8de21a2d4dabef3fdc2484bee95c", func := "loop.example/g01231/laws.FnExactSameGround", spec := "fnExactSameGround", inPlace := ["math.Float32bits"], unfollowed := true, recurses := true, apart := false }
def FnExactSameGroundSaid : Prop := fnExactSameGroundRow.holds Try.pinned (OpenSpec.ofChange fnExactSameGroundSpec)

/-- ITS FALSE NEIGHBOUR: 'it returns false'. Refute it at one input. -/
def fnExactSameGroundWrong : ChangeSpec := { name := "fnExactSameGround", fn := fun _ => fun
  | [d1, d2] => { results := [.lit (.bool false)], args := [d1, d2] }
  | _ => none }
def FnExactSameGroundWrongFalsely : Prop := fnExactSameGroundRow.holds Try.pinned (OpenSpec.ofChange fnExactSameGroundWrong)

/-- 'laws.FnExactValidGround': WHATEVER THE INPUT: true; the input reads as it did. -/
def fnExactValidGroundSpec : ChangeSpec := { name := "fnExactValidGround", fn := fun _ => fun
  | [d] => { results := [.lit (.bool true)], args := [d] }
  | _ => none }
def fnExactValidGroundRow : OpenClaim := { program := "ytmomgaiondjinaa", sum := "dc76742535c4000347eae2049f8deb0584df8de21a2d4dabef3fdc2484bee95c", func := "loop.example/g01231/laws.FnExactValidGround", spec := "fnExactValidGround", unfollowed := true, recurses := true, apart := false }
def FnExactValidGroundSaid : Prop := fnExactValidGroundRow.holds Try.pinned (OpenSpec.ofChange fnExactValidGroundSpec)

/-- ITS FALSE NEIGHBOUR: 'it returns false'. Refute it at one input. -/
def fnExactValidGroundWrong : ChangeSpec := { name := "fnExactValidGround", fn := fun _ => fun
  | [d] => { results := [.lit (.bool false)], args := [d] }
  | _ => none }
def FnExactValidGroundWrongFalsely : Prop := fnExactValidGroundRow.holds Try.pinned (OpenSpec.ofChange fnExactValidGroundWrong)

/-- 'laws.FnExactHardnessAt': WHATEVER THE INPUT: true; the input reads as it did. -/
def fnExactHardnessAtSpec : ChangeSpec := { name := "fnExactHardnessAt", fn := fun _ => fun
  | [d1, d2] => { results := [.lit (.bool true)], args := [d1, d2] }
  | _ => none }
def fnExactHardnessAtRow : OpenClaim := { program := "ytmomgaiondjinaa", sum := "dc76742535c4000347eae2049f8deb0584df8de21a2d4dabef3fdc2484bee95c", func := "loop.example/g01231/laws.FnExactHardnessAt", spec := "fnExactHardnessAt", unfollowed := true, recurses := true, apart := false }
def FnExactHardnessAtSaid : Prop := fnExactHardnessAtRow.holds Try.pinned (OpenSpec.ofChange fnExactHardnessAtSpec)

/-- ITS FALSE NEIGHBOUR: 'it returns false'. Refute it at one input. -/
def fnExactHardnessAtWrong : ChangeSpec := { name := "fnExactHardnessAt", fn := fun _ => fun
  | [d1, d2] => { results := [.lit (.bool false)], args := [d1, d2] }
  | _ => none }
def FnExactHardnessAtWrongFalsely : Prop := fnExactHardnessAtRow.holds Try.pinned (OpenSpec.ofChange fnExactHardnessAtWrong)

/-- 'laws.FnExactSteepestOf': WHATEVER THE INPUT: true; the input reads as it did. -/
def fnExactSteepestOfSpec : ChangeSpec := { name := "fnExactSteepestOf", fn := fun _ => fun
  | [d1, d2] => { results := [.lit (.bool true)], args := [d1, d2] }
  | _ => none }
def fnExactSteepestOfRow : OpenClaim := { program := "ytmomgaiondjinaa", sum := "dc76742535c4000347eae2049f8deb0584df8de21a2d4dabef3fdc2484bee95c", func := "loop.example/g01231/laws.FnExactSteepestOf", spec := "fnExactSteepestOf", unfollowed := true, recurses := true, apart := false }
def FnExactSteepestOfSaid : Prop := fnExactSteepestOfRow.holds Try.pinned (OpenSpec.ofChange fnExactSteepestOfSpec)

/-- ITS FALSE NEIGHBOUR: 'it returns false'. Refute it at one input. -/
def fnExactSteepestOfWrong : ChangeSpec := { name := "fnExactSteepestOf", fn := fun _ => fun
  | [d1, d2] => { results := [.lit (.bool false)], args := [d1, d2] }
  | _ => none }
def FnExactSteepestOfWrongFalsely : Prop := fnExactSteepestOfRow.holds Try.pinned (OpenSpec.ofChange fnExactSteepestOfWrong)

/-- 'laws.FnExactLayerAt': WHATEVER THE INPUT: true; the input reads as it did. -/
def fnExactLayerAtSpec : ChangeSpec := { name := "fnExactLayerAt", fn := fun _ => fun
  | [d1, d2] => { results := [.lit (.bool true)], args := [d1, d2] }
  | _ => none }
def fnExactLayerAtRow : OpenClaim := { program := "ytmomgaiondjinaa", sum := "dc76742535c4000347eae2049f8deb0584df8de21a2d4dabef3fdc2484bee95c", func := "loop.example/g01231/laws.FnExactLayerAt", spec := "fnExactLayerAt", unfollowed := true, recurses := true, apart := false }
def FnExactLayerAtSaid : Prop := fnExactLayerAtRow.holds Try.pinned (OpenSpec.ofChange fnExactLayerAtSpec)

/-- ITS FALSE NEIGHBOUR: 'it returns false'. Refute it at one input. -/
def fnExactLayerAtWrong : ChangeSpec := { name := "fnExactLayerAt", fn := fun _ => fun
  | [d1, d2] => { results := [.lit (.bool false)], args := [d1, d2] }
  | _ => none }
def FnExactLayerAtWrongFalsely : Prop := fnExactLayerAtRow.holds Try.pinned (OpenSpec.ofChange fnExactLayerAtWrong)

/-- 'laws.FnExactReflectStraight': WHATEVER THE INPUT: true; the input reads as it did. -/
def fnExactReflectStraightSpec : ChangeSpec := { name := "fnExactReflectStraight", fn := fun _ => fun
  | [d1, d2] => { results := [.lit (.bool true)], args := [d1, d2] }
  | _ => none }
def fnExactReflectStraightRow : OpenClaim := { program := "ytmomgaiondjinaa", sum := "dc76742535c4000347eae2049f8deb0584df8de21a2d4dabef3fdc2484bee95c", func := "loop.example/g01231/laws.FnExactReflectStraight", spec := "fnExactReflectStraight", unfollowed := true, recurses := true, apart := false }
def FnExactReflectStraightSaid : Prop := fnExactReflectStraightRow.holds Try.pinned (OpenSpec.ofChange fnExactReflectStraightSpec)

/-- ITS FALSE NEIGHBOUR: 'it returns false'. Refute it at one input. -/
def fnExactReflectStraightWrong : ChangeSpec := { name := "fnExactReflectStraight", fn := fun _ => fun
  | [d1, d2] => { results := [.lit (.bool false)], args := [d1, d2] }
  | _ => none }
def FnExactReflectStraightWrongFalsely : Prop := fnExactReflectStraightRow.holds Try.pinned (OpenSpec.ofChange fnExactReflectStraightWrong)

/-- 'laws.FnExactSpeedAt': WHATEVER THE INPUT: true; the input reads as it did. -/
def fnExactSpeedAtSpec : ChangeSpec := { name := "fnExactSpeedAt", fn := fun _ => fun
  | [d1, d2] => { results := [.lit (.bool true)], args := [d1, d2] }
  | _ => none }
def fnExactSpeedAtRow : OpenClaim := { program := "ytmomgaiondjinaa", sum := "dc76742535c4000347eae2049f8deb0584df8de21a2d4dabef3fdc2484bee95c", func := "loop.example/g01231/laws.FnExactSpeedAt", spec := "fnExactSpeedAt", unfollowed := true, recurses := true, apart := false }
def FnExactSpeedAtSaid : Prop := fnExactSpeedAtRow.holds Try.pinned (OpenSpec.ofChange fnExactSpeedAtSpec)

/-- ITS FALSE NEIGHBOUR: 'it returns false'. Refute it at one input. -/
def fnExactSpeedAtWrong : ChangeSpec := { name := "fnExactSpeedAt", fn := fun _ => fun
  | [d1, d2] => { results := [.lit (.bool false)], args := [d1, d2] }
  | _ => none }
def FnExactSpeedAtWrongFalsely : Prop := fnExactSpeedAtRow.holds Try.pinned (OpenSpec.ofChange fnExactSpeedAtWrong)

/-- 'laws.FnExactDepthsOf': WHATEVER THE INPUT: true; the input reads as it did. -/
def fnExactDepthsOfSpec : ChangeSpec := { name := "fnExactDepthsOf", fn := fun _ => fun
  | [d] => { results := [.lit (.bool true)], args := [d] }
  | _ => none }
def fnExactDepthsOfRow : OpenClaim := { program := "ytmomgaiondjinaa", sum := "dc76742535c4000347eae2049f8deb0584df8de21a2d4dabef3fdc2484bee95c", func := "loop.example/g01231/laws.FnExactDepthsOf", spec := "fnExactDepthsOf", unfollowed := true, recurses := true, apart := false }
def FnExactDepthsOfSaid : Prop := fnExactDepthsOfRow.holds Try.pinned (OpenSpec.ofChange fnExactDepthsOfSpec)

/-- ITS FALSE NEIGHBOUR: 'it returns false'. Refute it at one input. -/
def fnExactDepthsOfWrong : ChangeSpec := { name := "fnExactDepthsOf", fn := fun _ => fun
  | [d] => { results := [.lit (.bool false)], args := [d] }
  | _ => none }
def FnExactDepthsOfWrongFalsely : Prop := fnExactDepthsOfRow.holds Try.pinned (OpenSpec.ofChange fnExactDepthsOfWrong)

/-- 'laws.FnExactTimesDown': WHATEVER THE INPUT: true; the input reads as it did. -/
def fnExactTimesDownSpec : ChangeSpec := { name := "fnExactTimesDown", fn := fun _ => fun
  | [d] => { results := [.lit (.bool true)], args := [d] }
  | _ => none }
def fnExactTimesDownRow : OpenClaim := { program := "ytmomgaiondjinaa", sum := "dc76742535c4000347eae2049f8deb0584df8de21a2d4dabef3fdc2484bee95c", func := "loop.example/g01231/laws.FnExactTimesDown", spec := "fnExactTimesDown", unfollowed := true, recurses := true, apart := false }
def FnExactTimesDownSaid : Prop := fnExactTimesDownRow.holds Try.pinned (OpenSpec.ofChange fnExactTimesDownSpec)

/-- ITS FALSE NEIGHBOUR: 'it returns false'. Refute it at one input. -/
def fnExactTimesDownWrong : ChangeSpec := { name := "fnExactTimesDown", fn := fun _ => fun
  | [d] => { results := [.lit (.bool false)], args := [d] }
  | _ => none }
def FnExactTimesDownWrongFalsely : Prop := fnExactTimesDownRow.holds Try.pinned (OpenSpec.ofChange fnExactTimesDownWrong)

/-- 'laws.FnExactTurnGround': WHATEVER THE INPUT: true; the input reads as it did. -/
def fnExactTurnGroundSpec : ChangeSpec := { name := "fnExactTurnGround", fn := fun _ => fun
  | [d1, d2] => { results := [.lit (.bool true)], args := [d1, d2] }
  | _ => none }
def fnExactTurnGroundRow : OpenClaim := { program := "ytmomgaiondjinaa", sum := "dc76742535c4000347eae2049f8deb0584df8de21a2d4dabef3fdc2484bee95c", func := "loop.example/g01231/laws.FnExactTurnGround", spec := "fnExactTurnGround", unfollowed := true, recurses := true, apart := false }
def FnExactTurnGroundSaid : Prop := fnExactTurnGroundRow.holds Try.pinned (OpenSpec.ofChange fnExactTurnGroundSpec)

/-- ITS FALSE NEIGHBOUR: 'it returns false'. Refute it at one input. -/
def fnExactTurnGroundWrong : ChangeSpec := { name := "fnExactTurnGround", fn := fun _ => fun
  | [d1, d2] => { results := [.lit (.bool false)], args := [d1, d2] }
  | _ => none }
def FnExactTurnGroundWrongFalsely : Prop := fnExactTurnGroundRow.holds Try.pinned (OpenSpec.ofChange fnExactTurnGroundWrong)

/-- 'laws.FnExactStraightEchoes': WHATEVER THE INPUT: true; the input reads as it did. -/
def fnExactStraightEchoesSpec : ChangeSpec := { name := "fnExactStraightEchoes", fn := fun _ => fun
  | [d] => { results := [.lit (.bool true)], args := [d] }
  | _ => none }
def fnExactStraightEchoesRow : OpenClaim := { program := "ytmomgaiondjinaa", sum := "dc76742535c4000347eae2049f8deb0584df8de21a2d4dabef3fdc2484bee95c", func := "loop.example/g01231/laws.FnExactStraightEchoes", spec := "fnExactStraightEchoes", unfollowed := true, recurses := true, apart := false }
def FnExactStraightEchoesSaid : Prop := fnExactStraightEchoesRow.holds Try.pinned (OpenSpec.ofChange fnExactStraightEchoesSpec)

/-- ITS FALSE NEIGHBOUR: 'it returns false'. Refute it at one input. -/
def fnExactStraightEchoesWrong : ChangeSpec := { name := "fnExactStraightEchoes", fn := fun _ => fun
  | [d] => { results := [.lit (.bool false)], args := [d] }
  | _ => none }
def FnExactStraightEchoesWrongFalsely : Prop := fnExactStraightEchoesRow.holds Try.pinned (OpenSpec.ofChange fnExactStraightEchoesWrong)

/-- 'laws.FnExactCosineIn': WHATEVER THE INPUT: true; the input reads as it did. -/
def fnExactCosineInSpec : ChangeSpec := { name := "fnExactCosineIn", fn := fun _ => fun
  | [d1, d2, d3] => { results := [.lit (.bool true)], args := [d1, d2, d3] }
  | _ => none }
def fnExactCosineInRow : OpenClaim := { program := "ytmomgaiondjinaa", sum := "dc76742535c4000347eae2049f8deb0584df8de21a2d4dabef3fdc2484bee95c", func := "loop.example/g01231/laws.FnExactCosineIn", spec := "fnExactCosineIn", inPlace := ["math.sqrt"], unfollowed := true, recurses := true, apart := false }
def FnExactCosineInSaid : Prop := fnExactCosineInRow.holds Try.pinned (OpenSpec.ofChange fnExactCosineInSpec)

/-- ITS FALSE NEIGHBOUR: 'it returns false'. Refute it at one input. -/
def fnExactCosineInWrong : ChangeSpec := { name := "fnExactCosineIn", fn := fun _ => fun
  | [d1, d2, d3] => { results := [.lit (.bool false)], args := [d1, d2, d3] }
  | _ => none }
def FnExactCosineInWrongFalsely : Prop := fnExactCosineInRow.holds Try.pinned (OpenSpec.ofChange fnExactCosineInWrong)

/-- 'laws.FnExactMeanSpeeds': WHATEVER THE INPUT: true; the input reads as it did. -/
def fnExactMeanSpeedsSpec : ChangeSpec := { name := "fnExactMeanSpeeds", fn := fun _ => fun
  | [d] => { results := [.lit (.bool true)], args := [d] }
  | _ => none }
def fnExactMeanSpeedsRow : OpenClaim := { program := "ytmomgaiondjinaa", sum := "dc76742535c4000347eae2049f8deb0584df8de21a2d4dabef3fdc2484bee95c", func := "loop.example/g01231/laws.FnExactMeanSpeeds", spec := "fnExactMeanSpeeds", unfollowed := true, recurses := true, apart := false }
def FnExactMeanSpeedsSaid : Prop := fnExactMeanSpeedsRow.holds Try.pinned (OpenSpec.ofChange fnExactMeanSpeedsSpec)

/-- ITS FALSE NEIGHBOUR: 'it returns false'. Refute it at one input. -/
def fnExactMeanSpeedsWrong : ChangeSpec := { name := "fnExactMeanSpeeds", fn := fun _ => fun
  | [d] => { results := [.lit (.bool false)], args := [d] }
  | _ => none }
def FnExactMeanSpeedsWrongFalsely : Prop := fnExactMeanSpeedsRow.holds Try.pinned (OpenSpec.ofChange fnExactMeanSpeedsWrong)

/- THE SECOND FORM. 'bulk': how many values and letters a reading holds, each counted each time it is reached (what is shared counts as often as it is met; a slice's spare places count too). A statement '..UptoSaid' is the law's where the arguments, and the package variables that the reading takes, are together of bulk at most 1048576: NARROWER than '..Said'. Prove '..Said' where nothing that the law and all that it calls make is longer than what came in: it says more and counts as full. Else prove '..UptoSaid'. A law counts once. -/
mutual
def uptoBulk {H : Type} : DataW H → Nat
  | .lit (.string bytes) => bytes.length + 1
  | .lit _ => 1
  | .nil => 1
  | .ptr d => uptoBulk d + 1
  | .slice elems spare => uptoBulkAll elems + uptoBulkAll spare + 1
  | .agg parts => uptoBulkAll parts + 1
  | .iface _ d => uptoBulk d + 1
  | .map entries => uptoBulkEntries entries + 1
  | .held _ => 1
def uptoBulkAll {H : Type} : List (DataW H) → Nat
  | [] => 0
  | d :: r => uptoBulk d + uptoBulkAll r
def uptoBulkEntries {H : Type} : List (Lit × DataW H) → Nat
  | [] => 0
  | x :: r => uptoBulkEntry x + uptoBulkEntries r
def uptoBulkEntry {H : Type} : Lit × DataW H → Nat
  | (.string bytes, d) => bytes.length + uptoBulk d + 1
  | (_, d) => uptoBulk d + 1
 end
def uptoSmall : (H : Type) → List (DataW H) → Bool := fun _ ds => decide (uptoBulkAll ds ≤ 1048576)
def OpenSpec.upto (s : _root_.Go.ChangeSpec) : _root_.Go.OpenSpec := { _root_.Go.OpenSpec.ofChange s with cond := some uptoSmall }

/-- 'laws.FnExactDotNumbers', WHERE WHAT IT READS IS OF BULK AT MOST 1048576: true; the input reads as it did. -/
def fnExactDotNumbersUptoRow : OpenClaim := { program := "ytmomgaiondjinaa", sum := "dc76742535c4000347eae2049f8deb0584df8de21a2d4dabef3fdc2484bee95c", func := "loop.example/g01231/laws.FnExactDotNumbers", spec := "fnExactDotNumbers", apart := false, narrowed := true }
def FnExactDotNumbersUptoSaid : Prop := fnExactDotNumbersUptoRow.holds Try.pinned (OpenSpec.upto fnExactDotNumbersSpec)

/-- 'laws.FnExactSumNumbers', WHERE WHAT IT READS IS OF BULK AT MOST 1048576: true; the input reads as it did. -/
def fnExactSumNumbersUptoRow : OpenClaim := { program := "ytmomgaiondjinaa", sum := "dc76742535c4000347eae2049f8deb0584df8de21a2d4dabef3fdc2484bee95c", func := "loop.example/g01231/laws.FnExactSumNumbers", spec := "fnExactSumNumbers", apart := false, narrowed := true }
def FnExactSumNumbersUptoSaid : Prop := fnExactSumNumbersUptoRow.holds Try.pinned (OpenSpec.upto fnExactSumNumbersSpec)

/-- 'laws.FnExactSpeedsOfRoots', WHERE WHAT IT READS IS OF BULK AT MOST 1048576: true; the input reads as it did. -/
def fnExactSpeedsOfRootsUptoRow : OpenClaim := { program := "ytmomgaiondjinaa", sum := "dc76742535c4000347eae2049f8deb0584df8de21a2d4dabef3fdc2484bee95c", func := "loop.example/g01231/laws.FnExactSpeedsOfRoots", spec := "fnExactSpeedsOfRoots", inPlace := ["math.sqrt"], apart := false, narrowed := true }
def FnExactSpeedsOfRootsUptoSaid : Prop := fnExactSpeedsOfRootsUptoRow.holds Try.pinned (OpenSpec.upto fnExactSpeedsOfRootsSpec)

/-- 'laws.FnExactSameGround', WHERE WHAT IT READS IS OF BULK AT MOST 1048576: true; the input reads as it did. -/
def fnExactSameGroundUptoRow : OpenClaim := { program := "ytmomgaiondjinaa", sum := "dc76742535c4000347eae2049f8deb0584df8de21a2d4dabef3fdc2484bee95c", func := "loop.example/g01231/laws.FnExactSameGround", spec := "fnExactSameGround", inPlace := ["math.Float32bits"], unfollowed := true, recurses := true, apart := false, narrowed := true }
def FnExactSameGroundUptoSaid : Prop := fnExactSameGroundUptoRow.holds Try.pinned (OpenSpec.upto fnExactSameGroundSpec)

/-- 'laws.FnExactValidGround', WHERE WHAT IT READS IS OF BULK AT MOST 1048576: true; the input reads as it did. -/
def fnExactValidGroundUptoRow : OpenClaim := { program := "ytmomgaiondjinaa", sum := "dc76742535c4000347eae2049f8deb0584df8de21a2d4dabef3fdc2484bee95c", func := "loop.example/g01231/laws.FnExactValidGround", spec := "fnExactValidGround", unfollowed := true, recurses := true, apart := false, narrowed := true }
def FnExactValidGroundUptoSaid : Prop := fnExactValidGroundUptoRow.holds Try.pinned (OpenSpec.upto fnExactValidGroundSpec)

/-- 'laws.FnExactHardnessAt', WHERE WHAT IT READS IS OF BULK AT MOST 1048576: true; the input reads as it did. -/
def fnExactHardnessAtUptoRow : OpenClaim := { program := "ytmomgaiondjinaa", sum := "dc76742535c4000347eae2049f8deb0584df8de21a2d4dabef3fdc2484bee95c", func := "loop.example/g01231/laws.FnExactHardnessAt", spec := "fnExactHardnessAt", unfollowed := true, recurses := true, apart := false, narrowed := true }
def FnExactHardnessAtUptoSaid : Prop := fnExactHardnessAtUptoRow.holds Try.pinned (OpenSpec.upto fnExactHardnessAtSpec)

/-- 'laws.FnExactSteepestOf', WHERE WHAT IT READS IS OF BULK AT MOST 1048576: true; the input reads as it did. -/
def fnExactSteepestOfUptoRow : OpenClaim := { program := "ytmomgaiondjinaa", sum := "dc76742535c4000347eae2049f8deb0584df8de21a2d4dabef3fdc2484bee95c", func := "loop.example/g01231/laws.FnExactSteepestOf", spec := "fnExactSteepestOf", unfollowed := true, recurses := true, apart := false, narrowed := true }
def FnExactSteepestOfUptoSaid : Prop := fnExactSteepestOfUptoRow.holds Try.pinned (OpenSpec.upto fnExactSteepestOfSpec)

/-- 'laws.FnExactLayerAt', WHERE WHAT IT READS IS OF BULK AT MOST 1048576: true; the input reads as it did. -/
def fnExactLayerAtUptoRow : OpenClaim := { program := "ytmomgaiondjinaa", sum := "dc76742535c4000347eae2049f8deb0584df8de21a2d4dabef3fdc2484bee95c", func := "loop.example/g01231/laws.FnExactLayerAt", spec := "fnExactLayerAt", unfollowed := true, recurses := true, apart := false, narrowed := true }
def FnExactLayerAtUptoSaid : Prop := fnExactLayerAtUptoRow.holds Try.pinned (OpenSpec.upto fnExactLayerAtSpec)

/-- 'laws.FnExactReflectStraight', WHERE WHAT IT READS IS OF BULK AT MOST 1048576: true; the input reads as it did. -/
def fnExactReflectStraightUptoRow : OpenClaim := { program := "ytmomgaiondjinaa", sum := "dc76742535c4000347eae2049f8deb0584df8de21a2d4dabef3fdc2484bee95c", func := "loop.example/g01231/laws.FnExactReflectStraight", spec := "fnExactReflectStraight", unfollowed := true, recurses := true, apart := false, narrowed := true }
def FnExactReflectStraightUptoSaid : Prop := fnExactReflectStraightUptoRow.holds Try.pinned (OpenSpec.upto fnExactReflectStraightSpec)

/-- 'laws.FnExactSpeedAt', WHERE WHAT IT READS IS OF BULK AT MOST 1048576: true; the input reads as it did. -/
def fnExactSpeedAtUptoRow : OpenClaim := { program := "ytmomgaiondjinaa", sum := "dc76742535c4000347eae2049f8deb0584df8de21a2d4dabef3fdc2484bee95c", func := "loop.example/g01231/laws.FnExactSpeedAt", spec := "fnExactSpeedAt", unfollowed := true, recurses := true, apart := false, narrowed := true }
def FnExactSpeedAtUptoSaid : Prop := fnExactSpeedAtUptoRow.holds Try.pinned (OpenSpec.upto fnExactSpeedAtSpec)

/-- 'laws.FnExactDepthsOf', WHERE WHAT IT READS IS OF BULK AT MOST 1048576: true; the input reads as it did. -/
def fnExactDepthsOfUptoRow : OpenClaim := { program := "ytmomgaiondjinaa", sum := "dc76742535c4000347eae2049f8deb0584df8de21a2d4dabef3fdc2484bee95c", func := "loop.example/g01231/laws.FnExactDepthsOf", spec := "fnExactDepthsOf", unfollowed := true, recurses := true, apart := false, narrowed := true }
def FnExactDepthsOfUptoSaid : Prop := fnExactDepthsOfUptoRow.holds Try.pinned (OpenSpec.upto fnExactDepthsOfSpec)

/-- 'laws.FnExactTimesDown', WHERE WHAT IT READS IS OF BULK AT MOST 1048576: true; the input reads as it did. -/
def fnExactTimesDownUptoRow : OpenClaim := { program := "ytmomgaiondjinaa", sum := "dc76742535c4000347eae2049f8deb0584df8de21a2d4dabef3fdc2484bee95c", func := "loop.example/g01231/laws.FnExactTimesDown", spec := "fnExactTimesDown", unfollowed := true, recurses := true, apart := false, narrowed := true }
def FnExactTimesDownUptoSaid : Prop := fnExactTimesDownUptoRow.holds Try.pinned (OpenSpec.upto fnExactTimesDownSpec)

/-- 'laws.FnExactTurnGround', WHERE WHAT IT READS IS OF BULK AT MOST 1048576: true; the input reads as it did. -/
def fnExactTurnGroundUptoRow : OpenClaim := { program := "ytmomgaiondjinaa", sum := "dc76742535c4000347eae2049f8deb0584df8de21a2d4dabef3fdc2484bee95c", func := "loop.example/g01231/laws.FnExactTurnGround", spec := "fnExactTurnGround", unfollowed := true, recurses := true, apart := false, narrowed := true }
def FnExactTurnGroundUptoSaid : Prop := fnExactTurnGroundUptoRow.holds Try.pinned (OpenSpec.upto fnExactTurnGroundSpec)

/-- 'laws.FnExactStraightEchoes', WHERE WHAT IT READS IS OF BULK AT MOST 1048576: true; the input reads as it did. -/
def fnExactStraightEchoesUptoRow : OpenClaim := { program := "ytmomgaiondjinaa", sum := "dc76742535c4000347eae2049f8deb0584df8de21a2d4dabef3fdc2484bee95c", func := "loop.example/g01231/laws.FnExactStraightEchoes", spec := "fnExactStraightEchoes", unfollowed := true, recurses := true, apart := false, narrowed := true }
def FnExactStraightEchoesUptoSaid : Prop := fnExactStraightEchoesUptoRow.holds Try.pinned (OpenSpec.upto fnExactStraightEchoesSpec)

/-- 'laws.FnExactCosineIn', WHERE WHAT IT READS IS OF BULK AT MOST 1048576: true; the input reads as it did. -/
def fnExactCosineInUptoRow : OpenClaim := { program := "ytmomgaiondjinaa", sum := "dc76742535c4000347eae2049f8deb0584df8de21a2d4dabef3fdc2484bee95c", func := "loop.example/g01231/laws.FnExactCosineIn", spec := "fnExactCosineIn", inPlace := ["math.sqrt"], unfollowed := true, recurses := true, apart := false, narrowed := true }
def FnExactCosineInUptoSaid : Prop := fnExactCosineInUptoRow.holds Try.pinned (OpenSpec.upto fnExactCosineInSpec)

/-- 'laws.FnExactMeanSpeeds', WHERE WHAT IT READS IS OF BULK AT MOST 1048576: true; the input reads as it did. -/
def fnExactMeanSpeedsUptoRow : OpenClaim := { program := "ytmomgaiondjinaa", sum := "dc76742535c4000347eae2049f8deb0584df8de21a2d4dabef3fdc2484bee95c", func := "loop.example/g01231/laws.FnExactMeanSpeeds", spec := "fnExactMeanSpeeds", unfollowed := true, recurses := true, apart := false, narrowed := true }
def FnExactMeanSpeedsUptoSaid : Prop := fnExactMeanSpeedsUptoRow.holds Try.pinned (OpenSpec.upto fnExactMeanSpeedsSpec)

end Rows
end Go.Proofs.Ytmomgaiondjinaa

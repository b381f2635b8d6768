/-
  No cell of these rows narrows 'for every input' (looked for: loops, veiled, ifaces, maps, wideKeys, modest, calm, conditions, laid).
  DERIVED. THE GIVEN ROWS OF THIS SEAT. 13 by the template 'for every input the law returns true; each argument reads behind the call as it read before'; 0 by the template 'total and deterministic' (their statements: YtjhhecidaableaaTotals.lean).
  GIVEN WITH THE SEED: the statements are not yours to turn. If you find one false, say at which input.
  Laid BY PROGRAM, IN A SANDBOX (cutbox-rows.mjs): the forced cells as the released guide's own fill.sh prints them over the translation 4dbcc31c79bf9ecc… (all of the seat's roots in one cut). By AI agents, Wed Nov 11 2026. No macro, syntax, notation, axiom, sorry.
-/
import Derived.Test.YtjhhecidaableaaChecked
import GoSem.Claim
import GoSem.ClaimJoined
import GoSem.ClaimMapViews
import Derived.JoinedTies
import Derived.KernelRfl
namespace Go.Proofs.Ytjhhecidaableaa
/- THE CELL 'sum', in the pinned program and in every row, IS THE sha256 OF THE DUMP (.gsa) THAT YtjhhecidaableaaProg.lean LOADS. Nothing in Lean hashes anything: it is a label: what it is worth is what the hold of that sum in a sandbox is worth. -/
noncomputable def Try.pinned : Pinned := { name := "ytjhhecidaableaa", sum := "4dbcc31c79bf9eccb2a4b09b23a070478edb6142586298118e6035f4982793e5", checked := Try.checked }
namespace Rows
def none {H : Type} : Left H := { results := [], args := [] }

/-- 'flitlaw25.ViewNew': WHATEVER THE INPUT: true; the input reads as it did. -/
def viewNewSpec : ChangeSpec := { name := "viewNew", fn := fun _ => fun
  | [d1, d2] => { results := [.lit (.bool true)], args := [d1, d2] }
  | _ => none }
def viewNewRow : OpenClaim := { program := "ytjhhecidaableaa", sum := "4dbcc31c79bf9eccb2a4b09b23a070478edb6142586298118e6035f4982793e5", func := "flit/flitlaw25.ViewNew", spec := "viewNew", unfollowed := true, recurses := true, apart := false }
def ViewNewSaid : Prop := viewNewRow.holds Try.pinned (OpenSpec.ofChange viewNewSpec)

/-- ITS FALSE NEIGHBOUR: 'it returns false'. Refute it at one input. -/
def viewNewWrong : ChangeSpec := { name := "viewNew", fn := fun _ => fun
  | [d1, d2] => { results := [.lit (.bool false)], args := [d1, d2] }
  | _ => none }
def ViewNewWrongFalsely : Prop := viewNewRow.holds Try.pinned (OpenSpec.ofChange viewNewWrong)

/-- 'flitlaw16.ShakeRoots': WHATEVER THE INPUT: true; the input reads as it did. -/
def shakeRootsSpec : ChangeSpec := { name := "shakeRoots", fn := fun _ => fun
  | [d1, d2, d3] => { results := [.lit (.bool true)], args := [d1, d2, d3] }
  | _ => none }
def shakeRootsRow : OpenClaim := { program := "ytjhhecidaableaa", sum := "4dbcc31c79bf9eccb2a4b09b23a070478edb6142586298118e6035f4982793e5", func := "flit/flitlaw16.ShakeRoots", spec := "shakeRoots", unfollowed := true, recurses := true, apart := false }
def ShakeRootsSaid : Prop := shakeRootsRow.holds Try.pinned (OpenSpec.ofChange shakeRootsSpec)

/-- ITS FALSE NEIGHBOUR: 'it returns false'. Refute it at one input. -/
def shakeRootsWrong : ChangeSpec := { name := "shakeRoots", fn := fun _ => fun
  | [d1, d2, d3] => { results := [.lit (.bool false)], args := [d1, d2, d3] }
  | _ => none }
def ShakeRootsWrongFalsely : Prop := shakeRootsRow.holds Try.pinned (OpenSpec.ofChange shakeRootsWrong)

/-- 'flitlaw16.ShakeAll': WHATEVER THE INPUT: true; the input reads as it did. -/
def shakeAllSpec : ChangeSpec := { name := "shakeAll", fn := fun _ => fun
  | [d1, d2] => { results := [.lit (.bool true)], args := [d1, d2] }
  | _ => none }
def shakeAllRow : OpenClaim := { program := "ytjhhecidaableaa", sum := "4dbcc31c79bf9eccb2a4b09b23a070478edb6142586298118e6035f4982793e5", func := "flit/flitlaw16.ShakeAll", spec := "shakeAll", unfollowed := true, recurses := true, apart := false }
def ShakeAllSaid : Prop := shakeAllRow.holds Try.pinned (OpenSpec.ofChange shakeAllSpec)

/-- ITS FALSE NEIGHBOUR: 'it returns false'. Refute it at one input. -/
def shakeAllWrong : ChangeSpec := { name := "shakeAll", fn := fun _ => fun
  | [d1, d2] => { results := [.lit (.bool false)], args := [d1, d2] }
  | _ => none }
def ShakeAllWrongFalsely : Prop := shakeAllRow.holds Try.pinned (OpenSpec.ofChange shakeAllWrong)

/-- 'flitlaw09.CarveCells': WHATEVER THE INPUT: true; the input reads as it did. -/
def carveCellsSpec : ChangeSpec := { name := "carveCells", fn := fun _ => fun
  | [d1, d2, d3] => { results := [.lit (.bool true)], args := [d1, d2, d3] }
  | _ => none }
def carveCellsRow : OpenClaim := { program := "ytjhhecidaableaa", sum := "4dbcc31c79bf9eccb2a4b09b23a070478edb6142586298118e6035f4982793e5", func := "flit/flitlaw09.CarveCells", spec := "carveCells", unfollowed := true, recurses := true, apart := false }
def CarveCellsSaid : Prop := carveCellsRow.holds Try.pinned (OpenSpec.ofChange carveCellsSpec)

/-- ITS FALSE NEIGHBOUR: 'it returns false'. Refute it at one input. -/
def carveCellsWrong : ChangeSpec := { name := "carveCells", fn := fun _ => fun
  | [d1, d2, d3] => { results := [.lit (.bool false)], args := [d1, d2, d3] }
  | _ => none }
def CarveCellsWrongFalsely : Prop := carveCellsRow.holds Try.pinned (OpenSpec.ofChange carveCellsWrong)

/-- 'flitlaw09.CarveOnce': WHATEVER THE INPUT: true; the input reads as it did. -/
def carveOnceSpec : ChangeSpec := { name := "carveOnce", fn := fun _ => fun
  | [d1, d2] => { results := [.lit (.bool true)], args := [d1, d2] }
  | _ => none }
def carveOnceRow : OpenClaim := { program := "ytjhhecidaableaa", sum := "4dbcc31c79bf9eccb2a4b09b23a070478edb6142586298118e6035f4982793e5", func := "flit/flitlaw09.CarveOnce", spec := "carveOnce", unfollowed := true, recurses := true, apart := false }
def CarveOnceSaid : Prop := carveOnceRow.holds Try.pinned (OpenSpec.ofChange carveOnceSpec)

/-- ITS FALSE NEIGHBOUR: 'it returns false'. Refute it at one input. -/
def carveOnceWrong : ChangeSpec := { name := "carveOnce", fn := fun _ => fun
  | [d1, d2] => { results := [.lit (.bool false)], args := [d1, d2] }
  | _ => none }
def CarveOnceWrongFalsely : Prop := carveOnceRow.holds Try.pinned (OpenSpec.ofChange carveOnceWrong)

/-- 'flitlaw16.ShakePlays': WHATEVER THE INPUT: true; the input reads as it did. -/
def shakePlaysSpec : ChangeSpec := { name := "shakePlays", fn := fun _ => fun
  | [d1, d2, d3] => { results := [.lit (.bool true)], args := [d1, d2, d3] }
  | _ => none }
def shakePlaysRow : OpenClaim := { program := "ytjhhecidaableaa", sum := "4dbcc31c79bf9eccb2a4b09b23a070478edb6142586298118e6035f4982793e5", func := "flit/flitlaw16.ShakePlays", spec := "shakePlays", unfollowed := true, recurses := true, apart := false }
def ShakePlaysSaid : Prop := shakePlaysRow.holds Try.pinned (OpenSpec.ofChange shakePlaysSpec)

/-- ITS FALSE NEIGHBOUR: 'it returns false'. Refute it at one input. -/
def shakePlaysWrong : ChangeSpec := { name := "shakePlays", fn := fun _ => fun
  | [d1, d2, d3] => { results := [.lit (.bool false)], args := [d1, d2, d3] }
  | _ => none }
def ShakePlaysWrongFalsely : Prop := shakePlaysRow.holds Try.pinned (OpenSpec.ofChange shakePlaysWrong)

/-- 'flitlaw09.CarveBack': WHATEVER THE INPUT: true; the input reads as it did. -/
def carveBackSpec : ChangeSpec := { name := "carveBack", fn := fun _ => fun
  | [d1, d2, d3] => { results := [.lit (.bool true)], args := [d1, d2, d3] }
  | _ => none }
def carveBackRow : OpenClaim := { program := "ytjhhecidaableaa", sum := "4dbcc31c79bf9eccb2a4b09b23a070478edb6142586298118e6035f4982793e5", func := "flit/flitlaw09.CarveBack", spec := "carveBack", unfollowed := true, recurses := true, apart := false }
def CarveBackSaid : Prop := carveBackRow.holds Try.pinned (OpenSpec.ofChange carveBackSpec)

/-- ITS FALSE NEIGHBOUR: 'it returns false'. Refute it at one input. -/
def carveBackWrong : ChangeSpec := { name := "carveBack", fn := fun _ => fun
  | [d1, d2, d3] => { results := [.lit (.bool false)], args := [d1, d2, d3] }
  | _ => none }
def CarveBackWrongFalsely : Prop := carveBackRow.holds Try.pinned (OpenSpec.ofChange carveBackWrong)

/-- 'flitlaw09.CarvePlays': WHATEVER THE INPUT: true; the input reads as it did. -/
def carvePlaysSpec : ChangeSpec := { name := "carvePlays", fn := fun _ => fun
  | [d1, d2] => { results := [.lit (.bool true)], args := [d1, d2] }
  | _ => none }
def carvePlaysRow : OpenClaim := { program := "ytjhhecidaableaa", sum := "4dbcc31c79bf9eccb2a4b09b23a070478edb6142586298118e6035f4982793e5", func := "flit/flitlaw09.CarvePlays", spec := "carvePlays", unfollowed := true, recurses := true, apart := false }
def CarvePlaysSaid : Prop := carvePlaysRow.holds Try.pinned (OpenSpec.ofChange carvePlaysSpec)

/-- ITS FALSE NEIGHBOUR: 'it returns false'. Refute it at one input. -/
def carvePlaysWrong : ChangeSpec := { name := "carvePlays", fn := fun _ => fun
  | [d1, d2] => { results := [.lit (.bool false)], args := [d1, d2] }
  | _ => none }
def CarvePlaysWrongFalsely : Prop := carvePlaysRow.holds Try.pinned (OpenSpec.ofChange carvePlaysWrong)

/-- 'flitlaw17.TraceKeeps': WHATEVER THE INPUT: true; the input reads as it did. -/
def traceKeepsSpec : ChangeSpec := { name := "traceKeeps", fn := fun _ => fun
  | [d1, d2] => { results := [.lit (.bool true)], args := [d1, d2] }
  | _ => none }
def traceKeepsRow : OpenClaim := { program := "ytjhhecidaableaa", sum := "4dbcc31c79bf9eccb2a4b09b23a070478edb6142586298118e6035f4982793e5", func := "flit/flitlaw17.TraceKeeps", spec := "traceKeeps", unfollowed := true, recurses := true, apart := false }
def TraceKeepsSaid : Prop := traceKeepsRow.holds Try.pinned (OpenSpec.ofChange traceKeepsSpec)

/-- ITS FALSE NEIGHBOUR: 'it returns false'. Refute it at one input. -/
def traceKeepsWrong : ChangeSpec := { name := "traceKeeps", fn := fun _ => fun
  | [d1, d2] => { results := [.lit (.bool false)], args := [d1, d2] }
  | _ => none }
def TraceKeepsWrongFalsely : Prop := traceKeepsRow.holds Try.pinned (OpenSpec.ofChange traceKeepsWrong)

/-- 'flitlaw17.TraceFinds': WHATEVER THE INPUT: true; the input reads as it did. -/
def traceFindsSpec : ChangeSpec := { name := "traceFinds", fn := fun _ => fun
  | [d1, d2] => { results := [.lit (.bool true)], args := [d1, d2] }
  | _ => none }
def traceFindsRow : OpenClaim := { program := "ytjhhecidaableaa", sum := "4dbcc31c79bf9eccb2a4b09b23a070478edb6142586298118e6035f4982793e5", func := "flit/flitlaw17.TraceFinds", spec := "traceFinds", unfollowed := true, recurses := true, apart := false }
def TraceFindsSaid : Prop := traceFindsRow.holds Try.pinned (OpenSpec.ofChange traceFindsSpec)

/-- ITS FALSE NEIGHBOUR: 'it returns false'. Refute it at one input. -/
def traceFindsWrong : ChangeSpec := { name := "traceFinds", fn := fun _ => fun
  | [d1, d2] => { results := [.lit (.bool false)], args := [d1, d2] }
  | _ => none }
def TraceFindsWrongFalsely : Prop := traceFindsRow.holds Try.pinned (OpenSpec.ofChange traceFindsWrong)

/-- 'flitlaw10.AllocAll': WHATEVER THE INPUT: true; the input reads as it did. -/
def allocAllSpec : ChangeSpec := { name := "allocAll", fn := fun _ => fun
  | [d1, d2] => { results := [.lit (.bool true)], args := [d1, d2] }
  | _ => none }
def allocAllRow : OpenClaim := { program := "ytjhhecidaableaa", sum := "4dbcc31c79bf9eccb2a4b09b23a070478edb6142586298118e6035f4982793e5", func := "flit/flitlaw10.AllocAll", spec := "allocAll", unfollowed := true, recurses := true, apart := false }
def AllocAllSaid : Prop := allocAllRow.holds Try.pinned (OpenSpec.ofChange allocAllSpec)

/-- ITS FALSE NEIGHBOUR: 'it returns false'. Refute it at one input. -/
def allocAllWrong : ChangeSpec := { name := "allocAll", fn := fun _ => fun
  | [d1, d2] => { results := [.lit (.bool false)], args := [d1, d2] }
  | _ => none }
def AllocAllWrongFalsely : Prop := allocAllRow.holds Try.pinned (OpenSpec.ofChange allocAllWrong)

/-- 'flitlaw10.AllocSteps': WHATEVER THE INPUT: true; the input reads as it did. -/
def allocStepsSpec : ChangeSpec := { name := "allocSteps", fn := fun _ => fun
  | [d1, d2] => { results := [.lit (.bool true)], args := [d1, d2] }
  | _ => none }
def allocStepsRow : OpenClaim := { program := "ytjhhecidaableaa", sum := "4dbcc31c79bf9eccb2a4b09b23a070478edb6142586298118e6035f4982793e5", func := "flit/flitlaw10.AllocSteps", spec := "allocSteps", unfollowed := true, recurses := true, apart := false }
def AllocStepsSaid : Prop := allocStepsRow.holds Try.pinned (OpenSpec.ofChange allocStepsSpec)

/-- ITS FALSE NEIGHBOUR: 'it returns false'. Refute it at one input. -/
def allocStepsWrong : ChangeSpec := { name := "allocSteps", fn := fun _ => fun
  | [d1, d2] => { results := [.lit (.bool false)], args := [d1, d2] }
  | _ => none }
def AllocStepsWrongFalsely : Prop := allocStepsRow.holds Try.pinned (OpenSpec.ofChange allocStepsWrong)

/-- 'flitlaw10.AllocOwn': WHATEVER THE INPUT: true; the input reads as it did. -/
def allocOwnSpec : ChangeSpec := { name := "allocOwn", fn := fun _ => fun
  | [d1, d2] => { results := [.lit (.bool true)], args := [d1, d2] }
  | _ => none }
def allocOwnRow : OpenClaim := { program := "ytjhhecidaableaa", sum := "4dbcc31c79bf9eccb2a4b09b23a070478edb6142586298118e6035f4982793e5", func := "flit/flitlaw10.AllocOwn", spec := "allocOwn", unfollowed := true, recurses := true, apart := false }
def AllocOwnSaid : Prop := allocOwnRow.holds Try.pinned (OpenSpec.ofChange allocOwnSpec)

/-- ITS FALSE NEIGHBOUR: 'it returns false'. Refute it at one input. -/
def allocOwnWrong : ChangeSpec := { name := "allocOwn", fn := fun _ => fun
  | [d1, d2] => { results := [.lit (.bool false)], args := [d1, d2] }
  | _ => none }
def AllocOwnWrongFalsely : Prop := allocOwnRow.holds Try.pinned (OpenSpec.ofChange allocOwnWrong)

/- THE SECOND FORM. 'bulk': how many values and letters a reading holds, each counted each time it is reached (what is shared counts as often as it is met; a slice's spare places count too). A statement '..UptoSaid' is the law's where the arguments, and the package variables that the reading takes, are together of bulk at most 1048576: NARROWER than '..Said'. Prove '..Said' where nothing that the law and all that it calls make is longer than what came in: it says more and counts as full. Else prove '..UptoSaid'. A law counts once. -/
mutual
def uptoBulk {H : Type} : DataW H → Nat
  | .lit (.string bytes) => bytes.length + 1
  | .lit _ => 1
  | .nil => 1
  | .ptr d => uptoBulk d + 1
  | .slice elems spare => uptoBulkAll elems + uptoBulkAll spare + 1
  | .agg parts => uptoBulkAll parts + 1
  | .iface _ d => uptoBulk d + 1
  | .map entries => uptoBulkEntries entries + 1
  | .held _ => 1
def uptoBulkAll {H : Type} : List (DataW H) → Nat
  | [] => 0
  | d :: r => uptoBulk d + uptoBulkAll r
def uptoBulkEntries {H : Type} : List (Lit × DataW H) → Nat
  | [] => 0
  | x :: r => uptoBulkEntry x + uptoBulkEntries r
def uptoBulkEntry {H : Type} : Lit × DataW H → Nat
  | (.string bytes, d) => bytes.length + uptoBulk d + 1
  | (_, d) => uptoBulk d + 1
 end
def uptoSmall : (H : Type) → List (DataW H) → Bool := fun _ ds => decide (uptoBulkAll ds ≤ 1048576)
def OpenSpec.upto (s : _root_.Go.ChangeSpec) : _root_.Go.OpenSpec := { _root_.Go.OpenSpec.ofChange s with cond := some uptoSmall }

/-- 'flitlaw25.ViewNew', WHERE WHAT IT READS IS OF BULK AT MOST 1048576: true; the input reads as it did. -/
def viewNewUptoRow : OpenClaim := { program := "ytjhhecidaableaa", sum := "4dbcc31c79bf9eccb2a4b09b23a070478edb6142586298118e6035f4982793e5", func := "flit/flitlaw25.ViewNew", spec := "viewNew", unfollowed := true, recurses := true, apart := false, narrowed := true }
def ViewNewUptoSaid : Prop := viewNewUptoRow.holds Try.pinned (OpenSpec.upto viewNewSpec)

/-- 'flitlaw16.ShakeRoots', WHERE WHAT IT READS IS OF BULK AT MOST 1048576: true; the input reads as it did. -/
def shakeRootsUptoRow : OpenClaim := { program := "ytjhhecidaableaa", sum := "4dbcc31c79bf9eccb2a4b09b23a070478edb6142586298118e6035f4982793e5", func := "flit/flitlaw16.ShakeRoots", spec := "shakeRoots", unfollowed := true, recurses := true, apart := false, narrowed := true }
def ShakeRootsUptoSaid : Prop := shakeRootsUptoRow.holds Try.pinned (OpenSpec.upto shakeRootsSpec)

/-- 'flitlaw16.ShakeAll', WHERE WHAT IT READS IS OF BULK AT MOST 1048576: true; the input reads as it did. -/
def shakeAllUptoRow : OpenClaim := { program := "ytjhhecidaableaa", sum := "4dbcc31c79bf9eccb2a4b09b23a070478edb6142586298118e6035f4982793e5", func := "flit/flitlaw16.ShakeAll", spec := "shakeAll", unfollowed := true, recurses := true, apart := false, narrowed := true }
def ShakeAllUptoSaid : Prop := shakeAllUptoRow.holds Try.pinned (OpenSpec.upto shakeAllSpec)

/-- 'flitlaw09.CarveCells', WHERE WHAT IT READS IS OF BULK AT MOST 1048576: true; the input reads as it did. -/
def carveCellsUptoRow : OpenClaim := { program := "ytjhhecidaableaa", sum := "4dbcc31c79bf9eccb2a4b09b23a070478edb6142586298118e6035f4982793e5", func := "flit/flitlaw09.CarveCells", spec := "carveCells", unfollowed := true, recurses := true, apart := false, narrowed := true }
def CarveCellsUptoSaid : Prop := carveCellsUptoRow.holds Try.pinned (OpenSpec.upto carveCellsSpec)

/-- 'flitlaw09.CarveOnce', WHERE WHAT IT READS IS OF BULK AT MOST 1048576: true; the input reads as it did. -/
def carveOnceUptoRow : OpenClaim := { program := "ytjhhecidaableaa", sum := "4dbcc31c79bf9eccb2a4b09b23a070478edb6142586298118e6035f4982793e5", func := "flit/flitlaw09.CarveOnce", spec := "carveOnce", unfollowed := true, recurses := true, apart := false, narrowed := true }
def CarveOnceUptoSaid : Prop := carveOnceUptoRow.holds Try.pinned (OpenSpec.upto carveOnceSpec)

/-- 'flitlaw16.ShakePlays', WHERE WHAT IT READS IS OF BULK AT MOST 1048576: true; the input reads as it did. -/
def shakePlaysUptoRow : OpenClaim := { program := "ytjhhecidaableaa", sum := "4dbcc31c79bf9eccb2a4b09b23a070478edb6142586298118e6035f4982793e5", func := "flit/flitlaw16.ShakePlays", spec := "shakePlays", unfollowed := true, recurses := true, apart := false, narrowed := true }
def ShakePlaysUptoSaid : Prop := shakePlaysUptoRow.holds Try.pinned (OpenSpec.upto shakePlaysSpec)

/-- 'flitlaw09.CarveBack', WHERE WHAT IT READS IS OF BULK AT MOST 1048576: true; the input reads as it did. -/
def carveBackUptoRow : OpenClaim := { program := "ytjhhecidaableaa", sum := "4dbcc31c79bf9eccb2a4b09b23a070478edb6142586298118e6035f4982793e5", func := "flit/flitlaw09.CarveBack", spec := "carveBack", unfollowed := true, recurses := true, apart := false, narrowed := true }
def CarveBackUptoSaid : Prop := carveBackUptoRow.holds Try.pinned (OpenSpec.upto carveBackSpec)

/-- 'flitlaw09.CarvePlays', WHERE WHAT IT READS IS OF BULK AT MOST 1048576: true; the input reads as it did. -/
def carvePlaysUptoRow : OpenClaim := { program := "ytjhhecidaableaa", sum := "4dbcc31c79bf9eccb2a4b09b23a070478edb6142586298118e6035f4982793e5", func := "flit/flitlaw09.CarvePlays", spec := "carvePlays", unfollowed := true, recurses := true, apart := false, narrowed := true }
def CarvePlaysUptoSaid : Prop := carvePlaysUptoRow.holds Try.pinned (OpenSpec.upto carvePlaysSpec)

/-- 'flitlaw17.TraceKeeps', WHERE WHAT IT READS IS OF BULK AT MOST 1048576: true; the input reads as it did. -/
def traceKeepsUptoRow : OpenClaim := { program := "ytjhhecidaableaa", sum := "4dbcc31c79bf9eccb2a4b09b23a070478edb6142586298118e6035f4982793e5", func := "flit/flitlaw17.TraceKeeps", spec := "traceKeeps", unfollowed := true, recurses := true, apart := false, narrowed := true }
def TraceKeepsUptoSaid : Prop := traceKeepsUptoRow.holds Try.pinned (OpenSpec.upto traceKeepsSpec)

/-- 'flitlaw17.TraceFinds', WHERE WHAT IT READS IS OF BULK AT MOST 1048576: true; the input reads as it did. -/
def traceFindsUptoRow : OpenClaim := { program := "ytjhhecidaableaa", sum := "4dbcc31c79bf9eccb2a4b09b23a070478edb6142586298118e6035f4982793e5", func := "flit/flitlaw17.TraceFinds", spec := "traceFinds", unfollowed := true, recurses := true, apart := false, narrowed := true }
def TraceFindsUptoSaid : Prop := traceFindsUptoRow.holds Try.pinned (OpenSpec.upto traceFindsSpec)

/-- 'flitlaw10.AllocAll', WHERE WHAT IT READS IS OF BULK AT MOST 1048576: true; the input reads as it did. -/
def allocAllUptoRow : OpenClaim := { program := "ytjhhecidaableaa", sum := "4dbcc31c79bf9eccb2a4b09b23a070478edb6142586298118e6035f4982793e5", func := "flit/flitlaw10.AllocAll", spec := "allocAll", unfollowed := true, recurses := true, apart := false, narrowed := true }
def AllocAllUptoSaid : Prop := allocAllUptoRow.holds Try.pinned (OpenSpec.upto allocAllSpec)

/-- 'flitlaw10.AllocSteps', WHERE WHAT IT READS IS OF BULK AT MOST 1048576: true; the input reads as it did. -/
def allocStepsUptoRow : OpenClaim := { program := "ytjhhecidaableaa", sum := "4dbcc31c79bf9eccb2a4b09b23a070478edb6142586298118e6035f4982793e5", func := "flit/flitlaw10.AllocSteps", spec := "allocSteps", unfollowed := true, recurses := true, apart := false, narrowed := true }
def AllocStepsUptoSaid : Prop := allocStepsUptoRow.holds Try.pinned (OpenSpec.upto allocStepsSpec)

/-- 'flitlaw10.AllocOwn', WHERE WHAT IT READS IS OF BULK AT MOST 1048576: true; the input reads as it did. -/
def allocOwnUptoRow : OpenClaim := { program := "ytjhhecidaableaa", sum := "4dbcc31c79bf9eccb2a4b09b23a070478edb6142586298118e6035f4982793e5", func := "flit/flitlaw10.AllocOwn", spec := "allocOwn", unfollowed := true, recurses := true, apart := false, narrowed := true }
def AllocOwnUptoSaid : Prop := allocOwnUptoRow.holds Try.pinned (OpenSpec.upto allocOwnSpec)

end Rows
end Go.Proofs.Ytjhhecidaableaa

/-
  No cell of these rows narrows 'for every input' (looked for: loops, veiled, ifaces, maps, wideKeys, modest, calm, conditions, laid).
  DERIVED. THE GIVEN ROWS OF THIS SEAT. 5 by the template 'for every input the law returns true; each argument reads behind the call as it read before'; 0 by the template 'total and deterministic' (their statements: YtifggpbjkhmjiaaTotals.lean).
  GIVEN WITH THE SEED: the statements are not yours to turn. If you find one false, say at which input.
  Laid BY PROGRAM, IN A SANDBOX (cutbox-rows.mjs): the forced cells as the released guide's own fill.sh prints them over the translation 608bace32a6c6dc1… (all of the seat's roots in one cut). By AI agents, Wed Nov 11 2026. No macro, syntax, notation, axiom, sorry.
-/
import Derived.Test.YtifggpbjkhmjiaaChecked
import GoSem.Claim
import GoSem.ClaimJoined
import GoSem.ClaimMapViews
import Derived.JoinedTies
import Derived.KernelRfl
namespace Go.Proofs.Ytifggpbjkhmjiaa
/- THE CELL 'sum', in the pinned program and in every row, IS THE sha256 OF THE DUMP (.gsa) THAT YtifggpbjkhmjiaaProg.lean LOADS. Nothing in Lean hashes anything: it is a label: what it is worth is what the hold of that sum in a sandbox is worth. -/
noncomputable def Try.pinned : Pinned := { name := "ytifggpbjkhmjiaa", sum := "608bace32a6c6dc11c6bff9b8ec89cec7f35fca7f99dda0a2e17040de9383e75", checked := Try.checked }
namespace Rows
def none {H : Type} : Left H := { results := [], args := [] }

/-- 'laws.FnExactFileOk': WHATEVER THE INPUT: true; the input reads as it did. -/
def fnExactFileOkSpec : ChangeSpec := { name := "fnExactFileOk", fn := fun _ => fun
  | [d] => { results := [.lit (.bool true)], args := [d] }
  | _ => none }
def fnExactFileOkRow : OpenClaim := { program := "ytifggpbjkhmjiaa", sum := "608bace32a6c6dc11c6bff9b8ec89cec7f35fca7f99dda0a2e17040de9383e75", func := "loop.example/g00113/laws.FnExactFileOk", spec := "fnExactFileOk", apart := false }
def FnExactFileOkSaid : Prop := fnExactFileOkRow.holds Try.pinned (OpenSpec.ofChange fnExactFileOkSpec)

/-- ITS FALSE NEIGHBOUR: 'it returns false'. Refute it at one input. -/
def fnExactFileOkWrong : ChangeSpec := { name := "fnExactFileOk", fn := fun _ => fun
  | [d] => { results := [.lit (.bool false)], args := [d] }
  | _ => none }
def FnExactFileOkWrongFalsely : Prop := fnExactFileOkRow.holds Try.pinned (OpenSpec.ofChange fnExactFileOkWrong)

/-- 'laws.FnExactFileSync': WHATEVER THE INPUT: true; the input reads as it did. -/
def fnExactFileSyncSpec : ChangeSpec := { name := "fnExactFileSync", fn := fun _ => fun
  | [d] => { results := [.lit (.bool true)], args := [d] }
  | _ => none }
def fnExactFileSyncRow : OpenClaim := { program := "ytifggpbjkhmjiaa", sum := "608bace32a6c6dc11c6bff9b8ec89cec7f35fca7f99dda0a2e17040de9383e75", func := "loop.example/g00113/laws.FnExactFileSync", spec := "fnExactFileSync", apart := false }
def FnExactFileSyncSaid : Prop := fnExactFileSyncRow.holds Try.pinned (OpenSpec.ofChange fnExactFileSyncSpec)

/-- ITS FALSE NEIGHBOUR: 'it returns false'. Refute it at one input. -/
def fnExactFileSyncWrong : ChangeSpec := { name := "fnExactFileSync", fn := fun _ => fun
  | [d] => { results := [.lit (.bool false)], args := [d] }
  | _ => none }
def FnExactFileSyncWrongFalsely : Prop := fnExactFileSyncRow.holds Try.pinned (OpenSpec.ofChange fnExactFileSyncWrong)

/-- 'laws.FnExactFileCrash': WHATEVER THE INPUT: true; the input reads as it did. -/
def fnExactFileCrashSpec : ChangeSpec := { name := "fnExactFileCrash", fn := fun _ => fun
  | [d1, d2] => { results := [.lit (.bool true)], args := [d1, d2] }
  | _ => none }
def fnExactFileCrashRow : OpenClaim := { program := "ytifggpbjkhmjiaa", sum := "608bace32a6c6dc11c6bff9b8ec89cec7f35fca7f99dda0a2e17040de9383e75", func := "loop.example/g00113/laws.FnExactFileCrash", spec := "fnExactFileCrash", apart := false }
def FnExactFileCrashSaid : Prop := fnExactFileCrashRow.holds Try.pinned (OpenSpec.ofChange fnExactFileCrashSpec)

/-- ITS FALSE NEIGHBOUR: 'it returns false'. Refute it at one input. -/
def fnExactFileCrashWrong : ChangeSpec := { name := "fnExactFileCrash", fn := fun _ => fun
  | [d1, d2] => { results := [.lit (.bool false)], args := [d1, d2] }
  | _ => none }
def FnExactFileCrashWrongFalsely : Prop := fnExactFileCrashRow.holds Try.pinned (OpenSpec.ofChange fnExactFileCrashWrong)

/-- 'laws.FnExactFileAdd': WHATEVER THE INPUT: true; the input reads as it did. -/
def fnExactFileAddSpec : ChangeSpec := { name := "fnExactFileAdd", fn := fun _ => fun
  | [d1, d2] => { results := [.lit (.bool true)], args := [d1, d2] }
  | _ => none }
def fnExactFileAddRow : OpenClaim := { program := "ytifggpbjkhmjiaa", sum := "608bace32a6c6dc11c6bff9b8ec89cec7f35fca7f99dda0a2e17040de9383e75", func := "loop.example/g00113/laws.FnExactFileAdd", spec := "fnExactFileAdd", apart := false }
def FnExactFileAddSaid : Prop := fnExactFileAddRow.holds Try.pinned (OpenSpec.ofChange fnExactFileAddSpec)

/-- ITS FALSE NEIGHBOUR: 'it returns false'. Refute it at one input. -/
def fnExactFileAddWrong : ChangeSpec := { name := "fnExactFileAdd", fn := fun _ => fun
  | [d1, d2] => { results := [.lit (.bool false)], args := [d1, d2] }
  | _ => none }
def FnExactFileAddWrongFalsely : Prop := fnExactFileAddRow.holds Try.pinned (OpenSpec.ofChange fnExactFileAddWrong)

/-- 'laws.FnFiles': WHATEVER THE INPUT: true; the input reads as it did. -/
def fnFilesSpec : ChangeSpec := { name := "fnFiles", fn := fun _ => fun
  | [d] => { results := [.lit (.bool true)], args := [d] }
  | _ => none }
def fnFilesRow : OpenClaim := { program := "ytifggpbjkhmjiaa", sum := "608bace32a6c6dc11c6bff9b8ec89cec7f35fca7f99dda0a2e17040de9383e75", func := "loop.example/g00113/laws.FnFiles", spec := "fnFiles", apart := false }
def FnFilesSaid : Prop := fnFilesRow.holds Try.pinned (OpenSpec.ofChange fnFilesSpec)

/-- ITS FALSE NEIGHBOUR: 'it returns false'. Refute it at one input. -/
def fnFilesWrong : ChangeSpec := { name := "fnFiles", fn := fun _ => fun
  | [d] => { results := [.lit (.bool false)], args := [d] }
  | _ => none }
def FnFilesWrongFalsely : Prop := fnFilesRow.holds Try.pinned (OpenSpec.ofChange fnFilesWrong)

/- THE SECOND FORM. 'bulk': how many values and letters a reading holds, each counted each time it is reached (what is shared counts as often as it is met; a slice's spare places count too). A statement '..UptoSaid' is the law's where the arguments, and the package variables that the reading takes, are together of bulk at most 1048576: NARROWER than '..Said'. Prove '..Said' where nothing that the law and all that it calls make is longer than what came in: it says more and counts as full. Else prove '..UptoSaid'. A law counts once. -/
mutual
def uptoBulk {H : Type} : DataW H → Nat
  | .lit (.string bytes) => bytes.length + 1
  | .lit _ => 1
  | .nil => 1
  | .ptr d => uptoBulk d + 1
  | .slice elems spare => uptoBulkAll elems + uptoBulkAll spare + 1
  | .agg parts => uptoBulkAll parts + 1
  | .iface _ d => uptoBulk d + 1
  | .map entries => uptoBulkEntries entries + 1
  | .held _ => 1
def uptoBulkAll {H : Type} : List (DataW H) → Nat
  | [] => 0
  | d :: r => uptoBulk d + uptoBulkAll r
def uptoBulkEntries {H : Type} : List (Lit × DataW H) → Nat
  | [] => 0
  | x :: r => uptoBulkEntry x + uptoBulkEntries r
def uptoBulkEntry {H : Type} : Lit × DataW H → Nat
  | (.string bytes, d) => bytes.length + uptoBulk d + 1
  | (_, d) => uptoBulk d + 1
 end
def uptoSmall : (H : Type) → List (DataW H) → Bool := fun _ ds => decide (uptoBulkAll ds ≤ 1048576)
def OpenSpec.upto (s : _root_.Go.ChangeSpec) : _root_.Go.OpenSpec := { _root_.Go.OpenSpec.ofChange s with cond := some uptoSmall }

/-- 'laws.FnExactFileOk', WHERE WHAT IT READS IS OF BULK AT MOST 1048576: true; the input reads as it did. -/
def fnExactFileOkUptoRow : OpenClaim := { program := "ytifggpbjkhmjiaa", sum := "608bace32a6c6dc11c6bff9b8ec89cec7f35fca7f99dda0a2e17040de9383e75", func := "loop.example/g00113/laws.FnExactFileOk", spec := "fnExactFileOk", apart := false, narrowed := true }
def FnExactFileOkUptoSaid : Prop := fnExactFileOkUptoRow.holds Try.pinned (OpenSpec.upto fnExactFileOkSpec)

/-- 'laws.FnExactFileSync', WHERE WHAT IT READS IS OF BULK AT MOST 1048576: true; the input reads as it did. -/
def fnExactFileSyncUptoRow : OpenClaim := { program := "ytifggpbjkhmjiaa", sum := "608bace32a6c6dc11c6bff9b8ec89cec7f35fca7f99dda0a2e17040de9383e75", func := "loop.example/g00113/laws.FnExactFileSync", spec := "fnExactFileSync", apart := false, narrowed := true }
def FnExactFileSyncUptoSaid : Prop := fnExactFileSyncUptoRow.holds Try.pinned (OpenSpec.upto fnExactFileSyncSpec)

/-- 'laws.FnExactFileCrash', WHERE WHAT IT READS IS OF BULK AT MOST 1048576: true; the input reads as it did. -/
def fnExactFileCrashUptoRow : OpenClaim := { program := "ytifggpbjkhmjiaa", sum := "608bace32a6c6dc11c6bff9b8ec89cec7f35fca7f99dda0a2e17040de9383e75", func := "loop.example/g00113/laws.FnExactFileCrash", spec := "fnExactFileCrash", apart := false, narrowed := true }
def FnExactFileCrashUptoSaid : Prop := fnExactFileCrashUptoRow.holds Try.pinned (OpenSpec.upto fnExactFileCrashSpec)

/-- 'laws.FnExactFileAdd', WHERE WHAT IT READS IS OF BULK AT MOST 1048576: true; the input reads as it did. -/
def fnExactFileAddUptoRow : OpenClaim := { program := "ytifggpbjkhmjiaa", sum := "608bace32a6c6dc11c6bff9b8ec89cec7f35fca7f99dda0a2e17040de9383e75", func := "loop.example/g00113/laws.FnExactFileAdd", spec := "fnExactFileAdd", apart := false, narrowed := true }
def FnExactFileAddUptoSaid : Prop := fnExactFileAddUptoRow.holds Try.pinned (OpenSpec.upto fnExactFileAddSpec)

/-- 'laws.FnFiles', WHERE WHAT IT READS IS OF BULK AT MOST 1048576: true; the input reads as it did. -/
def fnFilesUptoRow : OpenClaim := { program := "ytifggpbjkhmjiaa", sum := "608bace32a6c6dc11c6bff9b8ec89cec7f35fca7f99dda0a2e17040de9383e75", func := "loop.example/g00113/laws.FnFiles", spec := "fnFiles", apart := false, narrowed := true }
def FnFilesUptoSaid : Prop := fnFilesUptoRow.holds Try.pinned (OpenSpec.upto fnFilesSpec)

end Rows
end Go.Proofs.Ytifggpbjkhmjiaa

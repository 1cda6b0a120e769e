/-
  No cell of these rows narrows 'for every input' (looked for: loops, veiled, ifaces, maps, wideKeys, modest, calm, conditions, laid).
  DERIVED. THE GIVEN ROWS OF THIS SEAT. 8 by the template 'for every input the law returns true; each argument reads behind the call as it read before'; 0 by the template 'total and deterministic' (their statements: YtgbchcpekidllaaTotals.lean).
  GIVEN WITH THE SEED: the statements are not yours to turn. If you find one false, say at which input.
  Laid BY PROGRAM, IN A SANDBOX (cutbox-rows.mjs): the forced cells as the released guide's own fill.sh prints them over the translation e690d46a6cbcec52… (all of the seat's roots in one cut). By AI agents, Wed Nov 11 2026. No macro, syntax, notation, axiom, sorry.
-/
import Derived.Test.YtgbchcpekidllaaChecked
import GoSem.Claim
import GoSem.ClaimJoined
import GoSem.ClaimMapViews
import Derived.JoinedTies
import Derived.KernelRfl
namespace Go.Proofs.Ytgbchcpekidllaa
/- THE CELL 'sum', in the pinned program and in every row, IS THE sha256 OF THE DUMP (.gsa) THAT YtgbchcpekidllaaProg.lean LOADS. Nothing in Lean hashes anything: it is a label: what it is worth is what the hold of that sum in a sandbox is worth. -/
noncomputable def Try.pinned : Pinned := { name := "ytgbchcpekidllaa", sum := "e690d46a6cbcec5296a24c1a2d229ea04ac0ccce87f5bb72b290ce7195ad2887", checked := Try.checked }
namespace Rows
def none {H : Type} : Left H := { results := [], args := [] }

/-- 'laws.FnExactBookOk': WHATEVER THE INPUT: true; the input reads as it did. -/
def fnExactBookOkSpec : ChangeSpec := { name := "fnExactBookOk", fn := fun _ => fun
  | [d] => { results := [.lit (.bool true)], args := [d] }
  | _ => none }
def fnExactBookOkRow : OpenClaim := { program := "ytgbchcpekidllaa", sum := "e690d46a6cbcec5296a24c1a2d229ea04ac0ccce87f5bb72b290ce7195ad2887", func := "loop.example/g00113/laws.FnExactBookOk", spec := "fnExactBookOk", unfollowed := true, recurses := true, apart := false }
def FnExactBookOkSaid : Prop := fnExactBookOkRow.holds Try.pinned (OpenSpec.ofChange fnExactBookOkSpec)

/-- ITS FALSE NEIGHBOUR: 'it returns false'. Refute it at one input. -/
def fnExactBookOkWrong : ChangeSpec := { name := "fnExactBookOk", fn := fun _ => fun
  | [d] => { results := [.lit (.bool false)], args := [d] }
  | _ => none }
def FnExactBookOkWrongFalsely : Prop := fnExactBookOkRow.holds Try.pinned (OpenSpec.ofChange fnExactBookOkWrong)

/-- 'laws.FnExactHolder': WHATEVER THE INPUT: true; the input reads as it did. -/
def fnExactHolderSpec : ChangeSpec := { name := "fnExactHolder", fn := fun _ => fun
  | [d1, d2, d3] => { results := [.lit (.bool true)], args := [d1, d2, d3] }
  | _ => none }
def fnExactHolderRow : OpenClaim := { program := "ytgbchcpekidllaa", sum := "e690d46a6cbcec5296a24c1a2d229ea04ac0ccce87f5bb72b290ce7195ad2887", func := "loop.example/g00113/laws.FnExactHolder", spec := "fnExactHolder", unfollowed := true, recurses := true, apart := false }
def FnExactHolderSaid : Prop := fnExactHolderRow.holds Try.pinned (OpenSpec.ofChange fnExactHolderSpec)

/-- ITS FALSE NEIGHBOUR: 'it returns false'. Refute it at one input. -/
def fnExactHolderWrong : ChangeSpec := { name := "fnExactHolder", fn := fun _ => fun
  | [d1, d2, d3] => { results := [.lit (.bool false)], args := [d1, d2, d3] }
  | _ => none }
def FnExactHolderWrongFalsely : Prop := fnExactHolderRow.holds Try.pinned (OpenSpec.ofChange fnExactHolderWrong)

/-- 'laws.FnExactRenew': WHATEVER THE INPUT: true; the input reads as it did. -/
def fnExactRenewSpec : ChangeSpec := { name := "fnExactRenew", fn := fun _ => fun
  | [d1, d2, d3, d4] => { results := [.lit (.bool true)], args := [d1, d2, d3, d4] }
  | _ => none }
def fnExactRenewRow : OpenClaim := { program := "ytgbchcpekidllaa", sum := "e690d46a6cbcec5296a24c1a2d229ea04ac0ccce87f5bb72b290ce7195ad2887", func := "loop.example/g00113/laws.FnExactRenew", spec := "fnExactRenew", unfollowed := true, recurses := true, apart := false }
def FnExactRenewSaid : Prop := fnExactRenewRow.holds Try.pinned (OpenSpec.ofChange fnExactRenewSpec)

/-- ITS FALSE NEIGHBOUR: 'it returns false'. Refute it at one input. -/
def fnExactRenewWrong : ChangeSpec := { name := "fnExactRenew", fn := fun _ => fun
  | [d1, d2, d3, d4] => { results := [.lit (.bool false)], args := [d1, d2, d3, d4] }
  | _ => none }
def FnExactRenewWrongFalsely : Prop := fnExactRenewRow.holds Try.pinned (OpenSpec.ofChange fnExactRenewWrong)

/-- 'laws.FnExactRelease': WHATEVER THE INPUT: true; the input reads as it did. -/
def fnExactReleaseSpec : ChangeSpec := { name := "fnExactRelease", fn := fun _ => fun
  | [d1, d2, d3] => { results := [.lit (.bool true)], args := [d1, d2, d3] }
  | _ => none }
def fnExactReleaseRow : OpenClaim := { program := "ytgbchcpekidllaa", sum := "e690d46a6cbcec5296a24c1a2d229ea04ac0ccce87f5bb72b290ce7195ad2887", func := "loop.example/g00113/laws.FnExactRelease", spec := "fnExactRelease", unfollowed := true, recurses := true, apart := false }
def FnExactReleaseSaid : Prop := fnExactReleaseRow.holds Try.pinned (OpenSpec.ofChange fnExactReleaseSpec)

/-- ITS FALSE NEIGHBOUR: 'it returns false'. Refute it at one input. -/
def fnExactReleaseWrong : ChangeSpec := { name := "fnExactRelease", fn := fun _ => fun
  | [d1, d2, d3] => { results := [.lit (.bool false)], args := [d1, d2, d3] }
  | _ => none }
def FnExactReleaseWrongFalsely : Prop := fnExactReleaseRow.holds Try.pinned (OpenSpec.ofChange fnExactReleaseWrong)

/-- 'laws.FnExactAdvance': WHATEVER THE INPUT: true; the input reads as it did. -/
def fnExactAdvanceSpec : ChangeSpec := { name := "fnExactAdvance", fn := fun _ => fun
  | [d1, d2] => { results := [.lit (.bool true)], args := [d1, d2] }
  | _ => none }
def fnExactAdvanceRow : OpenClaim := { program := "ytgbchcpekidllaa", sum := "e690d46a6cbcec5296a24c1a2d229ea04ac0ccce87f5bb72b290ce7195ad2887", func := "loop.example/g00113/laws.FnExactAdvance", spec := "fnExactAdvance", unfollowed := true, recurses := true, apart := false }
def FnExactAdvanceSaid : Prop := fnExactAdvanceRow.holds Try.pinned (OpenSpec.ofChange fnExactAdvanceSpec)

/-- ITS FALSE NEIGHBOUR: 'it returns false'. Refute it at one input. -/
def fnExactAdvanceWrong : ChangeSpec := { name := "fnExactAdvance", fn := fun _ => fun
  | [d1, d2] => { results := [.lit (.bool false)], args := [d1, d2] }
  | _ => none }
def FnExactAdvanceWrongFalsely : Prop := fnExactAdvanceRow.holds Try.pinned (OpenSpec.ofChange fnExactAdvanceWrong)

/-- 'laws.FnExactGrant': WHATEVER THE INPUT: true; the input reads as it did. -/
def fnExactGrantSpec : ChangeSpec := { name := "fnExactGrant", fn := fun _ => fun
  | [d1, d2, d3, d4] => { results := [.lit (.bool true)], args := [d1, d2, d3, d4] }
  | _ => none }
def fnExactGrantRow : OpenClaim := { program := "ytgbchcpekidllaa", sum := "e690d46a6cbcec5296a24c1a2d229ea04ac0ccce87f5bb72b290ce7195ad2887", func := "loop.example/g00113/laws.FnExactGrant", spec := "fnExactGrant", inPlace := ["slices.overlaps[loop.example/g00113/impl.Lease]"], unfollowed := true, recurses := true, apart := false }
def FnExactGrantSaid : Prop := fnExactGrantRow.holds Try.pinned (OpenSpec.ofChange fnExactGrantSpec)

/-- ITS FALSE NEIGHBOUR: 'it returns false'. Refute it at one input. -/
def fnExactGrantWrong : ChangeSpec := { name := "fnExactGrant", fn := fun _ => fun
  | [d1, d2, d3, d4] => { results := [.lit (.bool false)], args := [d1, d2, d3, d4] }
  | _ => none }
def FnExactGrantWrongFalsely : Prop := fnExactGrantRow.holds Try.pinned (OpenSpec.ofChange fnExactGrantWrong)

/-- 'laws.FnTime': WHATEVER THE INPUT: true; the input reads as it did. -/
def fnTimeSpec : ChangeSpec := { name := "fnTime", fn := fun _ => fun
  | [d] => { results := [.lit (.bool true)], args := [d] }
  | _ => none }
def fnTimeRow : OpenClaim := { program := "ytgbchcpekidllaa", sum := "e690d46a6cbcec5296a24c1a2d229ea04ac0ccce87f5bb72b290ce7195ad2887", func := "loop.example/g00113/laws.FnTime", spec := "fnTime", unfollowed := true, recurses := true, apart := false }
def FnTimeSaid : Prop := fnTimeRow.holds Try.pinned (OpenSpec.ofChange fnTimeSpec)

/-- ITS FALSE NEIGHBOUR: 'it returns false'. Refute it at one input. -/
def fnTimeWrong : ChangeSpec := { name := "fnTime", fn := fun _ => fun
  | [d] => { results := [.lit (.bool false)], args := [d] }
  | _ => none }
def FnTimeWrongFalsely : Prop := fnTimeRow.holds Try.pinned (OpenSpec.ofChange fnTimeWrong)

/-- 'laws.FnGranted': WHATEVER THE INPUT: true; the input reads as it did. -/
def fnGrantedSpec : ChangeSpec := { name := "fnGranted", fn := fun _ => fun
  | [d] => { results := [.lit (.bool true)], args := [d] }
  | _ => none }
def fnGrantedRow : OpenClaim := { program := "ytgbchcpekidllaa", sum := "e690d46a6cbcec5296a24c1a2d229ea04ac0ccce87f5bb72b290ce7195ad2887", func := "loop.example/g00113/laws.FnGranted", spec := "fnGranted", inPlace := ["slices.overlaps[loop.example/g00113/impl.Lease]"], unfollowed := true, recurses := true, apart := false }
def FnGrantedSaid : Prop := fnGrantedRow.holds Try.pinned (OpenSpec.ofChange fnGrantedSpec)

/-- ITS FALSE NEIGHBOUR: 'it returns false'. Refute it at one input. -/
def fnGrantedWrong : ChangeSpec := { name := "fnGranted", fn := fun _ => fun
  | [d] => { results := [.lit (.bool false)], args := [d] }
  | _ => none }
def FnGrantedWrongFalsely : Prop := fnGrantedRow.holds Try.pinned (OpenSpec.ofChange fnGrantedWrong)

/- THE SECOND FORM. 'bulk': how many values and letters a reading holds, each counted each time it is reached (what is shared counts as often as it is met; a slice's spare places count too). A statement '..UptoSaid' is the law's where the arguments, and the package variables that the reading takes, are together of bulk at most 1048576: NARROWER than '..Said'. Prove '..Said' where nothing that the law and all that it calls make is longer than what came in: it says more and counts as full. Else prove '..UptoSaid'. A law counts once. -/
mutual
def uptoBulk {H : Type} : DataW H → Nat
  | .lit (.string bytes) => bytes.length + 1
  | .lit _ => 1
  | .nil => 1
  | .ptr d => uptoBulk d + 1
  | .slice elems spare => uptoBulkAll elems + uptoBulkAll spare + 1
  | .agg parts => uptoBulkAll parts + 1
  | .iface _ d => uptoBulk d + 1
  | .map entries => uptoBulkEntries entries + 1
  | .held _ => 1
def uptoBulkAll {H : Type} : List (DataW H) → Nat
  | [] => 0
  | d :: r => uptoBulk d + uptoBulkAll r
def uptoBulkEntries {H : Type} : List (Lit × DataW H) → Nat
  | [] => 0
  | x :: r => uptoBulkEntry x + uptoBulkEntries r
def uptoBulkEntry {H : Type} : Lit × DataW H → Nat
  | (.string bytes, d) => bytes.length + uptoBulk d + 1
  | (_, d) => uptoBulk d + 1
 end
def uptoSmall : (H : Type) → List (DataW H) → Bool := fun _ ds => decide (uptoBulkAll ds ≤ 1048576)
def OpenSpec.upto (s : _root_.Go.ChangeSpec) : _root_.Go.OpenSpec := { _root_.Go.OpenSpec.ofChange s with cond := some uptoSmall }

/-- 'laws.FnExactBookOk', WHERE WHAT IT READS IS OF BULK AT MOST 1048576: true; the input reads as it did. -/
def fnExactBookOkUptoRow : OpenClaim := { program := "ytgbchcpekidllaa", sum := "e690d46a6cbcec5296a24c1a2d229ea04ac0ccce87f5bb72b290ce7195ad2887", func := "loop.example/g00113/laws.FnExactBookOk", spec := "fnExactBookOk", unfollowed := true, recurses := true, apart := false, narrowed := true }
def FnExactBookOkUptoSaid : Prop := fnExactBookOkUptoRow.holds Try.pinned (OpenSpec.upto fnExactBookOkSpec)

/-- 'laws.FnExactHolder', WHERE WHAT IT READS IS OF BULK AT MOST 1048576: true; the input reads as it did. -/
def fnExactHolderUptoRow : OpenClaim := { program := "ytgbchcpekidllaa", sum := "e690d46a6cbcec5296a24c1a2d229ea04ac0ccce87f5bb72b290ce7195ad2887", func := "loop.example/g00113/laws.FnExactHolder", spec := "fnExactHolder", unfollowed := true, recurses := true, apart := false, narrowed := true }
def FnExactHolderUptoSaid : Prop := fnExactHolderUptoRow.holds Try.pinned (OpenSpec.upto fnExactHolderSpec)

/-- 'laws.FnExactRenew', WHERE WHAT IT READS IS OF BULK AT MOST 1048576: true; the input reads as it did. -/
def fnExactRenewUptoRow : OpenClaim := { program := "ytgbchcpekidllaa", sum := "e690d46a6cbcec5296a24c1a2d229ea04ac0ccce87f5bb72b290ce7195ad2887", func := "loop.example/g00113/laws.FnExactRenew", spec := "fnExactRenew", unfollowed := true, recurses := true, apart := false, narrowed := true }
def FnExactRenewUptoSaid : Prop := fnExactRenewUptoRow.holds Try.pinned (OpenSpec.upto fnExactRenewSpec)

/-- 'laws.FnExactRelease', WHERE WHAT IT READS IS OF BULK AT MOST 1048576: true; the input reads as it did. -/
def fnExactReleaseUptoRow : OpenClaim := { program := "ytgbchcpekidllaa", sum := "e690d46a6cbcec5296a24c1a2d229ea04ac0ccce87f5bb72b290ce7195ad2887", func := "loop.example/g00113/laws.FnExactRelease", spec := "fnExactRelease", unfollowed := true, recurses := true, apart := false, narrowed := true }
def FnExactReleaseUptoSaid : Prop := fnExactReleaseUptoRow.holds Try.pinned (OpenSpec.upto fnExactReleaseSpec)

/-- 'laws.FnExactAdvance', WHERE WHAT IT READS IS OF BULK AT MOST 1048576: true; the input reads as it did. -/
def fnExactAdvanceUptoRow : OpenClaim := { program := "ytgbchcpekidllaa", sum := "e690d46a6cbcec5296a24c1a2d229ea04ac0ccce87f5bb72b290ce7195ad2887", func := "loop.example/g00113/laws.FnExactAdvance", spec := "fnExactAdvance", unfollowed := true, recurses := true, apart := false, narrowed := true }
def FnExactAdvanceUptoSaid : Prop := fnExactAdvanceUptoRow.holds Try.pinned (OpenSpec.upto fnExactAdvanceSpec)

/-- 'laws.FnExactGrant', WHERE WHAT IT READS IS OF BULK AT MOST 1048576: true; the input reads as it did. -/
def fnExactGrantUptoRow : OpenClaim := { program := "ytgbchcpekidllaa", sum := "e690d46a6cbcec5296a24c1a2d229ea04ac0ccce87f5bb72b290ce7195ad2887", func := "loop.example/g00113/laws.FnExactGrant", spec := "fnExactGrant", inPlace := ["slices.overlaps[loop.example/g00113/impl.Lease]"], unfollowed := true, recurses := true, apart := false, narrowed := true }
def FnExactGrantUptoSaid : Prop := fnExactGrantUptoRow.holds Try.pinned (OpenSpec.upto fnExactGrantSpec)

/-- 'laws.FnTime', WHERE WHAT IT READS IS OF BULK AT MOST 1048576: true; the input reads as it did. -/
def fnTimeUptoRow : OpenClaim := { program := "ytgbchcpekidllaa", sum := "e690d46a6cbcec5296a24c1a2d229ea04ac0ccce87f5bb72b290ce7195ad2887", func := "loop.example/g00113/laws.FnTime", spec := "fnTime", unfollowed := true, recurses := true, apart := false, narrowed := true }
def FnTimeUptoSaid : Prop := fnTimeUptoRow.holds Try.pinned (OpenSpec.upto fnTimeSpec)

/-- 'laws.FnGranted', WHERE WHAT IT READS IS OF BULK AT MOST 1048576: true; the input reads as it did. -/
def fnGrantedUptoRow : OpenClaim := { program := "ytgbchcpekidllaa", sum := "e690d46a6cbcec5296a24c1a2d229ea04ac0ccce87f5bb72b290ce7195ad2887", func := "loop.example/g00113/laws.FnGranted", spec := "fnGranted", inPlace := ["slices.overlaps[loop.example/g00113/impl.Lease]"], unfollowed := true, recurses := true, apart := false, narrowed := true }
def FnGrantedUptoSaid : Prop := fnGrantedUptoRow.holds Try.pinned (OpenSpec.upto fnGrantedSpec)

end Rows
end Go.Proofs.Ytgbchcpekidllaa

/-
  No cell of these rows narrows 'for every input' (looked for: loops, veiled, ifaces, maps, wideKeys, modest, calm, conditions, laid).
  DERIVED. THE GIVEN ROWS OF THIS SEAT. 9 by the template 'for every input the law returns true; each argument reads behind the call as it read before'; 0 by the template 'total and deterministic' (their statements: YtpdlpglcnmefpaaTotals.lean).
  GIVEN WITH THE SEED: the statements are not yours to turn. If you find one false, say at which input.
  Laid BY PROGRAM, IN A SANDBOX (cutbox-rows.mjs): the forced cells as the released guide's own fill.sh prints them over the translation dc18fda68d5cfaea… (all of the seat's roots in one cut). By AI agents, Wed Nov 11 2026. No macro, syntax, notation, axiom, sorry.
-/
import Derived.Test.YtpdlpglcnmefpaaChecked
import GoSem.Claim
import GoSem.ClaimJoined
import GoSem.ClaimMapViews
import Derived.JoinedTies
import Derived.KernelRfl
namespace Go.Proofs.Ytpdlpglcnmefpaa
/- THE CELL 'sum', in the pinned program and in every row, IS THE sha256 OF THE DUMP (.gsa) THAT YtpdlpglcnmefpaaProg.lean LOADS. Nothing in Lean hashes anything: it is a label: what it is worth is what the hold of that sum in a sandbox is worth. -/
noncomputable def Try.pinned : Pinned := { name := "ytpdlpglcnmefpaa", sum := "dc18fda68d5cfaea58a0137e7a25d1c5a3326c9488ca03da8d16295fda76d6be", checked := Try.checked }
namespace Rows
def none {H : Type} : Left H := { results := [], args := [] }

/-- 'laws.FnExactGroupOk': WHATEVER THE INPUT: true; the input reads as it did. -/
def fnExactGroupOkSpec : ChangeSpec := { name := "fnExactGroupOk", fn := fun _ => fun
  | [d] => { results := [.lit (.bool true)], args := [d] }
  | _ => none }
def fnExactGroupOkRow : OpenClaim := { program := "ytpdlpglcnmefpaa", sum := "dc18fda68d5cfaea58a0137e7a25d1c5a3326c9488ca03da8d16295fda76d6be", func := "loop.example/g00113/laws.FnExactGroupOk", spec := "fnExactGroupOk", apart := false }
def FnExactGroupOkSaid : Prop := fnExactGroupOkRow.holds Try.pinned (OpenSpec.ofChange fnExactGroupOkSpec)

/-- ITS FALSE NEIGHBOUR: 'it returns false'. Refute it at one input. -/
def fnExactGroupOkWrong : ChangeSpec := { name := "fnExactGroupOk", fn := fun _ => fun
  | [d] => { results := [.lit (.bool false)], args := [d] }
  | _ => none }
def FnExactGroupOkWrongFalsely : Prop := fnExactGroupOkRow.holds Try.pinned (OpenSpec.ofChange fnExactGroupOkWrong)

/-- 'laws.FnExactQuorum': WHATEVER THE INPUT: true; the input reads as it did. -/
def fnExactQuorumSpec : ChangeSpec := { name := "fnExactQuorum", fn := fun _ => fun
  | [d1, d2] => { results := [.lit (.bool true)], args := [d1, d2] }
  | _ => none }
def fnExactQuorumRow : OpenClaim := { program := "ytpdlpglcnmefpaa", sum := "dc18fda68d5cfaea58a0137e7a25d1c5a3326c9488ca03da8d16295fda76d6be", func := "loop.example/g00113/laws.FnExactQuorum", spec := "fnExactQuorum", apart := false }
def FnExactQuorumSaid : Prop := fnExactQuorumRow.holds Try.pinned (OpenSpec.ofChange fnExactQuorumSpec)

/-- ITS FALSE NEIGHBOUR: 'it returns false'. Refute it at one input. -/
def fnExactQuorumWrong : ChangeSpec := { name := "fnExactQuorum", fn := fun _ => fun
  | [d1, d2] => { results := [.lit (.bool false)], args := [d1, d2] }
  | _ => none }
def FnExactQuorumWrongFalsely : Prop := fnExactQuorumRow.holds Try.pinned (OpenSpec.ofChange fnExactQuorumWrong)

/-- 'laws.FnExactSettled': WHATEVER THE INPUT: true; the input reads as it did. -/
def fnExactSettledSpec : ChangeSpec := { name := "fnExactSettled", fn := fun _ => fun
  | [d] => { results := [.lit (.bool true)], args := [d] }
  | _ => none }
def fnExactSettledRow : OpenClaim := { program := "ytpdlpglcnmefpaa", sum := "dc18fda68d5cfaea58a0137e7a25d1c5a3326c9488ca03da8d16295fda76d6be", func := "loop.example/g00113/laws.FnExactSettled", spec := "fnExactSettled", apart := false }
def FnExactSettledSaid : Prop := fnExactSettledRow.holds Try.pinned (OpenSpec.ofChange fnExactSettledSpec)

/-- ITS FALSE NEIGHBOUR: 'it returns false'. Refute it at one input. -/
def fnExactSettledWrong : ChangeSpec := { name := "fnExactSettled", fn := fun _ => fun
  | [d] => { results := [.lit (.bool false)], args := [d] }
  | _ => none }
def FnExactSettledWrongFalsely : Prop := fnExactSettledRow.holds Try.pinned (OpenSpec.ofChange fnExactSettledWrong)

/-- 'laws.FnExactPutGroup': WHATEVER THE INPUT: true; the input reads as it did. -/
def fnExactPutGroupSpec : ChangeSpec := { name := "fnExactPutGroup", fn := fun _ => fun
  | [d] => { results := [.lit (.bool true)], args := [d] }
  | _ => none }
def fnExactPutGroupRow : OpenClaim := { program := "ytpdlpglcnmefpaa", sum := "dc18fda68d5cfaea58a0137e7a25d1c5a3326c9488ca03da8d16295fda76d6be", func := "loop.example/g00113/laws.FnExactPutGroup", spec := "fnExactPutGroup", apart := false }
def FnExactPutGroupSaid : Prop := fnExactPutGroupRow.holds Try.pinned (OpenSpec.ofChange fnExactPutGroupSpec)

/-- ITS FALSE NEIGHBOUR: 'it returns false'. Refute it at one input. -/
def fnExactPutGroupWrong : ChangeSpec := { name := "fnExactPutGroup", fn := fun _ => fun
  | [d] => { results := [.lit (.bool false)], args := [d] }
  | _ => none }
def FnExactPutGroupWrongFalsely : Prop := fnExactPutGroupRow.holds Try.pinned (OpenSpec.ofChange fnExactPutGroupWrong)

/-- 'laws.FnExactJoint': WHATEVER THE INPUT: true; the input reads as it did. -/
def fnExactJointSpec : ChangeSpec := { name := "fnExactJoint", fn := fun _ => fun
  | [d1, d2] => { results := [.lit (.bool true)], args := [d1, d2] }
  | _ => none }
def fnExactJointRow : OpenClaim := { program := "ytpdlpglcnmefpaa", sum := "dc18fda68d5cfaea58a0137e7a25d1c5a3326c9488ca03da8d16295fda76d6be", func := "loop.example/g00113/laws.FnExactJoint", spec := "fnExactJoint", apart := false }
def FnExactJointSaid : Prop := fnExactJointRow.holds Try.pinned (OpenSpec.ofChange fnExactJointSpec)

/-- ITS FALSE NEIGHBOUR: 'it returns false'. Refute it at one input. -/
def fnExactJointWrong : ChangeSpec := { name := "fnExactJoint", fn := fun _ => fun
  | [d1, d2] => { results := [.lit (.bool false)], args := [d1, d2] }
  | _ => none }
def FnExactJointWrongFalsely : Prop := fnExactJointRow.holds Try.pinned (OpenSpec.ofChange fnExactJointWrong)

/-- 'laws.FnExactGetGroup': WHATEVER THE INPUT: true; the input reads as it did. -/
def fnExactGetGroupSpec : ChangeSpec := { name := "fnExactGetGroup", fn := fun _ => fun
  | [d] => { results := [.lit (.bool true)], args := [d] }
  | _ => none }
def fnExactGetGroupRow : OpenClaim := { program := "ytpdlpglcnmefpaa", sum := "dc18fda68d5cfaea58a0137e7a25d1c5a3326c9488ca03da8d16295fda76d6be", func := "loop.example/g00113/laws.FnExactGetGroup", spec := "fnExactGetGroup", apart := false }
def FnExactGetGroupSaid : Prop := fnExactGetGroupRow.holds Try.pinned (OpenSpec.ofChange fnExactGetGroupSpec)

/-- ITS FALSE NEIGHBOUR: 'it returns false'. Refute it at one input. -/
def fnExactGetGroupWrong : ChangeSpec := { name := "fnExactGetGroup", fn := fun _ => fun
  | [d] => { results := [.lit (.bool false)], args := [d] }
  | _ => none }
def FnExactGetGroupWrongFalsely : Prop := fnExactGetGroupRow.holds Try.pinned (OpenSpec.ofChange fnExactGetGroupWrong)

/-- 'laws.FnExactMembers': WHATEVER THE INPUT: true; the input reads as it did. -/
def fnExactMembersSpec : ChangeSpec := { name := "fnExactMembers", fn := fun _ => fun
  | [d] => { results := [.lit (.bool true)], args := [d] }
  | _ => none }
def fnExactMembersRow : OpenClaim := { program := "ytpdlpglcnmefpaa", sum := "dc18fda68d5cfaea58a0137e7a25d1c5a3326c9488ca03da8d16295fda76d6be", func := "loop.example/g00113/laws.FnExactMembers", spec := "fnExactMembers", recurses := true, apart := false }
def FnExactMembersSaid : Prop := fnExactMembersRow.holds Try.pinned (OpenSpec.ofChange fnExactMembersSpec)

/-- ITS FALSE NEIGHBOUR: 'it returns false'. Refute it at one input. -/
def fnExactMembersWrong : ChangeSpec := { name := "fnExactMembers", fn := fun _ => fun
  | [d] => { results := [.lit (.bool false)], args := [d] }
  | _ => none }
def FnExactMembersWrongFalsely : Prop := fnExactMembersRow.holds Try.pinned (OpenSpec.ofChange fnExactMembersWrong)

/-- 'laws.FnGroupBytes': WHATEVER THE INPUT: true; the input reads as it did. -/
def fnGroupBytesSpec : ChangeSpec := { name := "fnGroupBytes", fn := fun _ => fun
  | [d] => { results := [.lit (.bool true)], args := [d] }
  | _ => none }
def fnGroupBytesRow : OpenClaim := { program := "ytpdlpglcnmefpaa", sum := "dc18fda68d5cfaea58a0137e7a25d1c5a3326c9488ca03da8d16295fda76d6be", func := "loop.example/g00113/laws.FnGroupBytes", spec := "fnGroupBytes", recurses := true, apart := false }
def FnGroupBytesSaid : Prop := fnGroupBytesRow.holds Try.pinned (OpenSpec.ofChange fnGroupBytesSpec)

/-- ITS FALSE NEIGHBOUR: 'it returns false'. Refute it at one input. -/
def fnGroupBytesWrong : ChangeSpec := { name := "fnGroupBytes", fn := fun _ => fun
  | [d] => { results := [.lit (.bool false)], args := [d] }
  | _ => none }
def FnGroupBytesWrongFalsely : Prop := fnGroupBytesRow.holds Try.pinned (OpenSpec.ofChange fnGroupBytesWrong)

/-- 'laws.FnQuorums': WHATEVER THE INPUT: true; the input reads as it did. -/
def fnQuorumsSpec : ChangeSpec := { name := "fnQuorums", fn := fun _ => fun
  | [d] => { results := [.lit (.bool true)], args := [d] }
  | _ => none }
def fnQuorumsRow : OpenClaim := { program := "ytpdlpglcnmefpaa", sum := "dc18fda68d5cfaea58a0137e7a25d1c5a3326c9488ca03da8d16295fda76d6be", func := "loop.example/g00113/laws.FnQuorums", spec := "fnQuorums", recurses := true, apart := false }
def FnQuorumsSaid : Prop := fnQuorumsRow.holds Try.pinned (OpenSpec.ofChange fnQuorumsSpec)

/-- ITS FALSE NEIGHBOUR: 'it returns false'. Refute it at one input. -/
def fnQuorumsWrong : ChangeSpec := { name := "fnQuorums", fn := fun _ => fun
  | [d] => { results := [.lit (.bool false)], args := [d] }
  | _ => none }
def FnQuorumsWrongFalsely : Prop := fnQuorumsRow.holds Try.pinned (OpenSpec.ofChange fnQuorumsWrong)

/- THE SECOND FORM. 'bulk': how many values and letters a reading holds, each counted each time it is reached (what is shared counts as often as it is met; a slice's spare places count too). A statement '..UptoSaid' is the law's where the arguments, and the package variables that the reading takes, are together of bulk at most 1048576: NARROWER than '..Said'. Prove '..Said' where nothing that the law and all that it calls make is longer than what came in: it says more and counts as full. Else prove '..UptoSaid'. A law counts once. -/
mutual
def uptoBulk {H : Type} : DataW H → Nat
  | .lit (.string bytes) => bytes.length + 1
  | .lit _ => 1
  | .nil => 1
  | .ptr d => uptoBulk d + 1
  | .slice elems spare => uptoBulkAll elems + uptoBulkAll spare + 1
  | .agg parts => uptoBulkAll parts + 1
  | .iface _ d => uptoBulk d + 1
  | .map entries => uptoBulkEntries entries + 1
  | .held _ => 1
def uptoBulkAll {H : Type} : List (DataW H) → Nat
  | [] => 0
  | d :: r => uptoBulk d + uptoBulkAll r
def uptoBulkEntries {H : Type} : List (Lit × DataW H) → Nat
  | [] => 0
  | x :: r => uptoBulkEntry x + uptoBulkEntries r
def uptoBulkEntry {H : Type} : Lit × DataW H → Nat
  | (.string bytes, d) => bytes.length + uptoBulk d + 1
  | (_, d) => uptoBulk d + 1
 end
def uptoSmall : (H : Type) → List (DataW H) → Bool := fun _ ds => decide (uptoBulkAll ds ≤ 1048576)
def OpenSpec.upto (s : _root_.Go.ChangeSpec) : _root_.Go.OpenSpec := { _root_.Go.OpenSpec.ofChange s with cond := some uptoSmall }

/-- 'laws.FnExactGroupOk', WHERE WHAT IT READS IS OF BULK AT MOST 1048576: true; the input reads as it did. -/
def fnExactGroupOkUptoRow : OpenClaim := { program := "ytpdlpglcnmefpaa", sum := "dc18fda68d5cfaea58a0137e7a25d1c5a3326c9488ca03da8d16295fda76d6be", func := "loop.example/g00113/laws.FnExactGroupOk", spec := "fnExactGroupOk", apart := false, narrowed := true }
def FnExactGroupOkUptoSaid : Prop := fnExactGroupOkUptoRow.holds Try.pinned (OpenSpec.upto fnExactGroupOkSpec)

/-- 'laws.FnExactQuorum', WHERE WHAT IT READS IS OF BULK AT MOST 1048576: true; the input reads as it did. -/
def fnExactQuorumUptoRow : OpenClaim := { program := "ytpdlpglcnmefpaa", sum := "dc18fda68d5cfaea58a0137e7a25d1c5a3326c9488ca03da8d16295fda76d6be", func := "loop.example/g00113/laws.FnExactQuorum", spec := "fnExactQuorum", apart := false, narrowed := true }
def FnExactQuorumUptoSaid : Prop := fnExactQuorumUptoRow.holds Try.pinned (OpenSpec.upto fnExactQuorumSpec)

/-- 'laws.FnExactSettled', WHERE WHAT IT READS IS OF BULK AT MOST 1048576: true; the input reads as it did. -/
def fnExactSettledUptoRow : OpenClaim := { program := "ytpdlpglcnmefpaa", sum := "dc18fda68d5cfaea58a0137e7a25d1c5a3326c9488ca03da8d16295fda76d6be", func := "loop.example/g00113/laws.FnExactSettled", spec := "fnExactSettled", apart := false, narrowed := true }
def FnExactSettledUptoSaid : Prop := fnExactSettledUptoRow.holds Try.pinned (OpenSpec.upto fnExactSettledSpec)

/-- 'laws.FnExactPutGroup', WHERE WHAT IT READS IS OF BULK AT MOST 1048576: true; the input reads as it did. -/
def fnExactPutGroupUptoRow : OpenClaim := { program := "ytpdlpglcnmefpaa", sum := "dc18fda68d5cfaea58a0137e7a25d1c5a3326c9488ca03da8d16295fda76d6be", func := "loop.example/g00113/laws.FnExactPutGroup", spec := "fnExactPutGroup", apart := false, narrowed := true }
def FnExactPutGroupUptoSaid : Prop := fnExactPutGroupUptoRow.holds Try.pinned (OpenSpec.upto fnExactPutGroupSpec)

/-- 'laws.FnExactJoint', WHERE WHAT IT READS IS OF BULK AT MOST 1048576: true; the input reads as it did. -/
def fnExactJointUptoRow : OpenClaim := { program := "ytpdlpglcnmefpaa", sum := "dc18fda68d5cfaea58a0137e7a25d1c5a3326c9488ca03da8d16295fda76d6be", func := "loop.example/g00113/laws.FnExactJoint", spec := "fnExactJoint", apart := false, narrowed := true }
def FnExactJointUptoSaid : Prop := fnExactJointUptoRow.holds Try.pinned (OpenSpec.upto fnExactJointSpec)

/-- 'laws.FnExactGetGroup', WHERE WHAT IT READS IS OF BULK AT MOST 1048576: true; the input reads as it did. -/
def fnExactGetGroupUptoRow : OpenClaim := { program := "ytpdlpglcnmefpaa", sum := "dc18fda68d5cfaea58a0137e7a25d1c5a3326c9488ca03da8d16295fda76d6be", func := "loop.example/g00113/laws.FnExactGetGroup", spec := "fnExactGetGroup", apart := false, narrowed := true }
def FnExactGetGroupUptoSaid : Prop := fnExactGetGroupUptoRow.holds Try.pinned (OpenSpec.upto fnExactGetGroupSpec)

/-- 'laws.FnExactMembers', WHERE WHAT IT READS IS OF BULK AT MOST 1048576: true; the input reads as it did. -/
def fnExactMembersUptoRow : OpenClaim := { program := "ytpdlpglcnmefpaa", sum := "dc18fda68d5cfaea58a0137e7a25d1c5a3326c9488ca03da8d16295fda76d6be", func := "loop.example/g00113/laws.FnExactMembers", spec := "fnExactMembers", recurses := true, apart := false, narrowed := true }
def FnExactMembersUptoSaid : Prop := fnExactMembersUptoRow.holds Try.pinned (OpenSpec.upto fnExactMembersSpec)

/-- 'laws.FnGroupBytes', WHERE WHAT IT READS IS OF BULK AT MOST 1048576: true; the input reads as it did. -/
def fnGroupBytesUptoRow : OpenClaim := { program := "ytpdlpglcnmefpaa", sum := "dc18fda68d5cfaea58a0137e7a25d1c5a3326c9488ca03da8d16295fda76d6be", func := "loop.example/g00113/laws.FnGroupBytes", spec := "fnGroupBytes", recurses := true, apart := false, narrowed := true }
def FnGroupBytesUptoSaid : Prop := fnGroupBytesUptoRow.holds Try.pinned (OpenSpec.upto fnGroupBytesSpec)

/-- 'laws.FnQuorums', WHERE WHAT IT READS IS OF BULK AT MOST 1048576: true; the input reads as it did. -/
def fnQuorumsUptoRow : OpenClaim := { program := "ytpdlpglcnmefpaa", sum := "dc18fda68d5cfaea58a0137e7a25d1c5a3326c9488ca03da8d16295fda76d6be", func := "loop.example/g00113/laws.FnQuorums", spec := "fnQuorums", recurses := true, apart := false, narrowed := true }
def FnQuorumsUptoSaid : Prop := fnQuorumsUptoRow.holds Try.pinned (OpenSpec.upto fnQuorumsSpec)

end Rows
end Go.Proofs.Ytpdlpglcnmefpaa

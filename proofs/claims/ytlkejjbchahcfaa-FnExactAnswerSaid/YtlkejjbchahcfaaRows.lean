/-
  No cell of these rows narrows 'for every input' (looked for: loops, veiled, ifaces, maps, wideKeys, modest, calm, conditions, laid).
  DERIVED. THE GIVEN ROWS OF THIS SEAT. 8 by the template 'for every input the law returns true; each argument reads behind the call as it read before'; 0 by the template 'total and deterministic' (their statements: YtlkejjbchahcfaaTotals.lean).
  GIVEN WITH THE SEED: the statements are not yours to turn. If you find one false, say at which input.
  Laid BY PROGRAM, IN A SANDBOX (cutbox-rows.mjs): the forced cells as the released guide's own fill.sh prints them over the translation f104c6b4bb329546… (all of the seat's roots in one cut). By AI agents, Wed Nov 11 2026. No macro, syntax, notation, axiom, sorry.
-/
import Derived.Test.YtlkejjbchahcfaaChecked
import GoSem.Claim
import GoSem.ClaimJoined
import GoSem.ClaimMapViews
import Derived.JoinedTies
import Derived.KernelRfl
namespace Go.Proofs.Ytlkejjbchahcfaa
/- THE CELL 'sum', in the pinned program and in every row, IS THE sha256 OF THE DUMP (.gsa) THAT YtlkejjbchahcfaaProg.lean LOADS. Nothing in Lean hashes anything: it is a label: what it is worth is what the hold of that sum in a sandbox is worth. -/
noncomputable def Try.pinned : Pinned := { name := "ytlkejjbchahcfaa", sum := "f104c6b4bb3295464796d51af0494f8ff54626c05e0674feb4f13e974d7be999", checked := Try.checked }
namespace Rows
def none {H : Type} : Left H := { results := [], args := [] }

/-- 'laws.FnExactDeskOk': WHATEVER THE INPUT: true; the input reads as it did. -/
def fnExactDeskOkSpec : ChangeSpec := { name := "fnExactDeskOk", fn := fun _ => fun
  | [d] => { results := [.lit (.bool true)], args := [d] }
  | _ => none }
def fnExactDeskOkRow : OpenClaim := { program := "ytlkejjbchahcfaa", sum := "f104c6b4bb3295464796d51af0494f8ff54626c05e0674feb4f13e974d7be999", func := "loop.example/g00113/laws.FnExactDeskOk", spec := "fnExactDeskOk", apart := false }
def FnExactDeskOkSaid : Prop := fnExactDeskOkRow.holds Try.pinned (OpenSpec.ofChange fnExactDeskOkSpec)

/-- ITS FALSE NEIGHBOUR: 'it returns false'. Refute it at one input. -/
def fnExactDeskOkWrong : ChangeSpec := { name := "fnExactDeskOk", fn := fun _ => fun
  | [d] => { results := [.lit (.bool false)], args := [d] }
  | _ => none }
def FnExactDeskOkWrongFalsely : Prop := fnExactDeskOkRow.holds Try.pinned (OpenSpec.ofChange fnExactDeskOkWrong)

/-- 'laws.FnExactAsk': WHATEVER THE INPUT: true; the input reads as it did. -/
def fnExactAskSpec : ChangeSpec := { name := "fnExactAsk", fn := fun _ => fun
  | [d1, d2, d3] => { results := [.lit (.bool true)], args := [d1, d2, d3] }
  | _ => none }
def fnExactAskRow : OpenClaim := { program := "ytlkejjbchahcfaa", sum := "f104c6b4bb3295464796d51af0494f8ff54626c05e0674feb4f13e974d7be999", func := "loop.example/g00113/laws.FnExactAsk", spec := "fnExactAsk", unfollowed := true, recurses := true, apart := false }
def FnExactAskSaid : Prop := fnExactAskRow.holds Try.pinned (OpenSpec.ofChange fnExactAskSpec)

/-- ITS FALSE NEIGHBOUR: 'it returns false'. Refute it at one input. -/
def fnExactAskWrong : ChangeSpec := { name := "fnExactAsk", fn := fun _ => fun
  | [d1, d2, d3] => { results := [.lit (.bool false)], args := [d1, d2, d3] }
  | _ => none }
def FnExactAskWrongFalsely : Prop := fnExactAskRow.holds Try.pinned (OpenSpec.ofChange fnExactAskWrong)

/-- 'laws.FnExactOpenSession': WHATEVER THE INPUT: true; the input reads as it did. -/
def fnExactOpenSessionSpec : ChangeSpec := { name := "fnExactOpenSession", fn := fun _ => fun
  | [d1, d2] => { results := [.lit (.bool true)], args := [d1, d2] }
  | _ => none }
def fnExactOpenSessionRow : OpenClaim := { program := "ytlkejjbchahcfaa", sum := "f104c6b4bb3295464796d51af0494f8ff54626c05e0674feb4f13e974d7be999", func := "loop.example/g00113/laws.FnExactOpenSession", spec := "fnExactOpenSession", apart := false }
def FnExactOpenSessionSaid : Prop := fnExactOpenSessionRow.holds Try.pinned (OpenSpec.ofChange fnExactOpenSessionSpec)

/-- ITS FALSE NEIGHBOUR: 'it returns false'. Refute it at one input. -/
def fnExactOpenSessionWrong : ChangeSpec := { name := "fnExactOpenSession", fn := fun _ => fun
  | [d1, d2] => { results := [.lit (.bool false)], args := [d1, d2] }
  | _ => none }
def FnExactOpenSessionWrongFalsely : Prop := fnExactOpenSessionRow.holds Try.pinned (OpenSpec.ofChange fnExactOpenSessionWrong)

/-- 'laws.FnExactExpireSessions': WHATEVER THE INPUT: true; the input reads as it did. -/
def fnExactExpireSessionsSpec : ChangeSpec := { name := "fnExactExpireSessions", fn := fun _ => fun
  | [d1, d2] => { results := [.lit (.bool true)], args := [d1, d2] }
  | _ => none }
def fnExactExpireSessionsRow : OpenClaim := { program := "ytlkejjbchahcfaa", sum := "f104c6b4bb3295464796d51af0494f8ff54626c05e0674feb4f13e974d7be999", func := "loop.example/g00113/laws.FnExactExpireSessions", spec := "fnExactExpireSessions", apart := false }
def FnExactExpireSessionsSaid : Prop := fnExactExpireSessionsRow.holds Try.pinned (OpenSpec.ofChange fnExactExpireSessionsSpec)

/-- ITS FALSE NEIGHBOUR: 'it returns false'. Refute it at one input. -/
def fnExactExpireSessionsWrong : ChangeSpec := { name := "fnExactExpireSessions", fn := fun _ => fun
  | [d1, d2] => { results := [.lit (.bool false)], args := [d1, d2] }
  | _ => none }
def FnExactExpireSessionsWrongFalsely : Prop := fnExactExpireSessionsRow.holds Try.pinned (OpenSpec.ofChange fnExactExpireSessionsWrong)

/-- 'laws.FnExactCloseSession': WHATEVER THE INPUT: true; the input reads as it did. -/
def fnExactCloseSessionSpec : ChangeSpec := { name := "fnExactCloseSession", fn := fun _ => fun
  | [d1, d2] => { results := [.lit (.bool true)], args := [d1, d2] }
  | _ => none }
def fnExactCloseSessionRow : OpenClaim := { program := "ytlkejjbchahcfaa", sum := "f104c6b4bb3295464796d51af0494f8ff54626c05e0674feb4f13e974d7be999", func := "loop.example/g00113/laws.FnExactCloseSession", spec := "fnExactCloseSession", unfollowed := true, recurses := true, apart := false }
def FnExactCloseSessionSaid : Prop := fnExactCloseSessionRow.holds Try.pinned (OpenSpec.ofChange fnExactCloseSessionSpec)

/-- ITS FALSE NEIGHBOUR: 'it returns false'. Refute it at one input. -/
def fnExactCloseSessionWrong : ChangeSpec := { name := "fnExactCloseSession", fn := fun _ => fun
  | [d1, d2] => { results := [.lit (.bool false)], args := [d1, d2] }
  | _ => none }
def FnExactCloseSessionWrongFalsely : Prop := fnExactCloseSessionRow.holds Try.pinned (OpenSpec.ofChange fnExactCloseSessionWrong)

/-- 'laws.FnExactAnswer': WHATEVER THE INPUT: true; the input reads as it did. -/
def fnExactAnswerSpec : ChangeSpec := { name := "fnExactAnswer", fn := fun _ => fun
  | [d1, d2, d3, d4, d5] => { results := [.lit (.bool true)], args := [d1, d2, d3, d4, d5] }
  | _ => none }
def fnExactAnswerRow : OpenClaim := { program := "ytlkejjbchahcfaa", sum := "f104c6b4bb3295464796d51af0494f8ff54626c05e0674feb4f13e974d7be999", func := "loop.example/g00113/laws.FnExactAnswer", spec := "fnExactAnswer", unfollowed := true, recurses := true, apart := false }
def FnExactAnswerSaid : Prop := fnExactAnswerRow.holds Try.pinned (OpenSpec.ofChange fnExactAnswerSpec)

/-- ITS FALSE NEIGHBOUR: 'it returns false'. Refute it at one input. -/
def fnExactAnswerWrong : ChangeSpec := { name := "fnExactAnswer", fn := fun _ => fun
  | [d1, d2, d3, d4, d5] => { results := [.lit (.bool false)], args := [d1, d2, d3, d4, d5] }
  | _ => none }
def FnExactAnswerWrongFalsely : Prop := fnExactAnswerRow.holds Try.pinned (OpenSpec.ofChange fnExactAnswerWrong)

/-- 'laws.FnSessions': WHATEVER THE INPUT: true; the input reads as it did. -/
def fnSessionsSpec : ChangeSpec := { name := "fnSessions", fn := fun _ => fun
  | [d] => { results := [.lit (.bool true)], args := [d] }
  | _ => none }
def fnSessionsRow : OpenClaim := { program := "ytlkejjbchahcfaa", sum := "f104c6b4bb3295464796d51af0494f8ff54626c05e0674feb4f13e974d7be999", func := "loop.example/g00113/laws.FnSessions", spec := "fnSessions", unfollowed := true, recurses := true, apart := false }
def FnSessionsSaid : Prop := fnSessionsRow.holds Try.pinned (OpenSpec.ofChange fnSessionsSpec)

/-- ITS FALSE NEIGHBOUR: 'it returns false'. Refute it at one input. -/
def fnSessionsWrong : ChangeSpec := { name := "fnSessions", fn := fun _ => fun
  | [d] => { results := [.lit (.bool false)], args := [d] }
  | _ => none }
def FnSessionsWrongFalsely : Prop := fnSessionsRow.holds Try.pinned (OpenSpec.ofChange fnSessionsWrong)

/-- 'laws.FnAgain': WHATEVER THE INPUT: true; the input reads as it did. -/
def fnAgainSpec : ChangeSpec := { name := "fnAgain", fn := fun _ => fun
  | [d] => { results := [.lit (.bool true)], args := [d] }
  | _ => none }
def fnAgainRow : OpenClaim := { program := "ytlkejjbchahcfaa", sum := "f104c6b4bb3295464796d51af0494f8ff54626c05e0674feb4f13e974d7be999", func := "loop.example/g00113/laws.FnAgain", spec := "fnAgain", unfollowed := true, recurses := true, apart := false }
def FnAgainSaid : Prop := fnAgainRow.holds Try.pinned (OpenSpec.ofChange fnAgainSpec)

/-- ITS FALSE NEIGHBOUR: 'it returns false'. Refute it at one input. -/
def fnAgainWrong : ChangeSpec := { name := "fnAgain", fn := fun _ => fun
  | [d] => { results := [.lit (.bool false)], args := [d] }
  | _ => none }
def FnAgainWrongFalsely : Prop := fnAgainRow.holds Try.pinned (OpenSpec.ofChange fnAgainWrong)

/- THE SECOND FORM. 'bulk': how many values and letters a reading holds, each counted each time it is reached (what is shared counts as often as it is met; a slice's spare places count too). A statement '..UptoSaid' is the law's where the arguments, and the package variables that the reading takes, are together of bulk at most 1048576: NARROWER than '..Said'. Prove '..Said' where nothing that the law and all that it calls make is longer than what came in: it says more and counts as full. Else prove '..UptoSaid'. A law counts once. -/
mutual
def uptoBulk {H : Type} : DataW H → Nat
  | .lit (.string bytes) => bytes.length + 1
  | .lit _ => 1
  | .nil => 1
  | .ptr d => uptoBulk d + 1
  | .slice elems spare => uptoBulkAll elems + uptoBulkAll spare + 1
  | .agg parts => uptoBulkAll parts + 1
  | .iface _ d => uptoBulk d + 1
  | .map entries => uptoBulkEntries entries + 1
  | .held _ => 1
def uptoBulkAll {H : Type} : List (DataW H) → Nat
  | [] => 0
  | d :: r => uptoBulk d + uptoBulkAll r
def uptoBulkEntries {H : Type} : List (Lit × DataW H) → Nat
  | [] => 0
  | x :: r => uptoBulkEntry x + uptoBulkEntries r
def uptoBulkEntry {H : Type} : Lit × DataW H → Nat
  | (.string bytes, d) => bytes.length + uptoBulk d + 1
  | (_, d) => uptoBulk d + 1
 end
def uptoSmall : (H : Type) → List (DataW H) → Bool := fun _ ds => decide (uptoBulkAll ds ≤ 1048576)
def OpenSpec.upto (s : _root_.Go.ChangeSpec) : _root_.Go.OpenSpec := { _root_.Go.OpenSpec.ofChange s with cond := some uptoSmall }

/-- 'laws.FnExactDeskOk', WHERE WHAT IT READS IS OF BULK AT MOST 1048576: true; the input reads as it did. -/
def fnExactDeskOkUptoRow : OpenClaim := { program := "ytlkejjbchahcfaa", sum := "f104c6b4bb3295464796d51af0494f8ff54626c05e0674feb4f13e974d7be999", func := "loop.example/g00113/laws.FnExactDeskOk", spec := "fnExactDeskOk", apart := false, narrowed := true }
def FnExactDeskOkUptoSaid : Prop := fnExactDeskOkUptoRow.holds Try.pinned (OpenSpec.upto fnExactDeskOkSpec)

/-- 'laws.FnExactAsk', WHERE WHAT IT READS IS OF BULK AT MOST 1048576: true; the input reads as it did. -/
def fnExactAskUptoRow : OpenClaim := { program := "ytlkejjbchahcfaa", sum := "f104c6b4bb3295464796d51af0494f8ff54626c05e0674feb4f13e974d7be999", func := "loop.example/g00113/laws.FnExactAsk", spec := "fnExactAsk", unfollowed := true, recurses := true, apart := false, narrowed := true }
def FnExactAskUptoSaid : Prop := fnExactAskUptoRow.holds Try.pinned (OpenSpec.upto fnExactAskSpec)

/-- 'laws.FnExactOpenSession', WHERE WHAT IT READS IS OF BULK AT MOST 1048576: true; the input reads as it did. -/
def fnExactOpenSessionUptoRow : OpenClaim := { program := "ytlkejjbchahcfaa", sum := "f104c6b4bb3295464796d51af0494f8ff54626c05e0674feb4f13e974d7be999", func := "loop.example/g00113/laws.FnExactOpenSession", spec := "fnExactOpenSession", apart := false, narrowed := true }
def FnExactOpenSessionUptoSaid : Prop := fnExactOpenSessionUptoRow.holds Try.pinned (OpenSpec.upto fnExactOpenSessionSpec)

/-- 'laws.FnExactExpireSessions', WHERE WHAT IT READS IS OF BULK AT MOST 1048576: true; the input reads as it did. -/
def fnExactExpireSessionsUptoRow : OpenClaim := { program := "ytlkejjbchahcfaa", sum := "f104c6b4bb3295464796d51af0494f8ff54626c05e0674feb4f13e974d7be999", func := "loop.example/g00113/laws.FnExactExpireSessions", spec := "fnExactExpireSessions", apart := false, narrowed := true }
def FnExactExpireSessionsUptoSaid : Prop := fnExactExpireSessionsUptoRow.holds Try.pinned (OpenSpec.upto fnExactExpireSessionsSpec)

/-- 'laws.FnExactCloseSession', WHERE WHAT IT READS IS OF BULK AT MOST 1048576: true; the input reads as it did. -/
def fnExactCloseSessionUptoRow : OpenClaim := { program := "ytlkejjbchahcfaa", sum := "f104c6b4bb3295464796d51af0494f8ff54626c05e0674feb4f13e974d7be999", func := "loop.example/g00113/laws.FnExactCloseSession", spec := "fnExactCloseSession", unfollowed := true, recurses := true, apart := false, narrowed := true }
def FnExactCloseSessionUptoSaid : Prop := fnExactCloseSessionUptoRow.holds Try.pinned (OpenSpec.upto fnExactCloseSessionSpec)

/-- 'laws.FnExactAnswer', WHERE WHAT IT READS IS OF BULK AT MOST 1048576: true; the input reads as it did. -/
def fnExactAnswerUptoRow : OpenClaim := { program := "ytlkejjbchahcfaa", sum := "f104c6b4bb3295464796d51af0494f8ff54626c05e0674feb4f13e974d7be999", func := "loop.example/g00113/laws.FnExactAnswer", spec := "fnExactAnswer", unfollowed := true, recurses := true, apart := false, narrowed := true }
def FnExactAnswerUptoSaid : Prop := fnExactAnswerUptoRow.holds Try.pinned (OpenSpec.upto fnExactAnswerSpec)

/-- 'laws.FnSessions', WHERE WHAT IT READS IS OF BULK AT MOST 1048576: true; the input reads as it did. -/
def fnSessionsUptoRow : OpenClaim := { program := "ytlkejjbchahcfaa", sum := "f104c6b4bb3295464796d51af0494f8ff54626c05e0674feb4f13e974d7be999", func := "loop.example/g00113/laws.FnSessions", spec := "fnSessions", unfollowed := true, recurses := true, apart := false, narrowed := true }
def FnSessionsUptoSaid : Prop := fnSessionsUptoRow.holds Try.pinned (OpenSpec.upto fnSessionsSpec)

/-- 'laws.FnAgain', WHERE WHAT IT READS IS OF BULK AT MOST 1048576: true; the input reads as it did. -/
def fnAgainUptoRow : OpenClaim := { program := "ytlkejjbchahcfaa", sum := "f104c6b4bb3295464796d51af0494f8ff54626c05e0674feb4f13e974d7be999", func := "loop.example/g00113/laws.FnAgain", spec := "fnAgain", unfollowed := true, recurses := true, apart := false, narrowed := true }
def FnAgainUptoSaid : Prop := fnAgainUptoRow.holds Try.pinned (OpenSpec.upto fnAgainSpec)

end Rows
end Go.Proofs.Ytlkejjbchahcfaa

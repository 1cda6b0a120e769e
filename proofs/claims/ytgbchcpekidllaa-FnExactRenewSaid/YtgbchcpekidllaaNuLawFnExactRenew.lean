/- The row of the law FnExactRenew: for every input it answers true, and leaves what it was handed as it was. -/
import Derived.Test.YtgbchcpekidllaaRows
import Derived.Test.YtgbchcpekidllaaNuFns
import Derived.Test.YtgbchcpekidllaaNuPureC
namespace Go.Proofs.Ytgbchcpekidllaa.fnExactRenew
open Go.ChangeShapes Go.WideShapes Go.ChangeAt Go.RowKit Go.Nu
set_option linter.unusedVariables false
theorem own : ownKnob Try.prog.godebug = none := by kernel_rfl
theorem laidOut : laidOutB Try.prog = true := by kernel_rfl
set_option maxRecDepth 100000 in
theorem lifted (os : Os) (started : os.Started) (H : Type) (enc : TypeId × Value → H) :
    ReturnsInHanded {} Try.checked os 5 .any (Rows.fnExactRenewSpec.pre6 enc Try.prog Try.f5 Rows.fnExactRenewRow.domain false) (Rows.fnExactRenewSpec.post enc Try.prog Try.f5 false true false false) := by
  refine returnsInHanded_of_change_sized (C := Try.checked) own started (by kernel_rfl) Try.func5
    (ChangeSpec.witness6 (enc := enc) (C := Try.checked) false ⟨#[], #[Go.Value.agg (Array.mk [Go.Value.slice Option.none (nat_lit 0) (nat_lit 0), Go.Value.int Go.IntKind.i64 (Int.ofNat (nat_lit 0)), Go.Value.int Go.IntKind.i64 (Int.ofNat (nat_lit 0))]), Go.Value.agg (Array.mk [Go.Value.bool Bool.false, Go.Value.int Go.IntKind.i64 (Int.ofNat (nat_lit 0)), Go.Value.int Go.IntKind.i64 (Int.ofNat (nat_lit 0))]), Go.Value.int Go.IntKind.i64 (Int.ofNat (nat_lit 0)), Go.Value.int Go.IntKind.i64 (Int.ofNat (nat_lit 0))], []⟩ 20 (by kernel_rfl) (by kernel_rfl) (by kernel_rfl) (by kernel_rfl)) ?_
  intro W base args ds gs before hval0 hW hcnd hsz0 _
  have hval : ∀ (j : Nat) t v, Try.f5.params[j]? = some t → args[j]? = some v → Value.okWide Try.prog W .any base t v := hval0
  have hW' := hW
  obtain ⟨p, q, hA0, hV, rfl, hfz, hnd⟩ := hW
  have hA : DataW.TrodAll enc Try.prog W 0 (fun _ => true) true Try.f5.params.toList args.toList ds p := hA0
  rw [Try.params5] at hA hval
  obtain ⟨v0, vs0, d0, ds0, p0, q0, hargs, rfl, rfl, h0, r0⟩ := trodAll_cons hA
  obtain ⟨v1, vs1, d1, ds1, p1, q1, rfl, rfl, rfl, h1, r1⟩ := trodAll_cons r0
  obtain ⟨v2, vs2, d2, ds2, p2, q2, rfl, rfl, rfl, h2, r2⟩ := trodAll_cons r1
  obtain ⟨v3, vs3, d3, ds3, p3, q3, rfl, rfl, rfl, h3, r3⟩ := trodAll_cons r2
  obtain ⟨rfl, rfl, rfl⟩ := trodAll_nil r3
  obtain rfl : args = #[v0, v1, v2, v3] := by cases args; simp_all
  obtain ⟨rfl, rfl⟩ := trodVars_none hV
  obtain ⟨x0, o0, l0⟩ := arg_open (n := 30) (d := Kd.pr (.sl (.pr (.pr (.bool) (.pr (.int Go.IntKind.i64) (.int Go.IntKind.i64))) (.pr (.str) (.pr (.int Go.IntKind.i64) (.int Go.IntKind.i64))))) (.pr (.int Go.IntKind.i64) (.int Go.IntKind.i64))) (by kernel_rfl) (fun _ => by contradiction) (hval 0 24 v0 rfl rfl) h0
  have lt0 : ∀ x ∈ p0, x.block < W.heap.size := by
    obtain ⟨m, hm⟩ := h0
    exact DataW.trod_lt m _ _ _ hm
  obtain ⟨x1, o1, l1⟩ := arg_open (n := 30) (d := Kd.pr (.bool) (.pr (.int Go.IntKind.i64) (.int Go.IntKind.i64))) (by kernel_rfl) (fun _ => by contradiction) (hval 1 34 v1 rfl rfl) h1
  have lt1 : ∀ x ∈ p1, x.block < W.heap.size := by
    obtain ⟨m, hm⟩ := h1
    exact DataW.trod_lt m _ _ _ hm
  obtain ⟨x2, o2, l2⟩ := arg_open (n := 30) (d := Kd.int Go.IntKind.i64) (by kernel_rfl) (fun _ => by kernel_rfl) (hval 2 3 v2 rfl rfl) h2
  have lt2 : ∀ x ∈ p2, x.block < W.heap.size := by
    obtain ⟨m, hm⟩ := h2
    exact DataW.trod_lt m _ _ _ hm
  obtain ⟨x3, o3, l3⟩ := arg_open (n := 30) (d := Kd.int Go.IntKind.i64) (by kernel_rfl) (fun _ => by kernel_rfl) (hval 3 3 v3 rfl rfl) h3
  have lt3 : ∀ x ∈ p3, x.block < W.heap.size := by
    obtain ⟨m, hm⟩ := h3
    exact DataW.trod_lt m _ _ _ hm
  clear hA0 hval0 hsz0
  refine (law_calls (ks := [.pr (.sl (.pr (.pr (.bool) (.pr (.int Go.IntKind.i64) (.int Go.IntKind.i64))) (.pr (.str) (.pr (.int Go.IntKind.i64) (.int Go.IntKind.i64))))) (.pr (.int Go.IntKind.i64) (.int Go.IntKind.i64)), .pr (.bool) (.pr (.int Go.IntKind.i64) (.int Go.IntKind.i64)), .int Go.IntKind.i64, .int Go.IntKind.i64]) (W := W) (args := #[v0, v1, v2, v3]) F5_ok FnExactRenew_pure (x := (x0, x1, x2, x3, ())) (show VArgs (fun b => b < W.heap.size) W [.pr (.sl (.pr (.pr (.bool) (.pr (.int Go.IntKind.i64) (.int Go.IntKind.i64))) (.pr (.str) (.pr (.int Go.IntKind.i64) (.int Go.IntKind.i64))))) (.pr (.int Go.IntKind.i64) (.int Go.IntKind.i64)), .pr (.bool) (.pr (.int Go.IntKind.i64) (.int Go.IntKind.i64)), .int Go.IntKind.i64, .int Go.IntKind.i64] (x0, x1, x2, x3, ()) [v0, v1, v2, v3] from ⟨o0, l0, o1, l1, o2, l2, o3, l3, trivial⟩)).mono fun e W' ⟨he, bel⟩ => ?_
  subst he
  exact ⟨_, rfl, _, _, _, [], _, [], hW', trodAll_mk1 (shut_bool Try.underlying4 _), (trodAll_cons_mk (Below.trod laidOut (by kernel_rfl) (of_decide_eq_true (by kernel_rfl)) h0 bel lt0) (trodAll_cons_mk (Below.trod laidOut (by kernel_rfl) (of_decide_eq_true (by kernel_rfl)) h1 bel lt1) (trodAll_cons_mk (Below.trod laidOut (by kernel_rfl) (of_decide_eq_true (by kernel_rfl)) h2 bel lt2) (trodAll_cons_mk (Below.trod laidOut (by kernel_rfl) (of_decide_eq_true (by kernel_rfl)) h3 bel lt3) trodAll_mk0)))), rfl, bel.frame _, fun h => by cases h⟩
theorem over : Rows.fnExactRenewRow.holds Try.pinned (OpenSpec.ofChange Rows.fnExactRenewSpec) :=
  OpenClaim.holds_of_wide 5 Try.f5 rfl rfl rfl rfl rfl rfl rfl ⟨rfl, rfl, rfl, rfl, rfl⟩ rfl rfl rfl rfl rfl (by kernel_rfl) Try.func5 (by kernel_rfl)
    (of_decide_eq_true (by kernel_rfl)) (by unfold Func.isWrapper; first | (rw [if_pos (by decide +kernel)]; kernel_rfl) | (rw [if_neg (by decide +kernel)]; exact ⟨rfl, rfl⟩))
    (fun os started H enc _ => lifted os started H enc)
theorem proved : Rows.FnExactRenewSaid := over
end Go.Proofs.Ytgbchcpekidllaa.fnExactRenew
namespace Go.Proofs.Ytgbchcpekidllaa
/-- The row, under a short name, for the claim. -/
theorem fnExactRenew_holds : Rows.FnExactRenewSaid := fnExactRenew.proved
#print axioms fnExactRenew_holds
end Go.Proofs.Ytgbchcpekidllaa

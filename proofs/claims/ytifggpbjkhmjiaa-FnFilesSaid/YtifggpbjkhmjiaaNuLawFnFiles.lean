/- The row of the law FnFiles: for every input it answers true, and leaves what it was handed as it was. -/
import Derived.Test.YtifggpbjkhmjiaaRows
import Derived.Test.YtifggpbjkhmjiaaNuFns
import Derived.Test.YtifggpbjkhmjiaaNuPureD
namespace Go.Proofs.Ytifggpbjkhmjiaa.fnFiles
open Go.ChangeShapes Go.WideShapes Go.ChangeAt Go.RowKit Go.Nu
set_option linter.unusedVariables false
theorem own : ownKnob Try.prog.godebug = none := by kernel_rfl
theorem laidOut : laidOutB Try.prog = true := by kernel_rfl
set_option maxRecDepth 100000 in
theorem lifted (os : Os) (started : os.Started) (H : Type) (enc : TypeId × Value → H) :
    ReturnsInHanded {} Try.checked os 7 .any (Rows.fnFilesSpec.pre6 enc Try.prog Try.f7 Rows.fnFilesRow.domain false) (Rows.fnFilesSpec.post enc Try.prog Try.f7 false true false false) := by
  refine returnsInHanded_of_change_sized (C := Try.checked) own started (by kernel_rfl) Try.func7
    (ChangeSpec.witness6 (enc := enc) (C := Try.checked) false ⟨#[], #[Go.Value.slice Option.none (nat_lit 0) (nat_lit 0)], []⟩ 20 (by kernel_rfl) (by kernel_rfl) (by kernel_rfl) (by kernel_rfl)) ?_
  intro W base args ds gs before hval0 hW hcnd hsz0 _
  have hval : ∀ (j : Nat) t v, Try.f7.params[j]? = some t → args[j]? = some v → Value.okWide Try.prog W .any base t v := hval0
  have hW' := hW
  obtain ⟨p, q, hA0, hV, rfl, hfz, hnd⟩ := hW
  have hA : DataW.TrodAll enc Try.prog W 0 (fun _ => true) true Try.f7.params.toList args.toList ds p := hA0
  rw [Try.params7] at hA hval
  obtain ⟨v0, vs0, d0, ds0, p0, q0, hargs, rfl, rfl, h0, r0⟩ := trodAll_cons hA
  obtain ⟨rfl, rfl, rfl⟩ := trodAll_nil r0
  obtain rfl : args = #[v0] := by cases args; simp_all
  obtain ⟨rfl, rfl⟩ := trodVars_none hV
  obtain ⟨x0, o0, l0⟩ := arg_open (n := 30) (d := Kd.sl (.int Go.IntKind.u8)) (by kernel_rfl) (fun _ => by kernel_rfl) (hval 0 22 v0 rfl rfl) h0
  have lt0 : ∀ x ∈ p0, x.block < W.heap.size := by
    obtain ⟨m, hm⟩ := h0
    exact DataW.trod_lt m _ _ _ hm
  clear hA0 hval0 hsz0
  refine (law_calls (ks := [.sl (.int Go.IntKind.u8)]) (W := W) (args := #[v0]) F7_ok FnFiles_pure (x := (x0, ())) (show VArgs (fun b => b < W.heap.size) W [.sl (.int Go.IntKind.u8)] (x0, ()) [v0] from ⟨o0, l0, trivial⟩)).mono fun e W' ⟨he, bel⟩ => ?_
  subst he
  exact ⟨_, rfl, _, _, _, [], _, [], hW', trodAll_mk1 (shut_bool Try.underlying4 _), (trodAll_cons_mk (Below.trod laidOut (by kernel_rfl) (of_decide_eq_true (by kernel_rfl)) h0 bel lt0) trodAll_mk0), rfl, bel.frame _, fun h => by cases h⟩
theorem over : Rows.fnFilesRow.holds Try.pinned (OpenSpec.ofChange Rows.fnFilesSpec) :=
  OpenClaim.holds_of_wide 7 Try.f7 rfl rfl rfl rfl rfl rfl rfl ⟨rfl, rfl, rfl, rfl, rfl⟩ rfl rfl rfl rfl rfl (by kernel_rfl) Try.func7 (by kernel_rfl)
    (of_decide_eq_true (by kernel_rfl)) (by unfold Func.isWrapper; first | (rw [if_pos (by decide +kernel)]; kernel_rfl) | (rw [if_neg (by decide +kernel)]; exact ⟨rfl, rfl⟩))
    (fun os started H enc _ => lifted os started H enc)
theorem proved : Rows.FnFilesSaid := over
end Go.Proofs.Ytifggpbjkhmjiaa.fnFiles
namespace Go.Proofs.Ytifggpbjkhmjiaa
/-- The row, under a short name, for the claim. -/
theorem fnFiles_holds : Rows.FnFilesSaid := fnFiles.proved
#print axioms fnFiles_holds
end Go.Proofs.Ytifggpbjkhmjiaa

/- Nu, part J: arithmetic, conversions, make, append. -/
import Derived.Test.YtifggpbjkhmjiaaNuI
namespace Go.Nu
set_option linter.unusedSimpArgs false
set_option linter.unnecessarySimpa false
set_option linter.unusedVariables false
set_option linter.unusedSectionVars false

theorem run_ret {α R : Type} (a : α) (K : α → Option R) : (Tree.ret a).run K = K a := rfl
theorem run_fail {α R : Type} (K : α → Option R) : (Tree.fail : Tree α).run K = none := rfl

section
variable {P : Program} {S : Nat → Prop} {w : World} {ρ : Rho} {h : Store} {b : Nat}

theorem bool2 (op : BinOp) : (∃ x, x = op) := ⟨op, rfl⟩

theorem toList_beq (a b : ByteArray) : (a.toList == b.toList) = strEq a b := by
  unfold strEq
  rw [Bool.eq_iff_iff]
  simp only [beq_iff_eq, decide_eq_true_eq]
  constructor
  · intro e
    have h1 : a.data.toList = b.data.toList := by
      have := e
      simpa [ByteArray.toList_eq] using this
    have : a.data = b.data := Array.toList_inj.1 h1
    cases a; cases b; simp_all
  · rintro rfl; rfl

theorem binOp_ok {op : BinOp} {t : TypeId} {xo yo : Operand} {a c : AV} {x y : Value} {av : AV} (ht : ∀ p q, a = .bool p → c = .bool q → P.underlying t = some .bool) (ha : L1 S w ρ a x) (hc : L1 S w ρ c y)
    (hr : (binA op a c).run some = some av) : ∃ v, (do eqGuard op t xo yo x y; binOp op t x y : Sem Value).run P w = .ok v w ∧ L0 S w ρ av v := by
  cases a with
  | int k m =>
    cases c with
    | int k' n =>
      simp only [L1, L0] at ha hc
      subst ha; subst hc
      have hg : (eqGuard op t xo yo (.int k m) (.int k' n)).run P w = .ok () w := by
        unfold eqGuard
        split <;> simp
      simp only [Sem.run_bind, hg, Result.andThen_ok]
      by_cases hk : k = k'
      · subst hk
        cases op <;> simp only [binA, int2, if_true, Tree.br_some, run_ret, run_fail, Option.some.injEq, Bool.false_eq_true, and_false, false_or, or_false, reduceCtorEq] at hr
        all_goals first
          | (subst hr; refine ⟨_, ?_, rfl⟩; simp only [binOp, ne_eq, not_true_eq_false, if_false]; rfl)
          | (obtain ⟨c0, rfl⟩ := hr
             have c0 := of_decide_eq_false c0
             refine ⟨_, ?_, rfl⟩
             simp [binOp, Op.intDiv, Op.shift, c0])
      · cases op <;> simp only [binA, hk, if_false, Tree.br_some, run_ret, run_fail, Option.some.injEq, Bool.false_eq_true, and_false, false_or, or_false, reduceCtorEq] at hr
        all_goals
          obtain ⟨c0, rfl⟩ := hr
          have c0 := of_decide_eq_false c0
          refine ⟨_, ?_, rfl⟩
          simp [binOp, Op.shift, c0]
    | _ => simp [binA, Tree.run] at hr
  | str m =>
    cases c with
    | str n =>
      simp only [L1, L0] at ha hc
      subst ha; subst hc
      have hg : (eqGuard op t xo yo (.string m) (.string n)).run P w = .ok () w := by
        unfold eqGuard
        split <;> simp
      simp only [Sem.run_bind, hg, Result.andThen_ok]
      cases op <;> simp only [binA, Tree.br_some, run_ret, run_fail, Option.some.injEq, Bool.false_eq_true, and_false, false_or, or_false, reduceCtorEq] at hr
      case add =>
        obtain ⟨c0, rfl⟩ := hr
        have c0 := of_decide_eq_true c0
        exact ⟨_, by rw [binOp_string_add]; exact run_string_add_sum w m n (by omega), rfl⟩
      case eql => subst hr; exact ⟨_, by rw [binOp_string_eql, toList_beq]; rfl, rfl⟩
      case neq => subst hr; exact ⟨_, by rw [binOp_string_neq, toList_beq]; rfl, rfl⟩
    | _ => simp [binA, Tree.run] at hr
  | bool m =>
    cases c with
    | bool n =>
      have hu := ht m n rfl rfl
      simp only [L1, L0] at ha hc
      subst ha; subst hc
      have hg : (eqGuard op t xo yo (.bool m) (.bool n)).run P w = .ok () w := by
        unfold eqGuard
        split <;> simp
      simp only [Sem.run_bind, hg, Result.andThen_ok]
      cases op <;> simp only [binA, Tree.run, Option.some.injEq, reduceCtorEq] at hr
      case eql => subst hr; exact ⟨_, run_eql_bool w t m n hu, rfl⟩
      case neq => subst hr; exact ⟨_, run_neq_bool w t m n hu, rfl⟩
    | _ => simp [binA, Tree.run] at hr
  | _ => simp [binA, Tree.run] at hr

theorem unOp_ok {op : UnOp} {a : AV} {x : Value} {av : AV} (ha : L1 S w ρ a x) (hr : (unA op a).run some = some av) : ∃ v, (Op.unary op x).run P w = .ok v w ∧ L0 S w ρ av v := by
  cases a with
  | bool m =>
    simp only [L1, L0] at ha
    subst ha
    cases op <;> simp only [unA, Tree.run, Option.some.injEq, reduceCtorEq] at hr
    subst hr
    exact ⟨_, by simp [Op.unary], rfl⟩
  | int k n =>
    simp only [L1, L0] at ha
    subst ha
    cases op <;> simp only [unA, Tree.run, Option.some.injEq, reduceCtorEq] at hr
    all_goals
      subst hr
      exact ⟨_, rfl, rfl⟩
  | _ => simp [unA, Tree.run] at hr

end
end Go.Nu

/- Nu, part Ze: plain laws of rounds. -/
import Derived.Test.YtjilffemogdabaaNuZd
namespace Go.Nu

theorem rounds_ind {X E : Type} {B : (X → Option E) → X → Option E} (I : X → Prop) (m : X → Nat) (R : X → E → Prop)
    (h : ∀ rec x, I x → (∀ x', I x' → m x' < m x → ∃ e, rec x' = some e ∧ R x' e) → ∃ e, B rec x = some e ∧ R x e) : ∀ k x, I x → m x < k → ∃ e, rounds B k x = some e ∧ R x e := by
  intro k
  induction k with
  | zero => intro x _ hk; omega
  | succ k ih =>
    intro x hx hk
    exact h _ x hx fun x' h1 h2 => ih x' h1 (by omega)

/-- The same, where the answer is told. -/
theorem rounds_eq {X E : Type} {B : (X → Option E) → X → Option E} (I : X → Prop) (m : X → Nat) (g : X → E)
    (h : ∀ rec x, I x → (∀ x', I x' → m x' < m x → rec x' = some (g x')) → B rec x = some (g x)) : ∀ k x, I x → m x < k → rounds B k x = some (g x) := by
  intro k x hx hk
  obtain ⟨e, h1, h2⟩ := rounds_ind I m (fun x e => e = g x) (fun rec x hI hr => ⟨_, h rec x hI fun x' h3 h4 => by obtain ⟨e, h5, h6⟩ := hr x' h3 h4; rw [h5, h6], rfl⟩) k x hx hk
  rw [h1, h2]

theorem cond_dec {α : Type} {p : Prop} [Decidable p] (x y : α) : cond (decide p) x y = if p then x else y := by
  by_cases h : p <;> simp [h]
theorem rd_lt {d : Kd} {l : List d.T} {i : Nat} (h : i < l.length) : rd d l i = l[i] := by simp [rd, h]

end Go.Nu

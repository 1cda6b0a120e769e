/- What 'EntryOk' answers, in plain Lean. -/
import Derived.Test.YtjilffemogdabaaNuPureG
namespace Go.Nu
open Go.IntWalk
set_option linter.unusedVariables false
set_option linter.unusedSimpArgs false

abbrev dE : Kd := .pr (.int .i64) (.pr (.int .i64) (.sl (.int .u8)))
abbrev Ent := Int × Int × List Int

theorem szBytes (l : List Int) (k : Int) (h : l.length ≤ maxLen) (h0 : 0 ≤ k) (h1 : k ≤ 9223372036854775807) : F31 (l, k, ()) = some ((if k < l.length then -1 else k - l.length : Int), (), (), ()) := szS_eq l k h h0 h1
theorem szEnt (a b : Int) (d : List Int) (k : Int) (h : d.length ≤ maxLen) (h0 : 0 ≤ k) (h1 : k ≤ 1048576) : F7 ((a, b, d), k, ()) = some ((if k < d.length then -1 else k - d.length : Int), (), (), ()) := by
  simp only [F7, szBytes d k h h0 (by omega), obind_some]
  by_cases hk : k < (d.length : Int)
  · simp [hk]
  · have : ¬ k - (d.length : Int) < 0 := by omega
    simp [hk, this]
theorem toEnt (a b : Int) (d : List Int) (h : d.length ≤ 1048576) : F9 ((a, b, d), ()) = some ((a, b, d), (), ()) := by
  simp only [F9, toBytes_eq d h, obind_some]
theorem eqEnt (a b a' b' : Int) (d d' : List Int) (h : d.length ≤ 1048576) : F11 ((a, b, d), (a', b', d'), ()) = some (decide ((a, b, d) = (a', b', d')), (), (), ()) := by
  simp only [F11, eqBytes_eq d d' h, obind_some]
  by_cases h1 : a = a' <;> by_cases h2 : b = b' <;> by_cases h3 : d = d' <;> simp [h1, h2, h3]

theorem from2 (x a b : Int) : F32 (x, a, b, ()) = F53 (x, a, b, ()) := rfl
theorem from_some (x a b : Int) : F53 (x, a, b, ()) = some (decide (a ≤ x ∧ x ≤ b), (), (), (), ()) := fromI x a b

theorem entOk_both (a b : Int) (d : List Int) (h : d.length ≤ 1048576) (hb : ∀ x ∈ d, 0 ≤ x ∧ x ≤ 255) : ∃ v : Bool, F10 ((a, b, d), ()) = some (v, (), ()) ∧ F8 ((a, b, d), ()) = some (v, (), ()) ∧
    (v = true → 1 ≤ a ∧ a ≤ 1000000 ∧ (b = 1 ∨ b = 2 ∨ b = 3) ∧ d.length ≤ 400) := by
  obtain ⟨p, q, v, _, _, e1, e2, e3⟩ : ∃ (p q : List Int) (v : Bool), p.length ≤ 1048576 ∧ q.length ≤ 1048576 ∧ F36 (d, ()) = some (((p, q), v), (), ()) ∧ F33 (d, ()) = some (((p, q), v), (), ()) ∧ (v = true → d.length ≤ 400) := by
    obtain ⟨p, q, v, h1, h2, e1, e2⟩ := get_both d h hb
    refine ⟨p, q, v, h1, h2, e1, e2, fun hv => ?_⟩
    subst hv
    by_cases h3 : (d.length : Int) = 2
    · omega
    · simp [F36, h3] at e1
  simp only [F10, F8, F35, fromI _ _ _, fromS _ _ _, e1, e2, obind_some]
  by_cases c0 : 1 ≤ a ∧ a ≤ 1000000
  · simp only [c0, decide_true, Bool.not_true, cond_false, and_self]
    by_cases c1 : b = 1
    · simp only [c1, decide_true, cond_true]
      exact ⟨_, rfl, rfl, fun h => ⟨trivial, trivial, .inl trivial, by have := of_decide_eq_true h; omega⟩⟩
    · simp only [c1, decide_false, cond_false]
      by_cases c2 : b = 2
      · simp only [c2, decide_true, cond_true]
        exact ⟨_, rfl, rfl, fun h => ⟨trivial, trivial, .inr (.inl trivial), by have := of_decide_eq_true h; omega⟩⟩
      · simp only [c2, decide_false, cond_false]
        by_cases c3 : b = 3
        · simp only [c3, decide_true, cond_true]
          exact ⟨_, rfl, rfl, fun h => ⟨trivial, trivial, .inr (.inr trivial), e3 h⟩⟩
        · simp only [c3, decide_false, cond_false]
          exact ⟨_, rfl, rfl, fun h => by cases h⟩
  · simp only [c0, decide_false, Bool.not_false, cond_true]
    exact ⟨_, rfl, rfl, fun h => by cases h⟩

theorem FnExactEntryOk_pure : ∀ x, OkA [dE] x → ∃ u, F3 x = some (true, u) := by
  rintro ⟨⟨a, b, d⟩, _⟩ ⟨⟨h1, h2, ⟨h3, h4⟩⟩, _⟩
  simp only [F3]
  rw [szEnt a b d 1048576 h3 (by decide) (by decide)]
  by_cases hk : (1048576 : Int) < d.length
  · simp [hk]
  · have hd : d.length ≤ 1048576 := by omega
    have hn : ¬ (1048576 : Int) - d.length < 0 := by omega
    obtain ⟨v, e1, e2, _⟩ := entOk_both a b d hd (fun x hx => byte_ok (h4 x hx))
    simp only [hk, if_false, hn, obind_some, decide_false, cond_false, toEnt a b d hd, e1, e2, eqEnt a b a b d d hd]
    cases v <;> exact ⟨((), ()), by simp⟩

end Go.Nu

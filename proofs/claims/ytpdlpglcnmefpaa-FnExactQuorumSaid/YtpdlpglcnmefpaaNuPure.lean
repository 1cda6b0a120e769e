/- What the functions of the groups answer, in plain Lean. -/
import Derived.Test.YtpdlpglcnmefpaaNuZf
import Derived.Test.YtpdlpglcnmefpaaNuFns
namespace Go.Nu
open Go.IntWalk
set_option linter.unusedVariables false
set_option linter.unusedSimpArgs false

theorem toIntS_eq (l : List Int) (h : l.length ≤ 1048576) : F18 (l, ()) = some (l, (), ()) := toS_eq (.int .i64) 8 (by decide) l h
theorem eqIntS_eq (l m : List Int) (h : l.length ≤ 1048576) : F20 (l, m, ()) = some (decide (l = m), (), (), ()) := eqS_eq .i64 l m h
theorem szIntS_eq (l : List Int) (k : Int) (h : l.length ≤ maxLen) (h0 : 0 ≤ k) (h1 : k ≤ 9223372036854775807) : F45 (l, k, ()) = some (if k < l.length then -1 else k - l.length, (), (), ()) := szS_eq l k h h0 h1

theorem ids_same (l : List Int) (hl : l.length ≤ 1048576) : ∀ (k : Nat) (i : Int), 0 ≤ i → i ≤ l.length → rounds L46_2B k (l, i, ()) = rounds L47_2B k (l, l, (l.length : Int), i, ())
  | 0, _, _, _ => rfl
  | k + 1, i, h0, h1 => by
    simp only [rounds, L46_2B, L47_2B, F67, F68, F75]
    by_cases hlt : i < (l.length : Int)
    · have ih := ids_same l hl k (i + 1) (by omega) (by omega)
      have hw1 : IntKind.i64.wrap (i + 1) = i + 1 := i64_in _ (by omega)
      have hw0 : IntKind.i64.wrap (i - 1) = i - 1 := i64_in _ (by omega)
      simp only [hlt, h0, decide_true, cond_true, hw1, hw0, ih]
      generalize rd (Kd.int IntKind.i64) l i.toNat = r
      by_cases h3 : r ≥ 1
      · simp only [h3, decide_true, cond_true, obind_some]
      · simp only [h3, decide_false, cond_false, obind_some]
    · simp only [hlt, decide_false, cond_false]

theorem ids_some (l : List Int) (hl : l.length ≤ 1048576) : ∃ e, rounds L46_2B fuel (l, 0, ()) = some e := by
  obtain ⟨e, h, _⟩ := rounds_ind (B := L46_2B) (fun x => x.1.length ≤ 1048576 ∧ 0 ≤ x.2.1 ∧ x.2.1 ≤ x.1.length) (fun x => x.1.length - x.2.1.toNat) (fun _ _ => True) (fun rec x hx hr => by
    obtain ⟨a, i, u⟩ := x
    obtain ⟨h1, h2, h3⟩ := hx
    simp only at h1 h2 h3
    simp only [L46_2B, F67]
    by_cases hlt : i < (a.length : Int)
    · have hw1 : IntKind.i64.wrap (i + 1) = i + 1 := i64_in _ (by omega)
      have hw0 : IntKind.i64.wrap (i - 1) = i - 1 := i64_in _ (by omega)
      obtain ⟨e, he, _⟩ := hr (a, i + 1, u) ⟨h1, by simp only; omega, by simp only; omega⟩ (by simp only; omega)
      have h4 : i - 1 < (a.length : Int) := by omega
      simp only [hlt, h2, h4, decide_true, cond_true, hw1, hw0, he]
      generalize rd (Kd.int IntKind.i64) a i.toNat = r
      by_cases h5 : r ≥ 1 <;> by_cases h6 : r ≤ 7 <;> by_cases h7 : i > 0
      all_goals (try have h8 : 0 ≤ i - 1 := by omega)
      all_goals simp [h5, h6, h7, cond_dec]
      all_goals (try simp [*])
      all_goals (try split)
      all_goals (first | exact ⟨_, rfl⟩ | exact ⟨by omega, _, rfl⟩ | skip)
    · simp only [hlt, decide_false, cond_false]
      exact ⟨_, rfl, trivial⟩) fuel (l, 0, ()) ⟨hl, by simp, by simp⟩ (by simp only [fuel]; omega)
  exact ⟨e, h⟩

theorem idsOk_eq (l : List Int) (hl : l.length ≤ 1048576) : ∃ b, F46 (l, ()) = some (b, (), ()) ∧ F47 (l, ()) = some (b, (), ()) := by
  obtain ⟨e, he⟩ := ids_some l hl
  have h2 := ids_same l hl fuel 0 (by omega) (by omega)
  simp only [F46, F47, L46_2, L47_2, ← h2, he, obind_some]
  cases e with
  | inl y => exact ⟨_, rfl, rfl⟩
  | inr y => exact ⟨_, rfl, rfl⟩

theorem szGroup_cases (a b : List Int) (ha : a.length ≤ maxLen) (hb : b.length ≤ maxLen) : (∃ k, F12 ((a, b), 1048576, ()) = some (k, (), (), ()) ∧ k < 0) ∨ (∃ k, F12 ((a, b), 1048576, ()) = some (k, (), (), ()) ∧ ¬ k < 0 ∧ a.length ≤ 1048576 ∧ b.length ≤ 1048576) := by
  simp only [F12]
  rw [szIntS_eq a 1048576 ha (by decide) (by decide)]
  by_cases hk : (1048576 : Int) < a.length
  · left; exact ⟨-1, by simp [hk], by decide⟩
  · have e1 : ¬ (1048576 : Int) - a.length < 0 := by omega
    simp only [hk, if_false, obind_some, e1, decide_false, cond_false]
    rw [szIntS_eq b _ hb (by omega) (by omega)]
    by_cases hk2 : (1048576 : Int) - a.length < b.length
    · left; exact ⟨-1, by simp [hk2], by decide⟩
    · right
      have e2 : ¬ (1048576 : Int) - a.length - b.length < 0 := by omega
      exact ⟨(1048576 : Int) - a.length - b.length, by simp [hk2, e2], e2, by omega, by omega⟩

theorem toGroup_eq (a b : List Int) (ha : a.length ≤ 1048576) (hb : b.length ≤ 1048576) : F14 ((a, b), ()) = some ((a, b), (), ()) := by
  simp only [F14, toIntS_eq a ha, toIntS_eq b hb, obind_some]
theorem eqGroup_eq (a b c d : List Int) (ha : a.length ≤ 1048576) (hb : b.length ≤ 1048576) : F16 ((a, b), (c, d), ()) = some (decide ((a, b) = (c, d)), (), (), ()) := by
  simp only [F16, eqIntS_eq a c ha, eqIntS_eq b d hb, obind_some]
  by_cases h1 : a = c <;> by_cases h2 : b = d <;> simp [h1, h2]

theorem FnExactGroupOk_pure : ∀ x, OkA [.pr (.sl (.int .i64)) (.sl (.int .i64))] x → ∃ u, F3 x = some (true, u) := by
  rintro ⟨⟨a, b⟩, _⟩ ⟨⟨⟨h1, _⟩, ⟨h2, _⟩⟩, _⟩
  simp only [F3]
  rcases szGroup_cases a b h1 h2 with ⟨k, e, hk⟩ | ⟨k, e, hk, ha, hb⟩
  · simp [e, hk]
  · obtain ⟨x, e1, e2⟩ := idsOk_eq a ha
    obtain ⟨y, e3, e4⟩ := idsOk_eq b hb
    have e5 : F13 ((a, b), ()) = F15 ((a, b), ()) := by simp only [F13, F15, e1, e2, e3, e4]
    have e6 : ∃ z, F15 ((a, b), ()) = some (z, (), ()) := by
      simp only [F15, e2, e4, obind_some]
      cases x <;> cases y <;> exact ⟨_, rfl⟩
    obtain ⟨z, e6⟩ := e6
    simp only [e, obind_some, hk, decide_false, cond_false, toGroup_eq a b ha hb, e5, e6, eqGroup_eq a b a b ha hb]
    simp

end Go.Nu

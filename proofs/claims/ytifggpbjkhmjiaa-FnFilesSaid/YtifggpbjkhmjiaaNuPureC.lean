/- What 'FileAdd' answers, in plain Lean. -/
import Derived.Test.YtifggpbjkhmjiaaNuPureB
import Derived.Test.YtifggpbjkhmjiaaNuZi
namespace Go.Nu
open Go.IntWalk
set_option linter.unusedVariables false
set_option linter.unusedSimpArgs false

theorem grow_eq (k : Int) (h0 : 0 ≤ k) (h1 : k ≤ 4194304) : F38 ((), k, ()) = some ([], (), (), ()) := by
  have w0 : IntKind.i64.wrap (0 - 0) = 0 := by rw [i64_in _ (by omega)]; omega
  have w1 : IntKind.i64.wrap (k - 0) = k := by rw [i64_in _ (by omega)]; omega
  have n0 : ¬ k < 0 := by omega
  have r : k * ((1 : Nat) : Int) ≤ (room : Nat) := by
    have : room = 140737488355328 := rfl
    omega
  simp only [F38, w0, w1, n0, decide_false, cond_false]
  by_cases hk : k > 0
  · have q : (0 : Int) ≤ ((List.replicate k.toNat (Kd.zero (.int .u8))).length : Int) := by omega
    simp only [hk, h0, r, q, decide_true, cond_true]
    rfl
  · simp only [hk, decide_false, cond_false]

theorem concat_eq (ls : List (List Int)) (h : lens ls ≤ 4194304) (hl : ls.length ≤ 1048576) : F33 (ls, ()) = some (ls.flatten, (), ()) := by
  have e1 : L33_3 (ls, 0, ls, (ls.length : Int), 0, ()) = some (ls, (lens ls : Int), ()) := catA_rounds (.int .u8) ls h hl
  have e2 : L33_11 (ls, (ls.length : Int), 0, [], ()) = some (ls.flatten, ()) := catB_rounds (.int .u8) 1 (by decide) ls h hl
  simp only [F33, e1, obind_some, grow_eq (lens ls : Int) (by omega) (by omega), e2]

noncomputable def added (a : List Int) (n : Int) (b : List Int) : (List Int × Int) × Bool := if fileOk a n = true ∧ a.length + b.length ≤ 400000 then ((a ++ b, n), true) else ((a, n), false)

theorem addS (a b : List Int) (n : Int) (ha : a.length ≤ 1048576) (hb : b.length ≤ 1048576) : F19 ((a, n), b, ()) = some (added a n b, (), (), ()) := by
  have w : IntKind.i64.wrap ((a.length : Int) + b.length) = (a.length : Int) + b.length := i64_in _ (by omega)
  have r : (a.length + b.length) * 1 ≤ room := rooms (by omega) (by decide)
  simp only [F19, copyS a n (by omega), fileOkS a n, obind_some, added, w]
  cases fileOk a n with
  | false => simp
  | true =>
    by_cases h : (a.length : Int) + b.length > 400000
    · have h' : ¬ a.length + b.length ≤ 400000 := by omega
      simp [h, h']
    · have h' : a.length + b.length ≤ 400000 := by omega
      simp only [h, h', r, decide_false, decide_true, cond_false, cond_true, Bool.not_true, and_self, if_true]
theorem addI (a b : List Int) (n : Int) (ha : a.length ≤ 1048576) (hb : b.length ≤ 1048576) : F21 ((a, n), b, ()) = some (added a n b, (), (), ()) := by
  have w : IntKind.i64.wrap (400000 - (a.length : Int)) = 400000 - (a.length : Int) := i64_in _ (by omega)
  have hl : lens [a, b] ≤ 4194304 := by simp [lens]; omega
  have hc : F33 ([a, b], ()) = some (a ++ b, (), ()) := by
    rw [concat_eq [a, b] hl (by simp)]
    simp
  simp only [F21, copyI a n (by omega), fileOkI a n, obind_some, added, w]
  cases fileOk a n with
  | false => simp
  | true =>
    by_cases h : (b.length : Int) > 400000 - a.length
    · have h' : ¬ a.length + b.length ≤ 400000 := by omega
      simp [h, h']
    · have h' : a.length + b.length ≤ 400000 := by omega
      simp only [h, h', hc, obind_some, decide_false, decide_true, cond_false, cond_true, Bool.not_true, and_self, if_true]

theorem FnExactFileAdd_pure : ∀ x, OkA [.pr (.sl (.int .u8)) (.int .i64), .sl (.int .u8)] x → ∃ u, F6 x = some (true, u) := by
  rintro ⟨⟨a, n⟩, b, _⟩ ⟨⟨⟨h1, _⟩, h2⟩, ⟨h3, _⟩, _⟩
  simp only [F6]
  by_cases hc : (b.length : Int) > 1048576
  · exact ⟨((), (), ()), by simp only [hc, decide_true, cond_true]⟩
  have hb : b.length ≤ 1048576 := by omega
  simp only [hc, decide_false, cond_false]
  rcases szFile_cases a n h1 with ⟨k, e, hk⟩ | ⟨k, e, hk, _, ha⟩
  · simp [e, hk]
  · obtain ⟨⟨⟨r, s⟩, v⟩, hr⟩ : ∃ p, added a n b = p := ⟨_, rfl⟩
    have hrl : r.length ≤ 1048576 := by
      unfold added at hr
      split at hr
      · rename_i hh; cases hr; rw [List.length_append]; omega
      · cases hr; exact ha
    obtain ⟨z, hz⟩ := markFile_eq a n 1 ha (by decide) (by decide)
    obtain ⟨z2, hz2⟩ := markFile_eq r s 1 hrl (by decide) (by decide)
    have hm := markBytes_eq b (1 + a.length) hb (by omega) (by omega)
    have hp : ¬ (1 : Int) + a.length + b.length < 0 := by omega
    have hp2 : ¬ (1 : Int) + r.length < 0 := by omega
    simp only [e, obind_some, hk, decide_false, cond_false, toFile_eq a n ha, toBytes_eq b hb, addS a b n ha hb, addI a b n ha hb, hr, eqFile_eq _ _ _ _ ha, eqFile_eq _ _ _ _ hrl, eqBytes_eq b b hb, hz, hz2, hm, heldFile_eq r.length _ 1 hrl (by decide) (by decide), hp, hp2, decide_true, Bool.not_true]
    cases v <;> first | exact ⟨((), (), ()), rfl⟩ | exact ⟨((), (), ()), by simp⟩

end Go.Nu

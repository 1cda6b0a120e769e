/- What the functions of the files answer, in plain Lean. -/
import Derived.Test.YtifggpbjkhmjiaaNuZe
import Derived.IntWalk
import Derived.Test.YtifggpbjkhmjiaaNuFns
namespace Go.Nu
open Go.IntWalk
set_option linter.unusedVariables false

theorem take_step {α : Type} {o a : List α} {n : Nat} {v : α} (ho : n < o.length) (ha : n < a.length) (h : o.take n = a.take n) (hv : v = a[n]) : (o.set n v).take (n + 1) = a.take (n + 1) := by
  subst hv
  rw [List.take_succ_eq_append_getElem (by simpa using ho), List.take_succ_eq_append_getElem ha, ← h, List.take_set_of_le (Nat.le_refl _)]
  simp

/-- 'toByteS' copies: condition: what is copied fits into memory. -/
theorem toByteS_eq (l : List Int) (h : l.length ≤ 140737488355328) : F20 (l, ()) = some (l, (), ()) := by
  have key : ∀ k (x : Sh.T L20_3sh), (x.2.2.1.length = x.1.length ∧ 0 ≤ x.2.1 ∧ x.2.1 ≤ x.1.length ∧ x.1.length ≤ 140737488355328 ∧ x.2.2.1.take x.2.1.toNat = x.1.take x.2.1.toNat) →
      (x.1.length - x.2.1.toNat) < k → rounds L20_3B k x = some (x.1, ()) := by
    intro k x hx hk
    refine rounds_eq (B := L20_3B) (fun x : Sh.T L20_3sh => x.2.2.1.length = x.1.length ∧ 0 ≤ x.2.1 ∧ x.2.1 ≤ x.1.length ∧ x.1.length ≤ 140737488355328 ∧ x.2.2.1.take x.2.1.toNat = x.1.take x.2.1.toNat) (fun x => x.1.length - x.2.1.toNat) (fun x => (x.1, ())) ?_ k x hx hk
    rintro rec ⟨a, i, o, u⟩ ⟨h1, h2, h3, h4, h5⟩ hrec
    simp only at h1 h2 h3 h4 h5
    simp only [L20_3B]
    by_cases hlt : i < (a.length : Int)
    · have hi : i.toNat < a.length := by omega
      have hi' : i.toNat < o.length := by omega
      have hw : IntKind.i64.wrap (i + 1) = i + 1 := i64_in (i + 1) (by omega)
      simp only [hlt, h2, h1, decide_true, cond_true, hw]
      refine hrec _ ⟨by simp [h1], by simp only; omega, by simp only; omega, h4, ?_⟩ (by simp only; omega)
      simp only
      rw [show (i + 1).toNat = i.toNat + 1 by omega]
      exact take_step hi' hi h5 (rd_lt hi)
    · simp only [hlt, decide_false, cond_false]
      have : i.toNat = a.length := by omega
      rw [this, List.take_length, List.take_of_length_le (by omega)] at h5
      rw [h5]
  have hl : (l.length : Int) ≤ 140737488355328 := by omega
  have h1 := key fuel (l, 0, List.replicate l.length 0, ()) ⟨by simp, by simp, by simp, h, by simp⟩ (by simp only [fuel]; omega)
  simp only [F20, L20_3, Int.toNat_natCast, Kd.zero, h1, obind_some, room]
  simp [hl]

/-- 'eqByteS' tells whether two are the same. -/
theorem eqByteS_eq (l m : List Int) (h : l.length ≤ 140737488355328) : F22 (l, m, ()) = some (decide (l = m), (), (), ()) := by
  have key : ∀ k (x : Sh.T L22_4sh), (x.1.length = x.2.1.length ∧ 0 ≤ x.2.2.1 ∧ x.2.2.1 ≤ x.1.length ∧ x.1.length ≤ 140737488355328 ∧ x.1.take x.2.2.1.toNat = x.2.1.take x.2.2.1.toNat) →
      (x.1.length - x.2.2.1.toNat) < k → rounds L22_4B k x = some (if x.1 = x.2.1 then .inr () else .inl (false, ())) := by
    intro k x hx hk
    refine rounds_eq (B := L22_4B) (fun x : Sh.T L22_4sh => x.1.length = x.2.1.length ∧ 0 ≤ x.2.2.1 ∧ x.2.2.1 ≤ x.1.length ∧ x.1.length ≤ 140737488355328 ∧ x.1.take x.2.2.1.toNat = x.2.1.take x.2.2.1.toNat) (fun x => x.1.length - x.2.2.1.toNat) (fun x => if x.1 = x.2.1 then .inr () else .inl (false, ())) ?_ k x hx hk
    rintro rec ⟨a, b, i, u⟩ ⟨h1, h2, h3, h4, h5⟩ hrec
    simp only at h1 h2 h3 h4 h5
    simp only [L22_4B]
    by_cases hlt : i < (a.length : Int)
    · have hi : i.toNat < a.length := by omega
      have hi' : i.toNat < b.length := by omega
      have hw : IntKind.i64.wrap (i + 1) = i + 1 := i64_in (i + 1) (by omega)
      have hlt' : i < (b.length : Int) := by omega
      simp only [hlt, hlt', h2, decide_true, cond_true, hw]
      rw [rd_lt hi, rd_lt hi']
      by_cases he : a[i.toNat] = b[i.toNat]
      · simp only [he, decide_true, Bool.not_true, cond_false]
        refine hrec _ ⟨h1, by simp only; omega, by simp only; omega, h4, ?_⟩ (by simp only; omega)
        simp only
        rw [show (i + 1).toNat = i.toNat + 1 by omega, List.take_succ_eq_append_getElem hi, List.take_succ_eq_append_getElem hi', h5, he]
      · simp only [he, decide_false, Bool.not_false, cond_true]
        rw [if_neg (fun e => he (by simp [e]))]
    · simp only [hlt, decide_false, cond_false]
      have e1 : i.toNat = a.length := by omega
      rw [e1, List.take_length, List.take_of_length_le (by omega)] at h5
      rw [if_pos h5]
  by_cases hl : l.length = m.length
  · have h1 := key fuel (l, m, 0, ()) ⟨hl, by simp, by simp, h, by simp⟩ (by simp only [fuel]; omega)
    simp only [F22, L22_4, h1, hl, decide_true, Bool.not_true, cond_false, obind_some]
    by_cases he : l = m
    · simp [he]
    · simp [he]
  · have he : l ≠ m := fun e => hl (by rw [e])
    have : ¬ (l.length : Int) = m.length := by omega
    simp [F22, this, he]

/-- 'szByteS' counts. -/
theorem szByteS_eq (l : List Int) (k : Int) (h : l.length ≤ maxLen) (h0 : 0 ≤ k) (h1 : k ≤ 9223372036854775807) : F27 (l, k, ()) = some (if k < l.length then -1 else k - l.length, (), (), ()) := by
  have hm : (maxLen : Int) = 9223372036854775807 := rfl
  have hw : IntKind.i64.wrap (k - l.length) = k - l.length := i64_in _ (by omega)
  simp only [F27, hw]
  by_cases hk : k < l.length
  · have : k - (l.length : Int) < 0 := by omega
    simp [this, hk]
  · have : ¬ k - (l.length : Int) < 0 := by omega
    simp [this, hk]

theorem FnExactFileOk_pure : ∀ x, OkA [.pr (.sl (.int .u8)) (.int .i64)] x → ∃ u, F3 x = some (true, u) := by
  rintro ⟨⟨l, s⟩, _⟩ ⟨⟨⟨h1, _⟩, h2⟩, _⟩
  simp only [F3, F8]
  rw [szByteS_eq l 1048576 h1 (by decide) (by decide)]
  by_cases hk : (1048576 : Int) < l.length
  · simp [hk]
  · have hl : l.length ≤ 140737488355328 := by omega
    have e1 : ¬ (1048576 : Int) - l.length < 0 := by omega
    simp only [hk, if_false, obind_some, e1, decide_false, cond_false, F10, toByteS_eq l hl, F12, eqByteS_eq l l hl, decide_true, Bool.not_true]
    have e2 : F9 ((l, s), ()) = F11 ((l, s), ()) := rfl
    have e3 : ∃ b, F11 ((l, s), ()) = some (b, (), ()) := by
      simp only [F11, F29, cond_dec]
      repeat' split
      all_goals exact ⟨_, rfl⟩
    obtain ⟨b, e3⟩ := e3
    rw [e2, e3]
    simp

end Go.Nu

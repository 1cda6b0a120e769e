/- What 'FileSync', 'FileCrash' and their like answer, in plain Lean. -/
import Derived.Test.YtifggpbjkhmjiaaNuZg
import Derived.Test.YtifggpbjkhmjiaaNuFns
namespace Go.Nu
open Go.IntWalk
set_option linter.unusedVariables false
set_option linter.unusedSimpArgs false

theorem int64_ok {x : Int} (h : OkV (.int .i64) x) : -9223372036854775808 ≤ x ∧ x ≤ 9223372036854775807 := by
  have h' : (Lit.int IntKind.i64 x).wf = true := h
  simp [Lit.wf, IntKind.min, IntKind.max, IntKind.signed, IntKind.bits] at h'
  omega
theorem room_ok {n k : Nat} (h : n ≤ 4194304) (hk : k ≤ 64) : n * k ≤ room := by
  have h1 : n * k ≤ 4194304 * 64 := Nat.mul_le_mul h hk
  have : room = 140737488355328 := rfl
  omega

theorem clone_eq (a : List Int) (h : a.length ≤ 4194304) : F37 (a, ()) = some (a, (), ()) := by
  have h1 := room_ok (k := 1) h (by omega)
  cases a with
  | nil => simp [F37]
  | cons x a =>
    have h2 : (0 + (x :: a).length) * 1 ≤ room := by simpa using h1
    simp only [F37, List.length_nil, h2, decide_true, cond_true]
    rfl

theorem szFile_cases (a : List Int) (n : Int) (ha : a.length ≤ maxLen) : (∃ k, F8 ((a, n), 1048576, ()) = some (k, (), (), ()) ∧ k < 0) ∨ (∃ k, F8 ((a, n), 1048576, ()) = some (k, (), (), ()) ∧ ¬ k < 0 ∧ k = 1048576 - a.length ∧ a.length ≤ 1048576) := by
  have h := szS_eq a 1048576 ha (by decide) (by decide)
  have h' : F27 (a, 1048576, ()) = some ((if (1048576 : Int) < a.length then -1 else 1048576 - a.length : Int), (), (), ()) := h
  simp only [F8, h', obind_some]
  by_cases hk : (1048576 : Int) < a.length
  · left; exact ⟨-1, by simp [hk], by decide⟩
  · right
    have e2 : ¬ (1048576 : Int) - a.length < 0 := by omega
    exact ⟨(1048576 : Int) - a.length, by simp [hk, e2], e2, rfl, by omega⟩

theorem toBytes_eq (a : List Int) (ha : a.length ≤ 1048576) : F20 (a, ()) = some (a, (), ()) := toS_eq (.int .u8) 1 (by decide) a ha
theorem toFile_eq (a : List Int) (n : Int) (ha : a.length ≤ 1048576) : F10 ((a, n), ()) = some ((a, n), (), ()) := by
  simp only [F10, toBytes_eq a ha, obind_some]

theorem eqBytes_eq (a b : List Int) (ha : a.length ≤ 1048576) : F22 (a, b, ()) = some (decide (a = b), (), (), ()) := eqS_eq .u8 a b ha
theorem eqFile_eq (a b : List Int) (n m : Int) (ha : a.length ≤ 1048576) : F12 ((a, n), (b, m), ()) = some (decide ((a, n) = (b, m)), (), (), ()) := by
  simp only [F12, eqBytes_eq a b ha, obind_some]
  by_cases h1 : a = b <;> by_cases h2 : n = m <;> simp [h1, h2]

theorem markBytes_eq (a : List Int) (k : Int) (ha : a.length ≤ 1048576) (hk : 0 < k) (hk' : k ≤ 1099511627776) : F23 (a, k, ()) = some (k + a.length, mkL 1 (fun k => IntKind.u8.wrap k) k a.length, (), ()) := by
  have h := mark_rounds (d := .int .u8) (B := L23_2B) 1 (fun k => IntKind.u8.wrap k) (by decide) (fun rec k i l h1 h2 h3 h4 h5 => by
    have w1 : IntKind.i64.wrap (k + 1) = k + 1 := i64_in _ (by omega)
    have w2 : IntKind.i64.wrap (i + 1) = i + 1 := i64_in _ (by omega)
    simp only [L23_2B, h3, h4, w1, w2, decide_true, cond_true]) (fun rec k l => by
    simp [L23_2B]) a k ha hk hk'
  simp only [F23, L23_2, h, obind_some, Int.one_mul]
theorem heldBytes_eq (n : Nat) (k : Int) (ha : n ≤ 1048576) (hk : 0 < k) (hk' : k ≤ 1099511627776) : F32 (mkL 1 (fun k => IntKind.u8.wrap k) k n, k, ()) = some (k + n, (), (), ()) := by
  have h := held_rounds (d := .int .u8) (B := L32_2B) 1 (fun k => IntKind.u8.wrap k) (by decide) (fun rec k i l h1 h2 h3 h4 h5 h6 => by
    have w1 : IntKind.i64.wrap (k + 1) = k + 1 := i64_in _ (by omega)
    have w2 : IntKind.i64.wrap (i + 1) = i + 1 := i64_in _ (by omega)
    simp only [L32_2B, h3, h4, h6, w1, w2, decide_true, cond_true, Bool.not_true, cond_false]) (fun rec k l => by
    simp [L32_2B]) n k ha hk hk'
  simp only [F32, L32_2, h, obind_some, Int.one_mul]
theorem markFile_eq (a : List Int) (n : Int) (k : Int) (ha : a.length ≤ 1048576) (hk : 0 < k) (hk' : k ≤ 1099511627776) : ∃ z, F15 ((a, n), k, ()) = some (k + a.length, (mkL 1 (fun k => IntKind.u8.wrap k) k a.length, z), (), ()) := by
  simp only [F15, markBytes_eq a k ha hk hk', obind_some]
  exact ⟨_, rfl⟩
theorem heldFile_eq (m : Nat) (n : Int) (k : Int) (ha : m ≤ 1048576) (hk : 0 < k) (hk' : k ≤ 1099511627776) : F16 ((mkL 1 (fun k => IntKind.u8.wrap k) k m, n), k, ()) = some (k + m, (), (), ()) := by
  have : ¬ k + (m : Int) < 0 := by omega
  simp only [F16, heldBytes_eq m k ha hk hk', obind_some, this, decide_false, cond_false]

def fileOk (a : List Int) (n : Int) : Bool := decide (a.length ≤ 400000 ∧ 0 ≤ n ∧ n ≤ a.length)
theorem fileOkS (a : List Int) (n : Int) : F9 ((a, n), ()) = some (fileOk a n, (), ()) := by
  simp only [F9, F28, fileOk]
  by_cases h1 : a.length ≤ 400000
  · have h1' : (a.length : Int) ≤ 400000 := by omega
    by_cases h2 : 0 ≤ n <;> simp [h1', h2, h1]
  · have h1' : ¬ (a.length : Int) ≤ 400000 := by omega
    simp [h1', h1]
theorem fileOkI (a : List Int) (n : Int) : F11 ((a, n), ()) = some (fileOk a n, (), ()) := fileOkS a n
theorem fileOk_iff {a : List Int} {n : Int} : fileOk a n = true ↔ a.length ≤ 400000 ∧ 0 ≤ n ∧ n ≤ a.length := by simp [fileOk]

theorem copyI (a : List Int) (n : Int) (h : a.length ≤ 4194304) : F31 ((a, n), ()) = some ((a, n), (), ()) := by
  simp only [F31, clone_eq a h, obind_some]
theorem copyS (a : List Int) (n : Int) (h : a.length ≤ 4194304) : F30 ((a, n), ()) = some ((a, n), (), ()) := by
  have h1 := room_ok (k := 1) h (by omega)
  have h2 : (0 + a.length) * 1 ≤ room := by simpa using h1
  simp only [F30, List.length_nil, h2, decide_true, cond_true]

theorem syncS (a : List Int) (n : Int) (h : a.length ≤ 4194304) : F13 ((a, n), ()) = some ((a, if fileOk a n then (a.length : Int) else n), (), ()) := by
  simp only [F13, copyS a n h, fileOkS a n, obind_some]
  cases fileOk a n <;> simp
theorem syncI (a : List Int) (n : Int) (h : a.length ≤ 4194304) : F14 ((a, n), ()) = some ((a, if fileOk a n then (a.length : Int) else n), (), ()) := by
  simp only [F14, copyI a n h, fileOkI a n, obind_some]
  cases fileOk a n <;> simp

theorem FnExactFileSync_pure : ∀ x, OkA [.pr (.sl (.int .u8)) (.int .i64)] x → ∃ u, F4 x = some (true, u) := by
  rintro ⟨⟨a, n⟩, _⟩ ⟨⟨⟨h1, _⟩, h2⟩, _⟩
  simp only [F4]
  rcases szFile_cases a n h1 with ⟨k, e, hk⟩ | ⟨k, e, hk, _, ha⟩
  · simp [e, hk]
  · have hb : a.length ≤ 4194304 := by omega
    obtain ⟨z, hz⟩ := markFile_eq a n 1 ha (by decide) (by decide)
    obtain ⟨z2, hz2⟩ := markFile_eq a (if fileOk a n then (a.length : Int) else n) 1 ha (by decide) (by decide)
    have hp : ¬ (1 : Int) + a.length < 0 := by omega
    simp only [e, obind_some, hk, decide_false, cond_false, toFile_eq a n ha, syncS a n hb, syncI a n hb, eqFile_eq _ _ _ _ ha, hz, hz2, heldFile_eq a.length _ 1 ha (by decide) (by decide), hp, decide_true, Bool.not_true]
    first | exact ⟨_, rfl⟩ | exact ⟨((), ()), trivial⟩


/-- What a crash leaves. -/
def crashAt (a : List Int) (n k : Int) : Int := n + max 0 (min k (a.length - n))
theorem crashS (a : List Int) (n k : Int) (h : a.length ≤ 4194304) (hk : -9223372036854775808 ≤ k ∧ k ≤ 9223372036854775807) : F17 ((a, n), k, ()) = some ((if fileOk a n then (a.take (crashAt a n k).toNat, crashAt a n k) else (a, n)), (), (), ()) := by
  simp only [F17, copyS a n h, fileOkS a n, obind_some]
  cases hf : fileOk a n with
  | false => simp
  | true =>
    obtain ⟨h1, h2, h3⟩ := fileOk_iff.1 hf
    have w1 : IntKind.i64.wrap ((a.length : Int) - n) = a.length - n := i64_in _ (by omega)
    have w2 : IntKind.i64.wrap (n + 0) = n := by rw [i64_in _ (by omega)]; omega
    simp only [w1, w2, Bool.not_true, cond_false, if_true, List.length_take]
    by_cases k0 : k < 0
    · have e : crashAt a n k = n := by simp only [crashAt]; omega
      simp only [k0, decide_true, cond_true, e]
      by_cases q : (0 : Int) < a.length - n
      · have e2 : n.toNat - Int.toNat 0 = n.toNat := by omega
        have e3 : ((n.toNat : Nat) : Int) = n := by omega
        have q' : n < (a.length : Int) := by omega
        simp [q', h2, h3, e2, e3]
      · have e2 : n = a.length := by omega
        have e3 : a.take n.toNat = a := List.take_of_length_le (by omega)
        simp [q, e3, e2.symm]
    · simp only [k0, decide_false, cond_false]
      by_cases q : k < a.length - n
      · have e : crashAt a n k = n + k := by simp only [crashAt]; omega
        have w3 : IntKind.i64.wrap (n + k) = n + k := i64_in _ (by omega)
        have q2 : 0 ≤ n + k := by omega
        have q3 : n + k ≤ a.length := by omega
        have e2 : (n + k).toNat - Int.toNat 0 = (n + k).toNat := by omega
        have e3 : (((n + k).toNat : Nat) : Int) = n + k := by omega
        simp only [w3, e, q, q2, q3, decide_true, cond_true, e2, e3]
      · have e : crashAt a n k = a.length := by simp only [crashAt]; omega
        have e3 : a.take (a.length : Int).toNat = a := List.take_of_length_le (by omega)
        simp only [q, decide_false, cond_false, e, e3]
theorem crashI (a : List Int) (n k : Int) (h : a.length ≤ 4194304) (hk : -9223372036854775808 ≤ k ∧ k ≤ 9223372036854775807) : F18 ((a, n), k, ()) = some ((if fileOk a n then (a.take (crashAt a n k).toNat, crashAt a n k) else (a, n)), (), (), ()) := by
  simp only [F18, copyI a n h, fileOkI a n, obind_some]
  cases hf : fileOk a n with
  | false => simp
  | true =>
    obtain ⟨h1, h2, h3⟩ := fileOk_iff.1 hf
    have w1 : IntKind.i64.wrap ((a.length : Int) - n) = a.length - n := i64_in _ (by omega)
    have e1 : (if (if (a.length : Int) - n < k then (a.length : Int) - n else k) > 0 then (if (a.length : Int) - n < k then (a.length : Int) - n else k) else 0) = max 0 (min k (a.length - n)) := by omega
    have w2 : IntKind.i64.wrap (n + max 0 (min k (a.length - n))) = crashAt a n k := i64_in _ (by omega)
    have q1 : 0 ≤ crashAt a n k := by simp only [crashAt]; omega
    have q2 : crashAt a n k ≤ a.length := by simp only [crashAt]; omega
    simp only [w1, e1, w2, Bool.not_true, cond_false, if_true, q1, q2, decide_true, cond_true]
    simp

theorem FnExactFileCrash_pure : ∀ x, OkA [.pr (.sl (.int .u8)) (.int .i64), .int .i64] x → ∃ u, F5 x = some (true, u) := by
  rintro ⟨⟨a, n⟩, q, _⟩ ⟨⟨⟨h1, _⟩, h2⟩, h3, _⟩
  have hq : -9223372036854775808 ≤ q ∧ q ≤ 9223372036854775807 := int64_ok h3
  simp only [F5]
  rcases szFile_cases a n h1 with ⟨k, e, hk⟩ | ⟨k, e, hk, _, ha⟩
  · simp [e, hk]
  · have hb : a.length ≤ 4194304 := by omega
    simp only [e, obind_some, hk, decide_false, cond_false, toFile_eq a n ha, crashS a n q hb hq, crashI a n q hb hq]
    obtain ⟨⟨r, s⟩, hr⟩ : ∃ p, (if fileOk a n = true then (a.take (crashAt a n q).toNat, crashAt a n q) else (a, n)) = p := ⟨_, rfl⟩
    have hrl : r.length ≤ 1048576 := by
      split at hr
      · cases hr; rw [List.length_take]; omega
      · cases hr; exact ha
    obtain ⟨z, hz⟩ := markFile_eq a n 1 ha (by decide) (by decide)
    obtain ⟨z2, hz2⟩ := markFile_eq r s 1 hrl (by decide) (by decide)
    have hp : ¬ (1 : Int) + a.length < 0 := by omega
    have hp2 : ¬ (1 : Int) + r.length < 0 := by omega
    simp only [hr, eqFile_eq _ _ _ _ ha, eqFile_eq _ _ _ _ hrl, hz, hz2, heldFile_eq r.length _ 1 hrl (by decide) (by decide), hp, hp2, decide_true, Bool.not_true, obind_some, cond_false, decide_false]
    first | exact ⟨_, rfl⟩ | exact ⟨((), (), ()), trivial⟩

end Go.Nu

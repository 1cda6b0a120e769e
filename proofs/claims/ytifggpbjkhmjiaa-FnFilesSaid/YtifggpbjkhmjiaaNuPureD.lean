/- What 'FnFiles' answers, in plain Lean. -/
import Derived.Test.YtifggpbjkhmjiaaNuPureC
import Derived.Test.YtifggpbjkhmjiaaNuZj
namespace Go.Nu
open Go.IntWalk
set_option linter.unusedVariables false
set_option linter.unusedSimpArgs false

theorem byteG : F42 = gByte := rfl
theorem belowG : F40 = gBelow := rfl
theorem intG : F36 = gInt := rfl
theorem onceG : F41 = gOnce := rfl
theorem bytesG : F39 = gBytes := rfl
theorem newG : F34 = gNew := rfl

theorem sameBytes_eq (a b : List Int) (ha : a.length ≤ 1048576) : F26 (a, b, ()) = some (decide (a = b), (), (), ()) := eqS_eq .u8 a b ha

theorem draw_ok {c : Cur} (h : CurOk c) : ∃ (b : List Int) (n : Int) (c' : Cur), F35 (c, ()) = some ((b, n), c', ()) ∧ b.length ≤ 20 ∧ CurOk c' := by
  obtain ⟨v1, c1, e1, a1, b1, _, k1⟩ := gBelow_ok h 20
  obtain ⟨l, c2, e2, a2, k2⟩ := gBytes_ok k1 v1 a1 (by have := b1 (by omega); omega)
  have b1' := b1 (by omega)
  have w : IntKind.i64.wrap ((l.length : Int) + 1) = l.length + 1 := i64_in _ (by omega)
  obtain ⟨v3, c3, e3, a3, b3, _, k3⟩ := gBelow_ok k2 ((l.length : Int) + 1)
  obtain ⟨v4, c4, e4, k4⟩ := gOnce_ok k3 10
  obtain ⟨v5, c5, e5, a5, k5⟩ := gInt_ok k4 [-1, (l.length : Int) + 1] (by simp)
  simp only [F35, belowG, onceG, bytesG, intG, e1, e2, e3, e4, e5, w, obind_some]
  cases v4 with
  | true => exact ⟨_, _, _, rfl, by omega, k5⟩
  | false => exact ⟨_, _, _, rfl, by omega, k4⟩

theorem drawCrash_ok (b : List Int) (hb : b.length ≤ 1048576) (hx : ∀ x ∈ b, 0 ≤ x ∧ x ≤ 255) : ∃ (a : List Int) (n q : Int), F25 (b, ()) = some (((a, n), q), (), ()) ∧ a.length ≤ 20 ∧ (-1 ≤ q ∧ q ≤ 100) := by
  obtain ⟨c, e, k⟩ := gNew_ok b hb hx
  obtain ⟨a, n, c1, e1, h1, k1⟩ := draw_ok k
  obtain ⟨v2, c2, e2, a2, k2⟩ := gInt_ok k1 [0, 1, 3, 100, -1] (by simp)
  simp only [F25, newG, intG, e, e1, e2, obind_some]
  refine ⟨_, _, _, rfl, h1, ?_⟩
  simp only [List.mem_cons, List.not_mem_nil, or_false] at a2
  omega

theorem FnFiles_pure : ∀ x, OkA [.sl (.int .u8)] x → ∃ u, F7 x = some (true, u) := by
  rintro ⟨b, _⟩ ⟨⟨h1, h2⟩, _⟩
  have hF24 : F24 (b, ()) = some (decide ((List.length b : Int) > 1048576), (), ()) := rfl
  simp only [F7, hF24, obind_some]
  by_cases hbig : (List.length b : Int) > 1048576
  · exact ⟨((), ()), by simp only [hbig, decide_true, cond_true]⟩
  obtain ⟨a, n, q, e, ha, hq⟩ := drawCrash_ok b (by omega) (fun x hx => byte_ok (h2 x hx))
  simp only [hbig, decide_false, cond_false, e, obind_some, fileOkS a n, fileOkI a n]
  cases hf : fileOk a n with
  | false => exact ⟨((), ()), by simp⟩
  | true =>
    obtain ⟨k1, k2, k3⟩ := fileOk_iff.1 hf
    have hf2 : fileOk a (a.length : Int) = true := fileOk_iff.2 ⟨by omega, by omega, by omega⟩
    have c1 : crashAt a n q = n + max 0 (min q (a.length - n)) := rfl
    have c2 : crashAt a (a.length : Int) q = a.length := by simp only [crashAt]; omega
    have t2 : a.take (a.length : Int).toNat = a := List.take_of_length_le (by omega)
    have hadd : added a n [1, 2, 3] = ((a ++ [1, 2, 3], n), true) := by
      unfold added
      rw [if_pos ⟨hf, by simp; omega⟩]
    have s := crashAt a n q
    obtain ⟨s, hs⟩ : ∃ s, crashAt a n q = s := ⟨_, rfl⟩
    have s1 : n ≤ s ∧ s ≤ a.length := by omega
    have l1 : ((a.take s.toNat).length : Int) = s := by rw [List.length_take]; omega
    have n1 : ¬ s < n := by omega
    have n2 : ¬ s > (a.length : Int) := by omega
    have n3 : (0 : Int) ≤ s := by omega
    have p1 : part a (Int.toNat 0) (s.toNat - Int.toNat 0) = a.take s.toNat := by simp [part]
    have w : IntKind.i64.wrap ((a.length : Int) + 3) = a.length + 3 := i64_in _ (by omega)
    have l3 : ((a ++ [1, 2, 3]).length : Int) = a.length + 3 := by simp
    simp only [syncI a n (by omega), crashI a n q (by omega) (by omega), hf, if_true, obind_some, crashI a (a.length : Int) q (by omega) (by omega), hf2, c2, t2, sameBytes_eq a a (by omega), hs, l1, n1, n2, n3, s1.2, addI a [1, 2, 3] n (by omega) (by simp), hadd, p1, sameBytes_eq (a.take s.toNat) (a.take s.toNat) (by rw [List.length_take]; omega), w, l3, decide_true, decide_false, Bool.not_true, Bool.not_false, cond_true, cond_false]
    first | exact ⟨((), ()), rfl⟩ | exact ⟨((), ()), by simp⟩

end Go.Nu

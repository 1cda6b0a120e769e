/- What 'GetGroup' answers, in plain Lean. -/
import Derived.Test.YtpdlpglcnmefpaaNuPureC
namespace Go.Nu
open Go.IntWalk
set_option linter.unusedVariables false
set_option linter.unusedSimpArgs false

def byteRow (v : Int) : Bool := match F59 (v, ()), F57 (v, ()) with
  | some (a, _), some (b, _) => decide (a.length ≤ 8) && (decide (b.length ≤ 8) && (match F46 (a, ()), F46 (b, ()), F53 (b, ()) with
      | some (x, _), some (y, _), some (z, _) => y && (cond (decide (v < 128)) (x && (decide (a = b) && decide (z = v))) (!x && decide (z = v - 128)))
      | _, _, _ => false))
  | _, _ => false
theorem byteRows : ((List.range 256).all fun v => byteRow v) = true := by kernel_rfl

theorem byte_cases (v : Int) (h0 : 0 ≤ v) (h1 : v ≤ 255) : ∃ a b : List Int, F59 (v, ()) = some (a, (), ()) ∧ F57 (v, ()) = some (b, (), ()) ∧ a.length ≤ 8 ∧ b.length ≤ 8 ∧ idsB b = true ∧
    ((v < 128 ∧ a = b ∧ setF b b.length = v) ∨ (128 ≤ v ∧ idsB a = false ∧ setF b b.length = v - 128)) := by
  have h := List.all_eq_true.1 byteRows v.toNat (List.mem_range.2 (by omega))
  rw [show ((v.toNat : Nat) : Int) = v by omega] at h
  unfold byteRow at h
  split at h
  case h_2 => cases h
  rename_i a _ b _ ea eb
  simp only [Bool.and_eq_true, decide_eq_true_eq] at h
  obtain ⟨l1, l2, h⟩ := h
  have e1 := idsS a (by omega)
  have e2 := idsS b (by omega)
  rw [e1, e2] at h
  split at h
  case h_2 => cases h
  rename_i x _ y _ z _ ex ey ez
  simp only [Bool.and_eq_true] at h
  obtain ⟨hy, h⟩ := h
  have ey' : idsB b = y := by injection ey with q; injection q
  have ex' : idsB a = x := by injection ex with q; injection q
  have hb : idsB b = true := by rw [ey', hy]
  have e3 := setS b hb
  rw [e3] at ez
  have ez' : setF b b.length = z := by injection ez with q; injection q
  refine ⟨a, b, ea, eb, l1, l2, hb, ?_⟩
  by_cases hv : v < 128
  · left
    simp only [hv, decide_true, cond_true, Bool.and_eq_true, decide_eq_true_eq] at h
    exact ⟨hv, h.2.1, by rw [ez', h.2.2]⟩
  · right
    simp only [hv, decide_false, cond_false, Bool.and_eq_true, decide_eq_true_eq, Bool.not_eq_true'] at h
    exact ⟨by omega, by rw [ex', h.1], by rw [ez', h.2]⟩

theorem get_both (l : List Int) (hl : l.length ≤ 1048576) (hb : ∀ x ∈ l, 0 ≤ x ∧ x ≤ 255) : ∃ (p q : List Int) (v : Bool), p.length ≤ 1048576 ∧ q.length ≤ 1048576 ∧ F35 (l, ()) = some (((p, q), v), (), ()) ∧ F33 (l, ()) = some (((p, q), v), (), ()) := by
  match l, hl, hb with
  | [x, y], hl, hb =>
    obtain ⟨a1, b1, i1, s1, la1, lb1, o1, c1⟩ := byte_cases x (hb x (by simp)).1 (hb x (by simp)).2
    obtain ⟨a2, b2, i2, s2, la2, lb2, o2, c2⟩ := byte_cases y (hb y (by simp)).1 (hb y (by simp)).2
    have r0 : rd (Kd.int IntKind.u8) [x, y] (Int.toNat 0) = x := rfl
    have r1 : rd (Kd.int IntKind.u8) [x, y] (Int.toNat 1) = y := rfl
    have n2 : (([x, y] : List Int).length : Int) = 2 := rfl
    have t1 : (1 : Int) < 2 := by decide
    have t0 : (0 : Int) < 2 := by decide
    simp only [F35, F33, n2, t0, t1, r0, r1, i1, i2, s1, s2, decide_true, Bool.not_true, cond_false, cond_true, obind_some, groupI a1 a2 (by omega) (by omega), groupS b1 b2 (by omega) (by omega), putG b1 b2 (by omega) (by omega), sameBytes_eq (put b1 b2) [x, y] (by have := put_len b1 b2; omega)]
    rcases c1 with ⟨v1, rfl, k1⟩ | ⟨v1, j1, k1⟩
    · rcases c2 with ⟨v2, rfl, k2⟩ | ⟨v2, j2, k2⟩
      · cases hg : groupOk a1 a2 with
        | false => exact ⟨[], [], false, by simp, by simp, rfl, rfl⟩
        | true =>
          have hp : put a1 a2 = [x, y] := by
            unfold put
            rw [if_pos hg, k1, k2]
          simp only [hp, decide_true, Bool.not_true, cond_false]
          exact ⟨_, _, _, by omega, by omega, rfl, rfl⟩
      · have hg : groupOk a1 a2 = false := by simp [groupOk, j2]
        simp only [hg, Bool.not_false, cond_true]
        cases hg2 : groupOk a1 b2 with
        | false => exact ⟨[], [], false, by simp, by simp, rfl, rfl⟩
        | true =>
          have hp : put a1 b2 ≠ [x, y] := by
            unfold put
            rw [if_pos hg2, k1, k2]
            intro e
            injection e with _ e
            injection e with e _
            omega
          simp only [hp, decide_false, Bool.not_false, Bool.not_true, cond_true, cond_false]
          exact ⟨[], [], false, by simp, by simp, rfl, rfl⟩
    · have hg : groupOk a1 a2 = false := by simp [groupOk, j1]
      simp only [hg, Bool.not_false, cond_true]
      cases hg2 : groupOk b1 b2 with
      | false => exact ⟨[], [], false, by simp, by simp, rfl, rfl⟩
      | true =>
        have hp : put b1 b2 ≠ [x, y] := by
          unfold put
          rw [if_pos hg2, k1]
          intro e
          injection e with e _
          omega
        simp only [hp, decide_false, Bool.not_false, Bool.not_true, cond_true, cond_false]
        exact ⟨[], [], false, by simp, by simp, rfl, rfl⟩
  | [], _, _ => exact ⟨[], [], false, by simp, by simp, rfl, rfl⟩
  | [x], _, _ => exact ⟨[], [], false, by simp, by simp, rfl, rfl⟩
  | x :: y :: z :: l, _, _ =>
    have h : ¬ ((x :: y :: z :: l).length : Int) = 2 := by simp; omega
    simp only [F35, F33, h, decide_false, Bool.not_false, cond_true]
    exact ⟨[], [], false, by simp, by simp, rfl, rfl⟩

theorem FnExactGetGroup_pure : ∀ x, OkA [.sl (.int .u8)] x → ∃ u, F8 x = some (true, u) := by
  rintro ⟨a, _⟩ ⟨⟨h1, h2⟩, _⟩
  simp only [F8]
  by_cases hcc : (a.length : Int) > 1048576
  · exact ⟨((), ()), by simp only [hcc, decide_true, cond_true]⟩
  have ha : a.length ≤ 1048576 := by
    have : ¬ ((List.length a : Nat) : Int) > 1048576 := hcc
    omega
  obtain ⟨p, q, v, hp, hq, e1, e2⟩ := get_both a ha (fun x hx => byte_ok (h2 x hx))
  obtain ⟨m2, x2, y2, b2, _, k2, k3⟩ := markGroup p q hp hq
  have n1 : ¬ (1 : Int) + ((List.length a : Nat) : Int) < 0 := by omega
  have n2 : ¬ m2 < 0 := by omega
  simp only [hcc, decide_false, cond_false, obind_some, toBytes_eq a ha, e1, e2, eqGroup_eq p q p q hp hq, eqBytes_eq a a ha, markBytes a 1 ha (by decide) (by decide), k2, k3, n1, n2, decide_true, Bool.not_true]
  cases v <;> first | exact ⟨((), ()), rfl⟩ | exact ⟨((), ()), by simp⟩

end Go.Nu

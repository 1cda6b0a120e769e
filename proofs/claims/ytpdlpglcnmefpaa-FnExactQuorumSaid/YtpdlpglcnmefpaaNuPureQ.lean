/- What 'Quorum' answers, in plain Lean. -/
import Derived.Test.YtpdlpglcnmefpaaNuPure
namespace Go.Nu
open Go.IntWalk
set_option linter.unusedVariables false
set_option linter.unusedSimpArgs false

theorem drop_mem {l : List Int} {i : Nat} {d : Int} (h : i < l.length) : d ∈ l.drop i ↔ (d = l[i] ∨ d ∈ l.drop (i + 1)) := by
  rw [List.drop_eq_getElem_cons h, List.mem_cons]

theorem has_eq (l : List Int) (d : Int) (hl : l.length ≤ 1048576) : F60 (l, d, ()) = some (decide (d ∈ l), (), (), ()) := by
  have h := rounds_eq (B := L60_2B) (fun x => x.1.length ≤ 1048576 ∧ 0 ≤ x.2.2.1 ∧ x.2.2.1 ≤ x.1.length) (fun x => x.1.length - x.2.2.1.toNat) (fun x => if x.2.1 ∈ x.1.drop x.2.2.1.toNat then .inl (true, ()) else .inr ()) (fun rec x hx hr => by
    obtain ⟨a, d, i, u⟩ := x
    obtain ⟨h1, h2, h3⟩ := hx
    simp only at h1 h2 h3
    simp only [L60_2B]
    by_cases hlt : i < (a.length : Int)
    · have hi : i.toNat < a.length := by omega
      have hw1 : IntKind.i64.wrap (i + 1) = i + 1 := i64_in _ (by omega)
      simp only [hlt, h2, decide_true, cond_true, hw1]
      rw [rd_lt (d := .int .i64) hi]
      have e := drop_mem (d := d) hi
      by_cases he : a[i.toNat] = d
      · simp only [he, decide_true, cond_true]
        rw [if_pos (e.2 (.inl he.symm))]
      · simp only [he, decide_false, cond_false]
        rw [hr (a, d, i + 1, ()) ⟨h1, by simp only; omega, by simp only; omega⟩ (by simp only; omega)]
        simp only
        rw [show (i + 1).toNat = i.toNat + 1 by omega]
        by_cases hm : d ∈ a.drop (i.toNat + 1)
        · rw [if_pos hm, if_pos (e.2 (.inr hm))]
        · rw [if_neg hm, if_neg (fun hh => (e.1 hh).elim (fun x => he x.symm) hm)]
    · simp only [hlt, decide_false, cond_false]
      have e1 : i.toNat = a.length := by omega
      rw [e1, List.drop_length]
      simp) fuel (l, d, 0, ()) ⟨hl, by simp, by simp⟩ (by simp only [fuel]; omega)
  simp only [Int.toNat_zero, List.drop_zero] at h
  simp only [F60, L60_2, h]
  by_cases hm : d ∈ l <;> simp [hm]

theorem contains_eq (l : List Int) (d : Int) (hl : l.length ≤ 1048576) : F69 (l, d, ()) = some (decide (d ∈ l), (), (), ()) := by
  obtain ⟨e, he, hr⟩ := rounds_ind (B := L76_2B) (fun x => x.1.length ≤ 1048576 ∧ x.2.2.1 = x.1.length ∧ 0 ≤ x.2.2.2.1 ∧ x.2.2.2.1 ≤ x.1.length) (fun x => x.1.length - x.2.2.2.1.toNat)
    (fun x e => (∃ j : Int, 0 ≤ j ∧ e = .inl (j, ()) ∧ x.2.1 ∈ x.1.drop x.2.2.2.1.toNat) ∨ (e = .inr () ∧ ¬ x.2.1 ∈ x.1.drop x.2.2.2.1.toNat)) (fun rec x hx hr => by
    obtain ⟨a, d, n, i, u⟩ := x
    obtain ⟨h1, h0, h2, h3⟩ := hx
    simp only at h1 h2 h3 h0
    subst h0
    simp only [L76_2B]
    by_cases hlt : i < (a.length : Int)
    · have hi : i.toNat < a.length := by omega
      have hw1 : IntKind.i64.wrap (i + 1) = i + 1 := i64_in _ (by omega)
      simp only [hlt, h2, decide_true, cond_true, hw1]
      rw [rd_lt (d := .int .i64) hi]
      have e := drop_mem (d := d) hi
      have q1 : 0 ≤ i + 1 := by omega
      have q2 : i + 1 ≤ (a.length : Int) := by omega
      have q3 : a.length - (i + 1).toNat < a.length - i.toNat := by omega
      have q4 : (i + 1).toNat = i.toNat + 1 := by omega
      by_cases he : d = a[i.toNat]
      · simp only [← he, decide_true, cond_true]
        exact ⟨_, rfl, .inl ⟨i, h2, rfl, e.2 (.inl he)⟩⟩
      · simp only [he, decide_false, cond_false]
        obtain ⟨x, k1, k2⟩ := hr (a, d, a.length, i + 1, ()) ⟨h1, rfl, q1, q2⟩ q3
        refine ⟨x, k1, ?_⟩
        simp only at k2
        rw [q4] at k2
        rcases k2 with ⟨j, j1, j2, j3⟩ | ⟨j1, j2⟩
        · exact .inl ⟨j, j1, j2, e.2 (.inr j3)⟩
        · exact .inr ⟨j1, fun hh => (e.1 hh).elim he j2⟩
    · simp only [hlt, decide_false, cond_false]
      have e1 : i.toNat = a.length := by omega
      refine ⟨_, rfl, .inr ⟨rfl, ?_⟩⟩
      rw [e1, List.drop_length]
      simp) fuel (l, d, (l.length : Int), 0, ()) ⟨hl, rfl, by simp, by simp⟩ (by simp only [fuel]; omega)
  simp only [Int.toNat_zero, List.drop_zero] at hr
  simp only [F69, F76, L76_2, he]
  rcases hr with ⟨j, j1, rfl, j3⟩ | ⟨rfl, j2⟩
  · simp [j1, j3]
  · simp [j2]

theorem half_same (l m : List Int) (hl : l.length ≤ 1048576) (hm : m.length ≤ 1048576) : ∀ (k : Nat) (n i : Int), 0 ≤ i → i ≤ l.length → rounds L48_3B k (l, m, n, i, ()) = rounds L49_3B k (l, m, n, l, (l.length : Int), i, ())
  | 0, _, _, _, _ => rfl
  | k + 1, n, i, h0, h1 => by
    simp only [rounds, L48_3B, L49_3B, has_eq m _ hm, contains_eq m _ hm, obind_some]
    by_cases hlt : i < (l.length : Int)
    · have hw1 : IntKind.i64.wrap (i + 1) = i + 1 := i64_in _ (by omega)
      have ih := fun n => half_same l m hl hm k n (i + 1) (by omega) (by omega)
      simp only [hw1, ih, hlt, h0, decide_true, cond_true]
    · simp only [hlt, decide_false, cond_false]

theorem half_some (l m : List Int) (hl : l.length ≤ 1048576) (hm : m.length ≤ 1048576) : ∃ e, rounds L48_3B fuel (l, m, 0, 0, ()) = some e := by
  obtain ⟨e, h, _⟩ := rounds_ind (B := L48_3B) (fun x => x.1.length ≤ 1048576 ∧ x.2.1.length ≤ 1048576 ∧ 0 ≤ x.2.2.2.1 ∧ x.2.2.2.1 ≤ x.1.length) (fun x => x.1.length - x.2.2.2.1.toNat) (fun _ _ => True) (fun rec x hx hr => by
    obtain ⟨a, b, n, i, u⟩ := x
    obtain ⟨h1, h0, h2, h3⟩ := hx
    simp only at h1 h2 h3 h0
    simp only [L48_3B, has_eq b _ h0, obind_some]
    by_cases hlt : i < (a.length : Int)
    · have hw1 : IntKind.i64.wrap (i + 1) = i + 1 := i64_in _ (by omega)
      simp only [hlt, h2, decide_true, cond_true, hw1]
      obtain ⟨e1, k1, _⟩ := hr (a, b, IntKind.i64.wrap (n + 1), i + 1, ()) ⟨h1, h0, by simp only; omega, by simp only; omega⟩ (by simp only; omega)
      obtain ⟨e2, k2, _⟩ := hr (a, b, n, i + 1, ()) ⟨h1, h0, by simp only; omega, by simp only; omega⟩ (by simp only; omega)
      rw [k1, k2]
      cases decide (rd (Kd.int IntKind.i64) a i.toNat ∈ b) <;> exact ⟨_, rfl, trivial⟩
    · simp only [hlt, decide_false, cond_false]
      exact ⟨_, rfl, trivial⟩) fuel (l, m, 0, 0, ()) ⟨hl, hm, by simp, by simp⟩ (by simp only [fuel]; omega)
  exact ⟨e, h⟩

theorem half_eq (l m : List Int) (hl : l.length ≤ 1048576) (hm : m.length ≤ 1048576) : ∃ b, F48 (l, m, ()) = some (b, (), (), ()) ∧ F49 (l, m, ()) = some (b, (), (), ()) := by
  obtain ⟨e, he⟩ := half_some l m hl hm
  have h2 := half_same l m hl hm fuel 0 0 (by omega) (by omega)
  simp only [F48, F49, L48_3, L49_3, ← h2, he, obind_some]
  first | exact ⟨_, rfl⟩ | exact ⟨_, rfl, rfl⟩ | exact ⟨_, rfl, trivial⟩

theorem FnExactQuorum_pure : ∀ x, OkA [.pr (.sl (.int .i64)) (.sl (.int .i64)), .sl (.int .i64)] x → ∃ u, F4 x = some (true, u) := by
  rintro ⟨⟨a, b⟩, c, _⟩ ⟨⟨⟨h1, _⟩, ⟨h2, _⟩⟩, ⟨h3, _⟩, _⟩
  simp only [F4]
  by_cases hc : (c.length : Int) > 1048576
  · exact ⟨((), (), ()), by simp only [hc, decide_true, cond_true]⟩
  · have hc' : c.length ≤ 1048576 := by omega
    simp only [hc, decide_false, cond_false]
    rcases szGroup_cases a b h1 h2 with ⟨k, e, hk⟩ | ⟨k, e, hk, ha, hb⟩
    · simp [e, hk]
    · obtain ⟨x, e1, e2⟩ := half_eq a c ha hc'
      obtain ⟨y, e3, e4⟩ := half_eq b c hb hc'
      have e5 : F17 ((a, b), c, ()) = F19 ((a, b), c, ()) := by simp only [F17, F19, e1, e2, e3, e4]
      have e6 : ∃ z, F19 ((a, b), c, ()) = some (z, (), (), ()) := by
        simp only [F19, e2, e4, obind_some]
        cases x
        · exact ⟨_, rfl⟩
        · simp only [cond_true]
          by_cases hb0 : (b.length : Int) = 0
          · simp only [hb0, decide_true, cond_true]; exact ⟨_, rfl⟩
          · simp only [hb0, decide_false, cond_false]; exact ⟨_, rfl⟩
      obtain ⟨z, e6⟩ := e6
      simp only [e, obind_some, hk, decide_false, cond_false, toGroup_eq a b ha hb, toIntS_eq c hc', e5, e6, eqGroup_eq a b a b ha hb, eqIntS_eq c c hc']
      simp

end Go.Nu

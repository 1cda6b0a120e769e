/- What 'KeepNew' answers, in plain Lean. -/
import Derived.Test.YtjilffemogdabaaNuPureL
namespace Go.Nu
open Go.IntWalk
set_option linter.unusedVariables false
set_option linter.unusedSimpArgs false

abbrev newK (x y : List Int) : dK.T := ((0 : Int), (0 : Int), (0 : Int), (0 : Int), (x, y), ([] : List Int), ([] : List Ent))
theorem newI (a b x y : List Int) (ha : a.length ≤ 1048576) (hb : b.length ≤ 1048576) (h : (groupOk a b = true ∧ x = a ∧ y = b) ∨ (groupOk a b = false ∧ x = [] ∧ y = [])) :
    F15 ((a, b), ()) = some (newK x y, (), ()) ∧ F13 ((a, b), ()) = some (newK x y, (), ()) := by
  rcases h with ⟨hg, rfl, rfl⟩ | ⟨hg, rfl, rfl⟩
  · constructor
    · simp only [F15, groupI x y ha hb, hg, copyI x y (by omega) (by omega), obind_some, Bool.not_true, cond_false]; rfl
    · simp only [F13, groupS x y ha hb, hg, copyS x y (by omega) (by omega), obind_some, Bool.not_true, cond_false]; rfl
  · constructor
    · simp only [F15, groupI a b ha hb, hg, obind_some, Bool.not_false, cond_true]; rfl
    · simp only [F13, groupS a b ha hb, hg, obind_some, Bool.not_false, cond_true]; rfl
theorem nrNew (x y : List Int) : nrRs [RK.o dK] (newK x y) = true := rfl
theorem markEnts0 (k : Int) : F47 ([], k, ()) = some (k, [], (), ()) := by
  have h := path_rounds (B := L47_2B) (fun i => (k, (0 : Int), ([] : List Ent), ())) 0 (k, [], ()) (fun rec i hi => by omega) (fun rec => by simp [L47_2B]) fuel 0 (by omega) (by simp only [fuel]; omega)
  have h' : L47_2 (k, 0, [], ()) = some (k, [], ()) := h
  simp only [F47, h', obind_some]
theorem heldEnts0 (k : Int) : F50 ([], k, ()) = some (k, (), (), ()) := by
  have h := path_rounds (B := L50_2B) (fun i => (([] : List Ent), k, (0 : Int), ())) 0 (.inr (k, ())) (fun rec i hi => by omega) (fun rec => by simp [L50_2B]) fuel 0 (by omega) (by simp only [fuel]; omega)
  have h' : L50_2 ([], k, 0, ()) = some (.inr (k, ())) := h
  simp only [F50, h', obind_some]
theorem markNew (x y : List Int) (hx : x.length ≤ 1048576) (hy : y.length ≤ 1048576) : ∃ (k : Int) (p q : List Int), 0 < k ∧ F19 (newK x y, 1, ()) = some (k, newK p q, (), ()) ∧ F20 (newK p q, 1, ()) = some (k, (), (), ()) := by
  obtain ⟨k, p, q, h0, h1, e1, e2⟩ := markGroup x y hx hy
  have hk : ¬ k < 0 := by omega
  have m1 : F46 ([], k, ()) = some (k, [], (), ()) := by
    have := markBytes [] k (by simp) h0 (by omega)
    simpa [mkL] using this
  have m2 : F49 ([], k, ()) = some (k, (), (), ()) := by
    have := heldBytes 0 k (by omega) h0 (by omega)
    simpa [mkL] using this
  refine ⟨k, p, q, h0, ?_, ?_⟩
  · simp only [F19, newK, e1, m1, markEnts0 k, obind_some]; rfl
  · simp only [F20, newK, e2, m2, heldEnts0 k, obind_some, hk, decide_false, cond_false]
theorem eqNew (x y : List Int) (hx : x.length ≤ 1048576) (hy : y.length ≤ 1048576) : F16 (newK x y, newK x y, ()) = some (true, (), (), ()) :=
  eqKeep 0 0 0 0 x y [] [] hx hy (by simp) (by simp) (fun z hz => by cases hz)

theorem FnExactKeepNew_pure : ∀ x, OkA [.pr (.sl (.int .i64)) (.sl (.int .i64))] x → ∃ u, F4 x = some (true, u) := by
  rintro ⟨⟨a, b⟩, _⟩ ⟨⟨⟨h1, _⟩, ⟨h2, _⟩⟩, _⟩
  simp only [F4]
  rcases szGroup_cases a b h1 h2 with ⟨k, e, hk⟩ | ⟨k, e, hk, ha, hb⟩
  · simp [e, hk]
  · obtain ⟨x, y, hx, hy, hxy⟩ : ∃ x y : List Int, x.length ≤ 1048576 ∧ y.length ≤ 1048576 ∧ ((groupOk a b = true ∧ x = a ∧ y = b) ∨ (groupOk a b = false ∧ x = [] ∧ y = [])) := by
      cases hg : groupOk a b with
      | true => exact ⟨a, b, ha, hb, .inl ⟨rfl, rfl, rfl⟩⟩
      | false => exact ⟨[], [], by simp, by simp, .inr ⟨rfl, rfl, rfl⟩⟩
    obtain ⟨n1, n2⟩ := newI a b x y ha hb hxy
    obtain ⟨m1, x1, y1, b1, _, e1, _⟩ := markGroup a b ha hb
    obtain ⟨m2, x2, y2, b2, e2, e3⟩ := markNew x y hx hy
    have hm1 : ¬ m1 < 0 := by omega
    have hm2 : ¬ m2 < 0 := by omega
    have e4 := eqNew x y hx hy
    have e5 := nrNew x y
    simp only [newK] at n1 n2 e2 e3 e4 e5
    simp only [e, obind_some, hk, decide_false, cond_false, toGroup_eq a b ha hb, n1, n2, e5, cond_true, e4, eqGroup_eq a b a b ha hb, e1, hm1, e2, e3, hm2, decide_true, Bool.not_true]
    exact ⟨((), ()), trivial⟩

end Go.Nu

/- What 'Answer' answers, in plain Lean. -/
import Derived.Test.YtlkejjbchahcfaaNuPureB
namespace Go.Nu
open Go.IntWalk
set_option linter.unusedVariables false
set_option linter.unusedSimpArgs false

theorem rd_setne {l : List Ses} {i j : Nat} {v : Ses} (h : i ≠ j) : rd dS (l.set j v) i = rd dS l i := by
  unfold rd
  rw [List.getD_eq_getElem?_getD, List.getD_eq_getElem?_getD, List.getElem?_set_ne (Ne.symm h)]

/-- A desk with an answer. -/
theorem deskOk_set {l : List Ses} {n q t : Int} {r : ByteArray} {j : Nat} (hd : deskOk l n = true) (hj : j < l.length) (hq : q = (rd dS l j).2.1 + 1) (hr : ¬ (r.size : Int) > 200) (ht : 0 ≤ t ∧ t ≤ 1000000000) :
    deskOk (l.set j ((rd dS l j).1, q, r, t)) n = decide (q ≤ 1000000) := by
  classical
  obtain ⟨hg, h1, h2, h3⟩ := deskOk_good hd
  have hid : ∀ i, (rd dS (l.set j ((rd dS l j).1, q, r, t)) i).1 = (rd dS l i).1 := by
    intro i
    by_cases hi : i = j
    · subst hi; rw [rd_set (d := dS) hj]
    · rw [rd_setne hi]
  have hq0 : 0 < q := by
    have := (hg j hj).2.1.1
    have aux : ∀ x : Int, 0 ≤ x → q = x + 1 → 0 < q := fun x a b => by omega
    exact aux _ this hq
  unfold deskOk
  apply decide_eq_decide.2
  constructor
  · rintro ⟨ha, _⟩
    have := (ha j (by rw [List.length_set]; exact hj)).2.1.2
    rw [rd_set (d := dS) hj] at this
    exact this
  · intro hq1
    refine ⟨fun i hi => ?_, by rw [List.length_set]; exact h1, h2, h3⟩
    rw [List.length_set] at hi
    obtain ⟨g1, g2, g3, g4, g5, g6⟩ := hg i hi
    by_cases hij : i = j
    · subst hij
      refine ⟨by rw [hid]; exact g1, ?_, ?_, ?_, ?_, ?_⟩
      · rw [rd_set (d := dS) hj]
        exact ⟨by show (0 : Int) ≤ q; omega, hq1⟩
      · rw [rd_set (d := dS) hj]; exact hr
      · rw [rd_set (d := dS) hj]
        intro h0
        exfalso
        have h0' : q = 0 := h0
        omega
      · rw [rd_set (d := dS) hj]; exact ht
      · rw [hid, hid]; exact g6
    · refine ⟨by rw [hid]; exact g1, ?_, ?_, ?_, ?_, ?_⟩
      · rw [rd_setne hij]; exact g2
      · rw [rd_setne hij]; exact g3
      · rw [rd_setne hij]; exact g4
      · rw [rd_setne hij]; exact g5
      · rw [hid, hid]; exact g6

theorem answer_both (l : List Ses) (n id q t : Int) (p : ByteArray) (hl : l.length ≤ 1048576) : ∃ (r : List Ses) (m : Int) (v : Bool), r.length ≤ 1048576 ∧ F30 ((l, n), id, q, p, t, ()) = some (((r, m), v), (), (), (), (), (), ()) ∧ F29 ((l, n), id, q, p, t, ()) = some (((r, m), v), (), (), (), (), (), ()) := by
  obtain ⟨r, s, e1, e2, h0⟩ := ask_both l n id q hl
  simp only [F30, F29, e1, e2, copyI l n (by omega), copyS l n (by omega), timeI t, fromS t _ _, findI_eq l n id hl, findS l n id hl, obind_some]
  by_cases c0 : r = 0
  · obtain ⟨hd, j, hj, e, hq⟩ := h0 c0
    obtain ⟨hg, hlen, _⟩ := deskOk_good hd
    have gl := (hg j hj).2.1
    have gt := (hg j hj).2.2.2.2.1
    have hq' : q = (rd dS l j).2.1 + 1 := by
      rw [hq]
      have aux : ∀ x : Int, 0 ≤ x ∧ x ≤ 1000000 → IntKind.i64.wrap (x + 1) = x + 1 := fun x h => i64_in _ (by omega)
      exact aux _ gl
    have b0 : (0 : Int) ≤ (j : Int) := by omega
    have b1 : (j : Int) < (l.length : Int) := by omega
    simp only [c0, decide_true, Bool.not_true, cond_false]
    by_cases c1 : (p.size : Int) > 200
    · simp only [c1, decide_true, cond_true]; exact ⟨_, _, _, hl, rfl, rfl⟩
    · simp only [c1, decide_false, cond_false]
      by_cases c2 : 0 ≤ t ∧ t ≤ 1000000000
      · simp only [c2, decide_true, cond_true, cond_false, Bool.not_true, and_self]
        simp only [e, b0, b1, decide_true, cond_true, Int.toNat_natCast, List.length_set, List.set_set, rd_set (d := dS) hj]
        have ht : 0 ≤ (if t > (rd dS l j).2.2.2 then t else (rd dS l j).2.2.2 : Int) ∧ (if t > (rd dS l j).2.2.2 then t else (rd dS l j).2.2.2 : Int) ≤ 1000000000 := by
          split
          · exact c2
          · exact gt
        have hk := deskOk_set (r := p) (t := if t > (rd dS l j).2.2.2 then t else (rd dS l j).2.2.2) hd hj hq' c1 ht
        simp only [deskOkI (l.set j ((rd dS l j).1, q, p, if t > (rd dS l j).2.2.2 then t else (rd dS l j).2.2.2)) n (by rw [List.length_set]; exact hl), hk, obind_some]
        by_cases c3 : q > 1000000
        · have c3' : ¬ q ≤ 1000000 := by omega
          simp only [c3, c3', decide_true, decide_false, cond_true, cond_false, Bool.not_false]
          exact ⟨_, _, _, hl, rfl, rfl⟩
        · have c3' : q ≤ 1000000 := by omega
          simp only [c3, c3', decide_true, decide_false, cond_true, cond_false, Bool.not_true]
          by_cases c4 : t > (rd dS l j).2.2.2
          · simp only [c4, decide_true, cond_true, if_true]
            exact ⟨_, _, _, by rw [List.length_set]; exact hl, rfl, rfl⟩
          · simp only [c4, decide_false, cond_false, if_false]
            exact ⟨_, _, _, by rw [List.length_set]; exact hl, rfl, rfl⟩
      · simp only [c2, decide_false, cond_true, Bool.not_false]; exact ⟨_, _, _, hl, rfl, rfl⟩
  · simp only [c0, decide_false, Bool.not_false, cond_true]; exact ⟨_, _, _, hl, rfl, rfl⟩

theorem FnExactAnswer_pure : ∀ x, OkA [.pr (.sl dS) (.int .i64), .int .i64, .int .i64, .str, .int .i64] x → ∃ u, F8 x = some (true, u) := by
  rintro ⟨⟨a, n⟩, id, q, p, t, _⟩ ⟨⟨⟨h1, h2⟩, h3⟩, _⟩
  simp only [F8]
  by_cases hcc : (p.size : Int) > 1048576
  · exact ⟨((), (), (), (), (), ()), by simp only [hcc, decide_true, cond_true]⟩
  simp only [hcc, decide_false, cond_false]
  rcases szDesk a n h1 (fun x hx => (h2 x hx).2.2.1) with ⟨k, e, hk⟩ | ⟨k, e, hk, ha, hs⟩
  · simp [e, hk]
  · obtain ⟨r, m, v, hrl, e1, e2⟩ := answer_both a n id q t p ha
    obtain ⟨z, hz⟩ := markDesk a n 1 ha (by decide) (by decide)
    obtain ⟨z2, hz2⟩ := markDesk r m 1 hrl (by decide) (by decide)
    have hp : ¬ (1 : Int) + 4 * (a.length : Nat) < 0 := by omega
    have hp2 : ¬ (1 : Int) + 4 * (r.length : Nat) < 0 := by omega
    simp only [e, obind_some, hk, decide_false, cond_false, toDesk a n ha, e1, e2, eqDesk _ _ _ _ ha, eqDesk _ _ _ _ hrl, hz, hz2, heldDesk r.length _ 1 hrl (by decide) (by decide), hp, hp2, decide_true, Bool.not_true]
    cases v <;> first | exact ⟨((), (), (), (), (), ()), rfl⟩ | exact ⟨((), (), (), (), (), ()), by simp⟩

end Go.Nu

/- What 'Holder' answers, in plain Lean. -/
import Derived.Test.YtgbchcpekidllaaNuPure
namespace Go.Nu
open Go.IntWalk
set_option linter.unusedVariables false
set_option linter.unusedSimpArgs false

/-! ### Addresses as numbers -/
theorem U_in (x : Int) : 0 ≤ U x ∧ U x < 18446744073709551616 := by
  unfold U
  rw [IntKind.wrap_u64]
  omega
def K (x : Adr) : Int := (if x.1 = true then 340282366920938463463374607431768211456 else 0) + U x.2.1 * 18446744073709551616 + U x.2.2
theorem cmpR_lt (x y : Adr) : cmpR x y < 0 ↔ K x < K y := by
  obtain ⟨a, b, c⟩ := x
  obtain ⟨a', b', c'⟩ := y
  have h1 := U_in b
  have h2 := U_in c
  have h3 := U_in b'
  have h4 := U_in c'
  simp only [cmpR, K]
  generalize U b = p at *
  generalize U c = q at *
  generalize U b' = p' at *
  generalize U c' = q' at *
  cases a <;> cases a' <;> simp <;> (repeat' split) <;> omega
theorem cmpR_eq (x y : Adr) : cmpR x y = 0 ↔ K x = K y := by
  obtain ⟨a, b, c⟩ := x
  obtain ⟨a', b', c'⟩ := y
  have h1 := U_in b
  have h2 := U_in c
  have h3 := U_in b'
  have h4 := U_in c'
  simp only [cmpR, K]
  generalize U b = p at *
  generalize U c = q at *
  generalize U b' = p' at *
  generalize U c' = q' at *
  cases a <;> cases a' <;> simp <;> (repeat' split) <;> omega
theorem K_inj {x y : Adr} (hx : AOk x) (hy : AOk y) (h : K x = K y) : x = y := by
  obtain ⟨a, b, c⟩ := x
  obtain ⟨a', b', c'⟩ := y
  have h1 := U_in b
  have h2 := U_in c
  have h3 := U_in b'
  have h4 := U_in c'
  simp only [K] at h
  have hb : U b = U b' ∧ U c = U c' ∧ a = a' := by
    cases a <;> cases a' <;> simp at h ⊢ <;> omega
  have e1 := U_inj hx.1 hy.1 hb.1
  have e2 := U_inj hx.2 hy.2 hb.2.1
  simp only at e1 e2
  rw [e1, e2, hb.2.2]
theorem cmpA_ok {x y : Adr} (hx : addrB x = true) (hy : addrB y = true) : cmpA x y = cmpR x y := by
  unfold cmpA rightA
  rw [if_pos hx, if_pos hy]

/-! ### The leases lie in order -/
theorem book_up {l : List Lea} {tok now : Int} (h : bookOk l tok now = true) (i : Nat) (hi : i + 1 < l.length) : K (rd dL l i).1 < K (rd dL l (i + 1)).1 := by
  obtain ⟨_, _, _, hg⟩ := bookOk_iff.1 h
  have g1 := (hg i (by omega)).1
  have g2 := hg (i + 1) hi
  have h6 := g2.2.2.2.2.2.1 (by omega)
  have e : (((i + 1 : Nat) : Int) - 1).toNat = i := by omega
  rw [e, cmpA_ok g1 g2.1] at h6
  have h7 := (cmpR_lt (rd dL l i).1 (rd dL l (i + 1)).1).1 (by omega)
  exact h7
theorem book_lt {l : List Lea} {tok now : Int} (h : bookOk l tok now = true) : ∀ (j i : Nat), i < j → j < l.length → K (rd dL l i).1 < K (rd dL l j).1 := by
  intro j
  induction j with
  | zero => intro i hi; omega
  | succ j ih =>
    intro i hi hj
    have h1 := book_up h j hj
    by_cases hij : i = j
    · subst hij; exact h1
    · have := ih i (by omega) (by omega)
      omega

/-! ### Where a lease stands -/
def fxA (l : List Lea) (a : Adr) (i : Nat) : Option Int := if (rd dL l i).1 = a then some (i : Int) else none
def findA (l : List Lea) (a : Adr) : Int := (firstAt (fxA l a) l.length 0).getD (-1)
theorem findA_cases (l : List Lea) (a : Adr) : (findA l a = -1 ∧ (∀ j, j < l.length → (rd dL l j).1 ≠ a)) ∨ ∃ j : Nat, j < l.length ∧ findA l a = (j : Int) ∧ (rd dL l j).1 = a := by
  cases hf : firstAt (fxA l a) l.length 0 with
  | none =>
    refine .inl ⟨by simp [findA, hf], fun j hj e => ?_⟩
    have := firstAt_none.1 hf j (by omega) (by omega)
    simp [fxA, e] at this
  | some e =>
    obtain ⟨j, h1, h2, h3, _⟩ := firstAt_some hf
    right
    unfold fxA at h3
    split at h3
    · rename_i hj
      cases h3
      exact ⟨j, by omega, by simp [findA, hf], hj⟩
    · cases h3
theorem adr_beq (x : Adr) (s : Bool) (h l : Int) : (x.1 == s && (decide (x.2.1 = h) && (decide (x.2.2 = l) && true))) = decide (x = (s, h, l)) := by
  obtain ⟨a, b, c⟩ := x
  by_cases h2 : b = h <;> by_cases h3 : c = l <;> cases a <;> cases s <;> simp [h2, h3]
theorem findS (l : List Lea) (t n : Int) (a : Adr) (hl : l.length ≤ 1048576) : F61 ((l, t, n), a, ()) = some (findA l a, (), (), ()) := by
  obtain ⟨s, h, o⟩ := a
  have e := path_find (B := L61_2B) (fun i => ((i : Int), l, t, n, s, h, o, ())) l.length (fun i => (fxA l (s, h, o) i).map fun j => .inl (j, ())) (.inr ()) (fun rec i hi => by
    have b1 : (i : Int) < (l.length : Int) := by omega
    have b0 : (0 : Int) ≤ (i : Int) := by omega
    simp only [L61_2B, b0, b1, decide_true, cond_true, Int.toNat_natCast, wnext (show i < 1048576 by omega), fxA]
    rw [adr_beq (rd dL l i).1 s h o]
    by_cases hk : (rd dL l i).1 = (s, h, o) <;> simp [hk]) (fun rec => by simp [L61_2B]) l.length fuel 0 (by omega) (by simp only [fuel]; omega)
  rw [firstAt_map] at e
  have e' : L61_2 (0, l, t, n, s, h, o, ()) = _ := e
  simp only [F61, e', obind_some, findA]
  cases firstAt (fxA l (s, h, o)) l.length 0 <;> rfl

/-- The middle. -/
theorem mid_eq {i j : Int} (h0 : 0 ≤ i) (h1 : i < j) (h2 : j ≤ 1048576) : IntKind.i64.wrap (Int.fdiv (IntKind.u64.wrap (IntKind.i64.wrap (i + j))) ((2 : Int) ^ Min.min (Int.toNat (1 : Int)) (IntKind.bits .u64))) = (i + j) / 2 := by
  have e1 : IntKind.i64.wrap (i + j) = i + j := i64_in _ (by omega)
  have e2 : IntKind.u64.wrap (i + j) = i + j := u64_in _ (by omega)
  have e3 : ((2 : Int) ^ Min.min (Int.toNat (1 : Int)) (IntKind.bits .u64)) = 2 := by decide
  rw [e1, e2, e3, Int.fdiv_eq_ediv_of_nonneg _ (by omega)]
  exact i64_in _ (by omega)

theorem search_ok (l : List Lea) (a : Adr) (hl : l.length ≤ 1048576) (hc : ∀ i, i < l.length → cmpA (rd dL l i).1 a = cmpR (rd dL l i).1 a) (hup : ∀ (j i : Nat), i < j → j < l.length → K (rd dL l i).1 < K (rd dL l j).1) :
    ∃ p : Nat, p ≤ l.length ∧ L82_3 (l, (l.length : Int), 0, (l.length : Int), a.1, a.2.1, a.2.2, ()) = some (l, (l.length : Int), (p : Int), a.1, a.2.1, a.2.2, ()) ∧
      (∀ k, k < p → K (rd dL l k).1 < K a) ∧ ∀ k, p ≤ k → k < l.length → K a ≤ K (rd dL l k).1 := by
  obtain ⟨e, he, hr⟩ := rounds_ind (B := L82_3B)
    (fun x => x.1 = l ∧ x.2.1 = (l.length : Int) ∧ 0 ≤ x.2.2.1 ∧ x.2.2.1 ≤ x.2.2.2.1 ∧ x.2.2.2.1 ≤ (l.length : Int) ∧ x.2.2.2.2 = (a.1, a.2.1, a.2.2, ()) ∧ (∀ k : Nat, (k : Int) < x.2.2.1 → K (rd dL l k).1 < K a) ∧ ∀ k : Nat, x.2.2.2.1 ≤ (k : Int) → k < l.length → K a ≤ K (rd dL l k).1)
    (fun x => (x.2.2.2.1 - x.2.2.1).toNat)
    (fun x e => ∃ p : Nat, p ≤ l.length ∧ e = (l, (l.length : Int), (p : Int), a.1, a.2.1, a.2.2, ()) ∧ (∀ k, k < p → K (rd dL l k).1 < K a) ∧ ∀ k, p ≤ k → k < l.length → K a ≤ K (rd dL l k).1)
    (fun rec x hx hr => by
      obtain ⟨l', n, i, j, y⟩ := x
      obtain ⟨e1, e2, h0, h1, h2, e3, h3, h4⟩ := hx
      simp only at e1 e2 h0 h1 h2 e3 h3 h4
      subst e1; subst e2; subst e3
      simp only [L82_3B]
      by_cases hij : i < j
      · have hm := mid_eq h0 hij (by omega)
        have m0 : 0 ≤ (i + j) / 2 := by omega
        have m1 : (i + j) / 2 < (l'.length : Int) := by omega
        have hmn : ((i + j) / 2).toNat < l'.length := by omega
        have hcm := hc ((i + j) / 2).toNat hmn
        have hF : F83 (rd dL l' ((i + j) / 2).toNat, (a.1, a.2.1, a.2.2), ()) = some (cmpR (rd dL l' ((i + j) / 2).toNat).1 a, (), (), ()) := by
          rw [← hcm]
          simp only [F83, cmpI _ _, obind_some]
        have w : IntKind.i64.wrap ((i + j) / 2 + 1) = (i + j) / 2 + 1 := i64_in _ (by omega)
        simp only [hij, hm, m0, m1, decide_true, cond_true]
        rw [hF]
        simp only [obind_some, w]
        by_cases hlt : cmpR (rd dL l' ((i + j) / 2).toNat).1 a < 0
        · simp only [hlt, decide_true, cond_true]
          have hk := (cmpR_lt _ _).1 hlt
          refine hr _ ⟨rfl, rfl, by simp only; omega, by simp only; omega, by simp only; omega, rfl, fun k hk' => ?_, h4⟩ (by simp only; omega)
          simp only at hk'
          by_cases hkm : k = ((i + j) / 2).toNat
          · subst hkm; exact hk
          · have := hup ((i + j) / 2).toNat k (by omega) hmn
            omega
        · simp only [hlt, decide_false, cond_false]
          have hk : ¬ K (rd dL l' ((i + j) / 2).toNat).1 < K a := fun h => hlt ((cmpR_lt _ _).2 h)
          refine hr _ ⟨rfl, rfl, h0, by simp only; omega, by simp only; omega, rfl, h3, fun k hk1 hk2 => ?_⟩ (by simp only; omega)
          simp only at hk1
          by_cases hkm : k = ((i + j) / 2).toNat
          · subst hkm; omega
          · have := hup k ((i + j) / 2).toNat (by omega) hk2
            omega
      · simp only [hij, decide_false, cond_false]
        refine ⟨_, rfl, i.toNat, by omega, ?_, fun k hk => h3 k (by omega), fun k hk1 hk2 => h4 k (by omega) hk2⟩
        rw [show ((i.toNat : Nat) : Int) = i by omega]) fuel (l, (l.length : Int), 0, (l.length : Int), a.1, a.2.1, a.2.2, ()) ⟨rfl, rfl, by simp, by simp, by simp, rfl, fun k hk => by simp only at hk; omega, fun k h1 h2 => by simp only at h1; omega⟩ (by simp only [fuel]; omega)
  obtain ⟨p, h1, rfl, h3, h4⟩ := hr
  exact ⟨p, h1, he, h3, h4⟩

/-- A lease with a token, found both ways. -/
theorem held_both (l : List Lea) (tok now : Int) (a : Adr) (t : Int) (hl : l.length ≤ 1048576) (hb : bookOk l tok now = true) (ha : addrB a = true) (hA : ∀ x ∈ l, AOk x.1) (haA : AOk a) :
    ∃ k c : Int, F51 ((l, tok, now), a, t, ()) = some ((k, c), (), (), (), ()) ∧ F50 ((l, tok, now), a, t, ()) = some ((k, c), (), (), (), ()) ∧ (c = 0 → 0 ≤ k ∧ k < l.length) := by
  obtain ⟨_, _, _, hg⟩ := bookOk_iff.1 hb
  have hAi : ∀ k, k < l.length → AOk (rd dL l k).1 := fun k hk => by rw [rd_lt (d := dL) hk]; exact hA _ (List.getElem_mem hk)
  have hc : ∀ i, i < l.length → cmpA (rd dL l i).1 a = cmpR (rd dL l i).1 a := fun i hi => cmpA_ok (hg i hi).1 ha
  obtain ⟨p, hp, e, h3, h4⟩ := search_ok l a hl hc (book_lt hb)
  have hfind := findS l tok now a hl
  have hs : ∃ f : Bool, F62 ((l, tok, now), a, ()) = some (((p : Int), f), (), (), ()) ∧ (f = true → p < l.length ∧ findA l a = (p : Int)) ∧ (f = false → findA l a = -1) := by
    simp only [F62, F82, e, obind_some]
    by_cases hpl : (p : Int) < (l.length : Int)
    · have hpn : p < l.length := by omega
      have b0 : (0 : Int) ≤ (p : Int) := by omega
      have hF : F83 (rd dL l p, (a.1, a.2.1, a.2.2), ()) = some (cmpR (rd dL l p).1 a, (), (), ()) := by
        rw [← hc p hpn]
        simp only [F83, cmpI _ _, obind_some]
      simp only [hpl, b0, decide_true, cond_true, Int.toNat_natCast]
      rw [hF]
      simp only [obind_some]
      refine ⟨_, rfl, fun h => ?_, fun h => ?_⟩
      · have hk := (cmpR_eq _ _).1 (of_decide_eq_true h)
        have hq := K_inj (hAi p hpn) haA hk
        refine ⟨hpn, ?_⟩
        rcases findA_cases l a with ⟨_, hno⟩ | ⟨j, hj, ej, hja⟩
        · exact absurd hq (hno p hpn)
        · have : j = p := by
            rcases Nat.lt_trichotomy j p with hlt | heq | hgt
            · have := book_lt hb p j hlt hpn
              rw [hja, hq] at this
              omega
            · exact heq
            · have := book_lt hb j p hgt hj
              rw [hja, hq] at this
              omega
          rw [ej, this]
      · have hk : ¬ K (rd dL l p).1 = K a := fun hh => (of_decide_eq_false h) ((cmpR_eq _ _).2 hh)
        rcases findA_cases l a with ⟨ee, _⟩ | ⟨j, hj, ej, hja⟩
        · exact ee
        · exfalso
          rcases Nat.lt_trichotomy j p with hlt | heq | hgt
          · have := h3 j hlt
            rw [hja] at this
            omega
          · subst heq; exact hk (by rw [hja])
          · have h5 := h4 p (Nat.le_refl _) hpn
            have h6 := book_lt hb j p hgt hj
            rw [hja] at h6
            omega
    · simp only [hpl, decide_false, cond_false]
      refine ⟨false, rfl, (fun h => by cases h), fun _ => ?_⟩
      rcases findA_cases l a with ⟨ee, _⟩ | ⟨j, hj, ej, hja⟩
      · exact ee
      · exfalso
        have := h3 j (by omega)
        rw [hja] at this
        omega
  obtain ⟨f, hs1, hs2, hs3⟩ := hs
  simp only [F51, F50, hs1, hfind, obind_some]
  cases f with
  | false =>
    rw [hs3 rfl]
    exact ⟨0, 13, rfl, rfl, fun h => by cases h⟩
  | true =>
    obtain ⟨q1, q2⟩ := hs2 rfl
    have b0 : (0 : Int) ≤ (p : Int) := by omega
    have b1 : (p : Int) < (l.length : Int) := by omega
    have b2 : ¬ (p : Int) < 0 := by omega
    simp only [q2, b0, b1, b2, decide_true, decide_false, cond_true, cond_false, Bool.not_true, Int.toNat_natCast]
    by_cases ht : (rd dL l p).2.2.1 = t
    · simp only [ht, decide_true, Bool.not_true, cond_false]
      exact ⟨(p : Int), 0, rfl, rfl, fun _ => ⟨b0, b1⟩⟩
    · simp only [ht, decide_false, Bool.not_false, cond_true]
      exact ⟨0, 14, rfl, rfl, fun h => by cases h⟩

theorem holder_both (l : List Lea) (tok now : Int) (a : Adr) (t : Int) (hl : l.length ≤ 1048576) (ho : ∀ x ∈ l, x.2.1.size ≤ 1048576) (hA : ∀ x ∈ l, AOk x.1) (haA : AOk a) :
    ∃ (s : ByteArray) (c : Int), F18 ((l, tok, now), a, t, ()) = some ((s, c), (), (), (), ()) ∧ F16 ((l, tok, now), a, t, ()) = some ((s, c), (), (), (), ()) := by
  simp only [F18, F16, bookOkI l tok now hl ho, bookOkS l tok now hl ho hA, addrI _ _ _, addrS _ _ _, obind_some]
  cases hb : bookOk l tok now with
  | false => exact ⟨_, _, rfl, rfl⟩
  | true =>
    cases hb2 : addrB a with
    | false => exact ⟨_, _, by simp only [hb2, Bool.not_true, Bool.not_false, cond_false, cond_true]; rfl, by simp only [hb2, Bool.not_true, Bool.not_false, cond_false, cond_true]⟩
    | true =>
      obtain ⟨k, c, e1, e2, hk⟩ := held_both l tok now a t hl hb hb2 hA haA
      simp only [hb2, e1, e2, obind_some, Bool.not_true, cond_false]
      by_cases hc : c = 0
      · obtain ⟨k0, k1⟩ := hk hc
        simp only [hc, k0, k1, decide_true, cond_true, Bool.not_true, cond_false]
        exact ⟨_, _, rfl, rfl⟩
      · simp only [hc, decide_false, Bool.not_false, cond_true]
        exact ⟨_, _, rfl, rfl⟩

theorem FnExactHolder_pure : ∀ x, OkA [.pr (.sl dL) (.pr (.int .i64) (.int .i64)), dA, .int .i64] x → ∃ u, F4 x = some (true, u) := by
  rintro ⟨⟨a, t, n⟩, b, q, _⟩ ⟨⟨⟨h1, h2⟩, h3⟩, hb, _⟩
  obtain ⟨o1, o2⟩ := lea_ok h2
  have hbA : AOk b := ⟨int64_ok hb.2.1, int64_ok hb.2.2⟩
  simp only [F4]
  rcases szBook a t n h1 o1 with ⟨k, e, hk⟩ | ⟨k, e, hk, ha, hs⟩
  · simp [e, hk]
  · obtain ⟨s, c, e1, e2⟩ := holder_both a t n b q ha hs o2 hbA
    have e3 : F17 ((b.1, b.2.1, b.2.2), ()) = some (b, (), ()) := rfl
    simp only [e, obind_some, hk, decide_false, cond_false, toBook a t n ha, e3, e1, e2, eqBook _ _ _ _ _ _ ha, strEq, decide_true, Bool.not_true]
    exact ⟨((), (), (), ()), by simp⟩

end Go.Nu

/- What 'Ask', 'OpenSession' and 'ExpireSessions' answer, in plain Lean. -/
import Derived.Test.YtlkejjbchahcfaaNuPure
namespace Go.Nu
open Go.IntWalk
set_option linter.unusedVariables false
set_option linter.unusedSimpArgs false

/-! ### Where a session stands -/
def fx (l : List Ses) (id : Int) (i : Nat) : Option Int := if (rd dS l i).1 = id then some (i : Int) else none
def findI (l : List Ses) (id : Int) : Int := (firstAt (fx l id) l.length 0).getD (-1)

theorem find_cases (l : List Ses) (id : Int) : (findI l id = -1 ∧ firstAt (fx l id) l.length 0 = none) ∨ ∃ j : Nat, j < l.length ∧ findI l id = (j : Int) ∧ (rd dS l j).1 = id ∧ firstAt (fx l id) l.length 0 = some (j : Int) := by
  cases hf : firstAt (fx l id) l.length 0 with
  | none => exact .inl ⟨by simp [findI, hf], rfl⟩
  | some e =>
    obtain ⟨j, h1, h2, h3, _⟩ := firstAt_some hf
    right
    unfold fx at h3
    split at h3
    · rename_i hj
      cases h3
      exact ⟨j, by omega, by simp [findI, hf], hj, rfl⟩
    · cases h3

theorem findS (l : List Ses) (n id : Int) (hl : l.length ≤ 1048576) : F40 ((l, n), id, ()) = some (findI l id, (), (), ()) := by
  have h := path_find (B := L40_2B) (fun i => (id, (i : Int), l, n, ())) l.length (fun i => (fx l id i).map fun j => .inl (j, ())) (.inr ()) (fun rec i hi => by
    have b1 : (i : Int) < (l.length : Int) := by omega
    have b0 : (0 : Int) ≤ (i : Int) := by omega
    simp only [L40_2B, b0, b1, decide_true, cond_true, Int.toNat_natCast, wnext (show i < 1048576 by omega), fx]
    by_cases hk : (rd dS l i).1 = id <;> simp [hk]) (fun rec => by simp [L40_2B]) l.length fuel 0 (by omega) (by simp only [fuel]; omega)
  rw [firstAt_map] at h
  have h' : L40_2 (id, 0, l, n, ()) = _ := h
  simp only [F40, h', obind_some]
  rcases find_cases l id with ⟨e, hf⟩ | ⟨j, _, e, _, hf⟩
  · simp [hf, e]
  · simp [hf, e]
theorem findI_eq (l : List Ses) (n id : Int) (hl : l.length ≤ 1048576) : F41 ((l, n), id, ()) = some (findI l id, (), (), ()) := by
  have h := path_find (B := L58_2B) (fun i => (l, (l.length : Int), (i : Int), id, ())) l.length (fun i => (fx l id i).map fun j => .inl (j, id, ())) (.inr (id, ())) (fun rec i hi => by
    have b1 : (i : Int) < (l.length : Int) := by omega
    have b0 : (0 : Int) ≤ (i : Int) := by omega
    simp only [L58_2B, F59, obind_some, b0, b1, decide_true, cond_true, Int.toNat_natCast, wnext (show i < 1048576 by omega), fx]
    by_cases hk : (rd dS l i).1 = id <;> simp [hk]) (fun rec => by simp [L58_2B]) l.length fuel 0 (by omega) (by simp only [fuel]; omega)
  rw [firstAt_map] at h
  have h' : L58_2 (l, (l.length : Int), 0, id, ()) = _ := h
  simp only [F41, F58, h', obind_some]
  rcases find_cases l id with ⟨e, hf⟩ | ⟨j, _, e, _, hf⟩
  · simp [hf, e]
  · simp [hf, e]

theorem deskOk_good {l : List Ses} {n : Int} (h : deskOk l n = true) : (∀ i, i < l.length → sGood l n i) ∧ l.length ≤ 12 ∧ 1 ≤ n ∧ n ≤ 1000000 := by
  classical
  exact of_decide_eq_true h

/-! ### Ask -/
theorem ask_both (l : List Ses) (n id q : Int) (hl : l.length ≤ 1048576) : ∃ (r : Int) (s : ByteArray), F17 ((l, n), id, q, ()) = some ((r, s), (), (), (), ()) ∧ F16 ((l, n), id, q, ()) = some ((r, s), (), (), (), ()) ∧
    (r = 0 → deskOk l n = true ∧ ∃ j : Nat, j < l.length ∧ findI l id = (j : Int) ∧ q = IntKind.i64.wrap ((rd dS l j).2.1 + 1)) := by
  simp only [F17, F16, findS l n id hl, findI_eq l n id hl, deskOkI l n hl, deskOkS l n hl, obind_some]
  cases hd : deskOk l n with
  | false => exact ⟨4, _, rfl, rfl, fun h => by cases h⟩
  | true =>
    obtain ⟨hg, _⟩ := deskOk_good hd
    rcases find_cases l id with ⟨e, hf⟩ | ⟨j, hj, e, _, hf⟩
    · rw [e]; exact ⟨4, _, rfl, rfl, fun h => by cases h⟩
    · have g := (hg j hj).2.1.1
      have b0 : (0 : Int) ≤ (j : Int) := by omega
      have b1 : (j : Int) < (l.length : Int) := by omega
      have b2 : ¬ (j : Int) < 0 := by omega
      simp only [e, b0, b1, b2, decide_true, decide_false, cond_true, cond_false, Bool.not_true, Int.toNat_natCast]
      by_cases c1 : q = IntKind.i64.wrap ((rd dS l j).2.1 + 1)
      · have hq := c1
        simp only [c1, decide_true, cond_true]
        exact ⟨0, _, rfl, rfl, fun _ => ⟨trivial, j, hj, rfl, rfl⟩⟩
      · simp only [c1, decide_false, cond_false]
        by_cases c2 : q = (rd dS l j).2.1
        · simp only [c2, decide_true, cond_true]
          by_cases c3 : (rd dS l j).2.1 = 0
          · have aux : ∀ x : Int, x = 0 → ¬ x > 0 := fun x h => by omega
            have c4 : ¬ (rd dS l j).2.1 > 0 := aux _ c3
            simp only [c3, c4, decide_true, decide_false, cond_true, cond_false, Bool.not_true]
            exact ⟨2, _, rfl, rfl, fun h => by cases h⟩
          · have aux : ∀ x : Int, 0 ≤ x → ¬ x = 0 → x > 0 := fun x h h' => by omega
            have c4 : (rd dS l j).2.1 > 0 := aux _ g c3
            simp only [c3, c4, decide_true, decide_false, cond_true, cond_false, Bool.not_false]
            exact ⟨1, _, rfl, rfl, fun h => by cases h⟩
        · simp only [c2, decide_false, cond_false]
          by_cases c5 : q ≤ (rd dS l j).2.1
          · simp only [c5, decide_true, cond_true]; exact ⟨2, _, rfl, rfl, fun h => by cases h⟩
          · simp only [c5, decide_false, cond_false]; exact ⟨3, _, rfl, rfl, fun h => by cases h⟩

theorem FnExactAsk_pure : ∀ x, OkA [.pr (.sl dS) (.int .i64), .int .i64, .int .i64] x → ∃ u, F4 x = some (true, u) := by
  rintro ⟨⟨a, n⟩, id, q, _⟩ ⟨⟨⟨h1, h2⟩, h3⟩, _⟩
  simp only [F4]
  rcases szDesk a n h1 (fun x hx => (h2 x hx).2.2.1) with ⟨k, e, hk⟩ | ⟨k, e, hk, ha, hs⟩
  · simp [e, hk]
  · obtain ⟨r, s, e1, e2, _⟩ := ask_both a n id q ha
    simp only [e, obind_some, hk, decide_false, cond_false, toDesk a n ha, e1, e2, eqDesk _ _ _ _ ha, strEq, decide_true, Bool.not_true]
    exact ⟨((), (), (), ()), by simp⟩

/-! ### OpenSession -/
theorem cloneSes (a : List Ses) (h : a.length ≤ 4194304) : F60 (a, ()) = some (a, (), ()) := clone_gen a 40 (rooms h (by decide))
theorem copyI (a : List Ses) (n : Int) (h : a.length ≤ 4194304) : F43 ((a, n), ()) = some ((a, n), (), ()) := by
  simp only [F43, cloneSes a h, obind_some]
theorem copyS (a : List Ses) (n : Int) (h : a.length ≤ 4194304) : F42 ((a, n), ()) = some ((a, n), (), ()) := by
  have h2 : (0 + a.length) * 40 ≤ room := by simpa using rooms (k := 40) h (by decide)
  simp only [F42, List.length_nil, h2, decide_true, cond_true]

noncomputable def opened (l : List Ses) (n t : Int) : (List Ses × Int) × Int :=
  if deskOk l n = true ∧ ¬ (l.length : Int) = 12 ∧ ¬ n = 1000000 ∧ (0 ≤ t ∧ t ≤ 1000000000) then ((l ++ [(n, 0, ByteArray.mk #[], t)], IntKind.i64.wrap (n + 1)), n) else ((l, n), 0)
theorem openI (l : List Ses) (n t : Int) (hl : l.length ≤ 1048576) : F19 ((l, n), t, ()) = some (opened l n t, (), (), ()) := by
  have r : (l.length + 1) * 40 ≤ room := rooms (by omega) (by decide)
  simp only [F19, copyI l n (by omega), deskOkI l n hl, timeI t, obind_some, opened, List.length_cons, List.length_nil, Nat.zero_add]
  cases deskOk l n with
  | false => simp
  | true =>
    by_cases c1 : (l.length : Int) = 12
    · simp only [c1, decide_true, cond_true, Bool.not_true, cond_false]; simp
    · by_cases c2 : n = 1000000
      · simp only [c1, c2, decide_true, decide_false, cond_true, cond_false, Bool.not_true]; simp
      · by_cases c3 : 0 ≤ t ∧ t ≤ 1000000000
        · simp only [c1, c2, c3, r, decide_true, decide_false, cond_true, cond_false, Bool.not_true, not_false_iff, and_self, if_true]
          rfl
        · simp only [c1, c2, c3, decide_true, decide_false, cond_true, cond_false, Bool.not_true, Bool.not_false, not_false_iff, and_false, if_false]
theorem openS (l : List Ses) (n t : Int) (hl : l.length ≤ 1048576) : F18 ((l, n), t, ()) = some (opened l n t, (), (), ()) := by
  have r : (l.length + 1) * 40 ≤ room := rooms (by omega) (by decide)
  simp only [F18, copyS l n (by omega), deskOkS l n hl, fromS t _ _, obind_some, opened, List.length_cons, List.length_nil, Nat.zero_add]
  cases deskOk l n with
  | false => simp
  | true =>
    by_cases c1 : (l.length : Int) = 12
    · simp only [c1, decide_true, cond_true, Bool.not_true, cond_false]; simp
    · by_cases c2 : n = 1000000
      · simp only [c1, c2, decide_true, decide_false, cond_true, cond_false, Bool.not_true]; simp
      · by_cases c3 : 0 ≤ t ∧ t ≤ 1000000000
        · simp only [c1, c2, c3, r, decide_true, decide_false, cond_true, cond_false, Bool.not_true, not_false_iff, and_self, if_true]
          rfl
        · simp only [c1, c2, c3, decide_true, decide_false, cond_true, cond_false, Bool.not_true, Bool.not_false, not_false_iff, and_false, if_false]
theorem opened_len {l : List Ses} {n t : Int} {r : List Ses} {m k : Int} (hl : l.length ≤ 1048576) (h : opened l n t = ((r, m), k)) : r.length ≤ 1048576 := by
  unfold opened at h
  split at h
  · rename_i hh
    have := (deskOk_good hh.1).2.1
    cases h
    simp only [List.length_append, List.length_cons, List.length_nil]
    omega
  · cases h; exact hl

theorem FnExactOpenSession_pure : ∀ x, OkA [.pr (.sl dS) (.int .i64), .int .i64] x → ∃ u, F5 x = some (true, u) := by
  rintro ⟨⟨a, n⟩, t, _⟩ ⟨⟨⟨h1, h2⟩, h3⟩, _⟩
  simp only [F5]
  rcases szDesk a n h1 (fun x hx => (h2 x hx).2.2.1) with ⟨k, e, hk⟩ | ⟨k, e, hk, ha, hs⟩
  · simp [e, hk]
  · obtain ⟨⟨⟨r, m⟩, v⟩, hr⟩ : ∃ p, opened a n t = p := ⟨_, rfl⟩
    have hrl := opened_len ha hr
    obtain ⟨z, hz⟩ := markDesk a n 1 ha (by decide) (by decide)
    obtain ⟨z2, hz2⟩ := markDesk r m 1 hrl (by decide) (by decide)
    have hp : ¬ (1 : Int) + 4 * (a.length : Nat) < 0 := by omega
    have hp2 : ¬ (1 : Int) + 4 * (r.length : Nat) < 0 := by omega
    simp only [e, obind_some, hk, decide_false, cond_false, toDesk a n ha, openI a n t ha, openS a n t ha, hr, eqDesk _ _ _ _ ha, eqDesk _ _ _ _ hrl, hz, hz2, heldDesk r.length _ 1 hrl (by decide) (by decide), hp, hp2, decide_true, Bool.not_true]
    first | exact ⟨((), (), ()), rfl⟩ | exact ⟨((), (), ()), by simp⟩

/-! ### ExpireSessions -/
def late (now : Int) (s : Ses) : Bool := decide ((s.2.2.2 : Int) < now)
def goneL (l : List Ses) (now : Int) : List Int := (l.filter (late now)).map fun s => s.1
def keptL (l : List Ses) (now : Int) : List Ses := l.filter fun s => !late now s
theorem gone_take {l : List Ses} {now : Int} {i : Nat} (h : i < l.length) : goneL (l.take (i + 1)) now = if (l[i].2.2.2 : Int) < now then goneL (l.take i) now ++ [l[i].1] else goneL (l.take i) now := by
  unfold goneL
  rw [List.take_succ_eq_append_getElem h, List.filter_append, List.map_append]
  by_cases hk : (l[i].2.2.2 : Int) < now <;> simp [late, hk]
theorem kept_take {l : List Ses} {now : Int} {i : Nat} (h : i < l.length) : keptL (l.take (i + 1)) now = if (l[i].2.2.2 : Int) < now then keptL (l.take i) now else keptL (l.take i) now ++ [l[i]] := by
  unfold keptL
  rw [List.take_succ_eq_append_getElem h, List.filter_append]
  by_cases hk : (l[i].2.2.2 : Int) < now <;> simp [late, hk]
theorem gone_len (l : List Ses) (now : Int) : (goneL l now).length ≤ l.length := by
  unfold goneL
  rw [List.length_map]
  exact List.length_filter_le _ _
theorem kept_len (l : List Ses) (now : Int) : (keptL l now).length ≤ l.length := List.length_filter_le _ _

theorem expireI (l : List Ses) (n t : Int) (hl : l.length ≤ 1048576) : F23 ((l, n), t, ()) = some (((keptL l t, n), goneL l t), (), (), ()) := by
  have h := path_rounds (B := L23_4B) (fun i => (t, l, (l.length : Int), (i : Int), 0, n, goneL (l.take i) t, keptL (l.take i) t, ())) l.length (0, n, goneL l t, keptL l t, ()) (fun rec i hi => by
    have b1 : (i : Int) < (l.length : Int) := by omega
    have b0 : (0 : Int) ≤ (i : Int) := by omega
    have e0 : rd dS l i = l[i] := rd_lt hi
    have g1 := gone_len (l.take i) t
    have g2 := kept_len (l.take i) t
    rw [List.length_take] at g1 g2
    have r1 : ((goneL (l.take i) t).length + 1) * 8 ≤ room := rooms (by omega) (by decide)
    have r2 : ((keptL (l.take i) t).length + 1) * 40 ≤ room := rooms (by omega) (by decide)
    simp only [L23_4B, b0, b1, decide_true, cond_true, Int.toNat_natCast, wnext (show i < 1048576 by omega), e0, List.length_cons, List.length_nil, Nat.zero_add, r1, r2, gone_take hi, kept_take hi]
    by_cases hk : (l[i].2.2.2 : Int) < t
    · simp only [hk, decide_true, cond_true, if_true]
    · simp only [hk, decide_false, cond_false, if_false]) (fun rec => by
    simp only [L23_4B, Int.lt_irrefl, decide_false, cond_false, List.take_length]) fuel 0 (by omega) (by simp only [fuel]; omega)
  have h' : L23_4 (t, l, (l.length : Int), 0, 0, n, [], [], ()) = _ := h
  simp only [F23]
  have h2 : L23_4 (t, l, (l.length : Int), 0, Int.ofNat 0, n, [], [], ()) = _ := h'
  simp only [h2, obind_some]
theorem expireS (l : List Ses) (n t : Int) (hl : l.length ≤ 1048576) : F22 ((l, n), t, ()) = some (((keptL l t, n), goneL l t), (), (), ()) := by
  have h := path_rounds (B := L22_5B) (fun i => (t, (i : Int), l, n, 0, n, goneL (l.take i) t, keptL (l.take i) t, ())) l.length (0, n, goneL l t, keptL l t, ()) (fun rec i hi => by
    have b1 : (i : Int) < (l.length : Int) := by omega
    have b0 : (0 : Int) ≤ (i : Int) := by omega
    have e0 : rd dS l i = l[i] := rd_lt hi
    have g1 := gone_len (l.take i) t
    have g2 := kept_len (l.take i) t
    rw [List.length_take] at g1 g2
    have r1 : ((goneL (l.take i) t).length + 1) * 8 ≤ room := rooms (by omega) (by decide)
    have r2 : ((keptL (l.take i) t).length + 1) * 40 ≤ room := rooms (by omega) (by decide)
    simp only [L22_5B, b0, b1, decide_true, cond_true, Int.toNat_natCast, wnext (show i < 1048576 by omega), e0, List.length_cons, List.length_nil, Nat.zero_add, r1, r2, gone_take hi, kept_take hi]
    by_cases hk : (l[i].2.2.2 : Int) < t
    · simp only [hk, decide_true, cond_true, if_true]
    · simp only [hk, decide_false, cond_false, if_false]) (fun rec => by
    simp only [L22_5B, Int.lt_irrefl, decide_false, cond_false, List.take_length]) fuel 0 (by omega) (by simp only [fuel]; omega)
  have h2 : L22_5 (t, 0, l, n, Int.ofNat 0, n, [], [], ()) = _ := h
  simp only [F22, copyS l n (by omega), obind_some]
  simp only [h2, obind_some]

theorem eqIntS_eq (l m : List Int) (h : l.length ≤ 1048576) : F24 (l, m, ()) = some (decide (l = m), (), (), ()) := eqS_eq .i64 l m h
theorem markIntS (a : List Int) (k : Int) (ha : a.length ≤ 1048576) (hk : 0 < k) (hk' : k ≤ 1099511627776) : F25 (a, k, ()) = some (k + a.length, mkL 1 (fun k => k) k a.length, (), ()) := by
  have h := mark_rounds (d := .int .i64) (B := L25_2B) 1 (fun k => k) (by decide) (fun rec k i l h1 h2 h3 h4 h5 => by
    have w1 : IntKind.i64.wrap (k + 1) = k + 1 := i64_in _ (by omega)
    have w2 : IntKind.i64.wrap (i + 1) = i + 1 := i64_in _ (by omega)
    simp only [L25_2B, h3, h4, w1, w2, decide_true, cond_true, obind_some]) (fun rec k l => by
    simp [L25_2B]) a k ha hk hk'
  simp only [F25, L25_2, h, obind_some, Int.one_mul]
theorem heldIntS (n : Nat) (k : Int) (ha : n ≤ 1048576) (hk : 0 < k) (hk' : k ≤ 1099511627776) : F26 (mkL 1 (fun k => k) k n, k, ()) = some (k + n, (), (), ()) := by
  have h := held_rounds (d := .int .i64) (B := L26_2B) 1 (fun k => k) (by decide) (fun rec k i l h1 h2 h3 h4 h5 h6 => by
    have w1 : IntKind.i64.wrap (k + 1) = k + 1 := i64_in _ (by omega)
    have w2 : IntKind.i64.wrap (i + 1) = i + 1 := i64_in _ (by omega)
    simp only [L26_2B, h3, h4, h6, w1, w2, decide_true, cond_true, Bool.not_true, cond_false]) (fun rec k l => by
    simp [L26_2B]) n k ha hk hk'
  simp only [F26, L26_2, h, obind_some, Int.one_mul]

theorem FnExactExpireSessions_pure : ∀ x, OkA [.pr (.sl dS) (.int .i64), .int .i64] x → ∃ u, F6 x = some (true, u) := by
  rintro ⟨⟨a, n⟩, t, _⟩ ⟨⟨⟨h1, h2⟩, h3⟩, _⟩
  simp only [F6]
  rcases szDesk a n h1 (fun x hx => (h2 x hx).2.2.1) with ⟨k, e, hk⟩ | ⟨k, e, hk, ha, hs⟩
  · simp [e, hk]
  · have hr := kept_len a t
    have hg := gone_len a t
    have e1 := expireI a n t ha
    have e2 := expireS a n t ha
    generalize keptL a t = r at *
    generalize goneL a t = g at *
    have hrl : r.length ≤ 1048576 := by omega
    have hgl : g.length ≤ 1048576 := by omega
    obtain ⟨z, hz⟩ := markDesk a n 1 ha (by decide) (by decide)
    obtain ⟨z2, hz2⟩ := markDesk r n 1 hrl (by decide) (by decide)
    have hp : ¬ (1 : Int) + 4 * (a.length : Nat) < 0 := by omega
    have hp2 : ¬ (1 : Int) + 4 * (r.length : Nat) < 0 := by omega
    have hp3 : ¬ (1 : Int) + 4 * (r.length : Nat) + g.length < 0 := by omega
    simp only [e, obind_some, hk, decide_false, cond_false, toDesk a n ha, e1, e2, eqDesk _ _ _ _ ha, eqDesk _ _ _ _ hrl, eqIntS_eq g g hgl, hz, hz2, markIntS g (1 + 4 * (r.length : Nat)) hgl (by omega) (by omega), heldIntS g.length (1 + 4 * (r.length : Nat)) hgl (by omega) (by omega), heldDesk r.length _ 1 hrl (by decide) (by decide), hp, hp2, hp3, decide_true, Bool.not_true]
    first | exact ⟨((), (), ()), rfl⟩ | exact ⟨((), (), ()), by simp⟩

end Go.Nu

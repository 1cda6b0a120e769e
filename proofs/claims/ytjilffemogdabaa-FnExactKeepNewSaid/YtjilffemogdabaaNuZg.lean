/- Nu, part Zg: loops that go their way step by step; marks, and what stands of them. -/
import Derived.Test.YtjilffemogdabaaNuZf
namespace Go.Nu
open Go.IntWalk
set_option linter.unusedVariables false
set_option linter.unusedSimpArgs false

/-- A loop whose states are told. -/
theorem path_rounds {X E : Type} {B : (X → Option E) → X → Option E} (st : Nat → X) (n : Nat) (e : E)
    (hs : ∀ rec i, i < n → B rec (st i) = rec (st (i + 1))) (he : ∀ rec, B rec (st n) = some e) : ∀ k i, i ≤ n → n - i < k → rounds B k (st i) = some e := by
  intro k
  induction k with
  | zero => intro i _ h; omega
  | succ k ih =>
    intro i hi hk
    by_cases h : i < n
    · show B (rounds B k) (st i) = _
      rw [hs _ i h]
      exact ih (i + 1) (by omega) (by omega)
    · have : i = n := by omega
      subst this
      exact he _

/-- The first answer from i on, below n. -/
def firstAt {E : Type} (ex : Nat → Option E) : Nat → Nat → Option E
  | 0, _ => none
  | m + 1, i => match ex i with
    | some e => some e
    | none => firstAt ex m (i + 1)

/-- A loop whose states are told, and that may end at each. -/
theorem path_find {X E : Type} {B : (X → Option E) → X → Option E} (st : Nat → X) (n : Nat) (ex : Nat → Option E) (e : E)
    (hs : ∀ rec i, i < n → B rec (st i) = match ex i with
      | some e => some e
      | none => rec (st (i + 1))) (he : ∀ rec, B rec (st n) = some e) : ∀ m k i, i + m = n → m < k → rounds B k (st i) = some ((firstAt ex m i).getD e) := by
  intro m
  induction m with
  | zero =>
    intro k i hi hk
    match k, hk with
    | k + 1, _ =>
      have : i = n := by omega
      subst this
      exact he _
  | succ m ih =>
    intro k i hi hk
    match k, hk with
    | k + 1, hk =>
      show B (rounds B k) (st i) = _
      rw [hs _ i (by omega)]
      simp only [firstAt]
      cases ex i with
      | some e' => rfl
      | none => exact ih k (i + 1) (by omega) (by omega)

theorem firstAt_none {E : Type} {ex : Nat → Option E} : ∀ {m i : Nat}, firstAt ex m i = none ↔ ∀ j, i ≤ j → j < i + m → ex j = none
  | 0, i => by simp [firstAt]; intro j h1 h2; omega
  | m + 1, i => by
    simp only [firstAt]
    constructor
    · intro h j h1 h2
      cases he : ex i with
      | some e => rw [he] at h; cases h
      | none =>
        rw [he] at h
        by_cases hj : j = i
        · rw [hj, he]
        · exact firstAt_none.1 h j (by omega) (by omega)
    · intro h
      rw [h i (by omega) (by omega)]
      exact firstAt_none.2 fun j h1 h2 => h j (by omega) (by omega)
theorem firstAt_some {E : Type} {ex : Nat → Option E} {e : E} : ∀ {m i : Nat}, firstAt ex m i = some e → ∃ j, i ≤ j ∧ j < i + m ∧ ex j = some e ∧ ∀ q, i ≤ q → q < j → ex q = none
  | 0, i, h => by cases h
  | m + 1, i, h => by
    simp only [firstAt] at h
    cases he : ex i with
    | some e' =>
      rw [he] at h
      cases h
      exact ⟨i, by omega, by omega, he, fun q h1 h2 => by omega⟩
    | none =>
      rw [he] at h
      obtain ⟨j, h1, h2, h3, h4⟩ := firstAt_some h
      refine ⟨j, by omega, by omega, h3, fun q h5 h6 => ?_⟩
      by_cases hq : q = i
      · rw [hq, he]
      · exact h4 q (by omega) h6
theorem firstAt_ext {E : Type} {ex ex' : Nat → Option E} : ∀ {m i : Nat}, (∀ j, i ≤ j → j < i + m → ex j = ex' j) → firstAt ex m i = firstAt ex' m i
  | 0, i, _ => rfl
  | m + 1, i, h => by
    simp only [firstAt]
    rw [h i (by omega) (by omega), firstAt_ext fun j h1 h2 => h j (by omega) (by omega)]

/-- The first i of a, then what b has. -/
def upto {α : Type} (a b : List α) (i : Nat) : List α := a.take i ++ b.drop i
theorem upto_zero {α : Type} (a b : List α) : upto a b 0 = b := by simp [upto]
theorem upto_end {α : Type} {a b : List α} {n : Nat} (h : a.length = n) (h' : b.length = n) : upto a b n = a := by
  subst h
  simp [upto, List.drop_of_length_le (Nat.le_of_eq h')]
theorem upto_length {α : Type} {a b : List α} {i : Nat} (h : a.length = b.length) : (upto a b i).length = b.length := by
  simp [upto]; omega
theorem upto_set {α : Type} {a b : List α} {i : Nat} {v : α} (h : a.length = b.length) (hi : i < a.length) (hv : v = a[i]) : (upto a b i).set i v = upto a b (i + 1) := by
  subst hv
  have h1 : (a.take i).length = i := by simp; omega
  unfold upto
  rw [List.set_append_right _ _ (by omega), h1, Nat.sub_self, List.drop_eq_getElem_cons (by omega), List.set_cons_zero, List.take_succ_eq_append_getElem hi, List.append_assoc]
  rfl
theorem upto_get {α : Type} {a b : List α} {i : Nat} (h : a.length = b.length) (hi : i < b.length) : (upto a b i)[i]'(by rw [upto_length h]; exact hi) = b[i] := by
  have h1 : (a.take i).length = i := by simp; omega
  unfold upto
  rw [List.getElem_append_right (by omega)]
  simp [h1]

theorem rd_set {d : Kd} {l : List d.T} {i : Nat} {v : d.T} (h : i < l.length) : rd d (l.set i v) i = v := by
  rw [rd_lt (by simpa using h)]
  simp

/-- Marks. -/
def mkL {α : Type} (c : Int) (mk : Int → α) (k : Int) (n : Nat) : List α := (List.range n).map fun i => mk (k + c * (i : Nat))
theorem mkL_length {α : Type} (c : Int) (mk : Int → α) (k : Int) (n : Nat) : (mkL c mk k n).length = n := by simp [mkL]
theorem mkL_get {α : Type} (c : Int) (mk : Int → α) (k : Int) (n : Nat) (i : Nat) (h : i < (mkL c mk k n).length) : (mkL c mk k n)[i] = mk (k + c * (i : Nat)) := by simp [mkL]

theorem mul_bound {c : Int} {i n : Nat} (hc : 0 ≤ c ∧ c ≤ 64) (hi : i ≤ n) : 0 ≤ c * (i : Nat) ∧ c * (i : Nat) ≤ 64 * (n : Nat) := by
  obtain ⟨m, rfl⟩ := Int.eq_ofNat_of_zero_le hc.1
  have h1 : m * i ≤ 64 * n := Nat.mul_le_mul (by omega) hi
  have h2 : (m : Int) * (i : Nat) = ((m * i : Nat) : Int) := by simp
  have h3 : (64 : Int) * (n : Nat) = ((64 * n : Nat) : Int) := by simp
  rw [h2, h3]
  omega

theorem mark_rounds {d : Kd} {B : (Int × Int × List d.T × Unit → Option (Int × List d.T × Unit)) → Int × Int × List d.T × Unit → Option (Int × List d.T × Unit)} (c : Int) (mk : Int → d.T) (hc : 0 ≤ c ∧ c ≤ 64)
    (hB : ∀ rec (k i : Int) (l : List d.T), 0 < k → k ≤ 1125899906842624 → 0 ≤ i → i < (l.length : Int) → l.length ≤ 1048576 → B rec (k, i, l, ()) = rec (k + c, i + 1, l.set i.toNat (mk k), ()))
    (hE : ∀ rec (k : Int) (l : List d.T), B rec (k, (l.length : Int), l, ()) = some (k, l, ())) (l : List d.T) (k : Int) (hl : l.length ≤ 1048576) (hk : 0 < k) (hk' : k ≤ 1099511627776) :
    rounds B fuel (k, 0, l, ()) = some (k + c * (l.length : Nat), mkL c mk k l.length, ()) := by
  have h := path_rounds (B := B) (fun i => (k + c * (i : Nat), ((i : Nat) : Int), upto (mkL c mk k l.length) l i, ())) l.length (k + c * (l.length : Nat), mkL c mk k l.length, ())
    (fun rec i hi => by
      obtain ⟨b1, b2⟩ := mul_bound (i := i) (n := l.length) hc (by omega)
      have hlen := mkL_length c mk k l.length
      have hul := upto_length (i := i) hlen
      rw [hB rec _ _ _ (by omega) (by omega) (by omega) (by omega) (by omega), Int.toNat_natCast, upto_set hlen (by omega) (mkL_get c mk k l.length i (by omega)).symm]
      congr 2
      rw [show ((i + 1 : Nat) : Int) = (i : Int) + 1 by omega, Int.mul_add]
      omega)
    (fun rec => by
      have := hE rec (k + c * (l.length : Nat)) (upto (mkL c mk k l.length) l l.length)
      rw [upto_length (mkL_length _ _ _ _), upto_end (mkL_length _ _ _ _) rfl] at this
      rw [upto_end (mkL_length _ _ _ _) rfl]
      exact this) fuel 0 (by omega) (by simp only [fuel]; omega)
  simpa [upto_zero] using h

theorem held_rounds {d : Kd} {B : (List d.T × Int × Int × Unit → Option ((Int × Unit) ⊕ (Int × Unit))) → List d.T × Int × Int × Unit → Option ((Int × Unit) ⊕ (Int × Unit))} (c : Int) (mk : Int → d.T) (hc : 0 ≤ c ∧ c ≤ 64)
    (hB : ∀ rec (k i : Int) (l : List d.T), 0 < k → k ≤ 1125899906842624 → 0 ≤ i → i < (l.length : Int) → l.length ≤ 1048576 → rd d l i.toNat = mk k → B rec (l, k, i, ()) = rec (l, k + c, i + 1, ()))
    (hE : ∀ rec (k : Int) (l : List d.T), B rec (l, k, (l.length : Int), ()) = some (.inr (k, ()))) (n : Nat) (k : Int) (hl : n ≤ 1048576) (hk : 0 < k) (hk' : k ≤ 1099511627776) :
    rounds B fuel (mkL c mk k n, k, 0, ()) = some (.inr (k + c * (n : Nat), ())) := by
  have hlen := mkL_length c mk k n
  have h := path_rounds (B := B) (fun i => (mkL c mk k n, k + c * (i : Nat), ((i : Nat) : Int), ())) n (.inr (k + c * (n : Nat), ()))
    (fun rec i hi => by
      obtain ⟨b1, b2⟩ := mul_bound (i := i) (n := n) hc (by omega)
      rw [hB rec _ _ _ (by omega) (by omega) (by omega) (by omega) (by omega) (by rw [Int.toNat_natCast, rd_lt (by omega), mkL_get])]
      congr 2
      rw [show ((i + 1 : Nat) : Int) = (i : Int) + 1 by omega, Int.mul_add]
      congr 1
      omega)
    (fun rec => by
      have := hE rec (k + c * (n : Nat)) (mkL c mk k n)
      rw [hlen] at this
      exact this) fuel 0 (by omega) (by simp only [fuel]; omega)
  simpa using h

/-- Comparisons, element by element. -/
theorem eq_rounds' {d : Kd} {B : (List d.T × List d.T × Int × Unit → Option ((Bool × Unit) ⊕ Unit)) → List d.T × List d.T × Int × Unit → Option ((Bool × Unit) ⊕ Unit)} (Q : d.T → Prop) (l m : List d.T) (hlm : l.length = m.length) (hl : l.length ≤ 1048576)
    (hQ : ∀ x ∈ l, Q x)
    (hB : ∀ rec (i : Int), 0 ≤ i → i < (l.length : Int) → Q (rd d l i.toNat) → (rd d l i.toNat = rd d m i.toNat → B rec (l, m, i, ()) = rec (l, m, i + 1, ())) ∧ (¬ rd d l i.toNat = rd d m i.toNat → B rec (l, m, i, ()) = some (.inl (false, ()))))
    (hE : ∀ rec, B rec (l, m, (l.length : Int), ()) = some (.inr ())) : rounds B fuel (l, m, 0, ()) = some (by classical exact if l = m then .inr () else .inl (false, ())) := by
  classical
  have h := path_find (B := B) (fun i => (l, m, ((i : Nat) : Int), ())) l.length (fun i => if rd d l i = rd d m i then none else some (.inl (false, ()))) (.inr ())
    (fun rec i hi => by
      obtain ⟨q1, q2⟩ := hB rec i (by omega) (by omega) (hQ _ (by rw [Int.toNat_natCast, rd_lt hi]; exact List.getElem_mem hi))
      rw [Int.toNat_natCast] at q1 q2
      by_cases he : rd d l i = rd d m i
      · rw [q1 he]; simp [he]
      · rw [q2 he]; simp [he]) hE l.length fuel 0 (by omega) (by simp only [fuel]; omega)
  rw [show ((0 : Nat) : Int) = 0 from rfl] at h
  rw [h]
  congr 1
  cases hf : firstAt (fun i => if rd d l i = rd d m i then (none : Option ((Bool × Unit) ⊕ Unit)) else some (.inl (false, ()))) l.length 0 with
  | none =>
    rw [firstAt_none] at hf
    have : l = m := by
      apply List.ext_getElem hlm
      intro i h1 h2
      have := hf i (by omega) (by omega)
      by_cases he : rd d l i = rd d m i
      · rwa [rd_lt h1, rd_lt h2] at he
      · simp [he] at this
    simp [this]
  | some e =>
    obtain ⟨j, h1, h2, h3, _⟩ := firstAt_some hf
    by_cases he : rd d l j = rd d m j
    · simp [he] at h3
    · simp only [he, if_false, Option.some.injEq] at h3
      subst h3
      rw [if_neg (fun e => he (by rw [e]))]
      rfl

/-- Sizes: what is left falls, and ends below nothing where there is too much. -/
theorem sz_rounds {d : Kd} {B : (List d.T × Int × Int × Unit → Option ((Int × Unit) ⊕ (Int × Unit))) → List d.T × Int × Int × Unit → Option ((Int × Unit) ⊕ (Int × Unit))} (O Q : d.T → Prop) (l : List d.T) (hO : ∀ x ∈ l, O x) (hl : l.length ≤ 1048576)
    (hB : ∀ rec (k i : Int), 0 ≤ k → k ≤ 1048576 → 0 ≤ i → i < (l.length : Int) → O (rd d l i.toNat) → B rec (l, k, i, ()) = some (.inl (-1, ())) ∨ ∃ k', 0 ≤ k' ∧ k' ≤ k ∧ Q (rd d l i.toNat) ∧ B rec (l, k, i, ()) = rec (l, k', i + 1, ()))
    (hE : ∀ rec (k : Int), B rec (l, k, (l.length : Int), ()) = some (.inr (k, ()))) (k : Int) (hk : 0 ≤ k) (hk' : k ≤ 1048576) :
    rounds B fuel (l, k, 0, ()) = some (.inl (-1, ())) ∨ ∃ k', 0 ≤ k' ∧ k' ≤ k ∧ (∀ x ∈ l, Q x) ∧ rounds B fuel (l, k, 0, ()) = some (.inr (k', ())) := by
  have key : ∀ m (f i : Nat) (k : Int), i + m = l.length → m < f → 0 ≤ k → k ≤ 1048576 → rounds B f (l, k, (i : Int), ()) = some (.inl (-1, ())) ∨ ∃ k', 0 ≤ k' ∧ k' ≤ k ∧ (∀ j (h : j < l.length), i ≤ j → Q l[j]) ∧ rounds B f (l, k, (i : Int), ()) = some (.inr (k', ())) := by
    intro m
    induction m with
    | zero =>
      intro f i k hi hf h0 h1
      match f, hf with
      | f + 1, _ =>
        right
        have : i = l.length := by omega
        subst this
        exact ⟨k, h0, Int.le_refl _, fun j h h' => by omega, hE _ _⟩
    | succ m ih =>
      intro f i k hi hf h0 h1
      match f, hf with
      | f + 1, hf =>
        have hil : i < l.length := by omega
        have e0 : rd d l i = l[i] := rd_lt hil
        rcases hB (rounds B f) k i h0 h1 (by omega) (by omega) (by rw [Int.toNat_natCast, e0]; exact hO _ (List.getElem_mem hil)) with h | ⟨k', h2, h3, h4, h5⟩
        · exact .inl h
        · rcases ih f (i + 1) k' (by omega) (by omega) h2 (by omega) with h6 | ⟨k2, h6, h7, h8, h9⟩
          · left
            show B (rounds B f) _ = _
            rw [h5]
            exact h6
          · right
            refine ⟨k2, h6, by omega, fun j hj hij => ?_, ?_⟩
            · by_cases hji : j = i
              · subst hji; rw [Int.toNat_natCast, e0] at h4; exact h4
              · exact h8 j hj (by omega)
            · show B (rounds B f) _ = _
              rw [h5]
              exact h9
  rcases key l.length fuel 0 k (by omega) (by simp only [fuel]; omega) hk hk' with h | ⟨k', h1, h2, h3, h4⟩
  · exact .inl h
  · refine .inr ⟨k', h1, h2, fun x hx => ?_, h4⟩
    obtain ⟨j, hj, rfl⟩ := List.mem_iff_getElem.1 hx
    exact h3 j hj (by omega)

end Go.Nu

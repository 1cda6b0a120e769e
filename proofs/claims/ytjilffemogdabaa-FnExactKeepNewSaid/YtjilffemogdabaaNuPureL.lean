/- What 'KeepOk' answers, in plain Lean. -/
import Derived.Test.YtjilffemogdabaaNuPureK
namespace Go.Nu
open Go.IntWalk
set_option linter.unusedVariables false
set_option linter.unusedSimpArgs false

abbrev dK : Kd := .pr (.int .i64) (.pr (.int .i64) (.pr (.int .i64) (.pr (.int .i64) (.pr (.pr (.sl (.int .i64)) (.sl (.int .i64))) (.pr (.sl (.int .u8)) (.sl dE))))))

theorem toEntS (l : List Ent) (hl : l.length ≤ 1048576) (hd : ∀ x ∈ l, x.2.2.length ≤ 1048576) : F52 (l, ()) = some (l, (), ()) := by
  have z : (List.replicate l.length (Kd.zero dE)).length = l.length := by simp
  have h := path_rounds (B := L52_3B) (fun i => (l, (i : Int), upto l (List.replicate l.length (Kd.zero dE)) i, ())) l.length (l, ()) (fun rec i hi => by
    have b1 : (i : Int) < (l.length : Int) := by omega
    have b0 : (0 : Int) ≤ (i : Int) := by omega
    have e0 : rd dE l i = l[i] := rd_lt hi
    have hul := upto_length (a := l) (b := List.replicate l.length (Kd.zero dE)) (i := i) z.symm
    have b2 : (i : Int) < ((upto l (List.replicate l.length (Kd.zero dE)) i).length : Int) := by rw [hul, z]; omega
    have e1 : F9 (l[i], ()) = some (l[i], (), ()) := toEnt l[i].1 l[i].2.1 l[i].2.2 (hd _ (List.getElem_mem hi))
    have e2 := upto_set (a := l) (b := List.replicate l.length (Kd.zero dE)) (i := i) (v := l[i]) z.symm hi rfl
    simp only [L52_3B, b0, b1, decide_true, cond_true, Int.toNat_natCast, wnext (show i < 1048576 by omega), e0]
    rw [e1]
    simp only [obind_some]
    rw [hul, z]
    simp only [b1, decide_true, cond_true]
    rw [← e2]) (fun rec => by
    simp only [L52_3B, Int.lt_irrefl, decide_false, cond_false]
    rw [upto_end rfl z]) fuel 0 (by omega) (by simp only [fuel]; omega)
  have h' : L52_3 (l, 0, List.replicate l.length (Kd.zero dE), ()) = some (l, ()) := by
    have := h
    rw [upto_zero] at this
    exact this
  have h2 : ((l.length : Int) * ((40 : Nat) : Int)) ≤ (room : Nat) := by
    have h3 := rooms (n := l.length) (k := 40) (by omega) (by decide)
    have h4 : (l.length : Int) * ((40 : Nat) : Int) = ((l.length * 40 : Nat) : Int) := by simp
    rw [h4]
    omega
  simp only [F52, Int.toNat_natCast, h', h2, obind_some, decide_true, cond_true]
  simp

theorem eqEntS (l m : List Ent) (hl : l.length ≤ 1048576) (hd : ∀ x ∈ l, x.2.2.length ≤ 1048576) : F43 (l, m, ()) = some (decide (l = m), (), (), ()) := by
  by_cases hlm : l.length = m.length
  · have h := eq_rounds' (d := dE) (B := L43_4B) (fun x => x.2.2.length ≤ 1048576) l m hlm hl hd (fun rec i h0 h1 hq => by
      have w1 : IntKind.i64.wrap (i + 1) = i + 1 := i64_in _ (by omega)
      have h2 : i < (m.length : Int) := by omega
      have e : F11 (rd dE l i.toNat, rd dE m i.toNat, ()) = some (decide (rd dE l i.toNat = rd dE m i.toNat), (), (), ()) := eqEnt _ _ _ _ _ _ hq
      simp only [L43_4B, h0, h1, h2, decide_true, cond_true, w1]
      rw [e]
      constructor
      · intro he; simp [he]
      · intro he; simp [he]) (fun rec => by simp [L43_4B])
    have hl' : (l.length : Int) = m.length := by omega
    simp only [F43, hl', decide_true, Bool.not_true, cond_false, L43_4, h, obind_some]
    by_cases he : l = m <;> simp [he]
  · have hl' : ¬ (l.length : Int) = m.length := by omega
    have he : l ≠ m := fun e => hlm (by rw [e])
    simp [F43, hl', he]

theorem szEntS (l : List Ent) (k : Int) (hl : l.length ≤ maxLen) (hd : ∀ x ∈ l, x.2.2.length ≤ maxLen) (h0 : 0 ≤ k) (h1 : k ≤ 1048576) :
    (∃ q, F51 (l, k, ()) = some (q, (), (), ()) ∧ q < 0) ∨ (∃ q, F51 (l, k, ()) = some (q, (), (), ()) ∧ ¬ q < 0 ∧ l.length ≤ 1048576 ∧ ∀ x ∈ l, x.2.2.length ≤ 1048576) := by
  have hm : (maxLen : Int) = 9223372036854775807 := rfl
  have w0 : IntKind.i64.wrap (k - l.length) = k - l.length := i64_in _ (by omega)
  simp only [F51, w0]
  by_cases hk : k - (l.length : Int) < 0
  · left; exact ⟨-1, by simp [hk], by decide⟩
  · have hl' : l.length ≤ 1048576 := by omega
    simp only [hk, decide_false, cond_false]
    rcases sz_rounds (d := dE) (B := L51_5B) (fun x => x.2.2.length ≤ maxLen) (fun x => x.2.2.length ≤ 1048576) l hd hl' (fun rec k i h0 h1 h2 h3 h4 => by
      have w1 : IntKind.i64.wrap (i + 1) = i + 1 := i64_in _ (by omega)
      have e : F7 (rd dE l i.toNat, k, ()) = some ((if k < (rd dE l i.toNat).2.2.length then -1 else k - (rd dE l i.toNat).2.2.length : Int), (), (), ()) := szEnt _ _ _ k h4 h0 h1
      simp only [L51_5B, h2, h3, decide_true, cond_true, w1]
      rw [e]
      by_cases hk : k < ((rd dE l i.toNat).2.2.length : Int)
      · left; simp [hk]
      · right
        have : ¬ k - ((rd dE l i.toNat).2.2.length : Int) < 0 := by omega
        refine ⟨k - (rd dE l i.toNat).2.2.length, by omega, by omega, by omega, ?_⟩
        simp [hk, this]) (fun rec k => by simp [L51_5B]) (k - l.length) (by omega) (by omega) with h | ⟨k', h1, h2, h3, h4⟩
    · left
      refine ⟨-1, ?_, by decide⟩
      simp only [L51_5, h, obind_some]
    · right
      have : ¬ k' < 0 := by omega
      refine ⟨k', ?_, this, hl', h3⟩
      simp only [L51_5, h4, obind_some]

/-! ### Terms -/
open Classical in
noncomputable def entB (x : Ent) : Bool := decide (F10 (x, ()) = some (true, (), ()))
theorem entB_eq (x : Ent) (h : x.2.2.length ≤ 1048576) (hb : ∀ y ∈ x.2.2, 0 ≤ y ∧ y ≤ 255) : F10 (x, ()) = some (entB x, (), ()) ∧ F8 (x, ()) = some (entB x, (), ()) := by
  obtain ⟨v, e1, e2, _⟩ := entOk_both x.1 x.2.1 x.2.2 h hb
  have e1' : F10 (x, ()) = some (v, (), ()) := e1
  have e2' : F8 (x, ()) = some (v, (), ()) := e2
  have : entB x = v := by
    unfold entB
    rw [e1']
    cases v <;> simp
  rw [this]
  exact ⟨e1', e2'⟩

/-- The term that the i-th must not be below. -/
def lowAt (l : List Ent) (low : Int) : Nat → Int
  | 0 => low
  | i + 1 => (rd dE l i).1
def tGood (l : List Ent) (low high : Int) (i : Nat) : Prop := entB (rd dE l i) = true ∧ (lowAt l low i ≤ (rd dE l i).1 ∧ (rd dE l i).1 ≤ high)
open Classical in
noncomputable def termsB (l : List Ent) (low high : Int) : Bool := decide (∀ i, i < l.length → tGood l low high i)

theorem tChain {E : Type} {A : Bool} {P G : Prop} [Decidable P] [Decidable G] (hG : G ↔ A = true ∧ P) (R X : Option E) : cond (!A) X (cond (!decide P) X R) = if G then R else X := by
  by_cases hg : G
  · obtain ⟨h1, h2⟩ := hG.1 hg
    simp [hg, h1, h2]
  · rw [if_neg hg]
    cases A
    · rfl
    · by_cases h2 : P
      · exact absurd (hG.2 ⟨rfl, h2⟩) hg
      · simp [h2]

theorem termsI (l : List Ent) (low high : Int) (hl : l.length ≤ 1048576) (hd : ∀ x ∈ l, x.2.2.length ≤ 1048576) (hb : ∀ x ∈ l, ∀ y ∈ x.2.2, 0 ≤ y ∧ y ≤ 255) : F54 (l, low, high, ()) = some (termsB l low high, (), (), (), ()) := by
  classical
  have h := good_rounds (B := L54_2B) (fun i => (lowAt l low i, high, l, (l.length : Int), (i : Int), ())) l.length (tGood l low high) (.inl (false, ())) (.inr ()) hl (fun rec i hi => by
    have b1 : (i : Int) < (l.length : Int) := by omega
    have b0 : (0 : Int) ≤ (i : Int) := by omega
    have e0 : rd dE l i = l[i] := rd_lt hi
    have e1 := (entB_eq (rd dE l i) (by rw [e0]; exact hd _ (List.getElem_mem hi)) (by rw [e0]; exact hb _ (List.getElem_mem hi))).1
    have e2 : F10 (((rd dE l i).1, (rd dE l i).2.1, (rd dE l i).2.2), ()) = some (entB (rd dE l i), (), ()) := e1
    simp only [L54_2B, b0, b1, decide_true, cond_true, Int.toNat_natCast, wnext (show i < 1048576 by omega), e2, from_some _ _ _, obind_some]
    exact tChain (G := tGood l low high i) Iff.rfl _ _) (fun rec => by simp [L54_2B])
  have h' : L54_2 (low, high, l, (l.length : Int), 0, ()) = _ := h
  simp only [F54, h', obind_some, termsB]
  by_cases hg : ∀ i, i < l.length → tGood l low high i
  · rw [if_pos hg]
    show some (true, (), (), (), ()) = _
    congr 2
    exact (decide_eq_true hg).symm
  · rw [if_neg hg]
    show some (false, (), (), (), ()) = _
    congr 2
    exact (decide_eq_false hg).symm

theorem termsS (l : List Ent) (a b c d e : Int) (g g' : List Int) (sn : List Int) (hl : l.length ≤ 1048576) (hd : ∀ x ∈ l, x.2.2.length ≤ 1048576) (hb : ∀ x ∈ l, ∀ y ∈ x.2.2, 0 ≤ y ∧ y ≤ 255) :
    (termsB l a c = true → L22_5 (a, 0, c, b, d, e, g, g', sn, l, ()) = some (.inr ())) ∧ (termsB l a c = false → L22_5 (a, 0, c, b, d, e, g, g', sn, l, ()) = some (.inl (false, ()))) := by
  classical
  have h := good_rounds (B := L22_5B) (fun i => (lowAt l a i, (i : Int), c, b, d, e, g, g', sn, l, ())) l.length (tGood l a c) (.inl (false, ())) (.inr ()) hl (fun rec i hi => by
    have b1 : (i : Int) < (l.length : Int) := by omega
    have b0 : (0 : Int) ≤ (i : Int) := by omega
    have e0 : rd dE l i = l[i] := rd_lt hi
    have e1 := (entB_eq (rd dE l i) (by rw [e0]; exact hd _ (List.getElem_mem hi)) (by rw [e0]; exact hb _ (List.getElem_mem hi))).2
    have e2 : F8 (((rd dE l i).1, (rd dE l i).2.1, (rd dE l i).2.2), ()) = some (entB (rd dE l i), (), ()) := e1
    simp only [L22_5B, b0, b1, decide_true, cond_true, Int.toNat_natCast, wnext (show i < 1048576 by omega), e2, fromS _ _ _, obind_some]
    exact tChain (G := tGood l a c i) Iff.rfl _ _) (fun rec => by simp [L22_5B])
  have h' : L22_5 (a, 0, c, b, d, e, g, g', sn, l, ()) = _ := h
  constructor
  · intro ht
    have hg : ∀ i, i < l.length → tGood l a c i := by
      unfold termsB at ht
      exact of_decide_eq_true ht
    rw [h', if_pos hg]
  · intro ht
    have hg : ¬ ∀ i, i < l.length → tGood l a c i := by
      unfold termsB at ht
      exact of_decide_eq_false ht
    rw [h', if_neg hg]

/-! ### KeepOk -/
def KOk (T V B L : Int) (g g' sn : List Int) (l : List Ent) : Prop :=
  (0 ≤ T ∧ T ≤ 1000000) ∧ (0 ≤ V ∧ V ≤ 7) ∧ 0 ≤ B ∧ B + l.length ≤ 1000000 ∧ l.length ≤ 120 ∧ sn.length ≤ 20000 ∧ groupOk g g' = true ∧ (B = 0 → L = 0 ∧ sn.length = 0) ∧ (¬ B = 0 → 1 ≤ L ∧ L ≤ T) ∧ termsB l L T = true
open Classical in
noncomputable def keepB (T V B L : Int) (g g' sn : List Int) (l : List Ent) : Bool := decide (KOk T V B L g g' sn l)
theorem keepB_yes {T V B L : Int} {g g' sn : List Int} {l : List Ent} (h : KOk T V B L g g' sn l) : keepB T V B L g g' sn l = true := by
  classical
  unfold keepB
  exact decide_eq_true h
theorem keepB_no {T V B L : Int} {g g' sn : List Int} {l : List Ent} (h : ¬ KOk T V B L g g' sn l) : keepB T V B L g g' sn l = false := by
  classical
  unfold keepB
  exact decide_eq_false h

theorem keepI (T V B L : Int) (g g' sn : List Int) (l : List Ent) (hg : g.length ≤ 1048576) (hg' : g'.length ≤ 1048576) (hs : sn.length ≤ 1048576) (hl : l.length ≤ 1048576) (hd : ∀ x ∈ l, x.2.2.length ≤ 1048576) (hb : ∀ x ∈ l, ∀ y ∈ x.2.2, 0 ≤ y ∧ y ≤ 255) :
    F24 ((T, V, B, L, (g, g'), sn, l), ()) = some (keepB T V B L g g' sn l, (), ()) := by
  simp only [F24, from_some _ _ _, groupI g g' hg hg', termsI l L T hl hd hb, obind_some]
  by_cases c1 : 0 ≤ T ∧ T ≤ 1000000
  case neg => rw [keepB_no (fun h => c1 h.1)]; simp only [c1, decide_false, Bool.not_false, cond_true]
  by_cases c2 : 0 ≤ V ∧ V ≤ 7
  case neg => rw [keepB_no (fun h => c2 h.2.1)]; simp only [c1, c2, decide_true, decide_false, Bool.not_true, Bool.not_false, cond_true, cond_false, and_self]
  by_cases c3 : 0 ≤ B ∧ B ≤ 1000000
  case neg => rw [keepB_no (fun h => c3 ⟨h.2.2.1, by have := h.2.2.2.1; omega⟩)]; simp only [c1, c2, c3, decide_true, decide_false, Bool.not_true, Bool.not_false, cond_true, cond_false, and_self]
  simp only [c1, c2, c3, decide_true, Bool.not_true, cond_false, and_self]
  cases hgb : groupOk g g' with
  | false => rw [keepB_no (fun h => by have := h.2.2.2.2.2.2.1; rw [hgb] at this; cases this)]; rfl
  | true =>
    simp only [Bool.not_true, cond_false]
    by_cases c4 : (sn.length : Int) > 20000
    · rw [keepB_no (fun h => by have := h.2.2.2.2.2.1; omega)]; simp only [c4, decide_true, cond_true]
    simp only [c4, decide_false, cond_false]
    by_cases c5 : (l.length : Int) > 120
    · rw [keepB_no (fun h => by have := h.2.2.2.2.1; omega)]; simp only [c5, decide_true, cond_true]
    have w : IntKind.i64.wrap (B + (l.length : Int)) = B + (l.length : Int) := i64_in _ (by omega)
    simp only [c5, decide_false, cond_false, w]
    by_cases c6 : B + (l.length : Int) > 1000000
    · rw [keepB_no (fun h => by have := h.2.2.2.1; omega)]; simp only [c6, decide_true, cond_true]
    simp only [c6, decide_false, cond_false]
    by_cases c7 : B = 0
    · have c9 : ¬ B > 0 := by omega
      by_cases c8 : L = 0
      · by_cases c10 : (sn.length : Int) > 0
        · rw [keepB_no (fun h => by have := (h.2.2.2.2.2.2.2.1 c7).2; omega)]; simp only [c7, c8, c10, decide_true, Bool.not_true, cond_true, cond_false]
        · have c11 : sn.length = 0 := by omega
          cases ht : termsB l L T with
          | true =>
            rw [keepB_yes ⟨c1, c2, c3.1, by omega, by omega, by omega, hgb, fun _ => ⟨c8, by omega⟩, fun h => absurd c7 h, ht⟩]
            simp [c7, c8, c11]
          | false =>
            rw [keepB_no (fun h => by have := h.2.2.2.2.2.2.2.2.2; rw [ht] at this; cases this)]
            simp [c7, c8, c11]
      · rw [keepB_no (fun h => c8 (h.2.2.2.2.2.2.2.1 c7).1)]; simp only [c7, c8, decide_true, decide_false, Bool.not_false, cond_true]
    · have c9 : B > 0 := by omega
      by_cases c8 : 1 ≤ L ∧ L ≤ T
      · cases ht : termsB l L T with
        | true =>
          rw [keepB_yes ⟨c1, c2, c3.1, by omega, by omega, by omega, hgb, fun h => absurd h c7, fun _ => c8, ht⟩]
          simp [c7, c8, c9]
        | false =>
          rw [keepB_no (fun h => by have := h.2.2.2.2.2.2.2.2.2; rw [ht] at this; cases this)]
          simp [c7, c8, c9]
      · rw [keepB_no (fun h => c8 (h.2.2.2.2.2.2.2.2.1 c7))]
        simp only [c7, c8, c9, decide_true, decide_false, Bool.not_false, cond_true, cond_false]

theorem keepS (T V B L : Int) (g g' sn : List Int) (l : List Ent) (hg : g.length ≤ 1048576) (hg' : g'.length ≤ 1048576) (hs : sn.length ≤ 1048576) (hl : l.length ≤ 1048576) (hd : ∀ x ∈ l, x.2.2.length ≤ 1048576) (hb : ∀ x ∈ l, ∀ y ∈ x.2.2, 0 ≤ y ∧ y ≤ 255) :
    F22 ((T, V, B, L, (g, g'), sn, l), ()) = some (keepB T V B L g g' sn l, (), ()) := by
  have w : IntKind.i64.wrap (1000000 - (l.length : Int)) = 1000000 - (l.length : Int) := i64_in _ (by omega)
  obtain ⟨n1, n2⟩ := termsS l L V T B L g g' sn hl hd hb
  have hT : ∀ (k : (Bool × Unit) ⊕ Unit → Option (Bool × Unit × Unit)), L22_5 (L, 0, T, V, B, L, g, g', sn, l, ()) = some (if termsB l L T = true then .inr () else .inl (false, ())) := by
    intro _
    cases ht : termsB l L T with
    | true => rw [n1 ht]; rfl
    | false => rw [n2 ht]; rfl
  have hT' := hT (fun _ => none)
  simp only [F22, fromS _ _ _, groupS g g' hg hg', w, hT', obind_some]
  by_cases c1 : 0 ≤ T ∧ T ≤ 1000000
  case neg => rw [keepB_no (fun h => c1 h.1)]; simp only [c1, decide_false, Bool.not_false, cond_true]
  by_cases c2 : 0 ≤ V ∧ V ≤ 7
  case neg => rw [keepB_no (fun h => c2 h.2.1)]; simp only [c1, c2, decide_true, decide_false, Bool.not_true, Bool.not_false, cond_true, cond_false, and_self]
  by_cases c3 : 0 ≤ B ∧ B ≤ 1000000 - (l.length : Int)
  case neg => rw [keepB_no (fun h => c3 ⟨h.2.2.1, by have := h.2.2.2.1; omega⟩)]; simp only [c1, c2, c3, decide_true, decide_false, Bool.not_true, Bool.not_false, cond_true, cond_false, and_self]
  by_cases c4 : 0 ≤ L ∧ L ≤ T
  case neg =>
    rw [keepB_no (fun h => by
      by_cases c7 : B = 0
      · have := (h.2.2.2.2.2.2.2.1 c7).1; omega
      · have := h.2.2.2.2.2.2.2.2.1 c7; omega)]
    simp only [c1, c2, c3, c4, decide_true, decide_false, Bool.not_true, Bool.not_false, cond_true, cond_false, and_self]
  simp only [c1, c2, c3, c4, decide_true, Bool.not_true, cond_false, and_self]
  by_cases c5 : (B = 0 ↔ L = 0)
  case neg =>
    rw [keepB_no (fun h => c5 ⟨fun e => (h.2.2.2.2.2.2.2.1 e).1, fun e => by
      by_cases c7 : B = 0
      · exact c7
      · have := h.2.2.2.2.2.2.2.2.1 c7; omega⟩)]
    have : (decide (B = 0) == decide (L = 0)) = false := by
      by_cases a1 : B = 0 <;> by_cases a2 : L = 0 <;> simp_all
    simp only [this, Bool.not_false, cond_true]
  have e5 : (decide (B = 0) == decide (L = 0)) = true := by
    by_cases a1 : B = 0 <;> by_cases a2 : L = 0 <;> simp_all
  simp only [e5, Bool.not_true, cond_false]
  cases hgb : groupOk g g' with
  | false => rw [keepB_no (fun h => by have := h.2.2.2.2.2.2.1; rw [hgb] at this; cases this)]; rfl
  | true =>
    simp only [Bool.not_true, cond_false]
    by_cases c6 : (sn.length : Int) > 20000
    · rw [keepB_no (fun h => by have := h.2.2.2.2.2.1; omega)]; simp only [c6, decide_true, cond_true]
    simp only [c6, decide_false, cond_false]
    by_cases c7 : B = 0
    · subst c7
      simp only [decide_true, cond_true]
      by_cases c10 : (sn.length : Int) > 0
      · rw [keepB_no (fun h => by have := (h.2.2.2.2.2.2.2.1 rfl).2; omega)]; simp only [c10, decide_true, cond_true]
      · simp only [c10, decide_false, cond_false]
        by_cases c8 : (l.length : Int) > 120
        · rw [keepB_no (fun h => by have := h.2.2.2.2.1; omega)]; simp only [c8, decide_true, cond_true]
        · simp only [c8, decide_false, cond_false]
          cases ht : termsB l L T with
          | true =>
            rw [keepB_yes ⟨c1, c2, c3.1, by omega, by omega, by omega, hgb, fun e => ⟨c5.1 e, by omega⟩, fun e => absurd rfl e, ht⟩]
            simp
          | false =>
            rw [keepB_no (fun h => by have := h.2.2.2.2.2.2.2.2.2; rw [ht] at this; cases this)]
            simp
    · simp only [c7, decide_false, cond_false]
      by_cases c8 : (l.length : Int) > 120
      · rw [keepB_no (fun h => by have := h.2.2.2.2.1; omega)]; simp only [c8, decide_true, cond_true]
      · simp only [c8, decide_false, cond_false]
        have c9 : ¬ L = 0 := fun e => c7 (c5.2 e)
        cases ht : termsB l L T with
        | true =>
          rw [keepB_yes ⟨c1, c2, c3.1, by omega, by omega, by omega, hgb, fun e => absurd e c7, fun _ => ⟨by omega, c4.2⟩, ht⟩]
          simp
        | false =>
          rw [keepB_no (fun h => by have := h.2.2.2.2.2.2.2.2.2; rw [ht] at this; cases this)]
          simp

/-! ### The law -/
theorem szGroup2 (a b : List Int) (ha : a.length ≤ maxLen) (hb : b.length ≤ maxLen) : (∃ k, F12 ((a, b), 1048576, ()) = some (k, (), (), ()) ∧ k < 0) ∨ (∃ k : Int, F12 ((a, b), 1048576, ()) = some (k, (), (), ()) ∧ (0 ≤ k ∧ k ≤ 1048576) ∧ a.length ≤ 1048576 ∧ b.length ≤ 1048576) := by
  simp only [F12]
  rw [szIntS_eq a 1048576 ha (by decide) (by decide)]
  by_cases hk : (1048576 : Int) < a.length
  · left; exact ⟨-1, by simp [hk], by decide⟩
  · have e1 : ¬ (1048576 : Int) - a.length < 0 := by omega
    simp only [hk, if_false, obind_some, e1, decide_false, cond_false]
    rw [szIntS_eq b _ hb (by omega) (by omega)]
    by_cases hk2 : (1048576 : Int) - a.length < b.length
    · left; exact ⟨-1, by simp [hk2], by decide⟩
    · right
      have e2 : ¬ (1048576 : Int) - a.length - b.length < 0 := by omega
      exact ⟨(1048576 : Int) - a.length - b.length, by simp [hk2, e2], by omega, by omega, by omega⟩

theorem szKeep (T V B L : Int) (g g' sn : List Int) (l : List Ent) (hg : g.length ≤ maxLen) (hg' : g'.length ≤ maxLen) (hs : sn.length ≤ maxLen) (hl : l.length ≤ maxLen) (hd : ∀ x ∈ l, x.2.2.length ≤ maxLen) :
    (∃ k, F21 ((T, V, B, L, (g, g'), sn, l), 1048576, ()) = some (k, (), (), ()) ∧ k < 0) ∨ (∃ k, F21 ((T, V, B, L, (g, g'), sn, l), 1048576, ()) = some (k, (), (), ()) ∧ ¬ k < 0 ∧ g.length ≤ 1048576 ∧ g'.length ≤ 1048576 ∧ sn.length ≤ 1048576 ∧ l.length ≤ 1048576 ∧ ∀ x ∈ l, x.2.2.length ≤ 1048576) := by
  simp only [F21]
  rcases szGroup2 g g' hg hg' with ⟨k, e, hk⟩ | ⟨k, e, hk, h1, h2⟩
  · left; exact ⟨-1, by simp [e, hk], by decide⟩
  · have hk0 : ¬ k < 0 := by omega
    simp only [e, obind_some, hk0, decide_false, cond_false, szBytes sn k hs hk.1 (by omega)]
    by_cases hq : k < (sn.length : Int)
    · left; exact ⟨-1, by simp [hq], by decide⟩
    · have hq0 : ¬ k - (sn.length : Int) < 0 := by omega
      simp only [hq, if_false, hq0, decide_false, cond_false]
      rcases szEntS l (k - sn.length) hl hd (by omega) (by omega) with ⟨q, e2, h3⟩ | ⟨q, e2, h3, h4, h5⟩
      · left; exact ⟨-1, by simp [e2, h3], by decide⟩
      · right; exact ⟨q, by simp [e2, h3], h3, h1, h2, by omega, h4, h5⟩

theorem toKeep (T V B L : Int) (g g' sn : List Int) (l : List Ent) (hg : g.length ≤ 1048576) (hg' : g'.length ≤ 1048576) (hs : sn.length ≤ 1048576) (hl : l.length ≤ 1048576) (hd : ∀ x ∈ l, x.2.2.length ≤ 1048576) :
    F23 ((T, V, B, L, (g, g'), sn, l), ()) = some ((T, V, B, L, (g, g'), sn, l), (), ()) := by
  simp only [F23, toGroup_eq g g' hg hg', toBytes_eq sn hs, toEntS l hl hd, obind_some]
theorem eqKeep (T V B L : Int) (g g' sn : List Int) (l : List Ent) (hg : g.length ≤ 1048576) (hg' : g'.length ≤ 1048576) (hs : sn.length ≤ 1048576) (hl : l.length ≤ 1048576) (hd : ∀ x ∈ l, x.2.2.length ≤ 1048576) :
    F16 ((T, V, B, L, (g, g'), sn, l), (T, V, B, L, (g, g'), sn, l), ()) = some (true, (), (), ()) := by
  simp only [F16, eqGroup_eq g g' g g' hg hg', eqBytes_eq sn sn hs, eqEntS l l hl hd, obind_some]
  simp

theorem FnExactKeepOk_pure : ∀ x, OkA [dK] x → ∃ u, F5 x = some (true, u) := by
  rintro ⟨⟨T, V, B, L, ⟨g, g'⟩, sn, l⟩, _⟩ ⟨⟨_, _, _, _, ⟨⟨h1, _⟩, ⟨h2, _⟩⟩, ⟨h3, _⟩, ⟨h4, h5⟩⟩, _⟩
  simp only [F5]
  rcases szKeep T V B L g g' sn l h1 h2 h3 h4 (fun x hx => (h5 x hx).2.2.1) with ⟨k, e, hk⟩ | ⟨k, e, hk, hg, hg', hs, hl, hd⟩
  · simp [e, hk]
  · have hb : ∀ x ∈ l, ∀ y ∈ x.2.2, 0 ≤ y ∧ y ≤ 255 := fun x hx y hy => byte_ok ((h5 x hx).2.2.2 y hy)
    simp only [e, obind_some, hk, decide_false, cond_false, toKeep T V B L g g' sn l hg hg' hs hl hd, keepI T V B L g g' sn l hg hg' hs hl hd hb, keepS T V B L g g' sn l hg hg' hs hl hd hb, eqKeep T V B L g g' sn l hg hg' hs hl hd]
    exact ⟨((), ()), by simp⟩

end Go.Nu

/- What the functions of the groups answer, in plain Lean: 'Settled', 'PutGroup', 'Joint', 'GetGroup'. -/
import Derived.Test.YtpdlpglcnmefpaaNuZh
import Derived.KernelRfl
import Derived.Test.YtpdlpglcnmefpaaNuFns
namespace Go.Nu
open Go.IntWalk
set_option linter.unusedVariables false
set_option linter.unusedSimpArgs false

theorem toIntS_eq (l : List Int) (h : l.length ≤ 1048576) : F18 (l, ()) = some (l, (), ()) := toS_eq (.int .i64) 8 (by decide) l h
theorem eqIntS_eq (l m : List Int) (h : l.length ≤ 1048576) : F20 (l, m, ()) = some (decide (l = m), (), (), ()) := eqS_eq .i64 l m h
theorem szIntS_eq (l : List Int) (k : Int) (h : l.length ≤ maxLen) (h0 : 0 ≤ k) (h1 : k ≤ 9223372036854775807) : F45 (l, k, ()) = some (if k < l.length then -1 else k - l.length, (), (), ()) := szS_eq l k h h0 h1
theorem toBytes_eq (l : List Int) (h : l.length ≤ 1048576) : F34 (l, ()) = some (l, (), ()) := toS_eq (.int .u8) 1 (by decide) l h
theorem eqBytes_eq (l m : List Int) (h : l.length ≤ 1048576) : F27 (l, m, ()) = some (decide (l = m), (), (), ()) := eqS_eq .u8 l m h
theorem sameBytes_eq (l m : List Int) (h : l.length ≤ 1048576) : F58 (l, m, ()) = some (decide (l = m), (), (), ()) := eqS_eq .u8 l m h
theorem sameInts_eq (l m : List Int) (h : l.length ≤ 1048576) : F55 (l, m, ()) = some (decide (l = m), (), (), ()) := eqS_eq .i64 l m h

theorem szGroup_cases (a b : List Int) (ha : a.length ≤ maxLen) (hb : b.length ≤ maxLen) : (∃ k, F12 ((a, b), 1048576, ()) = some (k, (), (), ()) ∧ k < 0) ∨ (∃ k, F12 ((a, b), 1048576, ()) = some (k, (), (), ()) ∧ ¬ k < 0 ∧ a.length ≤ 1048576 ∧ b.length ≤ 1048576) := by
  simp only [F12]
  rw [szIntS_eq a 1048576 ha (by decide) (by decide)]
  by_cases hk : (1048576 : Int) < a.length
  · left; exact ⟨-1, by simp [hk], by decide⟩
  · have e1 : ¬ (1048576 : Int) - a.length < 0 := by omega
    simp only [hk, if_false, obind_some, e1, decide_false, cond_false]
    rw [szIntS_eq b _ hb (by omega) (by omega)]
    by_cases hk2 : (1048576 : Int) - a.length < b.length
    · left; exact ⟨-1, by simp [hk2], by decide⟩
    · right
      have e2 : ¬ (1048576 : Int) - a.length - b.length < 0 := by omega
      exact ⟨(1048576 : Int) - a.length - b.length, by simp [hk2, e2], e2, by omega, by omega⟩

theorem toGroup_eq (a b : List Int) (ha : a.length ≤ 1048576) (hb : b.length ≤ 1048576) : F14 ((a, b), ()) = some ((a, b), (), ()) := by
  simp only [F14, toIntS_eq a ha, toIntS_eq b hb, obind_some]
theorem eqGroup_eq (a b c d : List Int) (ha : a.length ≤ 1048576) (hb : b.length ≤ 1048576) : F16 ((a, b), (c, d), ()) = some (decide ((a, b) = (c, d)), (), (), ()) := by
  simp only [F16, eqIntS_eq a c ha, eqIntS_eq b d hb, obind_some]
  by_cases h1 : a = c <;> by_cases h2 : b = d <;> simp [h1, h2]

theorem markIntS (a : List Int) (k : Int) (ha : a.length ≤ 1048576) (hk : 0 < k) (hk' : k ≤ 1099511627776) : F32 (a, k, ()) = some (k + a.length, mkL 1 (fun k => k) k a.length, (), ()) := by
  have h := mark_rounds (d := .int .i64) (B := L32_2B) 1 (fun k => k) (by decide) (fun rec k i l h1 h2 h3 h4 h5 => by
    have w1 : IntKind.i64.wrap (k + 1) = k + 1 := i64_in _ (by omega)
    have w2 : IntKind.i64.wrap (i + 1) = i + 1 := i64_in _ (by omega)
    simp only [L32_2B, h3, h4, w1, w2, decide_true, cond_true]) (fun rec k l => by
    simp [L32_2B]) a k ha hk hk'
  simp only [F32, L32_2, h, obind_some, Int.one_mul]
theorem heldIntS (n : Nat) (k : Int) (ha : n ≤ 1048576) (hk : 0 < k) (hk' : k ≤ 1099511627776) : F38 (mkL 1 (fun k => k) k n, k, ()) = some (k + n, (), (), ()) := by
  have h := held_rounds (d := .int .i64) (B := L38_2B) 1 (fun k => k) (by decide) (fun rec k i l h1 h2 h3 h4 h5 h6 => by
    have w1 : IntKind.i64.wrap (k + 1) = k + 1 := i64_in _ (by omega)
    have w2 : IntKind.i64.wrap (i + 1) = i + 1 := i64_in _ (by omega)
    simp only [L38_2B, h3, h4, h6, w1, w2, decide_true, cond_true, Bool.not_true, cond_false]) (fun rec k l => by
    simp [L38_2B]) n k ha hk hk'
  simp only [F38, L38_2, h, obind_some, Int.one_mul]
theorem markBytes (a : List Int) (k : Int) (ha : a.length ≤ 1048576) (hk : 0 < k) (hk' : k ≤ 1099511627776) : F28 (a, k, ()) = some (k + a.length, mkL 1 (fun k => IntKind.u8.wrap k) k a.length, (), ()) := by
  have h := mark_rounds (d := .int .u8) (B := L28_2B) 1 (fun k => IntKind.u8.wrap k) (by decide) (fun rec k i l h1 h2 h3 h4 h5 => by
    have w1 : IntKind.i64.wrap (k + 1) = k + 1 := i64_in _ (by omega)
    have w2 : IntKind.i64.wrap (i + 1) = i + 1 := i64_in _ (by omega)
    simp only [L28_2B, h3, h4, w1, w2, decide_true, cond_true]) (fun rec k l => by
    simp [L28_2B]) a k ha hk hk'
  simp only [F28, L28_2, h, obind_some, Int.one_mul]
theorem heldBytes (n : Nat) (k : Int) (ha : n ≤ 1048576) (hk : 0 < k) (hk' : k ≤ 1099511627776) : F29 (mkL 1 (fun k => IntKind.u8.wrap k) k n, k, ()) = some (k + n, (), (), ()) := by
  have h := held_rounds (d := .int .u8) (B := L29_2B) 1 (fun k => IntKind.u8.wrap k) (by decide) (fun rec k i l h1 h2 h3 h4 h5 h6 => by
    have w1 : IntKind.i64.wrap (k + 1) = k + 1 := i64_in _ (by omega)
    have w2 : IntKind.i64.wrap (i + 1) = i + 1 := i64_in _ (by omega)
    simp only [L29_2B, h3, h4, h6, w1, w2, decide_true, cond_true, Bool.not_true, cond_false]) (fun rec k l => by
    simp [L29_2B]) n k ha hk hk'
  simp only [F29, L29_2, h, obind_some, Int.one_mul]

/-- A group's marks, and what is held of them. -/
theorem markGroup (a b : List Int) (ha : a.length ≤ 1048576) (hb : b.length ≤ 1048576) : ∃ (k : Int) (x y : List Int), 0 < k ∧ k ≤ 4194304 ∧ F23 ((a, b), 1, ()) = some (k, (x, y), (), ()) ∧ F24 ((x, y), 1, ()) = some (k, (), (), ()) := by
  have e1 : ¬ (1 : Int) + a.length < 0 := by omega
  have e2 : ¬ (1 : Int) + a.length + b.length < 0 := by omega
  refine ⟨1 + a.length + b.length, mkL 1 (fun k => k) 1 a.length, mkL 1 (fun k => k) (1 + a.length) b.length, by omega, by omega, ?_, ?_⟩
  · simp only [F23, markIntS a 1 ha (by decide) (by decide), markIntS b (1 + a.length) hb (by omega) (by omega), obind_some]
  · simp only [F24, heldIntS a.length 1 ha (by decide) (by decide), heldIntS b.length (1 + a.length) hb (by omega) (by omega), obind_some, e1, e2, decide_false, cond_false]

/-! ### Ids -/
def iGood (l : List Int) (i : Nat) : Prop := (1 ≤ rd (.int .i64) l i ∧ (rd (.int .i64) l i : Int) ≤ 7) ∧ ((i : Int) > 0 → ¬ (rd (.int .i64) l ((i : Int) - 1).toNat : Int) ≥ rd (.int .i64) l i)
open Classical in
noncomputable def idsB (l : List Int) : Bool := decide (∀ i, i < l.length → iGood l i)

theorem iChain {E : Type} {P1 P2 P3 P4 Q1 Q2 G : Prop} [Decidable P1] [Decidable P2] [Decidable P3] [Decidable P4] [Decidable Q1] [Decidable Q2] [Decidable G] (h1 : P3 → Q1) (h2 : P3 → Q2) (hG : G ↔ (P1 ∧ P2) ∧ (P3 → ¬ P4)) (R X : Option E) :
    cond (!decide (P1 ∧ P2)) X (cond (decide P3) (cond (decide Q1) (cond (decide Q2) (cond (decide P4) X R) none) none) R) = if G then R else X := by
  have e : (if G then R else X) = if (P1 ∧ P2) ∧ (P3 → ¬ P4) then R else X := by
    by_cases hg : G
    · rw [if_pos hg, if_pos (hG.1 hg)]
    · rw [if_neg hg, if_neg (fun h => hg (hG.2 h))]
  rw [e]
  by_cases p3 : P3
  · have q1 := h1 p3
    have q2 := h2 p3
    by_cases p1 : P1 <;> by_cases p2 : P2 <;> by_cases p4 : P4 <;> simp [*]
  · by_cases p1 : P1 <;> by_cases p2 : P2 <;> simp [*]

theorem fromS (x a b : Int) : F67 (x, a, b, ()) = some (decide (a ≤ x ∧ x ≤ b), (), (), (), ()) := by
  simp only [F67]
  by_cases h : x ≥ a
  · have h' : a ≤ x := h
    simp [h, h']
  · have h' : ¬ a ≤ x := h
    simp [h, h']
theorem fromI (x a b : Int) : F75 (x, a, b, ()) = some (decide (a ≤ x ∧ x ≤ b), (), (), (), ()) := fromS x a b
theorem isNode_eq (x : Int) : F68 (x, ()) = some (decide (1 ≤ x ∧ x ≤ 7), (), ()) := by
  simp only [F68, fromI _ _ _, obind_some]

theorem idsS (l : List Int) (hl : l.length ≤ 1048576) : F46 (l, ()) = some (idsB l, (), ()) := by
  classical
  have h := good_rounds (B := L46_2B) (fun i => (l, (i : Int), ())) l.length (iGood l) (.inl (false, ())) (.inr ()) hl (fun rec i hi => by
    have b1 : (i : Int) < (l.length : Int) := by omega
    have b0 : (0 : Int) ≤ (i : Int) := by omega
    simp only [L46_2B, fromS _ _ _, obind_some, b0, b1, decide_true, cond_true, Int.toNat_natCast, wnext (show i < 1048576 by omega), wprev (show i < 1048576 by omega)]
    exact iChain (G := iGood l i) (by omega) (by omega) Iff.rfl _ _) (fun rec => by simp [L46_2B])
  have h' : L46_2 (l, 0, ()) = _ := h
  simp only [F46, h', obind_some, idsB]
  by_cases hg : ∀ i, i < l.length → iGood l i
  · rw [if_pos hg]
    show some (true, (), ()) = _
    congr 2
    exact (decide_eq_true hg).symm
  · rw [if_neg hg]
    show some (false, (), ()) = _
    congr 2
    exact (decide_eq_false hg).symm
theorem idsI (l : List Int) (hl : l.length ≤ 1048576) : F47 (l, ()) = some (idsB l, (), ()) := by
  classical
  have h := good_rounds (B := L47_2B) (fun i => (l, l, (l.length : Int), (i : Int), ())) l.length (iGood l) (.inl (false, ())) (.inr ()) hl (fun rec i hi => by
    have b1 : (i : Int) < (l.length : Int) := by omega
    have b0 : (0 : Int) ≤ (i : Int) := by omega
    simp only [L47_2B, isNode_eq _, obind_some, b0, b1, decide_true, cond_true, Int.toNat_natCast, wnext (show i < 1048576 by omega), wprev (show i < 1048576 by omega)]
    exact iChain (G := iGood l i) (by omega) (by omega) Iff.rfl _ _) (fun rec => by simp [L47_2B])
  have h' : L47_2 (l, l, (l.length : Int), 0, ()) = _ := h
  simp only [F47, h', obind_some, idsB]
  by_cases hg : ∀ i, i < l.length → iGood l i
  · rw [if_pos hg]
    show some (true, (), ()) = _
    congr 2
    exact (decide_eq_true hg).symm
  · rw [if_neg hg]
    show some (false, (), ()) = _
    congr 2
    exact (decide_eq_false hg).symm

noncomputable def groupOk (a b : List Int) : Bool := idsB a && (idsB b && decide (0 < a.length))
theorem groupS (a b : List Int) (ha : a.length ≤ 1048576) (hb : b.length ≤ 1048576) : F13 ((a, b), ()) = some (groupOk a b, (), ()) := by
  simp only [F13, idsS a ha, idsS b hb, obind_some, groupOk]
  cases idsB a <;> cases idsB b <;> simp
theorem groupI (a b : List Int) (ha : a.length ≤ 1048576) (hb : b.length ≤ 1048576) : F15 ((a, b), ()) = some (groupOk a b, (), ()) := by
  simp only [F15, idsI a ha, idsI b hb, obind_some, groupOk]
  cases idsB a <;> cases idsB b <;> simp

theorem clone_eq (a : List Int) (h : a.length ≤ 4194304) : F52 (a, ()) = some (a, (), ()) := clone_gen a 8 (rooms h (by decide))
theorem copyI (a b : List Int) (ha : a.length ≤ 4194304) (hb : b.length ≤ 4194304) : F51 ((a, b), ()) = some ((a, b), (), ()) := by
  simp only [F51, clone_eq a ha, clone_eq b hb, obind_some]
theorem copyS (a b : List Int) (ha : a.length ≤ 4194304) (hb : b.length ≤ 4194304) : F50 ((a, b), ()) = some ((a, b), (), ()) := by
  have h1 : (0 + a.length) * 8 ≤ room := by simpa using rooms (k := 8) ha (by decide)
  have h2 : (0 + b.length) * 8 ≤ room := by simpa using rooms (k := 8) hb (by decide)
  simp only [F50, List.length_nil, h1, h2, decide_true, cond_true]

noncomputable def settled (a b : List Int) : (List Int × List Int) × Bool := if groupOk a b = true ∧ b.length ≠ 0 then ((b, []), true) else ((a, b), false)
theorem settledS (a b : List Int) (ha : a.length ≤ 1048576) (hb : b.length ≤ 1048576) : F21 ((a, b), ()) = some (settled a b, (), ()) := by
  have h2 : (0 + b.length) * 8 ≤ room := by simpa using rooms (n := b.length) (k := 8) (by omega) (by decide)
  simp only [F21, groupS a b ha hb, copyS a b (by omega) (by omega), obind_some, settled]
  cases groupOk a b with
  | false => simp
  | true =>
    by_cases h0 : b.length = 0
    · have h0' : (b.length : Int) = 0 := by omega
      simp [h0', h0]
    · have h0' : ¬ (b.length : Int) = 0 := by omega
      simp only [h0', decide_false, cond_false, List.length_nil, h2, decide_true, cond_true, Bool.not_true, true_and, ne_eq, h0, not_false_iff, if_true]
theorem settledI (a b : List Int) (ha : a.length ≤ 1048576) (hb : b.length ≤ 1048576) : F22 ((a, b), ()) = some (settled a b, (), ()) := by
  simp only [F22, groupI a b ha hb, copyI a b (by omega) (by omega), clone_eq b (by omega), obind_some, settled]
  cases groupOk a b with
  | false => simp
  | true =>
    by_cases h0 : b.length = 0
    · have h0' : (b.length : Int) = 0 := by omega
      simp [h0', h0]
    · have h0' : ¬ (b.length : Int) = 0 := by omega
      simp only [h0', decide_false, cond_false, Bool.not_true, true_and, ne_eq, h0, not_false_iff, if_true]

theorem FnExactSettled_pure : ∀ x, OkA [.pr (.sl (.int .i64)) (.sl (.int .i64))] x → ∃ u, F5 x = some (true, u) := by
  rintro ⟨⟨a, b⟩, _⟩ ⟨⟨⟨h1, _⟩, ⟨h2, _⟩⟩, _⟩
  simp only [F5]
  rcases szGroup_cases a b h1 h2 with ⟨k, e, hk⟩ | ⟨k, e, hk, ha, hb⟩
  · simp [e, hk]
  · obtain ⟨⟨⟨c, d⟩, v⟩, hr⟩ : ∃ p, settled a b = p := ⟨_, rfl⟩
    have hcd : c.length ≤ 1048576 ∧ d.length ≤ 1048576 := by
      unfold settled at hr
      split at hr
      · cases hr; exact ⟨hb, by simp⟩
      · cases hr; exact ⟨ha, hb⟩
    obtain ⟨m1, x1, y1, b1, _, e1, _⟩ := markGroup a b ha hb
    obtain ⟨m2, x2, y2, b2, _, e2, e3⟩ := markGroup c d hcd.1 hcd.2
    have n1 : ¬ m1 < 0 := by omega
    have n2 : ¬ m2 < 0 := by omega
    simp only [e, obind_some, hk, decide_false, cond_false, toGroup_eq a b ha hb, settledS a b ha hb, settledI a b ha hb, hr, eqGroup_eq c d c d hcd.1 hcd.2, eqGroup_eq a b a b ha hb, e1, e2, e3, n1, n2, decide_true, Bool.not_true]
    cases v <;> first | exact ⟨((), ()), rfl⟩ | exact ⟨((), ()), by simp⟩

end Go.Nu

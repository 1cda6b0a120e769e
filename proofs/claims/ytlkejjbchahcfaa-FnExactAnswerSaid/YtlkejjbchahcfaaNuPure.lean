/- What the functions of the desk answer, in plain Lean. -/
import Derived.Test.YtlkejjbchahcfaaNuZh
import Derived.Test.YtlkejjbchahcfaaNuFns
namespace Go.Nu
open Go.IntWalk
set_option linter.unusedVariables false
set_option linter.unusedSimpArgs false

abbrev dS : Kd := .pr (.int .i64) (.pr (.int .i64) (.pr (.str) (.int .i64)))
abbrev Ses := Int × Int × ByteArray × Int
/-! ### The laws' own functions -/
theorem eqSes (x y : Ses) : F57 (x, y, ()) = some (decide (x = y), (), (), ()) := by
  obtain ⟨a, b, c, d⟩ := x
  obtain ⟨a', b', c', d'⟩ := y
  simp only [F57, strEq]
  by_cases h1 : a = a' <;> by_cases h2 : b = b' <;> by_cases h3 : c = c' <;> by_cases h4 : d = d' <;> simp [h1, h2, h3, h4]

theorem eqSesS (l m : List Ses) (hl : l.length ≤ 1048576) : F39 (l, m, ()) = some (decide (l = m), (), (), ()) := by
  by_cases hlm : l.length = m.length
  · have h := eq_rounds' (d := dS) (B := L39_4B) (fun _ => True) l m hlm hl (fun _ _ => trivial) (fun rec i h0 h1 _ => by
      have w1 : IntKind.i64.wrap (i + 1) = i + 1 := i64_in _ (by omega)
      have h2 : i < (m.length : Int) := by omega
      have e := eqSes (rd dS l i.toNat) (rd dS m i.toNat)
      simp only [L39_4B, h0, h1, h2, decide_true, cond_true, w1]
      rw [e]
      constructor
      · intro he; simp [he]
      · intro he; simp [he]) (fun rec => by simp [L39_4B])
    have hl' : (l.length : Int) = m.length := by omega
    simp only [F39, hl', decide_true, Bool.not_true, cond_false, L39_4, h, obind_some]
    by_cases he : l = m <;> simp [he]
  · have hl' : ¬ (l.length : Int) = m.length := by omega
    have he : l ≠ m := fun e => hlm (by rw [e])
    simp [F39, hl', he]

theorem eqDesk (l m : List Ses) (n k : Int) (hl : l.length ≤ 1048576) : F15 ((l, n), (m, k), ()) = some (decide ((l, n) = (m, k)), (), (), ()) := by
  simp only [F15, eqSesS l m hl, obind_some]
  by_cases h1 : l = m <;> by_cases h2 : n = k <;> simp [h1, h2]

theorem toSesS (l : List Ses) (hl : l.length ≤ 1048576) : F36 (l, ()) = some (l, (), ()) := toS_eq dS 40 (by decide) l hl
theorem toDesk (l : List Ses) (n : Int) (hl : l.length ≤ 1048576) : F13 ((l, n), ()) = some ((l, n), (), ()) := by
  simp only [F13, toSesS l hl, obind_some]

theorem szSes (x : Ses) (k : Int) (hx : x.2.2.1.size ≤ maxLen) (h0 : 0 ≤ k) (h1 : k ≤ 1048576) : F55 (x, k, ()) = some (if k < x.2.2.1.size then -1 else k - x.2.2.1.size, (), (), ()) := by
  have hm : (maxLen : Int) = 9223372036854775807 := rfl
  have w1 : IntKind.i64.wrap (k - x.2.2.1.size) = k - x.2.2.1.size := i64_in _ (by omega)
  simp only [F55, w1]
  by_cases hk : k < x.2.2.1.size
  · have : k - (x.2.2.1.size : Int) < 0 := by omega
    simp [this, hk]
  · have : ¬ k - (x.2.2.1.size : Int) < 0 := by omega
    simp [this, hk]

theorem szDesk (l : List Ses) (n : Int) (hl : l.length ≤ maxLen) (hO : ∀ x ∈ l, x.2.2.1.size ≤ maxLen) :
    (∃ k, F11 ((l, n), 1048576, ()) = some (k, (), (), ()) ∧ k < 0) ∨ (∃ k, F11 ((l, n), 1048576, ()) = some (k, (), (), ()) ∧ ¬ k < 0 ∧ l.length ≤ 1048576 ∧ ∀ x ∈ l, x.2.2.1.size ≤ 1048576) := by
  have hm : (maxLen : Int) = 9223372036854775807 := rfl
  have w0 : IntKind.i64.wrap (1048576 - l.length) = 1048576 - l.length := i64_in _ (by omega)
  simp only [F11, F34, w0]
  by_cases hk : (1048576 : Int) - l.length < 0
  · left; exact ⟨-1, by simp [hk], by decide⟩
  · have hl' : l.length ≤ 1048576 := by omega
    simp only [hk, decide_false, cond_false]
    rcases sz_rounds (d := dS) (B := L34_5B) (fun x => x.2.2.1.size ≤ maxLen) (fun x => x.2.2.1.size ≤ 1048576) l hO hl' (fun rec k i h0 h1 h2 h3 h4 => by
      have w1 : IntKind.i64.wrap (i + 1) = i + 1 := i64_in _ (by omega)
      have e := szSes (rd dS l i.toNat) k h4 h0 h1
      simp only [L34_5B, h2, h3, decide_true, cond_true, w1]
      rw [e]
      by_cases hk : k < (rd dS l i.toNat).2.2.1.size
      · left; simp [hk]
      · right
        have : ¬ k - ((rd dS l i.toNat).2.2.1.size : Int) < 0 := by omega
        refine ⟨k - (rd dS l i.toNat).2.2.1.size, by omega, by omega, by omega, ?_⟩
        simp [hk, this]) (fun rec k => by simp [L34_5B]) (1048576 - l.length) (by omega) (by omega) with h | ⟨k', h1, h2, h3, h4⟩
    · left
      refine ⟨-1, ?_, by decide⟩
      simp only [L34_5, h, obind_some]
      rfl
    · right
      have : ¬ k' < 0 := by omega
      refine ⟨k', ?_, this, hl', h3⟩
      simp only [L34_5, h4, obind_some, this, decide_false, cond_false]

/-- The text of a mark. -/
noncomputable def mt (k : Int) : ByteArray := ((F61 (k, ())).map fun x => x.1).getD ByteArray.empty
theorem mt_eq (k : Int) (h0 : 0 ≤ k) (h1 : k ≤ 2251799813685248) : F61 (k, ()) = some (mt k, (), ()) := by
  obtain ⟨r, h⟩ := mt_some k h0 h1 (ByteArray.mk #[]) (ByteArray.mk #[(109 : UInt8)]) (ByteArray.mk #[(109 : UInt8), (48 : UInt8)]) rfl rfl
  have h' : F61 (k, ()) = some (r, (), ()) := h
  unfold mt
  rw [h']
  rfl
noncomputable def mkS (k : Int) : Ses := (k, k + 1, mt (k + 2), k + 3)

theorem markSes (l : List Ses) (k : Int) (hl : l.length ≤ 1048576) (hk : 0 < k) (hk' : k ≤ 1099511627776) : F44 (l, k, ()) = some (k + 4 * (l.length : Nat), mkL 4 mkS k l.length, (), ()) := by
  have h := mark_rounds (d := dS) (B := L44_2B) 4 mkS (by decide) (fun rec k i l h1 h2 h3 h4 h5 => by
    have w0 : IntKind.i64.wrap (i + 1) = i + 1 := i64_in _ (by omega)
    have w1 : IntKind.i64.wrap (k + 1) = k + 1 := i64_in _ (by omega)
    have w2 : IntKind.i64.wrap (k + 1 + 1) = k + 2 := by rw [i64_in _ (by omega)]; omega
    have w3 : IntKind.i64.wrap (k + 2 + 1) = k + 3 := by rw [i64_in _ (by omega)]; omega
    have w4 : IntKind.i64.wrap (k + 3 + 1) = k + 4 := by rw [i64_in _ (by omega)]; omega
    have hi : i.toNat < l.length := by omega
    simp only [L44_2B, h3, h4, w0, w1, w2, w3, w4, decide_true, cond_true, List.length_set, List.set_set, rd_set (d := dS) hi, mt_eq (k + 2) (by omega) (by omega), obind_some]
    rfl) (fun rec k l => by simp [L44_2B]) l k hl hk hk'
  simp only [F44, L44_2, h, obind_some]
theorem heldSes (n : Nat) (k : Int) (hl : n ≤ 1048576) (hk : 0 < k) (hk' : k ≤ 1099511627776) : F45 (mkL 4 mkS k n, k, ()) = some (k + 4 * (n : Nat), (), (), ()) := by
  have h := held_rounds (d := dS) (B := L45_2B) 4 mkS (by decide) (fun rec k i l h1 h2 h3 h4 h5 h6 => by
    have w0 : IntKind.i64.wrap (i + 1) = i + 1 := i64_in _ (by omega)
    have w1 : IntKind.i64.wrap (k + 1) = k + 1 := i64_in _ (by omega)
    have w2 : IntKind.i64.wrap (k + 1 + 1) = k + 2 := by rw [i64_in _ (by omega)]; omega
    have w3 : IntKind.i64.wrap (k + 2 + 1) = k + 3 := by rw [i64_in _ (by omega)]; omega
    have w4 : IntKind.i64.wrap (k + 3 + 1) = k + 4 := by rw [i64_in _ (by omega)]; omega
    simp only [L45_2B, h3, h4, h6, mkS, w0, w1, w2, w3, w4, decide_true, cond_true, cond_false, Bool.not_true, mt_eq (k + 2) (by omega) (by omega), obind_some, strEq]) (fun rec k l => by simp [L45_2B]) n k hl hk hk'
  simp only [F45, L45_2, h, obind_some]
theorem markDesk (l : List Ses) (n k : Int) (hl : l.length ≤ 1048576) (hk : 0 < k) (hk' : k ≤ 1099511627776) : ∃ z, F20 ((l, n), k, ()) = some (k + 4 * (l.length : Nat), (mkL 4 mkS k l.length, z), (), ()) := by
  simp only [F20, markSes l k hl hk hk', obind_some]
  exact ⟨_, rfl⟩
theorem heldDesk (m : Nat) (n k : Int) (hl : m ≤ 1048576) (hk : 0 < k) (hk' : k ≤ 1099511627776) : F21 ((mkL 4 mkS k m, n), k, ()) = some (k + 4 * (m : Nat), (), (), ()) := by
  have : ¬ k + 4 * (m : Nat) < 0 := by omega
  simp only [F21, heldSes m k hl hk hk', obind_some, this, decide_false, cond_false]

/-! ### DeskOk -/
theorem fromI (x a b : Int) : F37 (x, a, b, ()) = some (decide (a ≤ x ∧ x ≤ b), (), (), (), ()) := by
  simp only [F37]
  by_cases h : x ≥ a
  · have h' : a ≤ x := h
    simp [h, h']
  · have h' : ¬ a ≤ x := h
    simp [h, h']
theorem fromS (x a b : Int) : F35 (x, a, b, ()) = some (decide (a ≤ x ∧ x ≤ b), (), (), (), ()) := fromI x a b
theorem timeI (x : Int) : F38 (x, ()) = some (decide (0 ≤ x ∧ x ≤ 1000000000), (), ()) := by
  simp only [F38, fromI _ _ _, obind_some]

def sGood (l : List Ses) (next : Int) (i : Nat) : Prop :=
  (1 ≤ (rd dS l i).1 ∧ (rd dS l i).1 ≤ IntKind.i64.wrap (next - 1)) ∧ (0 ≤ (rd dS l i).2.1 ∧ (rd dS l i).2.1 ≤ 1000000) ∧ ¬ ((rd dS l i).2.2.1.size : Int) > 200 ∧
    ((rd dS l i).2.1 = 0 → (rd dS l i).2.2.1 = ByteArray.mk #[]) ∧ (0 ≤ (rd dS l i).2.2.2 ∧ (rd dS l i).2.2.2 ≤ 1000000000) ∧ ((i : Int) > 0 → ¬ (rd dS l ((i : Int) - 1).toNat).1 ≥ (rd dS l i).1)

open Classical in
noncomputable def deskOk (l : List Ses) (next : Int) : Bool := decide ((∀ i, i < l.length → sGood l next i) ∧ l.length ≤ 12 ∧ 1 ≤ next ∧ next ≤ 1000000)

theorem sChain {E : Type} {P1 P2 P3 P4 P5 P6 P7 P8 Q1 Q2 G : Prop} [Decidable P1] [Decidable P2] [Decidable P3] [Decidable P4] [Decidable P5] [Decidable P6] [Decidable P7] [Decidable P8] [Decidable Q1] [Decidable Q2] [Decidable G]
    (h1 : P6 → Q1) (h2 : P6 → Q2) (hG : G ↔ P1 ∧ P2 ∧ ¬ P3 ∧ (P5 → P8) ∧ P4 ∧ (P6 → ¬ P7)) (R X : Option E) :
    cond (!decide P1) X (cond (!decide P2) X (cond (decide P3) X (cond (decide P5) (cond (!decide P8) X (cond (!decide P4) X (cond (decide P6) (cond (decide Q1) (cond (decide Q2) (cond (decide P7) X R) none) none) R)))
      (cond (!decide P4) X (cond (decide P6) (cond (decide Q1) (cond (decide Q2) (cond (decide P7) X R) none) none) R))))) = if G then R else X := by
  have e : (if G then R else X) = if P1 ∧ P2 ∧ ¬ P3 ∧ (P5 → P8) ∧ P4 ∧ (P6 → ¬ P7) then R else X := by
    by_cases hg : G
    · rw [if_pos hg, if_pos (hG.1 hg)]
    · rw [if_neg hg, if_neg (fun h => hg (hG.2 h))]
  rw [e]
  by_cases p1 : P1
  · by_cases p2 : P2
    · by_cases p3 : P3
      · simp [*]
      · by_cases p4 : P4
        · by_cases p6 : P6
          · have q1 := h1 p6
            have q2 := h2 p6
            by_cases p5 : P5 <;> by_cases p7 : P7 <;> by_cases p8 : P8 <;> simp [*]
          · by_cases p5 : P5 <;> by_cases p8 : P8 <;> simp [*]
        · by_cases p5 : P5 <;> by_cases p8 : P8 <;> simp [*]
    · simp [*]
  · simp [*]

open Classical in
theorem deskStepI (l : List Ses) (next : Int) (hl : l.length ≤ 1048576) (rec) (i : Nat) (hi : i < l.length) :
    L14_2B rec (l, (l.length : Int), (i : Int), l, next, ()) = if sGood l next i then rec (l, (l.length : Int), ((i + 1 : Nat) : Int), l, next, ()) else some (.inl (false, ())) := by
  have b1 : (i : Int) < (l.length : Int) := by omega
  have b0 : (0 : Int) ≤ (i : Int) := by omega
  simp only [L14_2B, fromI _ _ _, timeI _, obind_some, b0, b1, decide_true, cond_true, Int.toNat_natCast, wnext (show i < 1048576 by omega), wprev (show i < 1048576 by omega), strEq]
  exact sChain (G := sGood l next i) (by omega) (by omega) Iff.rfl _ _
open Classical in
theorem deskStepS (l : List Ses) (next : Int) (hl : l.length ≤ 1048576) (rec) (i : Nat) (hi : i < l.length) :
    L12_4B rec ((i : Int), l, next, ()) = if sGood l next i then rec (((i + 1 : Nat) : Int), l, next, ()) else some (.inl (false, ())) := by
  have b1 : (i : Int) < (l.length : Int) := by omega
  have b0 : (0 : Int) ≤ (i : Int) := by omega
  simp only [L12_4B, fromS _ _ _, obind_some, b0, b1, decide_true, cond_true, Int.toNat_natCast, wnext (show i < 1048576 by omega), wprev (show i < 1048576 by omega), strEq]
  exact sChain (G := sGood l next i) (by omega) (by omega) Iff.rfl _ _

theorem deskOkI (l : List Ses) (n : Int) (hl : l.length ≤ 1048576) : F14 ((l, n), ()) = some (deskOk l n, (), ()) := by
  classical
  have h := good_rounds (B := L14_2B) (fun i => (l, (l.length : Int), (i : Int), l, n, ())) l.length (sGood l n) (.inl (false, ())) (.inr (l, n, ())) hl (fun rec i hi => deskStepI l n hl rec i hi) (fun rec => by simp [L14_2B])
  have h' : L14_2 (l, (l.length : Int), 0, l, n, ()) = _ := h
  simp only [F14, h', obind_some, deskOk]
  by_cases hg : ∀ i, i < l.length → sGood l n i
  · rw [if_pos hg]
    by_cases h12 : l.length ≤ 12
    · have h12' : (l.length : Int) ≤ 12 := by omega
      simp only [h12', decide_true, cond_true, fromI _ _ _, obind_some, h12, true_and]
      congr 2
      exact decide_eq_decide.2 ⟨fun h => ⟨hg, h⟩, fun h => h.2⟩
    · have h12' : ¬ (l.length : Int) ≤ 12 := by omega
      simp [h12', h12]
  · rw [if_neg hg]
    simp [hg]

theorem deskOkS (l : List Ses) (n : Int) (hl : l.length ≤ 1048576) : F12 ((l, n), ()) = some (deskOk l n, (), ()) := by
  classical
  have h := good_rounds (B := L12_4B) (fun i => ((i : Int), l, n, ())) l.length (sGood l n) (.inl (false, ())) (.inr ()) hl (fun rec i hi => deskStepS l n hl rec i hi) (fun rec => by simp [L12_4B])
  have h' : L12_4 (0, l, n, ()) = _ := h
  simp only [F12, fromS _ _ _, obind_some, h', deskOk]
  by_cases h12 : l.length ≤ 12
  · have h12' : ¬ (l.length : Int) > 12 := by omega
    simp only [h12', decide_false, cond_false, h12, true_and]
    by_cases hn : 1 ≤ n ∧ n ≤ 1000000
    · by_cases hg : ∀ i, i < l.length → sGood l n i
      · rw [if_pos hg]
        simp only [hn, decide_true, Bool.not_true, cond_false, and_self]
        congr 2
        exact (decide_eq_true ⟨hg, trivial⟩).symm
      · rw [if_neg hg]
        simp [hn, hg]
    · simp [hn]
  · have h12' : (l.length : Int) > 12 := by omega
    simp [h12', h12]

theorem FnExactDeskOk_pure : ∀ x, OkA [.pr (.sl dS) (.int .i64)] x → ∃ u, F3 x = some (true, u) := by
  rintro ⟨⟨a, n⟩, _⟩ ⟨⟨⟨h1, h2⟩, h3⟩, _⟩
  simp only [F3]
  rcases szDesk a n h1 (fun x hx => (h2 x hx).2.2.1) with ⟨k, e, hk⟩ | ⟨k, e, hk, ha, hs⟩
  · simp [e, hk]
  · simp only [e, obind_some, hk, decide_false, cond_false, toDesk a n ha, deskOkI a n ha, deskOkS a n ha, eqDesk _ _ _ _ ha]
    simp

end Go.Nu

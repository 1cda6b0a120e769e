/- What 'BookOk' answers, in plain Lean. -/
import Derived.Test.YtgbchcpekidllaaNuZj
import Derived.Test.YtgbchcpekidllaaNuFns
namespace Go.Nu
open Go.IntWalk
set_option linter.unusedVariables false
set_option linter.unusedSimpArgs false

abbrev dA : Kd := .pr (.bool) (.pr (.int .i64) (.int .i64))
abbrev dL : Kd := .pr dA (.pr (.str) (.pr (.int .i64) (.int .i64)))
abbrev Adr := Bool × Int × Int
abbrev Lea := Adr × ByteArray × Int × Int

/-! ### Addresses -/
theorem fromI (x a b : Int) : F42 (x, a, b, ()) = some (decide (a ≤ x ∧ x ≤ b), (), (), (), ()) := by
  simp only [F42]
  by_cases h : x ≥ a
  · have h' : a ≤ x := h
    simp [h, h']
  · have h' : ¬ a ≤ x := h
    simp [h, h']
theorem fromS (x a b : Int) : F37 (x, a, b, ()) = some (decide (a ≤ x ∧ x ≤ b), (), (), (), ()) := fromI x a b
theorem timeI (x : Int) : F43 (x, ()) = some (decide (0 ≤ x ∧ x ≤ 1000000000), (), ()) := by
  simp only [F43, fromI x _ _, obind_some]

def addrB (a : Adr) : Bool := a.1 || (decide (a.2.1 = 0) && decide (0 ≤ a.2.2 ∧ a.2.2 ≤ 4294967295))
theorem addrI (s : Bool) (h l : Int) : F44 ((s, h, l), ()) = some (addrB (s, h, l), (), ()) := by
  simp only [F44, fromI l _ _, obind_some, addrB]
  cases s
  · by_cases h0 : h = 0 <;> simp [h0]
  · rfl
theorem addrS (s : Bool) (h l : Int) : F38 ((s, h, l), ()) = some (addrB (s, h, l), (), ()) := by
  simp only [F38, fromS l _ _, obind_some, addrB]
  cases s
  · by_cases h0 : h = 0 <;> simp [h0]
  · rfl
def AOk (a : Adr) : Prop := (-9223372036854775808 ≤ a.2.1 ∧ a.2.1 ≤ 9223372036854775807) ∧ (-9223372036854775808 ≤ a.2.2 ∧ a.2.2 ≤ 9223372036854775807)
def rightA (a : Adr) : Adr := if addrB a = true then a else (false, 0, 0)
theorem right_ok {a : Adr} (h : AOk a) : AOk (rightA a) := by
  unfold rightA
  split
  · exact h
  · exact ⟨by simp, by simp⟩
theorem rightI (a : Adr) : F76 (a, ()) = some (rightA a, (), ()) := by
  obtain ⟨s, h, l⟩ := a
  simp only [F76, addrI s h l, obind_some, rightA]
  cases addrB (s, h, l) <;> rfl
theorem rightS (a : Adr) : F73 (a, ()) = some (rightA a, (), ()) := by
  obtain ⟨s, h, l⟩ := a
  simp only [F73, addrS s h l, obind_some, rightA]
  cases addrB (s, h, l) <;> rfl

def U (x : Int) : Int := IntKind.u64.wrap x
theorem U_inj {x y : Int} (hx : -9223372036854775808 ≤ x ∧ x ≤ 9223372036854775807) (hy : -9223372036854775808 ≤ y ∧ y ≤ 9223372036854775807) (h : U x = U y) : x = y := by
  unfold U at h
  rw [IntKind.wrap_u64, IntKind.wrap_u64] at h
  omega
/-- Addresses in order. -/
def cmpR (x y : Adr) : Int :=
  if x.1 = false ∧ y.1 = true then -1 else if x.1 = true ∧ y.1 = false then 1 else
    if U x.2.1 < U y.2.1 then -1 else if U x.2.1 > U y.2.1 then 1 else if U x.2.2 < U y.2.2 then -1 else if U x.2.2 > U y.2.2 then 1 else 0
def cmpA (a b : Adr) : Int := cmpR (rightA a) (rightA b)
theorem cmpU (x y : Int) : F77 (x, y, ()) = some ((if x < y then -1 else if x > y then 1 else 0 : Int), (), (), ()) := by
  simp only [F77, F89, obind_some, decide_true, Bool.not_true, cond_false]
  by_cases h1 : x < y
  · simp [h1]
  · by_cases h2 : x > y <;> simp [h1, h2]
theorem cmpI (a b : Adr) : F46 (a, b, ()) = some (cmpA a b, (), (), ()) := by
  obtain ⟨s, h, l⟩ := a
  obtain ⟨s', h', l'⟩ := b
  simp only [F46, rightI _, obind_some, cmpA]
  obtain ⟨s1, h1, l1⟩ := rightA (s, h, l)
  obtain ⟨s2, h2, l2⟩ := rightA (s', h', l')
  simp only [cmpU _ _, obind_some, cmpR, U]
  by_cases c1 : IntKind.u64.wrap h1 < IntKind.u64.wrap h2
  · cases s1 <;> cases s2 <;> simp [c1]
  · by_cases c2 : IntKind.u64.wrap h1 > IntKind.u64.wrap h2
    · cases s1 <;> cases s2 <;> simp [c1, c2]
    · cases s1 <;> cases s2 <;> simp [c1, c2]
theorem cmpS (a b : Adr) (ha : AOk a) (hb : AOk b) : F40 (a, b, ()) = some (cmpA a b, (), (), ()) := by
  obtain ⟨s, h, l⟩ := a
  obtain ⟨s', h', l'⟩ := b
  have ra := right_ok ha
  have rb := right_ok hb
  simp only [F40, rightS _, obind_some, cmpA]
  generalize rightA (s, h, l) = x at *
  generalize rightA (s', h', l') = y at *
  obtain ⟨s1, h1, l1⟩ := x
  obtain ⟨s2, h2, l2⟩ := y
  have i1 : U h1 = U h2 → h1 = h2 := U_inj ra.1 rb.1
  have i2 : U l1 = U l2 → l1 = l2 := U_inj ra.2 rb.2
  have e : ∀ x y : Int, F74 (x, y, ()) = some (decide (U x < U y), (), (), ()) := fun x y => rfl
  simp only [e _ _, obind_some, cmpR]
  by_cases q1 : h1 = h2
  · subst q1
    by_cases q2 : l1 = l2
    · subst q2
      cases s1 <;> cases s2 <;> simp
    · have q3 : ¬ U l1 = U l2 := fun h => q2 (i2 h)
      by_cases q4 : U l1 < U l2
      · cases s1 <;> cases s2 <;> simp [q2, q4]
      · have q5 : U l1 > U l2 := by omega
        cases s1 <;> cases s2 <;> simp [q2, q4, q5]
  · have q3 : ¬ U h1 = U h2 := fun h => q1 (i1 h)
    by_cases q4 : U h1 < U h2
    · cases s1 <;> cases s2 <;> simp [q1, q4]
    · have q5 : U h1 > U h2 := by omega
      cases s1 <;> cases s2 <;> simp [q1, q4, q5]

/-! ### Owners -/
theorem bt_in (s : ByteArray) (i : Int) : 0 ≤ bt s i ∧ bt s i ≤ 255 := by
  unfold bt
  have := UInt8.toNat_lt (s.data.toList.getD i.toNat 0)
  omega
def oGood (s : ByteArray) (i : Nat) : Prop := (97 ≤ bt s i ∧ bt s i ≤ 122) ∨ (48 ≤ bt s i ∧ bt s i ≤ 57) ∨ bt s i = 45
open Classical in
noncomputable def ownerB (s : ByteArray) : Bool := decide ((∀ i, i < s.size → oGood s i) ∧ 1 ≤ (s.size : Int) ∧ (s.size : Int) ≤ 12)
theorem oChainI {E : Type} (v : Int) {G : Prop} [Decidable G] (hG : G ↔ (97 ≤ v ∧ v ≤ 122) ∨ (48 ≤ v ∧ v ≤ 57) ∨ v = 45) (R X : Option E) :
    cond (decide (v < 97)) (cond (decide (v < 48)) (cond (!decide (v = 45)) X R) (cond (decide (v > 57)) (cond (!decide (v = 45)) X R) R))
      (cond (decide (v > 122)) (cond (decide (v < 48)) (cond (!decide (v = 45)) X R) (cond (decide (v > 57)) (cond (!decide (v = 45)) X R) R)) R) = if G then R else X := by
  by_cases hg : G
  · rw [if_pos hg]
    have h := hG.1 hg
    by_cases c1 : v < 97 <;> by_cases c2 : v < 48 <;> by_cases c3 : v = 45 <;> by_cases c4 : v > 57 <;> by_cases c5 : v > 122
    all_goals (try (exfalso; omega))
    all_goals (first | (simp only [c1, c2, c3, c4, c5, decide_true, decide_false, cond_true, cond_false, Bool.not_true, Bool.not_false]; done) | (subst c3; simp) | simp_all)
  · rw [if_neg hg]
    have h : ¬ ((97 ≤ v ∧ v ≤ 122) ∨ (48 ≤ v ∧ v ≤ 57) ∨ v = 45) := fun h => hg (hG.2 h)
    by_cases c1 : v < 97 <;> by_cases c2 : v < 48 <;> by_cases c3 : v = 45 <;> by_cases c4 : v > 57 <;> by_cases c5 : v > 122
    all_goals (try (exfalso; omega))
    all_goals (first | (simp only [c1, c2, c3, c4, c5, decide_true, decide_false, cond_true, cond_false, Bool.not_true, Bool.not_false]; done) | (subst c3; simp) | simp_all)
theorem oChainS {E : Type} (v : Int) {G : Prop} [Decidable G] (hG : G ↔ (97 ≤ v ∧ v ≤ 122) ∨ (48 ≤ v ∧ v ≤ 57) ∨ v = 45) (R X : Option E) :
    cond (!decide (97 ≤ v ∧ v ≤ 122)) (cond (!decide (48 ≤ v ∧ v ≤ 57)) (cond (!decide (v = 45)) X R) R) R = if G then R else X := by
  have e : (if G then R else X) = if (97 ≤ v ∧ v ≤ 122) ∨ (48 ≤ v ∧ v ≤ 57) ∨ v = 45 then R else X := by
    by_cases hg : G
    · rw [if_pos hg, if_pos (hG.1 hg)]
    · rw [if_neg hg, if_neg (fun h => hg (hG.2 h))]
  rw [e]
  by_cases c1 : 97 ≤ v ∧ v ≤ 122
  · simp [c1]
  · by_cases c2 : 48 ≤ v ∧ v ≤ 57
    · simp [c1, c2]
    · by_cases c3 : v = 45 <;> simp [c1, c2, c3]
theorem ownerI (s : ByteArray) (hs : s.size ≤ 1048576) : F45 (s, ()) = some (ownerB s, (), ()) := by
  classical
  have h := good_rounds (B := L45_2B) (fun i => (s, (s.size : Int), (i : Int), ())) s.size (oGood s) (.inl (false, ())) (.inr (s, ())) hs (fun rec i hi => by
    have b1 : (i : Int) < (s.size : Int) := by omega
    have b0 : (0 : Int) ≤ (i : Int) := by omega
    simp only [L45_2B, b0, b1, decide_true, cond_true, wnext (show i < 1048576 by omega)]
    exact oChainI (G := oGood s i) (bt s (i : Int)) Iff.rfl _ _) (fun rec => by simp [L45_2B])
  have h' : L45_2 (s, (s.size : Int), 0, ()) = _ := h
  simp only [F45, h', obind_some, ownerB]
  by_cases hg : ∀ i, i < s.size → oGood s i
  · rw [if_pos hg]
    simp only [fromI _ _ _, obind_some]
    congr 2
    exact decide_eq_decide.2 ⟨fun h => ⟨hg, h⟩, fun h => h.2⟩
  · rw [if_neg hg]
    show some (false, (), ()) = _
    congr 2
    exact (decide_eq_false (fun h => hg h.1)).symm
theorem ownerS (s : ByteArray) (hs : s.size ≤ 1048576) : F39 (s, ()) = some (ownerB s, (), ()) := by
  classical
  have h := good_rounds (B := L39_2B) (fun i => (s, (i : Int), ())) s.size (oGood s) (.inl (false, ())) (.inr (s, ())) hs (fun rec i hi => by
    have b1 : (i : Int) < (s.size : Int) := by omega
    have b0 : (0 : Int) ≤ (i : Int) := by omega
    obtain ⟨v0, v1⟩ := bt_in s (i : Int)
    have w : IntKind.i64.wrap (bt s (i : Int)) = bt s (i : Int) := i64_in _ (by omega)
    simp only [L39_2B, b0, b1, decide_true, cond_true, wnext (show i < 1048576 by omega), w, fromS _ _ _, obind_some]
    exact oChainS (G := oGood s i) (bt s (i : Int)) Iff.rfl _ _) (fun rec => by simp [L39_2B])
  have h' : L39_2 (s, 0, ()) = _ := h
  simp only [F39, h', obind_some, ownerB]
  by_cases hg : ∀ i, i < s.size → oGood s i
  · rw [if_pos hg]
    simp only [fromS _ _ _, obind_some]
    congr 2
    exact decide_eq_decide.2 ⟨fun h => ⟨hg, h⟩, fun h => h.2⟩
  · rw [if_neg hg]
    show some (false, (), ()) = _
    congr 2
    exact (decide_eq_false (fun h => hg h.1)).symm

/-! ### A token once more -/
theorem some_tok (l : List Lea) (x : Lea) (hl : l.length ≤ 1048576) : F47 (l, x, ()) = some (decide (∃ i, i < l.length ∧ (rd dL l i).2.2.1 = x.2.2.1), (), x, ()) := by
  obtain ⟨⟨a, b, c⟩, d, t, u⟩ := x
  have h := path_find (B := L78_2B) (fun i => (l, (l.length : Int), (i : Int), a, b, c, d, t, u, ())) l.length (fun i => if (rd dL l i).2.2.1 = t then some (.inl ((i : Int), a, b, c, d, t, u, ())) else none) (.inr (a, b, c, d, t, u, ())) (fun rec i hi => by
    have b1 : (i : Int) < (l.length : Int) := by omega
    have b0 : (0 : Int) ≤ (i : Int) := by omega
    simp only [L78_2B, F48, obind_some, b0, b1, decide_true, cond_true, Int.toNat_natCast, wnext (show i < 1048576 by omega)]
    by_cases hk : (rd dL l i).2.2.1 = t <;> simp [hk]) (fun rec => by simp [L78_2B]) l.length fuel 0 (by omega) (by simp only [fuel]; omega)
  have h' : L78_2 (l, (l.length : Int), 0, a, b, c, d, t, u, ()) = _ := h
  simp only [F47, F78, h', obind_some]
  cases hf : firstAt (fun i => if (rd dL l i).2.2.1 = t then some (Sum.inl ((i : Int), a, b, c, d, t, u, ())) else (none : Option ((Int × Bool × Int × Int × ByteArray × Int × Int × Unit) ⊕ (Bool × Int × Int × ByteArray × Int × Int × Unit)))) l.length 0 with
  | none =>
    have hn : ¬ ∃ i, i < l.length ∧ (rd dL l i).2.2.1 = t := by
      rintro ⟨i, h1, h2⟩
      have := firstAt_none.1 hf i (by omega) (by omega)
      simp [h2] at this
    simp only [Option.getD_none, obind_some]
    rw [decide_eq_false hn]
    rfl
  | some e =>
    obtain ⟨j, h1, h2, h3, _⟩ := firstAt_some hf
    by_cases hk : (rd dL l j).2.2.1 = t
    · have hy : ∃ i, i < l.length ∧ (rd dL l i).2.2.1 = t := ⟨j, by omega, hk⟩
      rw [if_pos hk] at h3
      cases h3
      simp only [Option.getD_some, obind_some]
      rw [decide_eq_true hy]
      have : ((j : Nat) : Int) ≥ 0 := by omega
      simp [this]
    · rw [if_neg hk] at h3
      cases h3

/-! ### BookOk -/
def lGood (l : List Lea) (tok now : Int) (i : Nat) : Prop :=
  addrB (rd dL l i).1 = true ∧ ownerB (rd dL l i).2.1 = true ∧ (1 ≤ (rd dL l i).2.2.1 ∧ (rd dL l i).2.2.1 ≤ tok) ∧ ¬ (rd dL l i).2.2.2 ≤ now ∧ ¬ (rd dL l i).2.2.2 > 1000000000 ∧
    ((i : Int) > 0 → ¬ cmpA (rd dL l ((i : Int) - 1).toNat).1 (rd dL l i).1 ≥ 0) ∧ ¬ ∃ k, k < i ∧ (rd dL l k).2.2.1 = (rd dL l i).2.2.1

theorem bChain {E : Type} {A1 A2 : Bool} {P3 P4 P5 P6 P7 P8 Q1 Q2 Q4 G : Prop} [Decidable P3] [Decidable P4] [Decidable P5] [Decidable P6] [Decidable P7] [Decidable P8] [Decidable Q1] [Decidable Q2] [Decidable Q4] [Decidable G]
    (h1 : P6 → Q1) (h2 : P6 → Q2) (h4 : Q4) (hG : G ↔ A1 = true ∧ A2 = true ∧ P3 ∧ ¬ P4 ∧ ¬ P5 ∧ (P6 → ¬ P7) ∧ ¬ P8) (R X : Option E) :
    cond (!A1) X (cond (!A2) X (cond (!decide P3) X (cond (decide P4) X (cond (decide P5) X (cond (decide P6) (cond (decide Q1) (cond (decide Q2) (cond (decide P7) X (cond (decide Q4) (cond (decide P8) X R) none)) none) none)
      (cond (decide Q4) (cond (decide P8) X R) none)))))) = if G then R else X := by
  have e : (if G then R else X) = if A1 = true ∧ A2 = true ∧ P3 ∧ ¬ P4 ∧ ¬ P5 ∧ (P6 → ¬ P7) ∧ ¬ P8 then R else X := by
    by_cases hg : G
    · rw [if_pos hg, if_pos (hG.1 hg)]
    · rw [if_neg hg, if_neg (fun h => hg (hG.2 h))]
  rw [e]
  cases A1
  · simp
  · cases A2
    · simp
    · by_cases p3 : P3
      · by_cases p4 : P4
        · simp [*]
        · by_cases p5 : P5
          · simp [*]
          · by_cases p6 : P6
            · have q1 := h1 p6
              have q2 := h2 p6
              by_cases p7 : P7 <;> by_cases p8 : P8 <;> simp [*]
            · by_cases p8 : P8 <;> simp [*]
      · simp [*]
theorem bChainS {E : Type} {A1 A2 : Bool} {P3 P4 P5 P45 P6 P7 P8 Q1 Q2 G : Prop} [Decidable P3] [Decidable P4] [Decidable P5] [Decidable P45] [Decidable P6] [Decidable P7] [Decidable P8] [Decidable Q1] [Decidable Q2] [Decidable G]
    (h1 : P6 → Q1) (h2 : P6 → Q2) (h45 : P45 ↔ ¬ P4 ∧ ¬ P5) (hG : G ↔ A1 = true ∧ A2 = true ∧ P3 ∧ ¬ P4 ∧ ¬ P5 ∧ (P6 → ¬ P7) ∧ ¬ P8) (R X : Option E) :
    cond (!A1) X (cond (!A2) X (cond (!decide P3) X (cond (!decide P45) X (cond (decide P6) (cond (decide Q1) (cond (decide Q2) (cond (decide P7) X (if P8 then X else R)) none) none) (if P8 then X else R))))) = if G then R else X := by
  have e : (if G then R else X) = if A1 = true ∧ A2 = true ∧ P3 ∧ ¬ P4 ∧ ¬ P5 ∧ (P6 → ¬ P7) ∧ ¬ P8 then R else X := by
    by_cases hg : G
    · rw [if_pos hg, if_pos (hG.1 hg)]
    · rw [if_neg hg, if_neg (fun h => hg (hG.2 h))]
  rw [e]
  cases A1
  · simp
  · cases A2
    · simp
    · by_cases p3 : P3
      · by_cases p4 : P4
        · simp [*]
        · by_cases p5 : P5
          · simp [*]
          · by_cases p6 : P6
            · have q1 := h1 p6
              have q2 := h2 p6
              by_cases p7 : P7 <;> by_cases p8 : P8 <;> simp [*]
            · by_cases p8 : P8 <;> simp [*]
      · simp [*]

theorem rd_part {l : List Lea} {n i : Nat} (h : i < n) : rd dL (part l 0 n) i = rd dL l i := by
  unfold rd part
  rw [List.getD_eq_getElem?_getD, List.getD_eq_getElem?_getD, List.drop_zero, List.getElem?_take_of_lt h]

set_option maxHeartbeats 2000000 in
open Classical in
theorem bookStepI (l : List Lea) (tok now : Int) (hl : l.length ≤ 1048576) (ho : ∀ x ∈ l, x.2.1.size ≤ 1048576) (rec) (i : Nat) (hi : i < l.length) :
    L14_4B rec (l, (l.length : Int), (i : Int), l, tok, now, ()) = if lGood l tok now i then rec (l, (l.length : Int), ((i + 1 : Nat) : Int), l, tok, now, ()) else some (.inl (false, ())) := by
  have b1 : (i : Int) < (l.length : Int) := by omega
  have b0 : (0 : Int) ≤ (i : Int) := by omega
  have hon : (rd dL l i).2.1.size ≤ 1048576 := by rw [rd_lt (d := dL) hi]; exact ho _ (List.getElem_mem hi)
  have hpl : (part l (Int.toNat 0) (i - Int.toNat 0)).length = i := by simp [part]; omega
  have hp : ∀ x : Lea, F47 (part l (Int.toNat 0) (i - Int.toNat 0), x, ()) = some (decide (∃ k, k < i ∧ (rd dL l k).2.2.1 = x.2.2.1), (), x, ()) := by
    intro x
    rw [some_tok _ x (by rw [hpl]; omega), hpl]
    congr 2
    apply decide_eq_decide.2
    constructor
    · rintro ⟨k, h1, h2⟩
      exact ⟨k, h1, by rw [← h2]; show (rd dL l k).2.2.1 = (rd dL (part l 0 (i - 0)) k).2.2.1; rw [rd_part (by omega)]⟩
    · rintro ⟨k, h1, h2⟩
      exact ⟨k, h1, by rw [← h2]; show (rd dL (part l 0 (i - 0)) k).2.2.1 = (rd dL l k).2.2.1; rw [rd_part (by omega)]⟩
  have hown := ownerI (rd dL l i).2.1 hon
  simp only [L14_4B, b0, b1, decide_true, cond_true, Int.toNat_natCast, wnext (show i < 1048576 by omega), wprev (show i < 1048576 by omega)]
  simp only [addrI _ _ _, hown, fromI _ _ _, cmpI _ _, hp _, obind_some]
  exact bChain (G := lGood l tok now i) (by omega) (by omega) (by omega) Iff.rfl _ _

theorem innerS (l : List Lea) (tok now : Int) (i : Nat) (hi : i ≤ l.length) (hl : l.length ≤ 1048576) (a : Bool) (b c : Int) (d : ByteArray) (t u : Int) :
    ((∃ k, k < i ∧ (rd dL l k).2.2.1 = t) → L12_10 ((i : Int), 0, l, tok, now, a, b, c, d, t, u, ()) = some (.inl (false, ()))) ∧
    (¬ (∃ k, k < i ∧ (rd dL l k).2.2.1 = t) → L12_10 ((i : Int), 0, l, tok, now, a, b, c, d, t, u, ()) = some (.inr ((i : Int), l, tok, now, ()))) := by
  classical
  have h := good_rounds (B := L12_10B) (fun k => ((i : Int), (k : Int), l, tok, now, a, b, c, d, t, u, ())) i (fun k => ¬ (rd dL l k).2.2.1 = t) (.inl (false, ())) (.inr ((i : Int), l, tok, now, ())) (by omega) (fun rec k hk => by
    have b1 : (k : Int) < (i : Int) := by omega
    have b2 : (k : Int) < (l.length : Int) := by omega
    have b0 : (0 : Int) ≤ (k : Int) := by omega
    simp only [L12_10B, b0, b1, b2, decide_true, cond_true, Int.toNat_natCast, wnext (show k < 1048576 by omega)]
    by_cases hk : (rd dL l k).2.2.1 = t <;> simp [hk]) (fun rec => by simp [L12_10B])
  have h' : L12_10 ((i : Int), 0, l, tok, now, a, b, c, d, t, u, ()) = _ := h
  constructor
  · rintro ⟨k, k1, k2⟩
    rw [h', if_neg (fun h => h k k1 k2)]
  · intro hn
    rw [h', if_pos (fun k k1 k2 => hn ⟨k, k1, k2⟩)]

set_option maxHeartbeats 2000000 in
open Classical in
theorem bookStepS (l : List Lea) (tok now : Int) (hl : l.length ≤ 1048576) (ho : ∀ x ∈ l, x.2.1.size ≤ 1048576) (hA : ∀ x ∈ l, AOk x.1) (hn : 0 ≤ now ∧ now ≤ 1000000000) (rec) (i : Nat) (hi : i < l.length) :
    L12_4B rec ((i : Int), l, tok, now, ()) = if lGood l tok now i then rec (((i + 1 : Nat) : Int), l, tok, now, ()) else some (.inl (false, ())) := by
  have b1 : (i : Int) < (l.length : Int) := by omega
  have b0 : (0 : Int) ≤ (i : Int) := by omega
  have hon : (rd dL l i).2.1.size ≤ 1048576 := by rw [rd_lt (d := dL) hi]; exact ho _ (List.getElem_mem hi)
  have hAi : ∀ k, k < l.length → AOk (rd dL l k).1 := fun k hk => by rw [rd_lt (d := dL) hk]; exact hA _ (List.getElem_mem hk)
  have hown := ownerS (rd dL l i).2.1 hon
  have hc : F40 ((rd dL l ((i : Int) - 1).toNat).1, (rd dL l i).1, ()) = some (cmpA (rd dL l ((i : Int) - 1).toNat).1 (rd dL l i).1, (), (), ()) := cmpS _ _ (hAi _ (by omega)) (hAi _ hi)
  have w1 : IntKind.i64.wrap (now + 1) = now + 1 := i64_in _ (by omega)
  obtain ⟨n1, n2⟩ := innerS l tok now i (by omega) hl (rd dL l i).1.1 (rd dL l i).1.2.1 (rd dL l i).1.2.2 (rd dL l i).2.1 (rd dL l i).2.2.1 (rd dL l i).2.2.2
  have e := bChainS (E := (Bool × Unit) ⊕ Unit) (G := lGood l tok now i) (A1 := addrB (rd dL l i).1) (A2 := ownerB (rd dL l i).2.1) (P3 := 1 ≤ (rd dL l i).2.2.1 ∧ (rd dL l i).2.2.1 ≤ tok) (P45 := now + 1 ≤ (rd dL l i).2.2.2 ∧ (rd dL l i).2.2.2 ≤ 1000000000) (P4 := (rd dL l i).2.2.2 ≤ now) (P5 := (rd dL l i).2.2.2 > 1000000000) (P6 := (i : Int) > 0) (P7 := cmpA (rd dL l ((i : Int) - 1).toNat).1 (rd dL l i).1 ≥ 0) (Q1 := 0 ≤ (i : Int) - 1) (Q2 := (i : Int) - 1 < (l.length : Int)) (P8 := ∃ k, k < i ∧ (rd dL l k).2.2.1 = (rd dL l i).2.2.1) (by omega) (by omega) (by
      have aux : ∀ x : Int, (now + 1 ≤ x ∧ x ≤ 1000000000) ↔ ¬ x ≤ now ∧ ¬ x > 1000000000 := fun x => by omega
      exact aux _) Iff.rfl (rec (((i + 1 : Nat) : Int), l, tok, now, ())) (some (.inl (false, ())))
  simp only [L12_4B, b0, b1, decide_true, cond_true, Int.toNat_natCast, wprev (show i < 1048576 by omega)]
  by_cases hE : ∃ k, k < i ∧ (rd dL l k).2.2.1 = (rd dL l i).2.2.1
  · simp only [addrS _ _ _, hown, fromS _ _ _, n1 hE, w1, hc, obind_some]
    rw [if_pos hE] at e
    exact e
  · simp only [addrS _ _ _, hown, fromS _ _ _, n2 hE, w1, hc, obind_some, wnext (show i < 1048576 by omega)]
    rw [if_neg hE] at e
    exact e

open Classical in
noncomputable def bookOk (l : List Lea) (tok now : Int) : Bool := decide (l.length ≤ 80 ∧ (0 ≤ tok ∧ tok ≤ 1000000000) ∧ (0 ≤ now ∧ now ≤ 1000000000) ∧ ∀ i, i < l.length → lGood l tok now i)
theorem bookOk_iff {l : List Lea} {tok now : Int} : bookOk l tok now = true ↔ (l.length ≤ 80 ∧ (0 ≤ tok ∧ tok ≤ 1000000000) ∧ (0 ≤ now ∧ now ≤ 1000000000) ∧ ∀ i, i < l.length → lGood l tok now i) := by
  classical
  unfold bookOk
  constructor
  · intro h; exact of_decide_eq_true h
  · intro h; exact decide_eq_true h
theorem bookOk_not {l : List Lea} {tok now : Int} (h : ¬ (l.length ≤ 80 ∧ (0 ≤ tok ∧ tok ≤ 1000000000) ∧ (0 ≤ now ∧ now ≤ 1000000000) ∧ ∀ i, i < l.length → lGood l tok now i)) : bookOk l tok now = false := by
  cases hb : bookOk l tok now with
  | false => rfl
  | true => exact absurd (bookOk_iff.1 hb) h
theorem bookOkI (l : List Lea) (tok now : Int) (hl : l.length ≤ 1048576) (ho : ∀ x ∈ l, x.2.1.size ≤ 1048576) : F14 ((l, tok, now), ()) = some (bookOk l tok now, (), ()) := by
  classical
  have h := good_rounds (B := L14_4B) (fun i => (l, (l.length : Int), (i : Int), l, tok, now, ())) l.length (lGood l tok now) (.inl (false, ())) (.inr ()) hl (fun rec i hi => bookStepI l tok now hl ho rec i hi) (fun rec => by simp [L14_4B])
  have h' : L14_4 (l, (l.length : Int), 0, l, tok, now, ()) = _ := h
  simp only [F14, fromI _ _ _, timeI _, obind_some, h']
  by_cases h80 : l.length ≤ 80
  · have c : ¬ (l.length : Int) > 80 := by omega
    simp only [c, decide_false, cond_false]
    by_cases c1 : 0 ≤ tok ∧ tok ≤ 1000000000
    · by_cases c2 : 0 ≤ now ∧ now ≤ 1000000000
      · by_cases hg : ∀ i, i < l.length → lGood l tok now i
        · rw [if_pos hg, bookOk_iff.2 ⟨h80, c1, c2, hg⟩]
          simp [c1, c2]
        · rw [if_neg hg, bookOk_not (fun h => hg h.2.2.2)]
          simp [c1, c2]
      · rw [bookOk_not (fun h => c2 h.2.2.1)]
        simp [c1, c2]
    · rw [bookOk_not (fun h => c1 h.2.1)]
      simp [c1]
  · have c : (l.length : Int) > 80 := by omega
    rw [bookOk_not (fun h => h80 h.1)]
    simp [c]
theorem bookOkS (l : List Lea) (tok now : Int) (hl : l.length ≤ 1048576) (ho : ∀ x ∈ l, x.2.1.size ≤ 1048576) (hA : ∀ x ∈ l, AOk x.1) : F12 ((l, tok, now), ()) = some (bookOk l tok now, (), ()) := by
  classical
  simp only [F12, fromS _ _ _, obind_some]
  by_cases h80 : l.length ≤ 80
  · have c : ¬ (l.length : Int) > 80 := by omega
    simp only [c, decide_false, cond_false]
    by_cases c1 : 0 ≤ tok ∧ tok ≤ 1000000000
    · by_cases c2 : 0 ≤ now ∧ now ≤ 1000000000
      · have h := good_rounds (B := L12_4B) (fun i => ((i : Int), l, tok, now, ())) l.length (lGood l tok now) (.inl (false, ())) (.inr ()) hl (fun rec i hi => bookStepS l tok now hl ho hA c2 rec i hi) (fun rec => by simp [L12_4B])
        have h' : L12_4 (0, l, tok, now, ()) = _ := h
        simp only [h', obind_some]
        by_cases hg : ∀ i, i < l.length → lGood l tok now i
        · rw [if_pos hg, bookOk_iff.2 ⟨h80, c1, c2, hg⟩]
          simp [c1, c2]
        · rw [if_neg hg, bookOk_not (fun h => hg h.2.2.2)]
          simp [c1, c2]
      · rw [bookOk_not (fun h => c2 h.2.2.1)]
        simp [c1, c2]
    · rw [bookOk_not (fun h => c1 h.2.1)]
      simp [c1]
  · have c : (l.length : Int) > 80 := by omega
    rw [bookOk_not (fun h => h80 h.1)]
    simp [c]

/-! ### The laws' own functions -/
theorem eqAdr (x y : Adr) : F60 (x, y, ()) = some (decide (x = y), (), (), ()) := by
  obtain ⟨a, b, c⟩ := x
  obtain ⟨a', b', c'⟩ := y
  simp only [F60]
  by_cases h2 : b = b' <;> by_cases h3 : c = c' <;> cases a <;> cases a' <;> simp [h2, h3]
theorem eqLea (x y : Lea) : F79 (x, y, ()) = some (decide (x = y), (), (), ()) := by
  obtain ⟨a, b, c, d⟩ := x
  obtain ⟨a', b', c', d'⟩ := y
  have e : F60 (a, a', ()) = some (decide (a = a'), (), (), ()) := eqAdr a a'
  simp only [F79, e, obind_some, strEq]
  by_cases h1 : a = a' <;> by_cases h2 : b = b' <;> by_cases h3 : c = c' <;> by_cases h4 : d = d' <;> simp [h1, h2, h3, h4]
theorem eqLeaS (l m : List Lea) (hl : l.length ≤ 1048576) : F49 (l, m, ()) = some (decide (l = m), (), (), ()) := by
  by_cases hlm : l.length = m.length
  · have h := eq_rounds' (d := dL) (B := L49_4B) (fun _ => True) l m hlm hl (fun _ _ => trivial) (fun rec i h0 h1 _ => by
      have w1 : IntKind.i64.wrap (i + 1) = i + 1 := i64_in _ (by omega)
      have h2 : i < (m.length : Int) := by omega
      have e := eqLea (rd dL l i.toNat) (rd dL m i.toNat)
      simp only [L49_4B, h0, h1, h2, decide_true, cond_true, w1]
      rw [e]
      constructor
      · intro he; simp [he]
      · intro he; simp [he]) (fun rec => by simp [L49_4B])
    have hl' : (l.length : Int) = m.length := by omega
    simp only [F49, hl', decide_true, Bool.not_true, cond_false, L49_4, h, obind_some]
    by_cases he : l = m <;> simp [he]
  · have hl' : ¬ (l.length : Int) = m.length := by omega
    have he : l ≠ m := fun e => hlm (by rw [e])
    simp [F49, hl', he]
theorem eqBook (l m : List Lea) (t n t' n' : Int) (hl : l.length ≤ 1048576) : F15 ((l, t, n), (m, t', n'), ()) = some (decide ((l, t, n) = (m, t', n')), (), (), ()) := by
  simp only [F15, eqLeaS l m hl, obind_some]
  by_cases h1 : l = m <;> by_cases h2 : t = t' <;> by_cases h3 : n = n' <;> simp [h1, h2, h3]
theorem toLeaS (l : List Lea) (hl : l.length ≤ 1048576) : F41 (l, ()) = some (l, (), ()) := toS_eq dL 56 (by decide) l hl
theorem toBook (l : List Lea) (t n : Int) (hl : l.length ≤ 1048576) : F13 ((l, t, n), ()) = some ((l, t, n), (), ()) := by
  simp only [F13, toLeaS l hl, obind_some]

theorem szLea (x : Lea) (k : Int) (hx : x.2.1.size ≤ maxLen) (h0 : 0 ≤ k) (h1 : k ≤ 1048576) : F72 (x, k, ()) = some (if k < x.2.1.size then -1 else k - x.2.1.size, (), (), ()) := by
  have hm : (maxLen : Int) = 9223372036854775807 := rfl
  have w1 : IntKind.i64.wrap (k - x.2.1.size) = k - x.2.1.size := i64_in _ (by omega)
  simp only [F72, w1]
  by_cases hk : k < x.2.1.size
  · have : k - (x.2.1.size : Int) < 0 := by omega
    simp [this, hk]
  · have : ¬ k - (x.2.1.size : Int) < 0 := by omega
    simp [this, hk]
theorem szBook (l : List Lea) (t n : Int) (hl : l.length ≤ maxLen) (hO : ∀ x ∈ l, x.2.1.size ≤ maxLen) :
    (∃ k, F11 ((l, t, n), 1048576, ()) = some (k, (), (), ()) ∧ k < 0) ∨ (∃ k, F11 ((l, t, n), 1048576, ()) = some (k, (), (), ()) ∧ ¬ k < 0 ∧ l.length ≤ 1048576 ∧ ∀ x ∈ l, x.2.1.size ≤ 1048576) := by
  have hm : (maxLen : Int) = 9223372036854775807 := rfl
  have w0 : IntKind.i64.wrap (1048576 - l.length) = 1048576 - l.length := i64_in _ (by omega)
  simp only [F11, F36, w0]
  by_cases hk : (1048576 : Int) - l.length < 0
  · left; exact ⟨-1, by simp [hk], by decide⟩
  · have hl' : l.length ≤ 1048576 := by omega
    simp only [hk, decide_false, cond_false]
    rcases sz_rounds (d := dL) (B := L36_5B) (fun x => x.2.1.size ≤ maxLen) (fun x => x.2.1.size ≤ 1048576) l hO hl' (fun rec k i h0 h1 h2 h3 h4 => by
      have w1 : IntKind.i64.wrap (i + 1) = i + 1 := i64_in _ (by omega)
      have e := szLea (rd dL l i.toNat) k h4 h0 h1
      simp only [L36_5B, h2, h3, decide_true, cond_true, w1]
      rw [e]
      by_cases hk : k < (rd dL l i.toNat).2.1.size
      · left; simp [hk]
      · right
        have : ¬ k - ((rd dL l i.toNat).2.1.size : Int) < 0 := by omega
        refine ⟨k - (rd dL l i.toNat).2.1.size, by omega, by omega, by omega, ?_⟩
        simp [hk, this]) (fun rec k => by simp [L36_5B]) (1048576 - l.length) (by omega) (by omega) with h | ⟨k', h1, h2, h3, h4⟩
    · left
      refine ⟨-1, ?_, by decide⟩
      simp only [L36_5, h, obind_some]
      rfl
    · right
      have : ¬ k' < 0 := by omega
      refine ⟨k', ?_, this, hl', h3⟩
      simp only [L36_5, h4, obind_some, this, decide_false, cond_false]

theorem lea_ok {l : List Lea} (h : ∀ x ∈ l, OkV dL x) : (∀ x ∈ l, x.2.1.size ≤ maxLen) ∧ ∀ x ∈ l, AOk x.1 :=
  ⟨fun x hx => (h x hx).2.1, fun x hx => ⟨int64_ok (h x hx).1.2.1, int64_ok (h x hx).1.2.2⟩⟩

theorem FnExactBookOk_pure : ∀ x, OkA [.pr (.sl dL) (.pr (.int .i64) (.int .i64))] x → ∃ u, F3 x = some (true, u) := by
  rintro ⟨⟨a, t, n⟩, _⟩ ⟨⟨⟨h1, h2⟩, h3⟩, _⟩
  obtain ⟨o1, o2⟩ := lea_ok h2
  simp only [F3]
  rcases szBook a t n h1 o1 with ⟨k, e, hk⟩ | ⟨k, e, hk, ha, hs⟩
  · simp [e, hk]
  · simp only [e, obind_some, hk, decide_false, cond_false, toBook a t n ha, bookOkI a t n ha hs, bookOkS a t n ha hs o2, eqBook _ _ _ _ _ _ ha]
    exact ⟨((), ()), by simp⟩

end Go.Nu

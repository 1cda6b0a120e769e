/- What functions that this seat has in common with another one answer, in plain Lean (turned to this seat by a program of my own). -/
import Derived.Test.YtjilffemogdabaaNuZj
import Derived.KernelRfl
import Derived.Test.YtjilffemogdabaaNuFns
namespace Go.Nu
open Go.IntWalk
set_option linter.unusedVariables false
set_option linter.unusedSimpArgs false


theorem toIntS_eq (l : List Int) (h : l.length ≤ 1048576) : F41 (l, ()) = some (l, (), ()) := toS_eq (.int .i64) 8 (by decide) l h
theorem eqIntS_eq (l m : List Int) (h : l.length ≤ 1048576) : F44 (l, m, ()) = some (decide (l = m), (), (), ()) := eqS_eq .i64 l m h
theorem szIntS_eq (l : List Int) (k : Int) (h : l.length ≤ maxLen) (h0 : 0 ≤ k) (h1 : k ≤ 9223372036854775807) : F38 (l, k, ()) = some (if k < l.length then -1 else k - l.length, (), (), ()) := szS_eq l k h h0 h1
theorem toBytes_eq (l : List Int) (h : l.length ≤ 1048576) : F34 (l, ()) = some (l, (), ()) := toS_eq (.int .u8) 1 (by decide) l h
theorem eqBytes_eq (l m : List Int) (h : l.length ≤ 1048576) : F37 (l, m, ()) = some (decide (l = m), (), (), ()) := eqS_eq .u8 l m h
theorem sameBytes_eq (l m : List Int) (h : l.length ≤ 1048576) : F64 (l, m, ()) = some (decide (l = m), (), (), ()) := eqS_eq .u8 l m h
theorem szGroup_cases (a b : List Int) (ha : a.length ≤ maxLen) (hb : b.length ≤ maxLen) : (∃ k, F12 ((a, b), 1048576, ()) = some (k, (), (), ()) ∧ k < 0) ∨ (∃ k, F12 ((a, b), 1048576, ()) = some (k, (), (), ()) ∧ ¬ k < 0 ∧ a.length ≤ 1048576 ∧ b.length ≤ 1048576) := by
  simp only [F12]
  rw [szIntS_eq a 1048576 ha (by decide) (by decide)]
  by_cases hk : (1048576 : Int) < a.length
  · left; exact ⟨-1, by simp [hk], by decide⟩
  · have e1 : ¬ (1048576 : Int) - a.length < 0 := by omega
    simp only [hk, if_false, obind_some, e1, decide_false, cond_false]
    rw [szIntS_eq b _ hb (by omega) (by omega)]
    by_cases hk2 : (1048576 : Int) - a.length < b.length
    · left; exact ⟨-1, by simp [hk2], by decide⟩
    · right
      have e2 : ¬ (1048576 : Int) - a.length - b.length < 0 := by omega
      exact ⟨(1048576 : Int) - a.length - b.length, by simp [hk2, e2], e2, by omega, by omega⟩

theorem toGroup_eq (a b : List Int) (ha : a.length ≤ 1048576) (hb : b.length ≤ 1048576) : F14 ((a, b), ()) = some ((a, b), (), ()) := by
  simp only [F14, toIntS_eq a ha, toIntS_eq b hb, obind_some]
theorem eqGroup_eq (a b c d : List Int) (ha : a.length ≤ 1048576) (hb : b.length ≤ 1048576) : F17 ((a, b), (c, d), ()) = some (decide ((a, b) = (c, d)), (), (), ()) := by
  simp only [F17, eqIntS_eq a c ha, eqIntS_eq b d hb, obind_some]
  by_cases h1 : a = c <;> by_cases h2 : b = d <;> simp [h1, h2]

theorem markIntS (a : List Int) (k : Int) (ha : a.length ≤ 1048576) (hk : 0 < k) (hk' : k ≤ 1099511627776) : F45 (a, k, ()) = some (k + a.length, mkL 1 (fun k => k) k a.length, (), ()) := by
  have h := mark_rounds (d := .int .i64) (B := L45_2B) 1 (fun k => k) (by decide) (fun rec k i l h1 h2 h3 h4 h5 => by
    have w1 : IntKind.i64.wrap (k + 1) = k + 1 := i64_in _ (by omega)
    have w2 : IntKind.i64.wrap (i + 1) = i + 1 := i64_in _ (by omega)
    simp only [L45_2B, h3, h4, w1, w2, decide_true, cond_true, obind_some]) (fun rec k l => by
    simp [L45_2B]) a k ha hk hk'
  simp only [F45, L45_2, h, obind_some, Int.one_mul]
theorem heldIntS (n : Nat) (k : Int) (ha : n ≤ 1048576) (hk : 0 < k) (hk' : k ≤ 1099511627776) : F69 (mkL 1 (fun k => k) k n, k, ()) = some (k + n, (), (), ()) := by
  have h := held_rounds (d := .int .i64) (B := L69_2B) 1 (fun k => k) (by decide) (fun rec k i l h1 h2 h3 h4 h5 h6 => by
    have w1 : IntKind.i64.wrap (k + 1) = k + 1 := i64_in _ (by omega)
    have w2 : IntKind.i64.wrap (i + 1) = i + 1 := i64_in _ (by omega)
    simp only [L69_2B, h3, h4, h6, w1, w2, decide_true, cond_true, Bool.not_true, cond_false]) (fun rec k l => by
    simp [L69_2B]) n k ha hk hk'
  simp only [F69, L69_2, h, obind_some, Int.one_mul]
theorem markBytes (a : List Int) (k : Int) (ha : a.length ≤ 1048576) (hk : 0 < k) (hk' : k ≤ 1099511627776) : F46 (a, k, ()) = some (k + a.length, mkL 1 (fun k => IntKind.u8.wrap k) k a.length, (), ()) := by
  have h := mark_rounds (d := .int .u8) (B := L46_2B) 1 (fun k => IntKind.u8.wrap k) (by decide) (fun rec k i l h1 h2 h3 h4 h5 => by
    have w1 : IntKind.i64.wrap (k + 1) = k + 1 := i64_in _ (by omega)
    have w2 : IntKind.i64.wrap (i + 1) = i + 1 := i64_in _ (by omega)
    simp only [L46_2B, h3, h4, w1, w2, decide_true, cond_true, obind_some]) (fun rec k l => by
    simp [L46_2B]) a k ha hk hk'
  simp only [F46, L46_2, h, obind_some, Int.one_mul]
theorem heldBytes (n : Nat) (k : Int) (ha : n ≤ 1048576) (hk : 0 < k) (hk' : k ≤ 1099511627776) : F49 (mkL 1 (fun k => IntKind.u8.wrap k) k n, k, ()) = some (k + n, (), (), ()) := by
  have h := held_rounds (d := .int .u8) (B := L49_2B) 1 (fun k => IntKind.u8.wrap k) (by decide) (fun rec k i l h1 h2 h3 h4 h5 h6 => by
    have w1 : IntKind.i64.wrap (k + 1) = k + 1 := i64_in _ (by omega)
    have w2 : IntKind.i64.wrap (i + 1) = i + 1 := i64_in _ (by omega)
    simp only [L49_2B, h3, h4, h6, w1, w2, decide_true, cond_true, Bool.not_true, cond_false]) (fun rec k l => by
    simp [L49_2B]) n k ha hk hk'
  simp only [F49, L49_2, h, obind_some, Int.one_mul]

/-- A group's marks, and what is held of them. -/
theorem markGroup (a b : List Int) (ha : a.length ≤ 1048576) (hb : b.length ≤ 1048576) : ∃ (k : Int) (x y : List Int), 0 < k ∧ k ≤ 4194304 ∧ F18 ((a, b), 1, ()) = some (k, (x, y), (), ()) ∧ F48 ((x, y), 1, ()) = some (k, (), (), ()) := by
  have e1 : ¬ (1 : Int) + a.length < 0 := by omega
  have e2 : ¬ (1 : Int) + a.length + b.length < 0 := by omega
  refine ⟨1 + a.length + b.length, mkL 1 (fun k => k) 1 a.length, mkL 1 (fun k => k) (1 + a.length) b.length, by omega, by omega, ?_, ?_⟩
  · simp only [F18, markIntS a 1 ha (by decide) (by decide), markIntS b (1 + a.length) hb (by omega) (by omega), obind_some]
  · simp only [F48, heldIntS a.length 1 ha (by decide) (by decide), heldIntS b.length (1 + a.length) hb (by omega) (by omega), obind_some, e1, e2, decide_false, cond_false]

/-! ### Ids -/
def iGood (l : List Int) (i : Nat) : Prop := (1 ≤ rd (.int .i64) l i ∧ (rd (.int .i64) l i : Int) ≤ 7) ∧ ((i : Int) > 0 → ¬ (rd (.int .i64) l ((i : Int) - 1).toNat : Int) ≥ rd (.int .i64) l i)
open Classical in
noncomputable def idsB (l : List Int) : Bool := decide (∀ i, i < l.length → iGood l i)

theorem iChain {E : Type} {P1 P2 P3 P4 Q1 Q2 G : Prop} [Decidable P1] [Decidable P2] [Decidable P3] [Decidable P4] [Decidable Q1] [Decidable Q2] [Decidable G] (h1 : P3 → Q1) (h2 : P3 → Q2) (hG : G ↔ (P1 ∧ P2) ∧ (P3 → ¬ P4)) (R X : Option E) :
    cond (!decide (P1 ∧ P2)) X (cond (decide P3) (cond (decide Q1) (cond (decide Q2) (cond (decide P4) X R) none) none) R) = if G then R else X := by
  have e : (if G then R else X) = if (P1 ∧ P2) ∧ (P3 → ¬ P4) then R else X := by
    by_cases hg : G
    · rw [if_pos hg, if_pos (hG.1 hg)]
    · rw [if_neg hg, if_neg (fun h => hg (hG.2 h))]
  rw [e]
  by_cases p3 : P3
  · have q1 := h1 p3
    have q2 := h2 p3
    by_cases p1 : P1 <;> by_cases p2 : P2 <;> by_cases p4 : P4 <;> simp [*]
  · by_cases p1 : P1 <;> by_cases p2 : P2 <;> simp [*]

theorem fromS (x a b : Int) : F32 (x, a, b, ()) = some (decide (a ≤ x ∧ x ≤ b), (), (), (), ()) := by
  simp only [F32]
  by_cases h : x ≥ a
  · have h' : a ≤ x := h
    simp [h, h']
  · have h' : ¬ a ≤ x := h
    simp [h, h']
theorem fromI (x a b : Int) : F53 (x, a, b, ()) = some (decide (a ≤ x ∧ x ≤ b), (), (), (), ()) := fromS x a b
theorem isNode_eq (x : Int) : F81 (x, ()) = some (decide (1 ≤ x ∧ x ≤ 7), (), ()) := by
  simp only [F81, fromI _ _ _, obind_some]

theorem idsS (l : List Int) (hl : l.length ≤ 1048576) : F67 (l, ()) = some (idsB l, (), ()) := by
  classical
  have h := good_rounds (B := L67_2B) (fun i => (l, (i : Int), ())) l.length (iGood l) (.inl (false, ())) (.inr ()) hl (fun rec i hi => by
    have b1 : (i : Int) < (l.length : Int) := by omega
    have b0 : (0 : Int) ≤ (i : Int) := by omega
    simp only [L67_2B, fromS _ _ _, obind_some, b0, b1, decide_true, cond_true, Int.toNat_natCast, wnext (show i < 1048576 by omega), wprev (show i < 1048576 by omega)]
    exact iChain (G := iGood l i) (by omega) (by omega) Iff.rfl _ _) (fun rec => by simp [L67_2B])
  have h' : L67_2 (l, 0, ()) = _ := h
  simp only [F67, h', obind_some, idsB]
  by_cases hg : ∀ i, i < l.length → iGood l i
  · rw [if_pos hg]
    show some (true, (), ()) = _
    congr 2
    exact (decide_eq_true hg).symm
  · rw [if_neg hg]
    show some (false, (), ()) = _
    congr 2
    exact (decide_eq_false hg).symm
theorem idsI (l : List Int) (hl : l.length ≤ 1048576) : F61 (l, ()) = some (idsB l, (), ()) := by
  classical
  have h := good_rounds (B := L61_2B) (fun i => (l, l, (l.length : Int), (i : Int), ())) l.length (iGood l) (.inl (false, ())) (.inr ()) hl (fun rec i hi => by
    have b1 : (i : Int) < (l.length : Int) := by omega
    have b0 : (0 : Int) ≤ (i : Int) := by omega
    simp only [L61_2B, isNode_eq _, obind_some, b0, b1, decide_true, cond_true, Int.toNat_natCast, wnext (show i < 1048576 by omega), wprev (show i < 1048576 by omega)]
    exact iChain (G := iGood l i) (by omega) (by omega) Iff.rfl _ _) (fun rec => by simp [L61_2B])
  have h' : L61_2 (l, l, (l.length : Int), 0, ()) = _ := h
  simp only [F61, h', obind_some, idsB]
  by_cases hg : ∀ i, i < l.length → iGood l i
  · rw [if_pos hg]
    show some (true, (), ()) = _
    congr 2
    exact (decide_eq_true hg).symm
  · rw [if_neg hg]
    show some (false, (), ()) = _
    congr 2
    exact (decide_eq_false hg).symm

noncomputable def groupOk (a b : List Int) : Bool := idsB a && (idsB b && decide (0 < a.length))
theorem groupS (a b : List Int) (ha : a.length ≤ 1048576) (hb : b.length ≤ 1048576) : F39 ((a, b), ()) = some (groupOk a b, (), ()) := by
  simp only [F39, idsS a ha, idsS b hb, obind_some, groupOk]
  cases idsB a <;> cases idsB b <;> simp
theorem groupI (a b : List Int) (ha : a.length ≤ 1048576) (hb : b.length ≤ 1048576) : F29 ((a, b), ()) = some (groupOk a b, (), ()) := by
  simp only [F29, idsI a ha, idsI b hb, obind_some, groupOk]
  cases idsB a <;> cases idsB b <;> simp

theorem clone_eq (a : List Int) (h : a.length ≤ 4194304) : F68 (a, ()) = some (a, (), ()) := clone_gen a 8 (rooms h (by decide))
theorem copyI (a b : List Int) (ha : a.length ≤ 4194304) (hb : b.length ≤ 4194304) : F42 ((a, b), ()) = some ((a, b), (), ()) := by
  simp only [F42, clone_eq a ha, clone_eq b hb, obind_some]
theorem copyS (a b : List Int) (ha : a.length ≤ 4194304) (hb : b.length ≤ 4194304) : F40 ((a, b), ()) = some ((a, b), (), ()) := by
  have h1 : (0 + a.length) * 8 ≤ room := by simpa using rooms (k := 8) ha (by decide)
  have h2 : (0 + b.length) * 8 ≤ room := by simpa using rooms (k := 8) hb (by decide)
  simp only [F40, List.length_nil, h1, h2, decide_true, cond_true]

noncomputable def settled (a b : List Int) : (List Int × List Int) × Bool := if groupOk a b = true ∧ b.length ≠ 0 then ((b, []), true) else ((a, b), false)


theorem ids_get {l : List Int} (h : idsB l = true) (i : Nat) (hi : i < l.length) : iGood l i := by
  classical
  exact of_decide_eq_true h i hi
theorem rdI {l : List Int} {i : Nat} (h : i < l.length) : rd (Kd.int IntKind.i64) l i = l[i]'h := rd_lt (d := .int .i64) h
theorem ids_in {l : List Int} (h : idsB l = true) (i : Nat) (hi : i < l.length) : (1 : Int) ≤ l[i] ∧ l[i] ≤ (7 : Int) := by
  have := (ids_get h i hi).1
  rw [rdI hi] at this
  exact this
theorem ids_up {l : List Int} (h : idsB l = true) (i : Nat) (hi : i + 1 < l.length) : l[i] < l[i + 1] := by
  have h2 := (ids_get h (i + 1) hi).2 (by omega)
  have e : (((i + 1 : Nat) : Int) - 1).toNat = i := by omega
  rw [e, rdI hi, rdI (show i < l.length by omega)] at h2
  have h3 : ¬ l[i + 1] ≤ l[i] := h2
  omega
/-- Ids ascend: the i-th is above i. -/
theorem ids_above {l : List Int} (h : idsB l = true) : ∀ (i : Nat) (hi : i < l.length), (i : Int) + 1 ≤ l[i] := by
  intro i
  induction i with
  | zero =>
    intro hi
    have := (ids_in h 0 hi).1
    omega
  | succ i ih =>
    intro hi
    have h1 := ih (by omega)
    have h2 := ids_up h i hi
    omega
theorem ids_len {l : List Int} (h : idsB l = true) : l.length ≤ 7 := by
  by_cases h0 : l.length = 0
  · omega
  · have h1 := ids_above h (l.length - 1) (by omega)
    have h2 := (ids_in h (l.length - 1) (by omega)).2
    omega

/-! ### Sets of Ids as bits -/
def bitI (x : Int) : Int := IntKind.u8.wrap ((1 : Int) * (2 : Int) ^ Min.min (Int.toNat (IntKind.i64.wrap (x - 1))) (IntKind.bits .u8))
def bitS (x : Int) : Int := IntKind.i64.wrap ((1 : Int) * (2 : Int) ^ Min.min (Int.toNat (IntKind.u64.wrap (IntKind.i64.wrap (x - 1)))) (IntKind.bits .i64))
def orI (a b : Int) : Int := bits2 .u8 (fun (x1 x2 : BitVec (IntKind.bits .u8)) => x1 ||| x2) a b
def orS (a b : Int) : Int := bits2 .i64 (fun (x1 x2 : BitVec (IntKind.bits .i64)) => x1 ||| x2) a b
theorem or_same : ((List.range 128).all fun a => (List.range 7).all fun x => decide (orI a (bitI (x + 1)) = orS a (bitS (x + 1)) ∧ 0 ≤ orI a (bitI (x + 1)) ∧ orI a (bitI (x + 1)) < 128)) = true := by kernel_rfl
theorem or_eq {a x : Int} (h0 : 0 ≤ a) (h1 : a < 128) (h2 : 1 ≤ x) (h3 : x ≤ 7) : orI a (bitI x) = orS a (bitS x) ∧ 0 ≤ orI a (bitI x) ∧ orI a (bitI x) < 128 := by
  have h := or_same
  have ha := List.all_eq_true.1 h a.toNat (List.mem_range.2 (by omega))
  have hx := of_decide_eq_true (List.all_eq_true.1 ha (x - 1).toNat (List.mem_range.2 (by omega)))
  rw [show ((a.toNat : Nat) : Int) = a by omega, show (((x - 1).toNat : Nat) : Int) + 1 = x by omega] at hx
  exact hx

/-- The set of a list's first i. -/
def setF (l : List Int) : Nat → Int
  | 0 => 0
  | i + 1 => orI (setF l i) (bitI (rd (.int .i64) l i))
theorem setF_succ {l : List Int} {i : Nat} (h : i < l.length) : setF l (i + 1) = orI (setF l i) (bitI (l[i]'h)) := by
  show orI (setF l i) (bitI (rd (.int .i64) l i)) = _
  rw [rdI h]
theorem setF_ok {l : List Int} (h : idsB l = true) : ∀ i, i ≤ l.length → 0 ≤ setF l i ∧ setF l i < 128
  | 0, _ => by simp [setF]
  | i + 1, hi => by
    have h1 := setF_ok h i (by omega)
    have h2 := ids_in h i (by omega)
    rw [setF_succ (by omega)]
    exact (or_eq h1.1 h1.2 h2.1 h2.2).2

theorem setS (l : List Int) (h : idsB l = true) : F82 (l, ()) = some (setF l l.length, (), ()) := by
  have hl := ids_len h
  have e := path_rounds (B := L82_3B) (fun i => (l, setF l i, (i : Int), ())) l.length (setF l l.length, ()) (fun rec i hi => by
    have b1 : (i : Int) < (l.length : Int) := by omega
    have b0 : (0 : Int) ≤ (i : Int) := by omega
    have g := ids_in h i hi
    have w : IntKind.i64.wrap (l[i] - 1) = l[i] - 1 := i64_in _ (by omega)
    have w2 : IntKind.u64.wrap (l[i] - 1) = l[i] - 1 := u64_in _ (by omega)
    have n0 : ¬ IntKind.u64.wrap (IntKind.i64.wrap (l[i] - 1)) < 0 := by rw [w, w2]; omega
    have f := setF_ok h i (by omega)
    have o := (or_eq f.1 f.2 g.1 g.2).1
    simp only [L82_3B, b0, b1, decide_true, cond_true, Int.toNat_natCast, wnext (show i < 1048576 by omega), rdI hi, n0, decide_false, cond_false, setF_succ hi]
    show rec (l, orS (setF l i) (bitS l[i]), ((i + 1 : Nat) : Int), ()) = rec (l, orI (setF l i) (bitI l[i]), ((i + 1 : Nat) : Int), ())
    rw [o]) (fun rec => by
    simp only [L82_3B, Int.lt_irrefl, decide_false, cond_false]) fuel 0 (by omega) (by simp only [fuel]; omega)
  have e' : L82_3 (l, 0, 0, ()) = _ := e
  have f := setF_ok h l.length (Nat.le_refl _)
  have w : IntKind.u8.wrap (setF l l.length) = setF l l.length := u8_in _ (by omega)
  simp only [F82, e', obind_some, w]

noncomputable def put (a b : List Int) : List Int := if groupOk a b = true then [setF a a.length, setF b b.length] else []
theorem groupOk_ids {a b : List Int} (h : groupOk a b = true) : idsB a = true ∧ idsB b = true ∧ 0 < a.length := by
  unfold groupOk at h
  simp only [Bool.and_eq_true, decide_eq_true_eq] at h
  exact h
theorem putG (a b : List Int) (ha : a.length ≤ 1048576) (hb : b.length ≤ 1048576) : F65 ((a, b), ()) = some (put a b, (), ()) := by
  simp only [F65, groupS a b ha hb, obind_some, put]
  cases hg : groupOk a b with
  | false => simp
  | true =>
    obtain ⟨h1, h2, _⟩ := groupOk_ids hg
    simp only [setS a h1, setS b h2, obind_some, Bool.not_true, cond_false, if_true]
theorem put_len (a b : List Int) : (put a b).length ≤ 2 := by
  unfold put
  split <;> simp

/-! ### Joint -/


def byteRow (v : Int) : Bool := match F66 (v, ()), F63 (v, ()) with
  | some (a, _), some (b, _) => decide (a.length ≤ 8) && (decide (b.length ≤ 8) && (match F67 (a, ()), F67 (b, ()), F82 (b, ()) with
      | some (x, _), some (y, _), some (z, _) => y && (cond (decide (v < 128)) (x && (decide (a = b) && decide (z = v))) (!x && decide (z = v - 128)))
      | _, _, _ => false))
  | _, _ => false
theorem byteRows : ((List.range 256).all fun v => byteRow v) = true := by kernel_rfl

theorem byte_cases (v : Int) (h0 : 0 ≤ v) (h1 : v ≤ 255) : ∃ a b : List Int, F66 (v, ()) = some (a, (), ()) ∧ F63 (v, ()) = some (b, (), ()) ∧ a.length ≤ 8 ∧ b.length ≤ 8 ∧ idsB b = true ∧
    ((v < 128 ∧ a = b ∧ setF b b.length = v) ∨ (128 ≤ v ∧ idsB a = false ∧ setF b b.length = v - 128)) := by
  have h := List.all_eq_true.1 byteRows v.toNat (List.mem_range.2 (by omega))
  rw [show ((v.toNat : Nat) : Int) = v by omega] at h
  unfold byteRow at h
  split at h
  case h_2 => cases h
  rename_i a _ b _ ea eb
  simp only [Bool.and_eq_true, decide_eq_true_eq] at h
  obtain ⟨l1, l2, h⟩ := h
  have e1 := idsS a (by omega)
  have e2 := idsS b (by omega)
  rw [e1, e2] at h
  split at h
  case h_2 => cases h
  rename_i x _ y _ z _ ex ey ez
  simp only [Bool.and_eq_true] at h
  obtain ⟨hy, h⟩ := h
  have ey' : idsB b = y := by injection ey with q; injection q
  have ex' : idsB a = x := by injection ex with q; injection q
  have hb : idsB b = true := by rw [ey', hy]
  have e3 := setS b hb
  rw [e3] at ez
  have ez' : setF b b.length = z := by injection ez with q; injection q
  refine ⟨a, b, ea, eb, l1, l2, hb, ?_⟩
  by_cases hv : v < 128
  · left
    simp only [hv, decide_true, cond_true, Bool.and_eq_true, decide_eq_true_eq] at h
    exact ⟨hv, h.2.1, by rw [ez', h.2.2]⟩
  · right
    simp only [hv, decide_false, cond_false, Bool.and_eq_true, decide_eq_true_eq, Bool.not_eq_true'] at h
    exact ⟨by omega, by rw [ex', h.1], by rw [ez', h.2]⟩

theorem get_both (l : List Int) (hl : l.length ≤ 1048576) (hb : ∀ x ∈ l, 0 ≤ x ∧ x ≤ 255) : ∃ (p q : List Int) (v : Bool), p.length ≤ 1048576 ∧ q.length ≤ 1048576 ∧ F36 (l, ()) = some (((p, q), v), (), ()) ∧ F33 (l, ()) = some (((p, q), v), (), ()) := by
  match l, hl, hb with
  | [x, y], hl, hb =>
    obtain ⟨a1, b1, i1, s1, la1, lb1, o1, c1⟩ := byte_cases x (hb x (by simp)).1 (hb x (by simp)).2
    obtain ⟨a2, b2, i2, s2, la2, lb2, o2, c2⟩ := byte_cases y (hb y (by simp)).1 (hb y (by simp)).2
    have r0 : rd (Kd.int IntKind.u8) [x, y] (Int.toNat 0) = x := rfl
    have r1 : rd (Kd.int IntKind.u8) [x, y] (Int.toNat 1) = y := rfl
    have n2 : (([x, y] : List Int).length : Int) = 2 := rfl
    have t1 : (1 : Int) < 2 := by decide
    have t0 : (0 : Int) < 2 := by decide
    simp only [F36, F33, n2, t0, t1, r0, r1, i1, i2, s1, s2, decide_true, Bool.not_true, cond_false, cond_true, obind_some, groupI a1 a2 (by omega) (by omega), groupS b1 b2 (by omega) (by omega), putG b1 b2 (by omega) (by omega), sameBytes_eq (put b1 b2) [x, y] (by have := put_len b1 b2; omega)]
    rcases c1 with ⟨v1, rfl, k1⟩ | ⟨v1, j1, k1⟩
    · rcases c2 with ⟨v2, rfl, k2⟩ | ⟨v2, j2, k2⟩
      · cases hg : groupOk a1 a2 with
        | false => exact ⟨[], [], false, by simp, by simp, rfl, rfl⟩
        | true =>
          have hp : put a1 a2 = [x, y] := by
            unfold put
            rw [if_pos hg, k1, k2]
          simp only [hp, decide_true, Bool.not_true, cond_false]
          exact ⟨_, _, _, by omega, by omega, rfl, rfl⟩
      · have hg : groupOk a1 a2 = false := by simp [groupOk, j2]
        simp only [hg, Bool.not_false, cond_true]
        cases hg2 : groupOk a1 b2 with
        | false => exact ⟨[], [], false, by simp, by simp, rfl, rfl⟩
        | true =>
          have hp : put a1 b2 ≠ [x, y] := by
            unfold put
            rw [if_pos hg2, k1, k2]
            intro e
            injection e with _ e
            injection e with e _
            omega
          simp only [hp, decide_false, Bool.not_false, Bool.not_true, cond_true, cond_false]
          exact ⟨[], [], false, by simp, by simp, rfl, rfl⟩
    · have hg : groupOk a1 a2 = false := by simp [groupOk, j1]
      simp only [hg, Bool.not_false, cond_true]
      cases hg2 : groupOk b1 b2 with
      | false => exact ⟨[], [], false, by simp, by simp, rfl, rfl⟩
      | true =>
        have hp : put b1 b2 ≠ [x, y] := by
          unfold put
          rw [if_pos hg2, k1]
          intro e
          injection e with e _
          omega
        simp only [hp, decide_false, Bool.not_false, Bool.not_true, cond_true, cond_false]
        exact ⟨[], [], false, by simp, by simp, rfl, rfl⟩
  | [], _, _ => exact ⟨[], [], false, by simp, by simp, rfl, rfl⟩
  | [x], _, _ => exact ⟨[], [], false, by simp, by simp, rfl, rfl⟩
  | x :: y :: z :: l, _, _ =>
    have h : ¬ ((x :: y :: z :: l).length : Int) = 2 := by simp; omega
    simp only [F36, F33, h, decide_false, Bool.not_false, cond_true]
    exact ⟨[], [], false, by simp, by simp, rfl, rfl⟩

end Go.Nu

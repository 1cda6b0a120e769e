/- Nu, part Zf: loops that many laws have: copies, comparisons, counts. -/
import Derived.Test.YtjilffemogdabaaNuZe
import Derived.IntWalk
namespace Go.Nu
open Go.IntWalk
set_option linter.unusedVariables false

theorem take_step {α : Type} {o a : List α} {n : Nat} {v : α} (ho : n < o.length) (ha : n < a.length) (h : o.take n = a.take n) (hv : v = a[n]) : (o.set n v).take (n + 1) = a.take (n + 1) := by
  subst hv
  rw [List.take_succ_eq_append_getElem (by simpa using ho), List.take_succ_eq_append_getElem ha, ← h, List.take_set_of_le (Nat.le_refl _)]
  simp

/-- Copies element by element. -/
def copyB (d : Kd) (rec : List d.T × Int × List d.T × Unit → Option (List d.T × Unit)) (x1 : List d.T × Int × List d.T × Unit) : Option (List d.T × Unit) :=
  cond (Decidable.decide (Prod.fst (Prod.snd x1) < (↑(List.length (Prod.fst x1)) : Int))) (cond (Decidable.decide ((0 : Int) ≤ Prod.fst (Prod.snd x1))) (cond (Decidable.decide (Prod.fst (Prod.snd x1) < (↑(List.length (Prod.fst x1)) : Int))) (cond (Decidable.decide ((0 : Int) ≤ Prod.fst (Prod.snd x1))) (cond (Decidable.decide (Prod.fst (Prod.snd x1) < (↑(List.length (Prod.fst (Prod.snd (Prod.snd x1)))) : Int))) (rec ((Prod.fst x1, Go.IntKind.wrap Go.IntKind.i64 (Prod.fst (Prod.snd x1) + (1 : Int)), List.set (Prod.fst (Prod.snd (Prod.snd x1))) (Int.toNat (Prod.fst (Prod.snd x1))) (Go.Nu.rd d (Prod.fst x1) (Int.toNat (Prod.fst (Prod.snd x1)))), ()))) (none)) (none)) (none)) (none)) (some ((Prod.fst (Prod.snd (Prod.snd x1)), ())))

theorem copy_rounds (d : Kd) (l : List d.T) (h : l.length ≤ 140737488355328) (z : List d.T) (hz : z.length = l.length) : rounds (copyB d) fuel (l, 0, z, ()) = some (l, ()) := by
  refine rounds_eq (B := copyB d) (fun x => x.2.2.1.length = x.1.length ∧ 0 ≤ x.2.1 ∧ x.2.1 ≤ x.1.length ∧ x.1.length ≤ 140737488355328 ∧ x.2.2.1.take x.2.1.toNat = x.1.take x.2.1.toNat) (fun x => x.1.length - x.2.1.toNat) (fun x => (x.1, ())) ?_ fuel _ ⟨by simp [hz], by simp, by simp, h, by simp⟩ (by simp only [fuel]; omega)
  rintro rec ⟨a, i, o, u⟩ ⟨h1, h2, h3, h4, h5⟩ hrec
  simp only at h1 h2 h3 h4 h5
  simp only [copyB]
  by_cases hlt : i < (a.length : Int)
  · have hi : i.toNat < a.length := by omega
    have hi' : i.toNat < o.length := by omega
    have hw : IntKind.i64.wrap (i + 1) = i + 1 := i64_in (i + 1) (by omega)
    simp only [hlt, h2, h1, decide_true, cond_true, hw]
    refine hrec _ ⟨by simp [h1], by simp only; omega, by simp only; omega, h4, ?_⟩ (by simp only; omega)
    simp only
    rw [show (i + 1).toNat = i.toNat + 1 by omega]
    exact take_step hi' hi h5 (rd_lt hi)
  · simp only [hlt, decide_false, cond_false]
    have : i.toNat = a.length := by omega
    rw [this, List.take_length, List.take_of_length_le (by omega)] at h5
    rw [h5]

/-- Compares two slices of whole numbers. -/
def eqB (k : IntKind) (rec : List Int × List Int × Int × Unit → Option ((Bool × Unit) ⊕ Unit)) (x1 : List Int × List Int × Int × Unit) : Option ((Bool × Unit) ⊕ Unit) :=
  cond (Decidable.decide (Prod.fst (Prod.snd (Prod.snd x1)) < (↑(List.length (Prod.fst x1)) : Int))) (cond (Decidable.decide ((0 : Int) ≤ Prod.fst (Prod.snd (Prod.snd x1)))) (cond (Decidable.decide (Prod.fst (Prod.snd (Prod.snd x1)) < (↑(List.length (Prod.fst x1)) : Int))) (cond (Decidable.decide ((0 : Int) ≤ Prod.fst (Prod.snd (Prod.snd x1)))) (cond (Decidable.decide (Prod.fst (Prod.snd (Prod.snd x1)) < (↑(List.length (Prod.fst (Prod.snd x1))) : Int))) (cond (!Decidable.decide (Go.Nu.rd (Go.Nu.Kd.int k) (Prod.fst x1) (Int.toNat (Prod.fst (Prod.snd (Prod.snd x1)))) = Go.Nu.rd (Go.Nu.Kd.int k) (Prod.fst (Prod.snd x1)) (Int.toNat (Prod.fst (Prod.snd (Prod.snd x1)))))) (some (Sum.inl (Bool.false, ()))) (rec ((Prod.fst x1, Prod.fst (Prod.snd x1), Go.IntKind.wrap Go.IntKind.i64 (Prod.fst (Prod.snd (Prod.snd x1)) + (1 : Int)), ())))) (none)) (none)) (none)) (none)) (some (Sum.inr ()))

theorem eq_rounds (k : IntKind) (l m : List Int) (h : l.length ≤ 140737488355328) (hlm : l.length = m.length) : rounds (eqB k) fuel (l, m, 0, ()) = some (if l = m then .inr () else .inl (false, ())) := by
  refine rounds_eq (B := eqB k) (fun x => x.1.length = x.2.1.length ∧ 0 ≤ x.2.2.1 ∧ x.2.2.1 ≤ x.1.length ∧ x.1.length ≤ 140737488355328 ∧ x.1.take x.2.2.1.toNat = x.2.1.take x.2.2.1.toNat) (fun x => x.1.length - x.2.2.1.toNat) (fun x => if x.1 = x.2.1 then .inr () else .inl (false, ())) ?_ fuel _ ⟨hlm, by simp, by simp, h, by simp⟩ (by simp only [fuel]; omega)
  rintro rec ⟨a, b, i, u⟩ ⟨h1, h2, h3, h4, h5⟩ hrec
  simp only at h1 h2 h3 h4 h5
  simp only [eqB]
  by_cases hlt : i < (a.length : Int)
  · have hi : i.toNat < a.length := by omega
    have hi' : i.toNat < b.length := by omega
    have hw : IntKind.i64.wrap (i + 1) = i + 1 := i64_in (i + 1) (by omega)
    have hlt' : i < (b.length : Int) := by omega
    simp only [hlt, hlt', h2, decide_true, cond_true, hw]
    rw [rd_lt (d := .int k) hi, rd_lt (d := .int k) hi']
    by_cases he : a[i.toNat] = b[i.toNat]
    · simp only [he, decide_true, Bool.not_true, cond_false]
      refine hrec _ ⟨h1, by simp only; omega, by simp only; omega, h4, ?_⟩ (by simp only; omega)
      simp only
      rw [show (i + 1).toNat = i.toNat + 1 by omega, List.take_succ_eq_append_getElem hi, List.take_succ_eq_append_getElem hi', h5, he]
    · simp only [he, decide_false, Bool.not_false, cond_true]
      rw [if_neg (fun e => he (by simp [e]))]
  · simp only [hlt, decide_false, cond_false]
    have e1 : i.toNat = a.length := by omega
    rw [e1, List.take_length, List.take_of_length_le (by omega)] at h5
    rw [if_pos h5]

theorem toS_eq (d : Kd) (n : Nat) (hn : n ≤ 64) (l : List d.T) (h : l.length ≤ 1048576) :
    (cond (Decidable.decide ((0 : Int) ≤ (↑(List.length l) : Int))) (cond (Decidable.decide ((↑(List.length l) : Int) ≤ (↑(List.length l) : Int))) (cond (Decidable.decide ((↑(List.length l) : Int) * (↑n : Int) ≤ (↑Go.Nu.room : Int)))
      (obind (rounds (copyB d) fuel ((l, (0 : Int), List.replicate (Int.toNat (↑(List.length l) : Int)) (Go.Nu.Kd.zero d), ()))) (fun y2 => some ((Prod.fst y2, (), ())))) (none)) (none)) (none) : Option (List d.T × Unit × Unit)) = some (l, (), ()) := by
  have h1 := copy_rounds d l (by omega) (List.replicate (Int.toNat (l.length : Int)) d.zero) (by simp)
  have h2 : ((l.length : Int) * (n : Int)) ≤ (room : Nat) := by
    have h3 : l.length * n ≤ 1048576 * 64 := Nat.mul_le_mul h hn
    have h4 : (l.length : Int) * (n : Int) = ((l.length * n : Nat) : Int) := by simp
    rw [h4]
    unfold room
    omega
  rw [h1]
  simp [h2]

theorem eqS_eq (k : IntKind) (l m : List Int) (h : l.length ≤ 1048576) :
    (cond (!Decidable.decide ((↑(List.length l) : Int) = (↑(List.length m) : Int))) (some ((Bool.false, (), (), ()))) (obind (rounds (eqB k) fuel ((l, m, (0 : Int), ()))) (fun y2 => (match y2 with | .inl y3 => some ((Prod.fst y3, (), (), ())) | .inr y4 => some ((Bool.true, (), (), ()))))) : Option (Bool × Unit × Unit × Unit)) = some (decide (l = m), (), (), ()) := by
  by_cases hl : l.length = m.length
  · rw [eq_rounds k l m (by omega) hl]
    by_cases he : l = m
    · simp [he]
    · simp [he, hl]
  · have he : l ≠ m := fun e => hl (by rw [e])
    have : ¬ (l.length : Int) = m.length := by omega
    simp [this, he]

theorem szS_eq {α : Type} (l : List α) (k : Int) (h : l.length ≤ maxLen) (h0 : 0 ≤ k) (h1 : k ≤ 9223372036854775807) :
    (cond (Decidable.decide (Go.IntKind.wrap Go.IntKind.i64 (k - (↑(List.length l) : Int)) < (0 : Int))) (some (((-1 : Int), (), (), ()))) (some ((Go.IntKind.wrap Go.IntKind.i64 (k - (↑(List.length l) : Int)), (), (), ()))) : Option (Int × Unit × Unit × Unit)) =
      some (if k < l.length then -1 else k - l.length, (), (), ()) := by
  have hm : (maxLen : Int) = 9223372036854775807 := rfl
  have hw : IntKind.i64.wrap (k - l.length) = k - l.length := i64_in _ (by omega)
  simp only [hw]
  by_cases hk : k < l.length
  · have : k - (l.length : Int) < 0 := by omega
    simp [this, hk]
  · have : ¬ k - (l.length : Int) < 0 := by omega
    simp [this, hk]

end Go.Nu

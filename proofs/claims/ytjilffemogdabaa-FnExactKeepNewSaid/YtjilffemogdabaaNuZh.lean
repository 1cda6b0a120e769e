/- Nu, part Zh: more of what many laws have: bounds, texts of marks, copies. -/
import Derived.Test.YtjilffemogdabaaNuZg
namespace Go.Nu
open Go.IntWalk
set_option linter.unusedVariables false
set_option linter.unusedSimpArgs false

theorem int64_ok {x : Int} (h : OkV (.int .i64) x) : -9223372036854775808 ≤ x ∧ x ≤ 9223372036854775807 := by
  have h' : (Lit.int IntKind.i64 x).wf = true := h
  simp [Lit.wf, IntKind.min, IntKind.max, IntKind.signed, IntKind.bits] at h'
  omega
theorem byte_ok {x : Int} (h : OkV (.int .u8) x) : 0 ≤ x ∧ x ≤ 255 := by
  have h' : (Lit.int IntKind.u8 x).wf = true := h
  simp [Lit.wf, IntKind.min, IntKind.max, IntKind.signed, IntKind.bits] at h'
  omega
theorem rooms {n k : Nat} (h : n ≤ 4194304) (hk : k ≤ 1024) : n * k ≤ room := by
  have h1 : n * k ≤ 4194304 * 1024 := Nat.mul_le_mul h hk
  have : room = 140737488355328 := rfl
  omega

theorem firstAt_map {E E' : Type} (g : E → E') (f : Nat → Option E) : ∀ (m i : Nat), firstAt (fun i => (f i).map g) m i = (firstAt f m i).map g
  | 0, _ => rfl
  | m + 1, i => by
    simp only [firstAt]
    cases f i with
    | none => exact firstAt_map g f m (i + 1)
    | some e => rfl

/-- A copy by append to an empty slice, where nil stays nil. -/
theorem clone_gen {α : Type} (a : List α) (b : Nat) (h : a.length * b ≤ room) :
    (cond (Nat.beq (List.length a) (0 : Nat)) (Go.Nu.same (some ((Go.Nu.nilL α, (), ()))) (cond (Decidable.decide ((List.length (Go.Nu.nilL α) + List.length a) * b ≤ Go.Nu.room)) (some ((a, (), ()))) (none))) (cond (Decidable.decide ((List.length (Go.Nu.nilL α) + List.length a) * b ≤ Go.Nu.room)) (some ((a, (), ()))) (none)) : Option (List α × Unit × Unit)) = some (a, (), ()) := by
  cases a with
  | nil => simp
  | cons x a =>
    have h2 : (0 + (x :: a).length) * b ≤ room := by simpa using h
    simp only [List.length_nil, h2, decide_true, cond_true]
    rfl

theorem bytesStr_size (l : List Int) : (bytesStr l).size = l.length := by simp [bytesStr, ByteArray.size]
theorem app_size (a b : ByteArray) : (a ++ b).size = a.size + b.size := by simp

/-- The digits of a mark's text. -/
def mtB (rec : Int × ByteArray × Unit → Option (ByteArray × Unit)) (x1 : Int × ByteArray × Unit) : Option (ByteArray × Unit) :=
  cond (Decidable.decide (Prod.fst x1 > (0 : Int))) (cond (Decidable.decide (ByteArray.size (Go.Nu.bytesStr [Go.IntKind.wrap Go.IntKind.u8 (Go.IntKind.wrap Go.IntKind.i64 ((48 : Int) + Int.tmod (Prod.fst x1) (10 : Int)))]) + ByteArray.size (Prod.fst (Prod.snd x1)) ≤ (9223372036854775807 : Nat))) (rec ((Go.IntKind.wrap Go.IntKind.i64 (Int.tdiv (Prod.fst x1) (10 : Int)), Go.Nu.bytesStr [Go.IntKind.wrap Go.IntKind.u8 (Go.IntKind.wrap Go.IntKind.i64 ((48 : Int) + Int.tmod (Prod.fst x1) (10 : Int)))] ++ Prod.fst (Prod.snd x1), ()))) (none)) (some ((Prod.fst (Prod.snd x1), ())))

theorem mt_rounds (k : Int) (h0 : 0 ≤ k) (h1 : k ≤ 2251799813685248) (s : ByteArray) (hs : s.size = 0) : ∃ r, rounds mtB fuel (k, s, ()) = some (r, ()) ∧ r.size ≤ 2251799813685248 := by
  obtain ⟨e, he, hr⟩ := rounds_ind (B := mtB) (fun x => 0 ≤ x.1 ∧ x.1 ≤ 2251799813685248 ∧ (x.2.1.size : Int) + x.1 ≤ 2251799813685248) (fun x => x.1.toNat) (fun x e => e.1.size ≤ 2251799813685248) (fun rec x hx hr => by
    obtain ⟨k, s, u⟩ := x
    obtain ⟨h0, h1, h2⟩ := hx
    simp only at h0 h1 h2
    simp only [mtB]
    by_cases hk : k > 0
    · have e1 : Int.tdiv k 10 = k / 10 := Int.tdiv_eq_ediv_of_nonneg h0
      have e2 : IntKind.i64.wrap (k / 10) = k / 10 := i64_in _ (by omega)
      have e3 : (bytesStr [IntKind.u8.wrap (IntKind.i64.wrap (48 + Int.tmod k 10))]).size + s.size ≤ 9223372036854775807 := by
        rw [bytesStr_size]
        simp only [List.length_cons, List.length_nil]
        omega
      simp only [hk, e3, decide_true, cond_true, e1, e2]
      refine hr _ ⟨by simp only; omega, by simp only; omega, ?_⟩ (by simp only; omega)
      simp only [app_size, bytesStr_size, List.length_cons, List.length_nil]
      omega
    · simp only [hk, decide_false, cond_false]
      have h3 : s.size ≤ 2251799813685248 := by omega
      exact ⟨_, rfl, h3⟩) fuel (k, s, ()) ⟨h0, h1, by simp only [hs]; omega⟩ (by simp only [fuel]; omega)
  obtain ⟨r, u⟩ := e
  exact ⟨r, he, hr⟩

theorem mt_some (k : Int) (h0 : 0 ≤ k) (h1 : k ≤ 2251799813685248) (s m m0 : ByteArray) (hs : s.size = 0) (hm : m.size = 1) :
    ∃ r, (cond (Decidable.decide (k ≤ (0 : Int))) (some ((m0, (), ()))) (obind (rounds mtB fuel ((k, s, ()))) (fun y2 => cond (Decidable.decide (ByteArray.size m + ByteArray.size (Prod.fst y2) ≤ (9223372036854775807 : Nat))) (some ((m ++ Prod.fst y2, (), ()))) (none))) : Option (ByteArray × Unit × Unit)) = some (r, (), ()) := by
  obtain ⟨r, e, h2⟩ := mt_rounds k h0 h1 s hs
  by_cases hk : k ≤ 0
  · exact ⟨_, by simp only [hk, decide_true, cond_true]; rfl⟩
  · have : m.size + r.size ≤ 9223372036854775807 := by omega
    exact ⟨_, by simp only [hk, decide_false, cond_false, e, obind_some, this, decide_true, cond_true]; rfl⟩

theorem wnext {i : Nat} (h : i < 1048576) : IntKind.i64.wrap ((i : Int) + 1) = ((i + 1 : Nat) : Int) := by rw [i64_in _ (by omega)]; omega
theorem wprev {i : Nat} (h : i < 1048576) : IntKind.i64.wrap ((i : Int) - 1) = (i : Int) - 1 := i64_in _ (by omega)

open Classical in
/-- A loop that ends at the first that is not good. -/
theorem good_rounds {X E : Type} {B : (X → Option E) → X → Option E} (st : Nat → X) (n : Nat) (good : Nat → Prop) (bad e : E) (hn : n ≤ 1048576)
    (hs : ∀ rec i, i < n → B rec (st i) = if good i then rec (st (i + 1)) else some bad) (he : ∀ rec, B rec (st n) = some e) : rounds B fuel (st 0) = some (if ∀ i, i < n → good i then e else bad) := by
  have h := path_find (B := B) st n (fun i => if good i then none else some bad) e (fun rec i hi => by
    rw [hs rec i hi]
    by_cases hg : good i <;> simp [hg]) he n fuel 0 (by omega) (by simp only [fuel]; omega)
  rw [h]
  congr 1
  by_cases hall : ∀ i, i < n → good i
  · rw [if_pos hall, firstAt_none.2 (fun j h1 h2 => by simp [hall j (by omega)])]
    rfl
  · rw [if_neg hall]
    cases hf : firstAt (fun i => if good i then none else some bad) n 0 with
    | none =>
      rw [firstAt_none] at hf
      exact absurd (fun i hi => by
        have := hf i (by omega) (by omega)
        by_cases hg : good i
        · exact hg
        · simp [hg] at this) hall
    | some e' =>
      obtain ⟨j, h1, h2, h3, _⟩ := firstAt_some hf
      by_cases hg : good j
      · simp [hg] at h3
      · simp [hg] at h3
        rw [h3]
        rfl

end Go.Nu

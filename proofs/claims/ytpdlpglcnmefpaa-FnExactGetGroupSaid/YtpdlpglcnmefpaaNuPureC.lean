/- What 'PutGroup', 'Joint' and 'GetGroup' answer, in plain Lean. -/
import Derived.Test.YtpdlpglcnmefpaaNuPureB
namespace Go.Nu
open Go.IntWalk
set_option linter.unusedVariables false
set_option linter.unusedSimpArgs false

theorem ids_get {l : List Int} (h : idsB l = true) (i : Nat) (hi : i < l.length) : iGood l i := by
  classical
  exact of_decide_eq_true h i hi
theorem rdI {l : List Int} {i : Nat} (h : i < l.length) : rd (Kd.int IntKind.i64) l i = l[i]'h := rd_lt (d := .int .i64) h
theorem ids_in {l : List Int} (h : idsB l = true) (i : Nat) (hi : i < l.length) : (1 : Int) ≤ l[i] ∧ l[i] ≤ (7 : Int) := by
  have := (ids_get h i hi).1
  rw [rdI hi] at this
  exact this
theorem ids_up {l : List Int} (h : idsB l = true) (i : Nat) (hi : i + 1 < l.length) : l[i] < l[i + 1] := by
  have h2 := (ids_get h (i + 1) hi).2 (by omega)
  have e : (((i + 1 : Nat) : Int) - 1).toNat = i := by omega
  rw [e, rdI hi, rdI (show i < l.length by omega)] at h2
  have h3 : ¬ l[i + 1] ≤ l[i] := h2
  omega
/-- Ids ascend: the i-th is above i. -/
theorem ids_above {l : List Int} (h : idsB l = true) : ∀ (i : Nat) (hi : i < l.length), (i : Int) + 1 ≤ l[i] := by
  intro i
  induction i with
  | zero =>
    intro hi
    have := (ids_in h 0 hi).1
    omega
  | succ i ih =>
    intro hi
    have h1 := ih (by omega)
    have h2 := ids_up h i hi
    omega
theorem ids_len {l : List Int} (h : idsB l = true) : l.length ≤ 7 := by
  by_cases h0 : l.length = 0
  · omega
  · have h1 := ids_above h (l.length - 1) (by omega)
    have h2 := (ids_in h (l.length - 1) (by omega)).2
    omega

/-! ### Sets of Ids as bits -/
def bitI (x : Int) : Int := IntKind.u8.wrap ((1 : Int) * (2 : Int) ^ Min.min (Int.toNat (IntKind.i64.wrap (x - 1))) (IntKind.bits .u8))
def bitS (x : Int) : Int := IntKind.i64.wrap ((1 : Int) * (2 : Int) ^ Min.min (Int.toNat (IntKind.u64.wrap (IntKind.i64.wrap (x - 1)))) (IntKind.bits .i64))
def orI (a b : Int) : Int := bits2 .u8 (fun (x1 x2 : BitVec (IntKind.bits .u8)) => x1 ||| x2) a b
def orS (a b : Int) : Int := bits2 .i64 (fun (x1 x2 : BitVec (IntKind.bits .i64)) => x1 ||| x2) a b
theorem or_same : ((List.range 128).all fun a => (List.range 7).all fun x => decide (orI a (bitI (x + 1)) = orS a (bitS (x + 1)) ∧ 0 ≤ orI a (bitI (x + 1)) ∧ orI a (bitI (x + 1)) < 128)) = true := by kernel_rfl
theorem or_eq {a x : Int} (h0 : 0 ≤ a) (h1 : a < 128) (h2 : 1 ≤ x) (h3 : x ≤ 7) : orI a (bitI x) = orS a (bitS x) ∧ 0 ≤ orI a (bitI x) ∧ orI a (bitI x) < 128 := by
  have h := or_same
  have ha := List.all_eq_true.1 h a.toNat (List.mem_range.2 (by omega))
  have hx := of_decide_eq_true (List.all_eq_true.1 ha (x - 1).toNat (List.mem_range.2 (by omega)))
  rw [show ((a.toNat : Nat) : Int) = a by omega, show (((x - 1).toNat : Nat) : Int) + 1 = x by omega] at hx
  exact hx

/-- The set of a list's first i. -/
def setF (l : List Int) : Nat → Int
  | 0 => 0
  | i + 1 => orI (setF l i) (bitI (rd (.int .i64) l i))
theorem setF_succ {l : List Int} {i : Nat} (h : i < l.length) : setF l (i + 1) = orI (setF l i) (bitI (l[i]'h)) := by
  show orI (setF l i) (bitI (rd (.int .i64) l i)) = _
  rw [rdI h]
theorem setF_ok {l : List Int} (h : idsB l = true) : ∀ i, i ≤ l.length → 0 ≤ setF l i ∧ setF l i < 128
  | 0, _ => by simp [setF]
  | i + 1, hi => by
    have h1 := setF_ok h i (by omega)
    have h2 := ids_in h i (by omega)
    rw [setF_succ (by omega)]
    exact (or_eq h1.1 h1.2 h2.1 h2.2).2

theorem setI (l : List Int) (h : idsB l = true) : F54 (l, ()) = some (setF l l.length, (), ()) := by
  have hl := ids_len h
  have e := path_rounds (B := L54_3B) (fun i => (setF l i, l, (l.length : Int), (i : Int), ())) l.length (setF l l.length, ()) (fun rec i hi => by
    have b1 : (i : Int) < (l.length : Int) := by omega
    have b0 : (0 : Int) ≤ (i : Int) := by omega
    have g := ids_in h i hi
    have w : IntKind.i64.wrap (l[i] - 1) = l[i] - 1 := i64_in _ (by omega)
    have n0 : ¬ IntKind.i64.wrap (l[i] - 1) < 0 := by omega
    simp only [L54_3B, b0, b1, decide_true, cond_true, Int.toNat_natCast, wnext (show i < 1048576 by omega), rdI hi, n0, decide_false, cond_false, setF_succ hi]
    rfl) (fun rec => by
    simp only [L54_3B, Int.lt_irrefl, decide_false, cond_false]) fuel 0 (by omega) (by simp only [fuel]; omega)
  have e' : L54_3 (0, l, (l.length : Int), 0, ()) = _ := e
  simp only [F54, e', obind_some]
theorem setS (l : List Int) (h : idsB l = true) : F53 (l, ()) = some (setF l l.length, (), ()) := by
  have hl := ids_len h
  have e := path_rounds (B := L53_3B) (fun i => (l, setF l i, (i : Int), ())) l.length (setF l l.length, ()) (fun rec i hi => by
    have b1 : (i : Int) < (l.length : Int) := by omega
    have b0 : (0 : Int) ≤ (i : Int) := by omega
    have g := ids_in h i hi
    have w : IntKind.i64.wrap (l[i] - 1) = l[i] - 1 := i64_in _ (by omega)
    have w2 : IntKind.u64.wrap (l[i] - 1) = l[i] - 1 := u64_in _ (by omega)
    have n0 : ¬ IntKind.u64.wrap (IntKind.i64.wrap (l[i] - 1)) < 0 := by rw [w, w2]; omega
    have f := setF_ok h i (by omega)
    have o := (or_eq f.1 f.2 g.1 g.2).1
    simp only [L53_3B, b0, b1, decide_true, cond_true, Int.toNat_natCast, wnext (show i < 1048576 by omega), rdI hi, n0, decide_false, cond_false, setF_succ hi]
    show rec (l, orS (setF l i) (bitS l[i]), ((i + 1 : Nat) : Int), ()) = rec (l, orI (setF l i) (bitI l[i]), ((i + 1 : Nat) : Int), ())
    rw [o]) (fun rec => by
    simp only [L53_3B, Int.lt_irrefl, decide_false, cond_false]) fuel 0 (by omega) (by simp only [fuel]; omega)
  have e' : L53_3 (l, 0, 0, ()) = _ := e
  have f := setF_ok h l.length (Nat.le_refl _)
  have w : IntKind.u8.wrap (setF l l.length) = setF l l.length := u8_in _ (by omega)
  simp only [F53, e', obind_some, w]

noncomputable def put (a b : List Int) : List Int := if groupOk a b = true then [setF a a.length, setF b b.length] else []
theorem groupOk_ids {a b : List Int} (h : groupOk a b = true) : idsB a = true ∧ idsB b = true ∧ 0 < a.length := by
  unfold groupOk at h
  simp only [Bool.and_eq_true, decide_eq_true_eq] at h
  exact h
theorem putI (a b : List Int) (ha : a.length ≤ 1048576) (hb : b.length ≤ 1048576) : F26 ((a, b), ()) = some (put a b, (), ()) := by
  simp only [F26, groupI a b ha hb, obind_some, put]
  cases hg : groupOk a b with
  | false => simp
  | true =>
    obtain ⟨h1, h2, _⟩ := groupOk_ids hg
    simp only [setI a h1, setI b h2, obind_some, Bool.not_true, cond_false, if_true]
theorem putG (a b : List Int) (ha : a.length ≤ 1048576) (hb : b.length ≤ 1048576) : F25 ((a, b), ()) = some (put a b, (), ()) := by
  simp only [F25, groupS a b ha hb, obind_some, put]
  cases hg : groupOk a b with
  | false => simp
  | true =>
    obtain ⟨h1, h2, _⟩ := groupOk_ids hg
    simp only [setS a h1, setS b h2, obind_some, Bool.not_true, cond_false, if_true]
theorem put_len (a b : List Int) : (put a b).length ≤ 2 := by
  unfold put
  split <;> simp

theorem FnExactPutGroup_pure : ∀ x, OkA [.pr (.sl (.int .i64)) (.sl (.int .i64))] x → ∃ u, F6 x = some (true, u) := by
  rintro ⟨⟨a, b⟩, _⟩ ⟨⟨⟨h1, _⟩, ⟨h2, _⟩⟩, _⟩
  simp only [F6]
  rcases szGroup_cases a b h1 h2 with ⟨k, e, hk⟩ | ⟨k, e, hk, ha, hb⟩
  · simp [e, hk]
  · have hr := put_len a b
    have e1 := putI a b ha hb
    have e2 := putG a b ha hb
    generalize put a b = r at *
    have hrl : r.length ≤ 1048576 := by omega
    obtain ⟨m1, x1, y1, b1, _, k1, _⟩ := markGroup a b ha hb
    have n1 : ¬ m1 < 0 := by omega
    have n2 : ¬ (1 : Int) + r.length < 0 := by omega
    simp only [e, obind_some, hk, decide_false, cond_false, toGroup_eq a b ha hb, e1, e2, eqBytes_eq r r hrl, eqGroup_eq a b a b ha hb, k1, n1, n2, markBytes r 1 hrl (by decide) (by decide), heldBytes r.length 1 hrl (by decide) (by decide), decide_true, Bool.not_true]
    first | exact ⟨((), ()), rfl⟩ | exact ⟨((), ()), by simp⟩

/-! ### Joint -/
theorem sameI_eq (l m : List Int) (hl : l.length ≤ 1048576) : F56 (l, m, ()) = some (decide (l = m), (), (), ()) := by
  by_cases hlm : l.length = m.length
  · have h := path_find (B := L56_4B) (fun i => (l, m, (l.length : Int), (i : Int), ())) l.length (fun i => if (rd (.int .i64) l i : Int) = rd (.int .i64) m i then none else some (.inl (false, ()))) (.inr ()) (fun rec i hi => by
      have b1 : (i : Int) < (l.length : Int) := by omega
      have b2 : (i : Int) < (m.length : Int) := by omega
      have b0 : (0 : Int) ≤ (i : Int) := by omega
      simp only [L56_4B, b0, b1, b2, decide_true, cond_true, Int.toNat_natCast, wnext (show i < 1048576 by omega)]
      by_cases he : (rd (.int .i64) l i : Int) = rd (.int .i64) m i <;> simp [he]) (fun rec => by simp [L56_4B]) l.length fuel 0 (by omega) (by simp only [fuel]; omega)
    have h' : L56_4 (l, m, (l.length : Int), 0, ()) = _ := h
    have hl' : (l.length : Int) = m.length := by omega
    rw [hl'] at h'
    simp only [F56, hl', decide_true, Bool.not_true, cond_false, h', obind_some]
    cases hf : firstAt (fun i => if (rd (.int .i64) l i : Int) = rd (.int .i64) m i then (none : Option ((Bool × Unit) ⊕ Unit)) else some (.inl (false, ()))) l.length 0 with
    | none =>
      have he : l = m := by
        apply List.ext_getElem hlm
        intro i h1 h2
        have := firstAt_none.1 hf i (by omega) (by omega)
        by_cases he : (rd (.int .i64) l i : Int) = rd (.int .i64) m i
        · rwa [rd_lt (d := .int .i64) h1, rd_lt (d := .int .i64) h2] at he
        · simp [he] at this
      simp [he]
    | some e =>
      obtain ⟨j, h1, h2, h3, _⟩ := firstAt_some hf
      by_cases he : (rd (.int .i64) l j : Int) = rd (.int .i64) m j
      · simp [he] at h3
      · simp only [he, if_false, Option.some.injEq] at h3
        subst h3
        have hne : l ≠ m := fun e => he (by rw [e])
        simp [hne]
  · have hl' : ¬ (l.length : Int) = m.length := by omega
    have he : l ≠ m := fun e => hlm (by rw [e])
    simp [F56, hl', he]

theorem joint_both (a b c : List Int) (ha : a.length ≤ 1048576) (hb : b.length ≤ 1048576) (hc : c.length ≤ 1048576) : ∃ (p : List Int) (q : List Int) (v : Bool), p.length ≤ 1048576 ∧ q.length ≤ 1048576 ∧ F31 ((a, b), c, ()) = some (((p, q), v), (), (), ()) ∧ F30 ((a, b), c, ()) = some (((p, q), v), (), (), ()) := by
  have r : (0 + c.length) * 8 ≤ room := by simpa using rooms (n := c.length) (k := 8) (by omega) (by decide)
  simp only [F31, F30, groupI a b ha hb, groupS a b ha hb, copyI a b (by omega) (by omega), copyS a b (by omega) (by omega), idsI c hc, idsS c hc, sameI_eq c a hc, sameInts_eq c a hc, clone_eq c (by omega), obind_some, List.length_nil, r]
  cases groupOk a b with
  | false => exact ⟨_, _, _, ha, hb, rfl, rfl⟩
  | true =>
    by_cases h1 : (b.length : Int) > 0
    · simp only [h1, decide_true, cond_true, Bool.not_true, cond_false]; exact ⟨_, _, _, ha, hb, rfl, rfl⟩
    · simp only [h1, decide_false, cond_false, Bool.not_true]
      cases idsB c with
      | false => exact ⟨_, _, _, ha, hb, rfl, rfl⟩
      | true =>
        by_cases h2 : (c.length : Int) = 0
        · simp only [h2, decide_true, cond_true, Bool.not_true, cond_false]; exact ⟨_, _, _, ha, hb, rfl, rfl⟩
        · simp only [h2, decide_false, cond_false, Bool.not_true]
          by_cases h3 : c = a
          · simp only [h3, decide_true, cond_true]; exact ⟨_, _, _, ha, hb, rfl, rfl⟩
          · simp only [h3, decide_false, cond_false, decide_true, cond_true]; exact ⟨_, _, _, ha, hc, rfl, rfl⟩

theorem FnExactJoint_pure : ∀ x, OkA [.pr (.sl (.int .i64)) (.sl (.int .i64)), .sl (.int .i64)] x → ∃ u, F7 x = some (true, u) := by
  rintro ⟨⟨a, b⟩, c, _⟩ ⟨⟨⟨h1, _⟩, ⟨h2, _⟩⟩, ⟨h3, _⟩, _⟩
  simp only [F7]
  by_cases hcc : (c.length : Int) > 1048576
  · exact ⟨((), (), ()), by simp only [hcc, decide_true, cond_true]⟩
  have hc : c.length ≤ 1048576 := by omega
  simp only [hcc, decide_false, cond_false]
  rcases szGroup_cases a b h1 h2 with ⟨k, e, hk⟩ | ⟨k, e, hk, ha, hb⟩
  · simp [e, hk]
  · obtain ⟨p, q, v, hp, hq, e1, e2⟩ := joint_both a b c ha hb hc
    obtain ⟨m1, x1, y1, b1, b1', k1, _⟩ := markGroup a b ha hb
    obtain ⟨m2, x2, y2, b2, _, k2, k3⟩ := markGroup p q hp hq
    have n1 : ¬ m1 + (c.length : Int) < 0 := by omega
    have n2 : ¬ m2 < 0 := by omega
    simp only [e, obind_some, hk, decide_false, cond_false, toGroup_eq a b ha hb, toIntS_eq c hc, e1, e2, eqGroup_eq a b a b ha hb, eqGroup_eq p q p q hp hq, eqIntS_eq c c hc, k1, k2, k3, markIntS c m1 hc (by omega) (by omega), n1, n2, decide_true, Bool.not_true]
    cases v <;> first | exact ⟨((), (), ()), rfl⟩ | exact ⟨((), (), ()), by simp⟩

end Go.Nu

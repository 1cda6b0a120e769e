/- Nu, part Zj: the cursor over the bytes of a draw. -/
import Derived.Test.YtjilffemogdabaaNuZi
namespace Go.Nu
open Go.IntWalk
set_option linter.unusedVariables false
set_option linter.unusedSimpArgs false

abbrev Cur := List Int × Int × Int
abbrev gBytesX := Int × Int × List Int × Int × Int × List Int × Unit
abbrev gBytesE := List Int × Int × Int × List Int × Unit
abbrev gNewX := List Int × Int × Int × Unit
abbrev gNewE := List Int × Int × Unit
def gByte : ArgT [.p (.pr (.sl (.int Go.IntKind.u8)) (.pr (.int Go.IntKind.i64) (.int Go.IntKind.i64)))] → Option (ResT [.o (.int Go.IntKind.i64)] × UpdT [.p (.pr (.sl (.int Go.IntKind.u8)) (.pr (.int Go.IntKind.i64) (.int Go.IntKind.i64)))]) := fun ⟨a0, _u⟩ =>
  cond (Decidable.decide (Prod.fst (Prod.snd a0) < (↑(List.length (Prod.fst a0)) : Int))) (cond (Decidable.decide ((0 : Int) ≤ Prod.fst (Prod.snd a0))) (cond (Decidable.decide (Prod.fst (Prod.snd a0) < (↑(List.length (Prod.fst a0)) : Int))) (some ((Go.Nu.bits2 Go.IntKind.i64 (fun (x1 x2 : BitVec (Go.IntKind.bits Go.IntKind.i64)) => x1 &&& x2) (Go.IntKind.wrap Go.IntKind.i64 (Go.Nu.bits2 Go.IntKind.i64 (fun (x1 x2 : BitVec (Go.IntKind.bits Go.IntKind.i64)) => x1 &&& x2) (Go.Nu.bits2 Go.IntKind.i64 (fun (x1 x2 : BitVec (Go.IntKind.bits Go.IntKind.i64)) => x1 ^^^ x2) (Int.fdiv (Go.IntKind.wrap Go.IntKind.i64 (Go.IntKind.wrap Go.IntKind.i64 (Prod.snd (Prod.snd a0) * (6364136223846793005 : Int)) + (1442695040888963407 : Int))) ((2 : Int) ^ Min.min (Int.toNat (33 : Int)) (Go.IntKind.bits Go.IntKind.i64))) (Int.fdiv (Go.IntKind.wrap Go.IntKind.i64 (Go.IntKind.wrap Go.IntKind.i64 (Prod.snd (Prod.snd a0) * (6364136223846793005 : Int)) + (1442695040888963407 : Int))) ((2 : Int) ^ Min.min (Int.toNat (47 : Int)) (Go.IntKind.bits Go.IntKind.i64)))) (255 : Int) + Go.IntKind.wrap Go.IntKind.i64 (Go.Nu.rd (Go.Nu.Kd.int Go.IntKind.u8) (Prod.fst a0) (Int.toNat (Prod.fst (Prod.snd a0)))))) (255 : Int), (Prod.fst a0, Go.IntKind.wrap Go.IntKind.i64 (Prod.fst (Prod.snd a0) + (1 : Int)), Go.IntKind.wrap Go.IntKind.i64 (Go.IntKind.wrap Go.IntKind.i64 (Prod.snd (Prod.snd a0) * (6364136223846793005 : Int)) + (1442695040888963407 : Int))), ()))) (none)) (none)) (some ((Go.Nu.bits2 Go.IntKind.i64 (fun (x1 x2 : BitVec (Go.IntKind.bits Go.IntKind.i64)) => x1 &&& x2) (Go.Nu.bits2 Go.IntKind.i64 (fun (x1 x2 : BitVec (Go.IntKind.bits Go.IntKind.i64)) => x1 ^^^ x2) (Int.fdiv (Go.IntKind.wrap Go.IntKind.i64 (Go.IntKind.wrap Go.IntKind.i64 (Prod.snd (Prod.snd a0) * (6364136223846793005 : Int)) + (1442695040888963407 : Int))) ((2 : Int) ^ Min.min (Int.toNat (33 : Int)) (Go.IntKind.bits Go.IntKind.i64))) (Int.fdiv (Go.IntKind.wrap Go.IntKind.i64 (Go.IntKind.wrap Go.IntKind.i64 (Prod.snd (Prod.snd a0) * (6364136223846793005 : Int)) + (1442695040888963407 : Int))) ((2 : Int) ^ Min.min (Int.toNat (47 : Int)) (Go.IntKind.bits Go.IntKind.i64)))) (255 : Int), (Prod.fst a0, Prod.fst (Prod.snd a0), Go.IntKind.wrap Go.IntKind.i64 (Go.IntKind.wrap Go.IntKind.i64 (Prod.snd (Prod.snd a0) * (6364136223846793005 : Int)) + (1442695040888963407 : Int))), ())))
def gBelow : ArgT [.p (.pr (.sl (.int Go.IntKind.u8)) (.pr (.int Go.IntKind.i64) (.int Go.IntKind.i64))), .v (.int Go.IntKind.i64)] → Option (ResT [.o (.int Go.IntKind.i64)] × UpdT [.p (.pr (.sl (.int Go.IntKind.u8)) (.pr (.int Go.IntKind.i64) (.int Go.IntKind.i64))), .v (.int Go.IntKind.i64)]) := fun ⟨a0, a1, _u⟩ =>
  cond (Decidable.decide (a1 ≤ (0 : Int))) (some (((0 : Int), (Prod.fst a0, Prod.fst (Prod.snd a0), Prod.snd (Prod.snd a0)), (), ()))) (cond (Decidable.decide (a1 ≤ (256 : Int))) (obind (gByte (((Prod.fst a0, Prod.fst (Prod.snd a0), Prod.snd (Prod.snd a0)), ()))) (fun y1 => cond (Decidable.decide (a1 = (0 : Int))) (none) (some ((Int.tmod (Prod.fst y1) a1, (Prod.fst (Prod.fst (Prod.snd y1)), Prod.fst (Prod.snd (Prod.fst (Prod.snd y1))), Prod.snd (Prod.snd (Prod.fst (Prod.snd y1)))), (), ()))))) (obind (gByte (((Prod.fst a0, Prod.fst (Prod.snd a0), Prod.snd (Prod.snd a0)), ()))) (fun y2 => obind (gByte (((Prod.fst (Prod.fst (Prod.snd y2)), Prod.fst (Prod.snd (Prod.fst (Prod.snd y2))), Prod.snd (Prod.snd (Prod.fst (Prod.snd y2)))), ()))) (fun y3 => obind (gByte (((Prod.fst (Prod.fst (Prod.snd y3)), Prod.fst (Prod.snd (Prod.fst (Prod.snd y3))), Prod.snd (Prod.snd (Prod.fst (Prod.snd y3)))), ()))) (fun y4 => cond (Decidable.decide (a1 = (0 : Int))) (none) (some ((Int.tmod (Go.IntKind.wrap Go.IntKind.i64 (Go.IntKind.wrap Go.IntKind.i64 (Go.IntKind.wrap Go.IntKind.i64 (Prod.fst y2 * (65536 : Int)) + Go.IntKind.wrap Go.IntKind.i64 (Prod.fst y3 * (256 : Int))) + Prod.fst y4)) a1, (Prod.fst (Prod.fst (Prod.snd y4)), Prod.fst (Prod.snd (Prod.fst (Prod.snd y4))), Prod.snd (Prod.snd (Prod.fst (Prod.snd y4)))), (), ()))))))))
def gInt : ArgT [.p (.pr (.sl (.int Go.IntKind.u8)) (.pr (.int Go.IntKind.i64) (.int Go.IntKind.i64))), .v (.sl (.int Go.IntKind.i64))] → Option (ResT [.o (.int Go.IntKind.i64)] × UpdT [.p (.pr (.sl (.int Go.IntKind.u8)) (.pr (.int Go.IntKind.i64) (.int Go.IntKind.i64))), .v (.sl (.int Go.IntKind.i64))]) := fun ⟨a0, a1, _u⟩ =>
  obind (gBelow (((Prod.fst a0, Prod.fst (Prod.snd a0), Prod.snd (Prod.snd a0)), (↑(List.length a1) : Int), ()))) (fun y1 => cond (Decidable.decide ((0 : Int) ≤ Prod.fst y1)) (cond (Decidable.decide (Prod.fst y1 < (↑(List.length a1) : Int))) (some ((Go.Nu.rd (Go.Nu.Kd.int Go.IntKind.i64) a1 (Int.toNat (Prod.fst y1)), (Prod.fst (Prod.fst (Prod.snd y1)), Prod.fst (Prod.snd (Prod.fst (Prod.snd y1))), Prod.snd (Prod.snd (Prod.fst (Prod.snd y1)))), (), ()))) (none)) (none))
def gOnce : ArgT [.p (.pr (.sl (.int Go.IntKind.u8)) (.pr (.int Go.IntKind.i64) (.int Go.IntKind.i64))), .v (.int Go.IntKind.i64)] → Option (ResT [.o (.bool)] × UpdT [.p (.pr (.sl (.int Go.IntKind.u8)) (.pr (.int Go.IntKind.i64) (.int Go.IntKind.i64))), .v (.int Go.IntKind.i64)]) := fun ⟨a0, a1, _u⟩ =>
  obind (gBelow (((Prod.fst a0, Prod.fst (Prod.snd a0), Prod.snd (Prod.snd a0)), a1, ()))) (fun y1 => some ((Decidable.decide (Prod.fst y1 = (0 : Int)), (Prod.fst (Prod.fst (Prod.snd y1)), Prod.fst (Prod.snd (Prod.fst (Prod.snd y1))), Prod.snd (Prod.snd (Prod.fst (Prod.snd y1)))), (), ())))
def gBytesB (rec : gBytesX → Option gBytesE) (x1 : gBytesX) : Option gBytesE :=
  cond (Decidable.decide (Prod.fst (Prod.snd x1) < Prod.fst x1)) (obind (gByte (((Prod.fst (Prod.snd (Prod.snd x1)), Prod.fst (Prod.snd (Prod.snd (Prod.snd x1))), Prod.fst (Prod.snd (Prod.snd (Prod.snd (Prod.snd x1))))), ()))) (fun y2 => cond (Decidable.decide ((List.length (Prod.fst (Prod.snd (Prod.snd (Prod.snd (Prod.snd (Prod.snd x1)))))) + List.length (Go.IntKind.wrap Go.IntKind.u8 (Prod.fst y2) :: Go.Nu.nilL (Go.Nu.Kd.T (Go.Nu.Kd.int Go.IntKind.u8)))) * nat_lit 1 ≤ Go.Nu.room)) (rec ((Prod.fst x1, Go.IntKind.wrap Go.IntKind.i64 (Prod.fst (Prod.snd x1) + (1 : Int)), Prod.fst (Prod.fst (Prod.snd y2)), Prod.fst (Prod.snd (Prod.fst (Prod.snd y2))), Prod.snd (Prod.snd (Prod.fst (Prod.snd y2))), Prod.fst (Prod.snd (Prod.snd (Prod.snd (Prod.snd (Prod.snd x1))))) ++ Go.IntKind.wrap Go.IntKind.u8 (Prod.fst y2) :: Go.Nu.nilL (Go.Nu.Kd.T (Go.Nu.Kd.int Go.IntKind.u8)), ()))) (none))) (some ((Prod.fst (Prod.snd (Prod.snd x1)), Prod.fst (Prod.snd (Prod.snd (Prod.snd x1))), Prod.fst (Prod.snd (Prod.snd (Prod.snd (Prod.snd x1)))), Prod.fst (Prod.snd (Prod.snd (Prod.snd (Prod.snd (Prod.snd x1))))), ())))
def gBytes : ArgT [.p (.pr (.sl (.int Go.IntKind.u8)) (.pr (.int Go.IntKind.i64) (.int Go.IntKind.i64))), .v (.int Go.IntKind.i64)] → Option (ResT [.o (.sl (.int Go.IntKind.u8))] × UpdT [.p (.pr (.sl (.int Go.IntKind.u8)) (.pr (.int Go.IntKind.i64) (.int Go.IntKind.i64))), .v (.int Go.IntKind.i64)]) := fun ⟨a0, a1, _u⟩ =>
  obind (rounds gBytesB fuel ((a1, (0 : Int), Prod.fst a0, Prod.fst (Prod.snd a0), Prod.snd (Prod.snd a0), Go.Nu.nilL (Go.Nu.Kd.T (Go.Nu.Kd.int Go.IntKind.u8)), ()))) (fun y3 => some ((Prod.fst (Prod.snd (Prod.snd (Prod.snd y3))), (Prod.fst y3, Prod.fst (Prod.snd y3), Prod.fst (Prod.snd (Prod.snd y3))), (), ())))
def gNewB (rec : gNewX → Option gNewE) (x1 : gNewX) : Option gNewE :=
  cond (Decidable.decide (Prod.fst (Prod.snd (Prod.snd x1)) < (↑(List.length (Prod.fst x1)) : Int))) (cond (Decidable.decide (Prod.fst (Prod.snd (Prod.snd x1)) < (4000 : Int))) (cond (Decidable.decide ((0 : Int) ≤ Prod.fst (Prod.snd (Prod.snd x1)))) (cond (Decidable.decide (Prod.fst (Prod.snd (Prod.snd x1)) < (↑(List.length (Prod.fst x1)) : Int))) (rec ((Prod.fst x1, Go.Nu.bits2 Go.IntKind.i64 (fun (x1 x2 : BitVec (Go.IntKind.bits Go.IntKind.i64)) => x1 &&& x2) (Go.IntKind.wrap Go.IntKind.i64 (Go.IntKind.wrap Go.IntKind.i64 (Go.IntKind.wrap Go.IntKind.i64 (Prod.fst (Prod.snd x1) * (137 : Int)) + Go.IntKind.wrap Go.IntKind.i64 (Go.Nu.rd (Go.Nu.Kd.int Go.IntKind.u8) (Prod.fst x1) (Int.toNat (Prod.fst (Prod.snd (Prod.snd x1)))))) + (11 : Int))) (1073741823 : Int), Go.IntKind.wrap Go.IntKind.i64 (Prod.fst (Prod.snd (Prod.snd x1)) + (1 : Int)), ()))) (none)) (none)) (some ((Prod.fst x1, Prod.fst (Prod.snd x1), ())))) (some ((Prod.fst x1, Prod.fst (Prod.snd x1), ())))
def gNew : ArgT [.v (.sl (.int Go.IntKind.u8))] → Option (ResT [.p (.pr (.sl (.int Go.IntKind.u8)) (.pr (.int Go.IntKind.i64) (.int Go.IntKind.i64)))] × UpdT [.v (.sl (.int Go.IntKind.u8))]) := fun ⟨a0, _u⟩ =>
  obind (rounds gNewB fuel ((a0, Go.IntKind.wrap Go.IntKind.i64 ((134134 : Int) + (↑(List.length a0) : Int)), (0 : Int), ()))) (fun y2 => some (((Prod.fst y2, Int.ofNat (nat_lit 0), Prod.fst (Prod.snd y2)), (), ())))

def CurOk (c : Cur) : Prop := c.1.length ≤ 1048576 ∧ (∀ x ∈ c.1, 0 ≤ x ∧ x ≤ 255) ∧ 0 ≤ c.2.1 ∧ c.2.1 ≤ 1048576

theorem and255 (x : Int) : 0 ≤ bits2 .i64 (fun (x1 x2 : BitVec (IntKind.bits .i64)) => x1 &&& x2) x 255 ∧ bits2 .i64 (fun (x1 x2 : BitVec (IntKind.bits .i64)) => x1 &&& x2) x 255 ≤ 255 := by
  unfold bits2
  dsimp only
  have h : (BitVec.ofInt (IntKind.bits .i64) x &&& BitVec.ofInt (IntKind.bits .i64) 255).toNat ≤ 255 := by
    rw [BitVec.toNat_and]
    have : (BitVec.ofInt (IntKind.bits .i64) 255).toNat = 255 := by decide
    rw [this]
    exact Nat.and_le_right
  rw [i64_in _ (by omega)]
  omega

theorem gByte_ok {c : Cur} (h : CurOk c) : ∃ (v : Int) (c' : Cur), gByte (c, ()) = some (v, c', ()) ∧ 0 ≤ v ∧ v ≤ 255 ∧ CurOk c' := by
  obtain ⟨b, i, q⟩ := c
  obtain ⟨h1, h2, h3, h4⟩ := h
  simp only at h1 h2 h3 h4
  simp only [gByte]
  by_cases hi : i < (b.length : Int)
  · have w : IntKind.i64.wrap (i + 1) = i + 1 := i64_in _ (by omega)
    simp only [hi, h3, decide_true, cond_true, w]
    exact ⟨_, _, rfl, (and255 _).1, (and255 _).2, h1, h2, by simp only; omega, by simp only; omega⟩
  · simp only [hi, decide_false, cond_false]
    exact ⟨_, _, rfl, (and255 _).1, (and255 _).2, h1, h2, h3, h4⟩

theorem gBelow_ok {c : Cur} (h : CurOk c) (n : Int) : ∃ (v : Int) (c' : Cur), gBelow (c, n, ()) = some (v, c', (), ()) ∧ 0 ≤ v ∧ (0 < n → v < n) ∧ (n ≤ 0 → v = 0) ∧ CurOk c' := by
  simp only [gBelow]
  by_cases h0 : n ≤ 0
  · simp only [h0, decide_true, cond_true]
    exact ⟨0, c, rfl, by omega, by omega, by omega, h⟩
  · have n0 : ¬ n = 0 := by omega
    simp only [h0, n0, decide_false, cond_false]
    by_cases h1 : n ≤ 256
    · obtain ⟨v, c', e, v0, v1, hc⟩ := gByte_ok h
      simp only [h1, decide_true, cond_true, e, obind_some]
      exact ⟨_, _, rfl, Int.tmod_nonneg _ v0, fun hn => Int.tmod_lt_of_pos _ hn, fun hn => hn.elim, hc⟩
    · obtain ⟨v, c1, e, v0, v1, hc⟩ := gByte_ok h
      obtain ⟨v', c2, e', v0', v1', hc'⟩ := gByte_ok hc
      obtain ⟨v2, c3, e2, v02, v12, hc2⟩ := gByte_ok hc'
      have w1 : IntKind.i64.wrap (v * 65536) = v * 65536 := i64_in _ (by omega)
      have w2 : IntKind.i64.wrap (v' * 256) = v' * 256 := i64_in _ (by omega)
      have w3 : IntKind.i64.wrap (v * 65536 + v' * 256) = v * 65536 + v' * 256 := i64_in _ (by omega)
      have w4 : IntKind.i64.wrap (v * 65536 + v' * 256 + v2) = v * 65536 + v' * 256 + v2 := i64_in _ (by omega)
      simp only [h1, decide_false, cond_false, e, e', e2, obind_some, w1, w2, w3, w4]
      exact ⟨_, _, rfl, Int.tmod_nonneg _ (by omega), fun hn => Int.tmod_lt_of_pos _ hn, fun hn => hn.elim, hc2⟩

theorem gOnce_ok {c : Cur} (h : CurOk c) (n : Int) : ∃ (v : Bool) (c' : Cur), gOnce (c, n, ()) = some (v, c', (), ()) ∧ CurOk c' := by
  obtain ⟨v, c', e, _, _, _, hc⟩ := gBelow_ok h n
  simp only [gOnce, e, obind_some]
  exact ⟨_, _, rfl, hc⟩

theorem gInt_ok {c : Cur} (h : CurOk c) (l : List Int) (hl : 0 < l.length) : ∃ (v : Int) (c' : Cur), gInt (c, l, ()) = some (v, c', (), ()) ∧ v ∈ l ∧ CurOk c' := by
  obtain ⟨v, c', e, v0, v1, _, hc⟩ := gBelow_ok h (l.length : Int)
  have v2 := v1 (by omega)
  have hv : v.toNat < l.length := by omega
  simp only [gInt, e, obind_some, v0, v2, decide_true, cond_true]
  exact ⟨_, _, rfl, by rw [rd_lt (d := .int .i64) hv]; exact List.getElem_mem hv, hc⟩

theorem gBytes_ok {c : Cur} (h : CurOk c) (n : Int) (h0 : 0 ≤ n) (h1 : n ≤ 1048576) : ∃ (l : List Int) (c' : Cur), gBytes (c, n, ()) = some (l, c', (), ()) ∧ (l.length : Int) = n ∧ CurOk c' := by
  obtain ⟨e, he, hr⟩ := rounds_ind (B := gBytesB) (fun x => CurOk (x.2.2.1, x.2.2.2.1, x.2.2.2.2.1) ∧ 0 ≤ x.2.1 ∧ x.2.1 ≤ x.1 ∧ x.1 ≤ 1048576 ∧ (x.2.2.2.2.2.1.length : Int) = x.2.1) (fun x => (x.1 - x.2.1).toNat)
    (fun x e => CurOk (e.1, e.2.1, e.2.2.1) ∧ (e.2.2.2.1.length : Int) = x.1) (fun rec x hx hr => by
    obtain ⟨n, i, b, p, q, l, u⟩ := x
    obtain ⟨h1, h2, h3, h4, h5⟩ := hx
    simp only at h1 h2 h3 h4 h5
    simp only [gBytesB]
    by_cases hi : i < n
    · obtain ⟨v, c', e, v0, v1, hc⟩ := gByte_ok h1
      have w : IntKind.i64.wrap (i + 1) = i + 1 := i64_in _ (by omega)
      have r : (l.length + 1) * 1 ≤ room := rooms (by omega) (by decide)
      simp only [hi, decide_true, cond_true, e, obind_some, w, List.length_cons, List.length_nil, Nat.zero_add, r]
      obtain ⟨e', k1, k2⟩ := hr (n, i + 1, c'.1, c'.2.1, c'.2.2, l ++ [IntKind.u8.wrap v], ()) ⟨hc, by simp only; omega, by simp only; omega, h4, by simp only [List.length_append, List.length_cons, List.length_nil]; omega⟩ (by simp only; omega)
      exact ⟨e', k1, k2⟩
    · simp only [hi, decide_false, cond_false]
      exact ⟨_, rfl, h1, by simp only; omega⟩) fuel (n, 0, c.1, c.2.1, c.2.2, [], ()) ⟨h, by simp, h0, h1, by simp⟩ (by simp only [fuel]; omega)
  simp only [gBytes]
  have he' : rounds gBytesB fuel (n, 0, c.1, c.2.1, c.2.2, nilL (Kd.T (.int .u8)), ()) = some e := he
  simp only [he', obind_some]
  exact ⟨_, _, rfl, hr.2, hr.1⟩

theorem gNew_ok (b : List Int) (hb : b.length ≤ 1048576) (hx : ∀ x ∈ b, 0 ≤ x ∧ x ≤ 255) : ∃ c : Cur, gNew (b, ()) = some (c, (), ()) ∧ CurOk c := by
  obtain ⟨e, he, hr⟩ := rounds_ind (B := gNewB) (fun x => x.1.length ≤ 1048576 ∧ 0 ≤ x.2.2.1 ∧ x.2.2.1 ≤ x.1.length) (fun x => x.1.length - x.2.2.1.toNat)
    (fun x e => e.1 = x.1) (fun rec x hx hr => by
    obtain ⟨b, h, i, u⟩ := x
    obtain ⟨h1, h2, h3⟩ := hx
    simp only at h1 h2 h3
    simp only [gNewB]
    by_cases hi : i < (b.length : Int)
    · by_cases hi2 : i < 4000
      · have w : IntKind.i64.wrap (i + 1) = i + 1 := i64_in _ (by omega)
        simp only [hi, hi2, h2, decide_true, cond_true, w]
        exact hr _ ⟨h1, by simp only; omega, by simp only; omega⟩ (by simp only; omega)
      · simp only [hi, hi2, decide_true, decide_false, cond_true, cond_false]
        exact ⟨_, rfl, rfl⟩
    · simp only [hi, decide_false, cond_false]
      exact ⟨_, rfl, rfl⟩) fuel (b, IntKind.i64.wrap (134134 + (b.length : Int)), 0, ()) ⟨hb, by simp, by simp⟩ (by simp only [fuel]; omega)
  simp only [gNew, he, obind_some]
  refine ⟨_, rfl, ?_, ?_, by simp, by simp⟩
  · simp only [hr]; exact hb
  · simp only [hr]; exact hx

end Go.Nu

/- Nu, part Zi: slices joined. -/
import Derived.Test.YtjilffemogdabaaNuZh
namespace Go.Nu
open Go.IntWalk
set_option linter.unusedVariables false
set_option linter.unusedSimpArgs false

def catA (d : Kd) (rec : List (List d.T) × Int × List (List d.T) × Int × Int × Unit → Option (List (List d.T) × Int × Unit)) (x1 : List (List d.T) × Int × List (List d.T) × Int × Int × Unit) : Option (List (List d.T) × Int × Unit) :=
  cond (Decidable.decide (Prod.fst (Prod.snd (Prod.snd (Prod.snd (Prod.snd x1)))) < Prod.fst (Prod.snd (Prod.snd (Prod.snd x1))))) (cond (Decidable.decide ((0 : Int) ≤ Prod.fst (Prod.snd (Prod.snd (Prod.snd (Prod.snd x1)))))) (cond (Decidable.decide (Prod.fst (Prod.snd (Prod.snd (Prod.snd (Prod.snd x1)))) < (↑(List.length (Prod.fst (Prod.snd (Prod.snd x1)))) : Int)))
    (cond (Decidable.decide (Go.IntKind.wrap Go.IntKind.i64 (Prod.fst (Prod.snd x1) + (↑(List.length (Go.Nu.rd (.sl d) (Prod.fst (Prod.snd (Prod.snd x1))) (Int.toNat (Prod.fst (Prod.snd (Prod.snd (Prod.snd (Prod.snd x1)))))))) : Int)) < (0 : Int))) (none)
      (rec ((Prod.fst x1, Go.IntKind.wrap Go.IntKind.i64 (Prod.fst (Prod.snd x1) + (↑(List.length (Go.Nu.rd (.sl d) (Prod.fst (Prod.snd (Prod.snd x1))) (Int.toNat (Prod.fst (Prod.snd (Prod.snd (Prod.snd (Prod.snd x1)))))))) : Int)), Prod.fst (Prod.snd (Prod.snd x1)), Prod.fst (Prod.snd (Prod.snd (Prod.snd x1))), Go.IntKind.wrap Go.IntKind.i64 (Prod.fst (Prod.snd (Prod.snd (Prod.snd (Prod.snd x1)))) + (1 : Int)), ())))) (none)) (none)) (some ((Prod.fst x1, Prod.fst (Prod.snd x1), ())))

def lens {α : Type} (ls : List (List α)) : Nat := (ls.map List.length).sum
theorem lens_take {α : Type} {ls : List (List α)} {i : Nat} (h : i < ls.length) : lens (ls.take (i + 1)) = lens (ls.take i) + ls[i].length := by
  unfold lens
  rw [List.take_succ_eq_append_getElem h, List.map_append, List.sum_append]
  simp only [List.map_cons, List.map_nil, List.sum_cons, List.sum_nil, Nat.add_zero]
theorem lens_le {α : Type} (ls : List (List α)) (i : Nat) : lens (ls.take i) ≤ lens ls := by
  conv => rhs; rw [← List.take_append_drop i ls]
  simp only [lens, List.map_append, List.sum_append]
  omega
theorem flatten_take {α : Type} {ls : List (List α)} {i : Nat} (h : i < ls.length) : (ls.take (i + 1)).flatten = (ls.take i).flatten ++ ls[i] := by
  rw [List.take_succ_eq_append_getElem h, List.flatten_append]
  simp only [List.flatten_cons, List.flatten_nil, List.append_nil]
theorem flatten_lens {α : Type} (ls : List (List α)) : ls.flatten.length = lens ls := by simp [lens, List.length_flatten]

theorem catA_rounds (d : Kd) (ls : List (List d.T)) (h : lens ls ≤ 4194304) (hl : ls.length ≤ 1048576) : rounds (catA d) fuel (ls, 0, ls, (ls.length : Int), 0, ()) = some (ls, (lens ls : Int), ()) := by
  have e := path_rounds (B := catA d) (fun i => (ls, (lens (ls.take i) : Int), ls, (ls.length : Int), (i : Int), ())) ls.length (ls, (lens ls : Int), ()) (fun rec i hi => by
    have b1 : (i : Int) < (ls.length : Int) := by omega
    have b0 : (0 : Int) ≤ (i : Int) := by omega
    have e0 : rd (.sl d) ls i = ls[i] := rd_lt (d := .sl d) hi
    have e1 := lens_take hi
    have e2 := lens_le ls (i + 1)
    have w1 : IntKind.i64.wrap ((lens (ls.take i) : Int) + (ls[i].length : Int)) = (lens (ls.take (i + 1)) : Int) := by rw [i64_in _ (by omega)]; omega
    have n1 : ¬ (lens (ls.take (i + 1)) : Int) < 0 := by omega
    simp only [catA, b0, b1, decide_true, cond_true, Int.toNat_natCast, e0, w1, n1, decide_false, cond_false, wnext (show i < 1048576 by omega)]) (fun rec => by
    simp only [catA, Int.lt_irrefl, decide_false, cond_false, List.take_length]) fuel 0 (by omega) (by simp only [fuel]; omega)
  simpa [lens] using e

def catB (d : Kd) (b : Nat) (rec : List (List d.T) × Int × Int × List d.T × Unit → Option (List d.T × Unit)) (x4 : List (List d.T) × Int × Int × List d.T × Unit) : Option (List d.T × Unit) :=
  cond (Decidable.decide (Prod.fst (Prod.snd (Prod.snd x4)) < Prod.fst (Prod.snd x4))) (cond (Decidable.decide ((0 : Int) ≤ Prod.fst (Prod.snd (Prod.snd x4)))) (cond (Decidable.decide (Prod.fst (Prod.snd (Prod.snd x4)) < (↑(List.length (Prod.fst x4)) : Int)))
    (cond (Decidable.decide ((List.length (Prod.fst (Prod.snd (Prod.snd (Prod.snd x4)))) + List.length (Go.Nu.rd (.sl d) (Prod.fst x4) (Int.toNat (Prod.fst (Prod.snd (Prod.snd x4)))))) * b ≤ Go.Nu.room))
      (rec ((Prod.fst x4, Prod.fst (Prod.snd x4), Go.IntKind.wrap Go.IntKind.i64 (Prod.fst (Prod.snd (Prod.snd x4)) + (1 : Int)), Prod.fst (Prod.snd (Prod.snd (Prod.snd x4))) ++ Go.Nu.rd (.sl d) (Prod.fst x4) (Int.toNat (Prod.fst (Prod.snd (Prod.snd x4)))), ()))) (none)) (none)) (none)) (some ((Prod.fst (Prod.snd (Prod.snd (Prod.snd x4))), ())))

theorem catB_rounds (d : Kd) (b : Nat) (hb : b ≤ 1024) (ls : List (List d.T)) (h : lens ls ≤ 4194304) (hl : ls.length ≤ 1048576) : rounds (catB d b) fuel (ls, (ls.length : Int), 0, [], ()) = some (ls.flatten, ()) := by
  have e := path_rounds (B := catB d b) (fun i => (ls, (ls.length : Int), (i : Int), (ls.take i).flatten, ())) ls.length (ls.flatten, ()) (fun rec i hi => by
    have b1 : (i : Int) < (ls.length : Int) := by omega
    have b0 : (0 : Int) ≤ (i : Int) := by omega
    have e0 : rd (.sl d) ls i = ls[i] := rd_lt (d := .sl d) hi
    have e1 := lens_take hi
    have e2 := lens_le ls (i + 1)
    have e3 := flatten_take hi
    have e4 := flatten_lens (ls.take i)
    have r : ((ls.take i).flatten.length + ls[i].length) * b ≤ room := rooms (by omega) hb
    simp only [catB, b0, b1, decide_true, cond_true, Int.toNat_natCast, e0, r, wnext (show i < 1048576 by omega), e3]) (fun rec => by
    simp only [catB, Int.lt_irrefl, decide_false, cond_false, List.take_length]) fuel 0 (by omega) (by simp only [fuel]; omega)
  simpa using e

end Go.Nu

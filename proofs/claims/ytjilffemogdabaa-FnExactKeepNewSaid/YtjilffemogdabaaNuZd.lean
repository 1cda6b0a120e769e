/- Nu, part Zd: a law's row out of its contract: the arguments told by kinds. -/
import Derived.Test.YtjilffemogdabaaNuZc
import Derived.WalkKit
import Derived.ProofKit
import Derived.OpenShut
import Derived.ShutString
import Derived.ChangeOld
import Derived.Below
import Derived.SizedLaws
import Derived.Carry
namespace Go.Nu
open Go.RowKit
set_option linter.unusedVariables false
set_option linter.unusedSimpArgs false
set_option linter.unnecessarySimpa false

/-! ### Which kind a type has -/
def fldB (f : TypeId → Kd → Bool) : List Field → Kd → Nat → Bool
  | [], _, _ => false
  | [x], d, o => f x.type d && Nat.beq x.offset o
  | x :: y :: r, .pr a b, o => f x.type a && Nat.beq x.offset o && fldB f (y :: r) b (o + a.sz)
  | _, _, _ => false
def ktB (P : Program) : Nat → TypeId → Kd → Bool
  | 0, _, _ => false
  | n + 1, t, d => match P.underlying t, d with
    | some (.int k), .int k' => decide (k = k')
    | some .bool, .bool => true
    | some .string, .str => true
    | some (.slice e), .sl d => ktB P n e d && Nat.beq (P.cellsOf e) d.sz
    | some (.struct fs), d => Nat.beq (P.cellsOf t) d.sz && fldB (fun t d => ktB P n t d && Nat.beq (P.cellsOf t) d.sz) fs.toList d 0
    | _, _ => false

/-- What a value that comes in keeps to. -/
def OkV : (d : Kd) → d.T → Prop
  | .int k, x => (Lit.int k x).wf = true
  | .bool, _ => True
  | .str, s => s.size ≤ maxLen
  | .sl d, l => l.length ≤ maxLen ∧ ∀ x ∈ l, OkV d x
  | .pr a b, x => OkV a x.1 ∧ OkV b x.2

theorem list_of {α : Type} {p : Nat → α → Prop} : ∀ (n : Nat), (∀ i, i < n → ∃ a, p i a) → ∃ l : List α, l.length = n ∧ ∀ i (h : i < l.length), p i l[i]
  | 0, _ => ⟨[], rfl, fun i h => by cases h⟩
  | n + 1, h => by
    obtain ⟨l, h1, h2⟩ := list_of n fun i hi => h i (by omega)
    obtain ⟨a, ha⟩ := h n (by omega)
    refine ⟨l ++ [a], by simp [h1], fun i hi => ?_⟩
    by_cases hl : i < l.length
    · rw [List.getElem_append_left hl]; exact h2 i hl
    · have : i = n := by simp at hi; omega
      subst this
      have : (l ++ [a])[i] = a := by simp [List.getElem_append_right, h1]
      rw [this]; exact ha

section
variable {H : Type} {enc : TypeId × Value → H} {P : Program} {w : World} {sp : Nat → Bool} {held : Bool}

theorem cells?_at {base : Nat} {a : Addr} {n : Nat} {cs : List Value} (h : w.cells? base a n = some cs) : cs.length = n ∧ ∀ j, j < n → w.cell? (a.add j) = cs[j]? := by
  unfold World.cells? at h
  split at h
  case isFalse => cases h
  exact ⟨by simpa using mapM_some_length h, fun j hj => mapM_some_get h j j (by simp [hj])⟩

theorem flds_open {n : Nat} (ih : ∀ (t : TypeId) (d : Kd) (fuel : Nat) (cs : List Value) (x : DataW H × List MemPlace), ktB P n t d = true → DataW.trod enc P w 0 sp held fuel t cs = some x → ∃ v, Rep (fun b => b < w.heap.size) w d v cs ∧ OkV d v) {m : Nat} {cs : List Value} :
    ∀ {fs : List Field} {d : Kd} {o : Nat}, fldB (fun t d => ktB P n t d && Nat.beq (P.cellsOf t) d.sz) fs d o = true → (∀ f ∈ fs, ∃ y, DataW.trod enc P w 0 sp held m f.type ((cs.drop f.offset).take (P.cellsOf f.type)) = some y) →
      ∃ v, Rep (fun b => b < w.heap.size) w d v ((cs.drop o).take d.sz) ∧ OkV d v
  | [], _, _, h, _ => by cases h
  | [x], d, o, h, hy => by
    simp only [fldB, Bool.and_eq_true] at h
    obtain ⟨y, hy⟩ := hy x (by simp)
    rw [Nat.eq_of_beq_eq_true h.1.2, Nat.eq_of_beq_eq_true h.2] at hy
    exact ih x.type d m _ y h.1.1 hy
  | x :: x' :: r, .pr a b, o, h, hy => by
    simp only [fldB, Bool.and_eq_true] at h
    obtain ⟨y, hy1⟩ := hy x (by simp)
    rw [Nat.eq_of_beq_eq_true h.1.1.2, Nat.eq_of_beq_eq_true h.1.2] at hy1
    obtain ⟨v1, k1, k2⟩ := ih x.type a m _ y h.1.1.1 hy1
    obtain ⟨v2, k3, k4⟩ := flds_open ih (fs := x' :: r) (d := b) (o := o + a.sz) h.2 fun f hf => hy f (List.mem_cons_of_mem _ hf)
    refine ⟨(v1, v2), ⟨_, _, ?_, k1, k3⟩, k2, k4⟩
    rw [Kd.sz, List.take_add, List.drop_drop]
  | _ :: _ :: _, .int _, _, h, _ => by simp [fldB] at h
  | _ :: _ :: _, .bool, _, h, _ => by simp [fldB] at h
  | _ :: _ :: _, .str, _, h, _ => by simp [fldB] at h
  | _ :: _ :: _, .sl _, _, h, _ => by simp [fldB] at h

theorem kd_open : ∀ (n : Nat) (t : TypeId) (d : Kd) (fuel : Nat) (cs : List Value) (x : DataW H × List MemPlace), ktB P n t d = true → DataW.trod enc P w 0 sp held fuel t cs = some x → ∃ v, Rep (fun b => b < w.heap.size) w d v cs ∧ OkV d v := by
  intro n
  induction n with
  | zero => intro t d fuel cs x h; cases h
  | succ n ih =>
    intro t d fuel cs x h hx
    simp only [ktB] at h
    split at h
    · rename_i k k' hu
      have hk : k = k' := of_decide_eq_true h
      subst hk
      obtain ⟨m, rfl, _, hw⟩ := DataW.trod_int hu hx
      exact ⟨m, rfl, hw⟩
    · rename_i hu
      obtain ⟨b, rfl, _⟩ := DataW.trod_bool hu hx
      exact ⟨b, rfl, trivial⟩
    · rename_i hu
      obtain ⟨s, rfl, _, hs⟩ := DataW.trod_string hu hx
      exact ⟨s, rfl, hs⟩
    · rename_i e d hu
      simp only [Bool.and_eq_true] at h
      have hsz := Nat.eq_of_beq_eq_true h.2
      rcases DataW.trod_slice hu hx with ⟨rfl, _⟩ | ⟨a, len, cap, elems, rest, m, _, rfl, _, _, hl, hm, hlen, hel, _, _⟩
      · exact ⟨[], ⟨none, 0, rfl, Nat.le_refl _, .inl rfl⟩, by simp [OkV]⟩
      · have hall : ∀ i, i < len → ∃ v : d.T, ∃ es, w.cells? 0 (a.add (i * d.sz)) d.sz = some es ∧ Rep (fun b => b < w.heap.size) w d v es ∧ OkV d v := by
          intro i hi
          have h1 := hel i hi
          rw [List.getElem?_eq_getElem (by omega), hsz] at h1
          obtain ⟨es, h2, h3⟩ := Option.bind_eq_some_iff.1 h1
          obtain ⟨v, h4, h5⟩ := ih e d m es _ h.1 h3
          exact ⟨v, es, h2, h4, h5⟩
        obtain ⟨l, h1, h2⟩ := list_of len hall
        have hpos := d.sz_pos
        refine ⟨l, ⟨some a, cap, by rw [h1], by omega, ?_⟩, by omega, fun x hx => ?_⟩
        · by_cases h0 : len = 0
          · left; apply List.eq_nil_of_length_eq_zero; omega
          · right
            obtain ⟨es, h3, h4, _⟩ := h2 0 (by omega)
            obtain ⟨h5, h6⟩ := cells?_at h3
            have h7 := h6 0 hpos
            rw [Nat.zero_mul] at h7
            have e0 : (a.add 0).add 0 = a := by simp [Addr.add]
            rw [e0, List.getElem?_eq_getElem (by omega)] at h7
            have hspot := World.cell?_spot h7
            refine ⟨a, rfl, hspot, ?_, fun i hi => ?_⟩
            · unfold World.cell? at h7
              split at h7
              · rename_i hh; exact (Array.getElem?_eq_some_iff.1 hh).1
              · cases h7
            · obtain ⟨es, h8, h9, _⟩ := h2 i hi
              obtain ⟨h10, h11⟩ := cells?_at h8
              refine ⟨es, fun j hj => ?_, h9⟩
              rw [← h11 j (by omega), add_plus a hspot, add_plus _ (by simpa [plus] using hspot)]
        · obtain ⟨i, hi, rfl⟩ := List.mem_iff_getElem.1 hx
          obtain ⟨_, _, _, h5⟩ := h2 i hi
          exact h5
    · rename_i dd _ _ fs hu
      simp only [Bool.and_eq_true] at h
      obtain ⟨xs, m, _, _, hl, hxl, hf⟩ := DataW.trod_struct hu hx
      obtain ⟨v, h1, h2⟩ := flds_open ih (m := m) (cs := cs) (fs := fs.toList) (d := dd) (o := 0) h.2 fun f hfm => by
        obtain ⟨i, hi, rfl⟩ := List.mem_iff_getElem.1 hfm
        have hi' : i < fs.size := by simpa using hi
        have := hf i fs[i] (by rw [Array.getElem?_eq_getElem hi'])
        rw [List.getElem?_eq_getElem (by omega)] at this
        exact ⟨_, by simpa using this⟩
      refine ⟨v, ?_, h2⟩
      rw [List.drop_zero, List.take_of_length_le (by rw [hl, Nat.eq_of_beq_eq_true h.1]; exact Nat.le_refl _)] at h1
      exact h1
    · cases h

/-- An argument, opened. -/
theorem arg_open {n b0 : Nat} {t : TypeId} {d : Kd} {v : Value} {D : DataW H} {ps : List MemPlace} (hk : ktB P n t d = true) (hs : isPr d = false → (match P.underlying t with | some (.struct _) => false | _ => true) = true)
    (hv : Value.okWide P w .any b0 t v) (h : DataW.Trod enc P w 0 sp held t v D ps) : ∃ x : d.T, OkV d x ∧ L1 (fun b => b < w.heap.size) w (fun _ => none) (opn d x) v := by
  obtain ⟨fuel, h⟩ := h
  obtain ⟨x, h1, h2⟩ := kd_open n t d fuel _ _ hk h
  refine ⟨x, h2, opn_rel h1 (fun hp => ?_) (fun hp => ?_)⟩
  · cases d <;> first | (cases hp; done) | skip
    rename_i a b
    have hl := h1.length
    have ha := a.sz_pos
    have hb := b.sz_pos
    cases v <;> first | exact ⟨_, rfl⟩ | (simp [Value.cells, Kd.sz] at hl; omega)
  · have hs2 := hs hp
    clear hs
    cases n with
    | zero => cases hk
    | succ n =>
      simp only [ktB] at hk
      split at hk
      · rename_i hu; obtain ⟨m, rfl⟩ := WideShapes.okWide_int hu hv; rfl
      · rename_i hu
        simp only [Value.okWide, hu, Cell.okWide] at hv
        cases v <;> first | rfl | simp_all [Cell.ok]
      · rename_i hu; obtain ⟨m, rfl⟩ := WideShapes.okWide_string hu hv; rfl
      · rename_i hu; obtain ⟨a, l, c, rfl⟩ := WideShapes.okWide_slice hu hv; rfl
      · rename_i hu
        simp_all
      · cases hk
end

/-! ### Several arguments -/
def VArgs (S : Nat → Prop) (w : World) : (ks : List Kd) → ArgT (ks.map .v) → List Value → Prop
  | [], _, [] => True
  | d :: ks, x, v :: vs => OkV d x.1 ∧ L1 S w (fun _ => none) (opn d x.1) v ∧ VArgs S w ks x.2 vs
  | _, _, _ => False
def OkA : (ks : List Kd) → ArgT (ks.map .v) → Prop
  | [], _ => True
  | d :: ks, x => OkV d x.1 ∧ OkA ks x.2
theorem VArgs.ok {S : Nat → Prop} {w : World} : ∀ {ks : List Kd} {x : ArgT (ks.map .v)} {vs : List Value}, VArgs S w ks x vs → OkA ks x ∧ All2 (L1 S w (fun _ => none)) (inA (ks.map .v) x []).1 vs ∧ (inA (ks.map .v) x []).2 = []
  | [], _, [], _ => ⟨trivial, trivial, rfl⟩
  | d :: ks, x, v :: vs, h => by
    obtain ⟨h1, h2, h3⟩ := VArgs.ok (ks := ks) (x := x.2) h.2.2
    exact ⟨⟨h.1, h1⟩, ⟨h.2.1, h2⟩, h3⟩
  | [], _, _ :: _, h => h.elim
  | _ :: _, _, [], h => h.elim

theorem sum_v : ∀ (ks : List Kd), ((ks.map PK.v).map PK.n).sum = 0
  | [] => rfl
  | _ :: ks => by rw [List.map_cons, List.map_cons, List.sum_cons, sum_v ks]; rfl

/-- A call whose answer is told to be true, of arguments that are only read. -/
theorem law_calls {P : Program} {f : FuncId} {ks : List Kd} {F : ArgT (ks.map .v) → Option (ResT [.o .bool] × UpdT (ks.map .v))} (hF : Ctr.ok P f ⟨ks.map .v, [.o .bool], F⟩)
    (hT : ∀ x, OkA ks x → ∃ u, F x = some (true, u)) {W : World} {args : Array Value} {x : ArgT (ks.map .v)} (hx : VArgs (fun b => b < W.heap.size) W ks x args.toList) :
    Calls P f args W fun e W' => e = .returned (.bool true) ∧ Below W.heap.size W W' := by
  obtain ⟨h1, h2, h3⟩ := hx.ok
  obtain ⟨u, hu⟩ := hT x h1
  have hH : HRel (fun b => b < W.heap.size) W (fun _ => none) [] := ⟨fun _ h => h, fun _ => trivial, fun b _ ho => (by obtain ⟨id, l, c, _, hr⟩ := ho; cases hr), fun _ _ _ _ _ _ _ h => by cases h⟩
  have hg := hF.good x _ hu 0 [] rfl (fun _ h => by cases h) (sum_v ks).symm (fun b => b < W.heap.size) W (fun _ => none) args.toList (by rw [h3]; exact hH) h2 (fun _ _ _ => rfl)
  refine hg.mono fun e W' ⟨v, he, S', ρ', E, _, hv, _⟩ => ?_
  have hvt : v = .bool true := hv
  subst hvt
  rw [h3] at E
  refine ⟨he, E.os, E.tape, E.output, E.grow, fun k hk => E.keep k hk fun ho => ?_⟩
  obtain ⟨id, l, c, _, hr⟩ := ho
  cases hr

end Go.Nu

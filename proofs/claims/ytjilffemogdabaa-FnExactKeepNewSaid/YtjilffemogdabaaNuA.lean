/- Nu, part A: kinds, abstract values, the store, and what they say of a world. Plain definitions and laws; no program in sight. -/
import Derived.Calls
import Derived.Laws.World
import Derived.Laws.Cells
import Derived.Laws.AppendOwn
namespace Go.Nu

/-- The kinds of values that are told. -/
inductive Kd where
  | int (k : IntKind) | bool | str
  | sl (d : Kd)
  | pr (a b : Kd)
  deriving DecidableEq

@[reducible] def Kd.T : Kd → Type
  | .int _ => Int
  | .bool => Bool
  | .str => ByteArray
  | .sl d => List d.T
  | .pr a b => a.T × b.T

def Kd.sz : Kd → Nat
  | .pr a b => a.sz + b.sz
  | _ => 1

/-- The zero value. -/
def Kd.zero : (d : Kd) → d.T
  | .int _ => (0 : Int)
  | .bool => false
  | .str => ByteArray.empty
  | .sl _ => []
  | .pr a b => (a.zero, b.zero)

/-- No slice inside. -/
def Kd.flat : Kd → Bool
  | .sl _ => false
  | .pr a b => a.flat && b.flat
  | _ => true

inductive AV where
  | undef
  | bool (b : Bool)
  | int (k : IntKind) (n : Int)
  | str (s : ByteArray)
  | rsl (d : Kd) (l : List d.T)
  | osl (id : Nat)
  | vsl (id sz lo n : Nat)
  | nils
  | nilp
  | ptr (id sz i c : Nat)
  | rptr (d : Kd) (x : d.T) (c : Nat)
  | agg (cs : List AV)
  | tup (vs : List AV)
  | clo (f : FuncId) (cs : List AV)

inductive Cell where
  | none
  | dead
  | av (v : AV)
  | box (cs : List AV)
  | arr (d : Kd) (l : List d.T)

abbrev Store := List (Nat × Cell)
def Store.get : Store → Nat → Cell
  | [], _ => .none
  | (k, c) :: r, i => match Nat.beq k i with
    | true => c
    | false => Store.get r i

/-- Where a block lies: a nil slice; or block g, of so many elements and such a capacity. -/
inductive Loc where
  | nil
  | at (g len cap : Nat)

abbrev Rho := Nat → Option Loc

/-! ### Cells -/
def plus (a : Addr) (n : Nat) : Addr := ⟨a.block, a.off + n, none⟩
theorem add_plus (a : Addr) (h : a.spot = none) (n : Nat) : a.add n = plus a n := by
  obtain ⟨b, o, s⟩ := a
  simp only at h
  subst h
  unfold Addr.add plus
  split <;> simp_all
theorem plus_plus (a : Addr) (n m : Nat) : plus (plus a n) m = plus a (n + m) := by simp [plus, Nat.add_assoc]
theorem plus_zero (a : Addr) (h : a.spot = none) : plus a 0 = a := by
  obtain ⟨b, o, s⟩ := a
  simp only at h
  subst h
  simp [plus]

/-- From a on the world holds these cells. -/
def cellsAt (w : World) (a : Addr) (cs : List Value) : Prop := ∀ j, j < cs.length → w.cell? (plus a j) = cs[j]?

theorem cellsAt_append {w : World} {a : Addr} {x y : List Value} : cellsAt w a (x ++ y) ↔ cellsAt w a x ∧ cellsAt w (plus a x.length) y := by
  constructor
  · intro h
    refine ⟨fun j hj => ?_, fun j hj => ?_⟩
    · have := h j (by simp; omega)
      rwa [List.getElem?_append_left hj] at this
    · have := h (x.length + j) (by simp; omega)
      rw [List.getElem?_append_right (by omega)] at this
      rw [plus_plus, this]
      congr 1
      omega
  · rintro ⟨h1, h2⟩ j hj
    by_cases hx : j < x.length
    · rw [List.getElem?_append_left hx]; exact h1 j hx
    · rw [List.getElem?_append_right (by omega)]
      have := h2 (j - x.length) (by simp at hj; omega)
      rw [plus_plus] at this
      rw [← this]
      congr 2
      omega

theorem cellsAt_of_block {w w' : World} {a : Addr} {cs : List Value} (h : cellsAt w a cs) (hb : w'.heap[a.block]? = w.heap[a.block]?) : cellsAt w' a cs := by
  intro j hj
  rw [← h j hj]
  exact World.cell?_of_block (a := plus a j) hb

/-! ### What a value's cells say, slices inside read through the blocks of S -/
def Rep (S : Nat → Prop) (w : World) : (d : Kd) → d.T → List Value → Prop
  | .int k, x, cs => cs = [.int k x]
  | .bool, x, cs => cs = [.bool x]
  | .str, x, cs => cs = [.string x]
  | .sl d, l, cs => ∃ A c, cs = [.slice A l.length c] ∧ l.length ≤ c ∧
      (l = [] ∨ ∃ ad, A = some ad ∧ ad.spot = none ∧ S ad.block ∧
        ∀ i (h : i < l.length), ∃ es, cellsAt w (plus ad (i * d.sz)) es ∧ Rep S w d l[i] es)
  | .pr a b, x, cs => ∃ c1 c2, cs = c1 ++ c2 ∧ Rep S w a x.1 c1 ∧ Rep S w b x.2 c2

theorem Rep.length {S : Nat → Prop} {w : World} : ∀ {d : Kd} {x : d.T} {cs : List Value}, Rep S w d x cs → cs.length = d.sz
  | .int _, _, _, h => by simp [Rep] at h; simp [h, Kd.sz]
  | .bool, _, _, h => by simp [Rep] at h; simp [h, Kd.sz]
  | .str, _, _, h => by simp [Rep] at h; simp [h, Kd.sz]
  | .sl _, _, _, h => by obtain ⟨A, c, rfl, _⟩ := h; simp [Kd.sz]
  | .pr a b, _, _, h => by
    obtain ⟨c1, c2, rfl, h1, h2⟩ := h
    simp [Kd.sz, h1.length, h2.length]

theorem Rep.mono {S S' : Nat → Prop} {w w' : World} (hS : ∀ b, S b → S' b) (hw : ∀ b, S b → w'.heap[b]? = w.heap[b]?) :
    ∀ {d : Kd} {x : d.T} {cs : List Value}, Rep S w d x cs → Rep S' w' d x cs
  | .int _, _, _, h => h
  | .bool, _, _, h => h
  | .str, _, _, h => h
  | .sl d, l, _, h => by
    obtain ⟨A, c, rfl, hc, h⟩ := h
    refine ⟨A, c, rfl, hc, ?_⟩
    rcases h with h | ⟨ad, h1, h2, h3, h4⟩
    · exact .inl h
    · refine .inr ⟨ad, h1, h2, hS _ h3, fun i hi => ?_⟩
      obtain ⟨es, he, hr⟩ := h4 i hi
      exact ⟨es, cellsAt_of_block he (hw _ h3), hr.mono hS hw⟩
  | .pr a b, _, _, h => by
    obtain ⟨c1, c2, rfl, h1, h2⟩ := h
    exact ⟨c1, c2, rfl, h1.mono hS hw, h2.mono hS hw⟩

/-- Without slices inside, the world says nothing. -/
theorem Rep.of_flat {S S' : Nat → Prop} {w w' : World} : ∀ {d : Kd} {x : d.T} {cs : List Value}, d.flat = true → Rep S w d x cs → Rep S' w' d x cs
  | .int _, _, _, _, h => h
  | .bool, _, _, _, h => h
  | .str, _, _, _, h => h
  | .sl _, _, _, hf, _ => by simp [Kd.flat] at hf
  | .pr a b, _, _, hf, h => by
    simp [Kd.flat] at hf
    obtain ⟨c1, c2, rfl, h1, h2⟩ := h
    exact ⟨c1, c2, rfl, h1.of_flat hf.1, h2.of_flat hf.2⟩

/-! ### Abstract values -/
def Loc.slice : Loc → Value
  | .nil => .slice none 0 0
  | .at g len cap => .slice (some ⟨g, 0, none⟩) len cap

def Loc.len : Loc → Nat
  | .nil => 0
  | .at _ len _ => len

/-- v is xs[lo : lo + n] of the slice that lies there (elements of sz cells). -/
def Loc.isSub (sz lo n : Nat) (v : Value) : Loc → Prop
  | .nil => v = .slice none 0 0
  | .at g _ cap => ∃ b c, v = .slice (some ⟨g, b, none⟩) n c ∧ n ≤ c ∧ (lo = 0 → b = 0 ∧ c = cap) ∧ (n ≠ 0 → b = lo * sz)

/-- A value of one cell. -/
def L0 (S : Nat → Prop) (w : World) (ρ : Rho) : AV → Value → Prop
  | .bool b, v => v = .bool b
  | .int k n, v => v = .int k n
  | .str s, v => v = .string s
  | .rsl d l, v => Rep S w (.sl d) l [v]
  | .osl id, v => ∃ o, ρ id = some o ∧ v = o.slice
  | .nils, v => v = .slice none 0 0
  | .nilp, v => v = .pointer none
  | .ptr id sz i c, v => ∃ g len cap, ρ id = some (.at g len cap) ∧ v = .pointer (some ⟨g, i * sz + c, none⟩) ∧ (sz = 0 ∨ i < len)
  | .rptr d x c, v => ∃ ad cs, v = .pointer (some (plus ad c)) ∧ ad.spot = none ∧ S ad.block ∧ cellsAt w ad cs ∧ Rep S w d x cs
  | .undef, _ => True
  | .vsl id sz lo n, v => ∃ o, ρ id = some o ∧ o.isSub sz lo n v ∧ lo + n ≤ o.len
  | _, _ => False

/-- Two lists of one length, place by place. -/
def All2 {α β : Type} (R : α → β → Prop) : List α → List β → Prop
  | [], [] => True
  | a :: as, b :: bs => R a b ∧ All2 R as bs
  | _, _ => False

theorem All2.length {α β : Type} {R : α → β → Prop} : ∀ {as : List α} {bs : List β}, All2 R as bs → as.length = bs.length
  | [], [], _ => rfl
  | _ :: _, _ :: _, h => by simp [All2.length h.2]
  | [], _ :: _, h => h.elim
  | _ :: _, [], h => h.elim

theorem All2.imp {α β : Type} {R R' : α → β → Prop} (hr : ∀ a b, R a b → R' a b) : ∀ {as : List α} {bs : List β}, All2 R as bs → All2 R' as bs
  | [], [], _ => trivial
  | _ :: _, _ :: _, h => ⟨hr _ _ h.1, All2.imp hr h.2⟩
  | [], _ :: _, h => h.elim
  | _ :: _, [], h => h.elim

theorem All2.get {α β : Type} {R : α → β → Prop} : ∀ {as : List α} {bs : List β} {i : Nat} {a : α}, All2 R as bs → as[i]? = some a → ∃ b, bs[i]? = some b ∧ R a b
  | a :: _, b :: _, 0, _, h, e => by simp at e; subst e; exact ⟨b, rfl, h.1⟩
  | _ :: _, _ :: _, i + 1, _, h, e => by simpa using All2.get h.2 (by simpa using e)
  | [], _, _, _, _, e => by simp at e
  | _ :: _, [], _, _, h, _ => h.elim

theorem All2.append {α β : Type} {R : α → β → Prop} : ∀ {as : List α} {bs : List β} {as' : List α} {bs' : List β}, All2 R as bs → All2 R as' bs' → All2 R (as ++ as') (bs ++ bs')
  | [], [], _, _, _, h => h
  | _ :: _, _ :: _, _, _, h, h' => ⟨h.1, All2.append h.2 h'⟩
  | [], _ :: _, _, _, h, _ => h.elim
  | _ :: _, [], _, _, h, _ => h.elim

theorem All2.take {α β : Type} {R : α → β → Prop} : ∀ {as : List α} {bs : List β} (n : Nat), All2 R as bs → All2 R (as.take n) (bs.take n)
  | _, _, 0, _ => by simp [All2]
  | [], [], n + 1, _ => by simp [All2]
  | _ :: _, _ :: _, n + 1, h => ⟨h.1, All2.take n h.2⟩
  | [], _ :: _, _, h => h.elim
  | _ :: _, [], _, h => h.elim

theorem All2.drop {α β : Type} {R : α → β → Prop} : ∀ {as : List α} {bs : List β} (n : Nat), All2 R as bs → All2 R (as.drop n) (bs.drop n)
  | _, _, 0, h => by simpa using h
  | [], [], n + 1, _ => by simp [All2]
  | _ :: _, _ :: _, n + 1, h => by simpa using All2.drop n h.2
  | [], _ :: _, _, h => h.elim
  | _ :: _, [], _, h => h.elim

theorem All2.set {α β : Type} {R : α → β → Prop} : ∀ {as : List α} {bs : List β} (n : Nat) {a : α} {b : β}, All2 R as bs → R a b → All2 R (as.set n a) (bs.set n b)
  | [], [], _, _, _, _, _ => by simp [All2]
  | _ :: _, _ :: _, 0, _, _, h, r => ⟨r, h.2⟩
  | _ :: _, _ :: _, n + 1, _, _, h, r => ⟨h.1, All2.set n h.2 r⟩
  | [], _ :: _, _, _, _, h, _ => h.elim
  | _ :: _, [], _, _, _, h, _ => h.elim

/-- Values of several cells. -/
def L1 (S : Nat → Prop) (w : World) (ρ : Rho) : AV → Value → Prop
  | .agg cs, v => ∃ vs, v = .agg vs ∧ All2 (L0 S w ρ) cs vs.toList
  | .clo f cs, v => ∃ vs, v = .func (.func f) #[] vs ∧ All2 (L0 S w ρ) cs vs.toList
  | a, v => L0 S w ρ a v
def L2 (S : Nat → Prop) (w : World) (ρ : Rho) : AV → Value → Prop
  | .tup cs, v => ∃ vs, v = .tuple vs ∧ All2 (L1 S w ρ) cs vs.toList
  | a, v => L1 S w ρ a v

def Rho.le (ρ ρ' : Rho) : Prop := ∀ id o, ρ id = some o → ρ' id = some o

theorem L0.mono {S S' : Nat → Prop} {w w' : World} {ρ ρ' : Rho} (hS : ∀ b, S b → S' b) (hw : ∀ b, S b → w'.heap[b]? = w.heap[b]?) (hρ : ρ.le ρ') :
    ∀ {a : AV} {v : Value}, L0 S w ρ a v → L0 S' w' ρ' a v := by
  intro a v h
  cases a with
  | rsl d l => exact Rep.mono hS hw h
  | osl id => obtain ⟨o, h1, h2⟩ := h; exact ⟨o, hρ _ _ h1, h2⟩
  | vsl id sz lo n => obtain ⟨o, h1, h2⟩ := h; exact ⟨o, hρ _ _ h1, h2⟩
  | ptr id sz i c => obtain ⟨g, len, cap, h1, h2⟩ := h; exact ⟨g, len, cap, hρ _ _ h1, h2⟩
  | rptr d x c =>
    obtain ⟨ad, cs, h1, h2, h3, h4, h5⟩ := h
    exact ⟨ad, cs, h1, h2, hS _ h3, cellsAt_of_block h4 (hw _ h3), h5.mono hS hw⟩
  | _ => exact h

theorem L1.mono {S S' : Nat → Prop} {w w' : World} {ρ ρ' : Rho} (hS : ∀ b, S b → S' b) (hw : ∀ b, S b → w'.heap[b]? = w.heap[b]?) (hρ : ρ.le ρ') :
    ∀ {a : AV} {v : Value}, L1 S w ρ a v → L1 S' w' ρ' a v := by
  intro a v h
  cases a with
  | agg cs => obtain ⟨vs, h1, h2⟩ := h; exact ⟨vs, h1, h2.imp fun _ _ h => h.mono hS hw hρ⟩
  | clo f cs => obtain ⟨vs, h1, h2⟩ := h; exact ⟨vs, h1, h2.imp fun _ _ h => h.mono hS hw hρ⟩
  | _ => simp only [L1] at h ⊢; exact L0.mono hS hw hρ h

theorem L2.mono {S S' : Nat → Prop} {w w' : World} {ρ ρ' : Rho} (hS : ∀ b, S b → S' b) (hw : ∀ b, S b → w'.heap[b]? = w.heap[b]?) (hρ : ρ.le ρ') :
    ∀ {a : AV} {v : Value}, L2 S w ρ a v → L2 S' w' ρ' a v := by
  intro a v h
  cases a with
  | tup cs => obtain ⟨vs, h1, h2⟩ := h; exact ⟨vs, h1, h2.imp fun _ _ h => h.mono hS hw hρ⟩
  | _ => simp only [L2] at h ⊢; exact L1.mono hS hw hρ h

theorem L1.two {S : Nat → Prop} {w : World} {ρ : Rho} {a : AV} {v : Value} (h : L1 S w ρ a v) : L2 S w ρ a v := by
  cases a <;> first | exact h | exact h.elim
theorem L0.one {S : Nat → Prop} {w : World} {ρ : Rho} {a : AV} {v : Value} (h : L0 S w ρ a v) : L1 S w ρ a v := by
  cases a <;> first | exact h | exact h.elim

/-! ### The store and the world -/
def Cell.live : Cell → Bool
  | .box _ => true
  | .arr _ _ => true
  | _ => false

def BRel (S : Nat → Prop) (w : World) (ρ : Rho) (id : Nat) : Cell → Prop
  | .box cs => ∃ g len cap vs t, ρ id = some (.at g len cap) ∧ w.heap[g]? = some (.cells vs t (0, 0)) ∧ All2 (L0 S w ρ) cs vs.toList
  | .arr d l => (ρ id = some .nil ∧ l = []) ∨ ∃ g cap vs t, ρ id = some (.at g l.length cap) ∧ w.heap[g]? = some (.cells vs t (0, 0)) ∧
      l.length ≤ cap ∧ vs.size = cap * d.sz ∧ ∀ i (h : i < l.length), Rep S w d l[i] ((vs.toList.drop (i * d.sz)).take d.sz)
  | _ => True

/-- Block b is one that may be written. -/
def Own (ρ : Rho) (σ : Store) (b : Nat) : Prop := ∃ id len cap, (σ.get id).live = true ∧ ρ id = some (.at b len cap)

structure HRel (S : Nat → Prop) (w : World) (ρ : Rho) (σ : Store) : Prop where
  inS : ∀ b, S b → b < w.heap.size
  blk : ∀ id, BRel S w ρ id (σ.get id)
  sep : ∀ b, S b → ¬ Own ρ σ b
  inj : ∀ id id' g l c l' c', (σ.get id).live = true → (σ.get id').live = true → ρ id = some (.at g l c) → ρ id' = some (.at g l' c') → id = id'

/-- What a step may do. -/
structure Ext (S : Nat → Prop) (w : World) (ρ : Rho) (σ : Store) (S' : Nat → Prop) (w' : World) (ρ' : Rho) (σ' : Store) : Prop where
  rho : ρ.le ρ'
  sub : ∀ b, S b → S' b
  keep : ∀ b, b < w.heap.size → ¬ Own ρ σ b → w'.heap[b]? = w.heap[b]?
  grow : w.heap.size ≤ w'.heap.size
  snew : ∀ b, S' b → S b ∨ w.heap.size ≤ b ∨ Own ρ σ b
  onew : ∀ b, Own ρ' σ' b → w.heap.size ≤ b ∨ Own ρ σ b
  os : w'.os = w.os
  tape : w'.tape = w.tape
  output : w'.output = w.output

theorem Ext.refl (S : Nat → Prop) (w : World) (ρ : Rho) (σ : Store) : Ext S w ρ σ S w ρ σ :=
  ⟨fun _ _ h => h, fun _ h => h, fun _ _ _ => rfl, Nat.le_refl _, fun _ h => .inl h, fun _ h => .inr h, rfl, rfl, rfl⟩

theorem Ext.trans {S S1 S2 : Nat → Prop} {w w1 w2 : World} {ρ ρ1 ρ2 : Rho} {σ σ1 σ2 : Store} (h : Ext S w ρ σ S1 w1 ρ1 σ1) (k : Ext S1 w1 ρ1 σ1 S2 w2 ρ2 σ2) :
    Ext S w ρ σ S2 w2 ρ2 σ2 := by
  refine ⟨fun id o e => k.rho _ _ (h.rho _ _ e), fun b e => k.sub _ (h.sub _ e), fun b hb hn => ?_, Nat.le_trans h.grow k.grow, fun b e => ?_, fun b e => ?_, k.os.trans h.os, k.tape.trans h.tape, k.output.trans h.output⟩
  · rw [k.keep b (Nat.lt_of_lt_of_le hb h.grow) (fun ho => ?_), h.keep b hb hn]
    rcases h.onew b ho with h1 | h1
    · omega
    · exact hn h1
  · rcases k.snew b e with h1 | h1 | h1
    · exact h.snew b h1
    · exact .inr (.inl (Nat.le_trans h.grow h1))
    · exact .inr (h.onew b h1)
  · rcases k.onew b e with h1 | h1
    · exact .inl (Nat.le_trans h.grow h1)
    · exact h.onew b h1

theorem Ext.same {S S' : Nat → Prop} {w w' : World} {ρ ρ' : Rho} {σ σ' : Store} (h : Ext S w ρ σ S' w' ρ' σ') (hr : HRel S w ρ σ) : ∀ b, S b → w'.heap[b]? = w.heap[b]? :=
  fun b hb => h.keep b (hr.inS b hb) (hr.sep b hb)

theorem L0.ext {S S' : Nat → Prop} {w w' : World} {ρ ρ' : Rho} {σ σ' : Store} (h : Ext S w ρ σ S' w' ρ' σ') (hr : HRel S w ρ σ) {a : AV} {v : Value} (l : L0 S w ρ a v) : L0 S' w' ρ' a v :=
  l.mono h.sub (h.same hr) h.rho
theorem L1.ext {S S' : Nat → Prop} {w w' : World} {ρ ρ' : Rho} {σ σ' : Store} (h : Ext S w ρ σ S' w' ρ' σ') (hr : HRel S w ρ σ) {a : AV} {v : Value} (l : L1 S w ρ a v) : L1 S' w' ρ' a v :=
  l.mono h.sub (h.same hr) h.rho
theorem L2.ext {S S' : Nat → Prop} {w w' : World} {ρ ρ' : Rho} {σ σ' : Store} (h : Ext S w ρ σ S' w' ρ' σ') (hr : HRel S w ρ σ) {a : AV} {v : Value} (l : L2 S w ρ a v) : L2 S' w' ρ' a v :=
  l.mono h.sub (h.same hr) h.rho

theorem BRel.move {S S' : Nat → Prop} {w w' : World} {ρ ρ' : Rho} (hS : ∀ b, S b → S' b) (hw : ∀ b, S b → w'.heap[b]? = w.heap[b]?) (hρ : ρ.le ρ') {id : Nat} {c : Cell}
    (hb : ∀ g len cap, c.live = true → ρ id = some (.at g len cap) → w'.heap[g]? = w.heap[g]?) (h : BRel S w ρ id c) : BRel S' w' ρ' id c := by
  cases c with
  | box cs =>
    obtain ⟨g, len, cap, vs, t, h1, h2, h3⟩ := h
    exact ⟨g, len, cap, vs, t, hρ _ _ h1, (hb g len cap rfl h1).trans h2, h3.imp fun _ _ h => h.mono hS hw hρ⟩
  | arr d l =>
    rcases h with ⟨h1, h2⟩ | ⟨g, cap, vs, t, h1, h2, h3, h4, h5⟩
    · exact .inl ⟨hρ _ _ h1, h2⟩
    · exact .inr ⟨g, cap, vs, t, hρ _ _ h1, (hb g _ cap rfl h1).trans h2, h3, h4, fun i hi => (h5 i hi).mono hS hw⟩
  | _ => trivial

end Go.Nu

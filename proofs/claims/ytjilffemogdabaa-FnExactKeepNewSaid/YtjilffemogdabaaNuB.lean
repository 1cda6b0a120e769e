/- Nu, part B: what an operation does to abstract values (no world here). -/
import Derived.Test.YtjilffemogdabaaNuA
namespace Go.Nu

/-! ### Answers as trees: what hangs on the data stands open -/
inductive Tree (α : Type) : Type 1 where
  | ret (a : α)
  | fail
  | br (c : Bool) (x y : Tree α)
  | bd {β : Type} (m : Option β) (f : β → Tree α)

/-- What a callee's or a loop's answer is handed on to. -/
def obind {α β : Type} : Option α → (α → Option β) → Option β
  | some a, f => f a
  | none, _ => none
@[simp] theorem obind_some {α β : Type} (a : α) (f : α → Option β) : obind (some a) f = f a := rfl
@[simp] theorem obind_none {α β : Type} (f : α → Option β) : obind none f = none := rfl
theorem obind_eq {α β : Type} (m : Option α) (f : α → Option β) : obind m f = m.bind f := by cases m <;> rfl
def Tree.run {α R : Type} : Tree α → (α → Option R) → Option R
  | .ret a, K => K a
  | .fail, _ => none
  | .br c x y, K => cond c (x.run K) (y.run K)
  | .bd m f, K => obind m fun b => (f b).run K

def Tree.bind {α β : Type} : Tree α → (α → Tree β) → Tree β
  | .ret a, k => k a
  | .fail, _ => .fail
  | .br c x y, k => .br c (x.bind k) (y.bind k)
  | .bd m f, k => .bd m fun b => (f b).bind k

def Tree.ofO {α : Type} : Option α → Tree α
  | some a => .ret a
  | none => .fail

theorem Tree.run_some {α R : Type} {t : Tree α} {K : α → Option R} {r : R} (h : t.run K = some r) : ∃ a, t.run some = some a ∧ K a = some r := by
  induction t with
  | ret a => exact ⟨a, rfl, h⟩
  | fail => cases h
  | br c x y ihx ihy => cases c <;> simp only [Tree.run, cond] at h ⊢ <;> first | exact ihx h | exact ihy h
  | bd m f ih =>
    cases m with
    | none => cases h
    | some b => exact ih b h

theorem Tree.run_bind {α β R : Type} {t : Tree α} {k : α → Tree β} {K : β → Option R} : (t.bind k).run K = t.run fun a => (k a).run K := by
  induction t with
  | ret a => rfl
  | fail => rfl
  | br c x y ihx ihy => cases c <;> simp [Tree.bind, Tree.run, ihx, ihy]
  | bd m f ih => simp [Tree.bind, Tree.run, ih]

theorem Tree.bind_some {α β : Type} {t : Tree α} {k : α → Tree β} {b : β} (h : (t.bind k).run some = some b) : ∃ a, t.run some = some a ∧ (k a).run some = some b := by
  rw [Tree.run_bind] at h
  exact Tree.run_some h

theorem Tree.ofO_some {α : Type} {o : Option α} {a : α} : (Tree.ofO o).run some = some a ↔ o = some a := by
  cases o <;> simp [Tree.ofO, Tree.run]

theorem Tree.br_some {α : Type} {c : Bool} {x y : Tree α} {a : α} : (Tree.br c x y).run some = some a ↔ (c = true ∧ x.run some = some a) ∨ (c = false ∧ y.run some = some a) := by
  cases c <;> simp [Tree.run]

theorem Tree.bd_some {α β : Type} {m : Option β} {f : β → Tree α} {a : α} : (Tree.bd m f).run some = some a ↔ ∃ b, m = some b ∧ (f b).run some = some a := by
  cases m <;> simp [Tree.run]

/-! ### Types that are told -/
structure TI where
  desc : TypeDesc
  size : Nat
  bytes : Nat
  zero : Value
  kd : Option Kd := none
  eq : Bool := false     -- structs of this type are compared field by field

abbrev Tys := List (TypeId × TI)
def Tys.get : Tys → TypeId → Option TI
  | [], _ => none
  | (k, c) :: r, i => match Nat.beq k i with
    | true => some c
    | false => Tys.get r i

/-- The zero value's cells. -/
def Kd.zc : Kd → List Value
  | .int k => [.int k 0]
  | .bool => [.bool false]
  | .str => [.string ByteArray.empty]
  | .sl _ => [.slice none 0 0]
  | .pr a b => a.zc ++ b.zc

structure TI.ok (P : Program) (t : TypeId) (i : TI) : Prop where
  und : P.underlying t = some i.desc
  info : ∃ j, P.info? t = some j ∧ j.size = i.size ∧ j.bytes = i.bytes ∧ j.zero = some i.zero
  kd : ∀ d, i.kd = some d → d.sz = i.size ∧ d.zc = i.zero.cells.toList
  eqk : i.eq = true → P.stoodInHeld t = false ∧ P.eqGuardType P.depth t = false ∧ ∀ fs, i.desc = .struct fs → ∀ f ∈ fs.toList, f.name ≠ "_"

def Tys.ok (P : Program) (Γ : Tys) : Prop := ∀ t i, Γ.get t = some i → i.ok P t

theorem Tys.ok_nil (P : Program) : Tys.ok P [] := fun _ _ h => by cases h
theorem Tys.ok_cons {P : Program} {t : TypeId} {i : TI} {Γ : Tys} (h : i.ok P t) (hs : Tys.ok P Γ) : Tys.ok P ((t, i) :: Γ) := by
  intro t' i' e
  simp only [Tys.get] at e
  split at e
  · rename_i hb
    cases e
    rw [← Nat.eq_of_beq_eq_true hb]
    exact h
  · exact hs _ _ e

def TI.isAgg (i : TI) : Bool := match i.desc with
  | .struct _ => true
  | .array _ _ => true
  | _ => false

/-! ### Leaves -/
/-- A value of the machine's, of one cell, as it stands in a zero value. -/
def ofZero : Value → AV
  | .bool b => .bool b
  | .int k n => .int k n
  | .string s => .str s
  | .slice none 0 0 => .nils
  | .pointer none => .nilp
  | _ => .undef
def zeroLeaves (i : TI) : List AV := i.zero.cells.toList.map ofZero
def leavesOf : AV → List AV
  | .agg cs => cs
  | .tup _ => [.undef]
  | .clo _ _ => [.undef]
  | v => [v]
def AV.isDef : AV → Bool
  | .undef => false
  | .tup _ => false
  | _ => true
def AV.isLeaf : AV → Bool
  | .undef => false
  | .tup _ => false
  | .agg _ => false
  | .clo _ _ => false
  | _ => true
/-- The cells of a value that is read. -/
def lv : (d : Kd) → d.T → List AV
  | .int k, x => [.int k x]
  | .bool, x => [.bool x]
  | .str, x => [.str x]
  | .sl d, l => [.rsl d l]
  | .pr a b, x => lv a x.1 ++ lv b x.2
/-- A value out of leaves: of several cells where the type is. -/
def shut (agg : Bool) (cs : List AV) : Tree AV := match agg, cs with
  | true, cs => .ret (.agg cs)
  | false, [c] => .ret c
  | false, _ => .fail

def cast (d d' : Kd) (l : List d.T) : Option (List d'.T) := if h : d = d' then some (h ▸ l) else none
def castI (k k' : IntKind) (n : Int) : Option Int := if k = k' then some n else none

def part {α : Type} (l : List α) (lo n : Nat) : List α := (l.drop lo).take n

/-- A slice's content, whatever the slice. -/
def rdSl (h : Store) (d : Kd) : AV → Option (List d.T)
  | .rsl d' l => cast d' d l
  | .nils => some []
  | .osl id => match h.get id with
    | .arr d' l => cast d' d l
    | _ => none
  | .vsl id sz lo n => match h.get id with
    | .arr d' l => match Nat.beq sz d'.sz with
      | true => (cast d' d l).map fun l => part l lo n
      | false => none
    | _ => none
  | _ => none

/-- A typed value out of leaves. -/
def ofLv (h : Store) : (d : Kd) → List AV → Option d.T
  | .int k, [.int k' n] => castI k' k n
  | .bool, [.bool b] => some b
  | .str, [.str s] => some s
  | .sl d, [v] => rdSl h d v
  | .pr a b, cs => (ofLv h a (cs.take a.sz)).bind fun x => (ofLv h b (cs.drop a.sz)).bind fun y => some (x, y)
  | _, _ => none

/-- The kind of a slice's elements. -/
def elKd (h : Store) : AV → Option Kd
  | .rsl d _ => some d
  | .osl id => match h.get id with
    | .arr d _ => some d
    | _ => none
  | .vsl id _ _ _ => match h.get id with
    | .arr d _ => some d
    | _ => none
  | _ => none

def rd (d : Kd) (l : List d.T) (i : Nat) : d.T := l.getD i d.zero

/-- Element x with the leaves vs from cell c on. -/
def upd1 (h : Store) : (d : Kd) → d.T → Nat → AV → Option d.T
  | .int k, _, 0, .int k' n => castI k' k n
  | .bool, _, 0, .bool b => some b
  | .str, _, 0, .str s => some s
  | .sl d, _, 0, v => match v with
    | .rsl d' l => cast d' d l
    | .nils => some []
    | _ => none
  | .pr a b, x, c, v => match Nat.ble a.sz c with
    | false => (upd1 h a x.1 c v).map fun y => (y, x.2)
    | true => (upd1 h b x.2 (c - a.sz) v).map fun y => (x.1, y)
  | _, _, _, _ => none
def updL (h : Store) (d : Kd) : d.T → Nat → List AV → Option d.T
  | x, _, [] => some x
  | x, c, v :: vs => (upd1 h d x c v).bind fun y => updL h d y (c + 1) vs

def setRange : List AV → Nat → List AV → List AV
  | cs, _, [] => cs
  | cs, c, v :: vs => setRange (cs.set c v) (c + 1) vs

/-! ### Ids -/
def ids0 : AV → List Nat
  | .osl id => [id]
  | .vsl id _ _ _ => [id]
  | _ => []
def ids1 : AV → List Nat
  | .agg cs => cs.flatMap ids0
  | .clo _ cs => cs.flatMap ids0
  | v => ids0 v

/-! ### Contracts: what a callee takes and answers -/
/-- How many slices stand in a value, not counting those inside of slices. -/
def Kd.nsl : Kd → Nat
  | .sl _ => 1
  | .pr a b => a.nsl + b.nsl
  | _ => 0

/-- A value that is only read. -/
def opn (d : Kd) (x : d.T) : AV := match d, lv d x with
  | .pr _ _, cs => .agg cs
  | _, [c] => c
  | _, _ => .undef
/-- Back: an abstract value as one of kind d. -/
def toT (h : Store) (d : Kd) (v : AV) : Option d.T := match d, v with
  | .pr a b, .agg cs => ofLv h (.pr a b) cs
  | .pr _ _, _ => none
  | _, .agg _ => none
  | d, v => ofLv h d [v]

/-- A value whose slices are one's own, under these ids: leaves; the store of the slices. -/
def giveM : (d : Kd) → d.T → List Nat → List AV × Store
  | .sl d, l, id :: _ => ([.osl id], [(id, .arr d l)])
  | .pr a b, x, ids => ((giveM a x.1 (ids.take a.nsl)).1 ++ (giveM b x.2 (ids.drop a.nsl)).1, (giveM a x.1 (ids.take a.nsl)).2 ++ (giveM b x.2 (ids.drop a.nsl)).2)
  | .sl _, _, [] => ([.undef], [])
  | .int k, x, _ => ([.int k x], [])
  | .bool, x, _ => ([.bool x], [])
  | .str, x, _ => ([.str x], [])
/-- Back: the value, and the slices' ids. -/
def takeM (h : Store) : (d : Kd) → List AV → Option (d.T × List Nat)
  | .sl d, [.osl id] => match h.get id with
    | .arr d' l => (cast d' d l).map fun l => (l, [id])
    | _ => none
  | .sl _, _ => none
  | .pr a b, cs => (takeM h a (cs.take a.sz)).bind fun x => (takeM h b (cs.drop a.sz)).bind fun y => some ((x.1, y.1), x.2 ++ y.2)
  | .int k, cs => (ofLv h (.int k) cs).map fun x => (x, [])
  | .bool, cs => (ofLv h .bool cs).map fun x => (x, [])
  | .str, cs => (ofLv h .str cs).map fun x => (x, [])
def isPr : Kd → Bool
  | .pr _ _ => true
  | _ => false
def aggOf : AV → Bool
  | .agg _ => true
  | _ => false
/-- One value out of its leaves. -/
def wrapM (d : Kd) (cs : List AV) : AV := match isPr d, cs with
  | true, cs => .agg cs
  | false, [c] => c
  | false, _ => .undef

inductive PK where
  | v (d : Kd)    -- by value, only read
  | p (d : Kd)    -- a pointer to a box of these leaves
  | m (d : Kd)    -- by value, its slices written
  | f (g : FuncId)             -- a function of the program
  | z                          -- a nil slice
  | t (d : Kd)                 -- by value, its slices given away
  | c (g : FuncId) (d : Kd)    -- a function of the program, with a box of these leaves at hand
@[reducible] def PK.T : PK → Type
  | .v d => d.T
  | .p d => d.T
  | .m d => d.T
  | .f _ => Unit
  | .z => Unit
  | .c _ d => d.T
  | .t d => d.T
/-- What a parameter holds behind the call. -/
@[reducible] def PK.U : PK → Type
  | .v _ => Unit
  | .p d => d.T
  | .m d => d.T
  | .f _ => Unit
  | .z => Unit
  | .c _ d => d.T
  | .t _ => Unit
def PK.n : PK → Nat
  | .v _ => 0
  | .p _ => 1
  | .m d => d.nsl
  | .f _ => 0
  | .z => 0
  | .c _ _ => 1
  | .t d => d.nsl
@[reducible] def ArgT : List PK → Type
  | [] => Unit
  | k :: ks => k.T × ArgT ks
@[reducible] def UpdT : List PK → Type
  | [] => Unit
  | k :: ks => k.U × UpdT ks
inductive RK where
  | o (d : Kd)    -- its slices new
  | r (d : Kd)    -- its slices only read
  | p (d : Kd)    -- a pointer to a new box of leaves that are only read
@[reducible] def RK.T : RK → Type
  | .o d => d.T
  | .r d => d.T
  | .p d => d.T
def RK.n : RK → Nat
  | .o d => d.nsl
  | .r _ => 0
  | .p _ => 1
@[reducible] def ResT : List RK → Type
  | [] => Unit
  | [k] => k.T
  | k :: k' :: ks => k.T × ResT (k' :: ks)

structure Ctr where
  pk : List PK
  rs : List RK
  F : ArgT pk → Option (ResT rs × UpdT pk)

def inA : (ks : List PK) → ArgT ks → List Nat → List AV × Store
  | [], _, _ => ([], [])
  | .v d :: ks, x, ids => (opn d x.1 :: (inA ks x.2 ids).1, (inA ks x.2 ids).2)
  | .p d :: ks, x, ids => (.ptr (ids.headD 0) 0 0 0 :: (inA ks x.2 (ids.drop 1)).1, (ids.headD 0, .box (lv d x.1)) :: (inA ks x.2 (ids.drop 1)).2)
  | .m d :: ks, x, ids => (wrapM d (giveM d x.1 (ids.take d.nsl)).1 :: (inA ks x.2 (ids.drop d.nsl)).1, (giveM d x.1 (ids.take d.nsl)).2 ++ (inA ks x.2 (ids.drop d.nsl)).2)
  | .t d :: ks, x, ids => (wrapM d (giveM d x.1 (ids.take d.nsl)).1 :: (inA ks x.2 (ids.drop d.nsl)).1, (giveM d x.1 (ids.take d.nsl)).2 ++ (inA ks x.2 (ids.drop d.nsl)).2)
  | .z :: ks, x, ids => (.nils :: (inA ks x.2 ids).1, (inA ks x.2 ids).2)
  | .f g :: ks, x, ids => (.clo g [] :: (inA ks x.2 ids).1, (inA ks x.2 ids).2)
  | .c g d :: ks, x, ids => (.clo g [.ptr (ids.headD 0) 0 0 0] :: (inA ks x.2 (ids.drop 1)).1, (ids.headD 0, .box (lv d x.1)) :: (inA ks x.2 (ids.drop 1)).2)

def outU : (ks : List PK) → UpdT ks → List Nat → Store
  | [], _, _ => []
  | .v _ :: ks, y, ids => outU ks y.2 ids
  | .p d :: ks, y, ids => (ids.headD 0, .box (lv d y.1)) :: outU ks y.2 (ids.drop 1)
  | .m d :: ks, y, ids => (giveM d y.1 (ids.take d.nsl)).2 ++ outU ks y.2 (ids.drop d.nsl)
  | .f _ :: ks, y, ids => outU ks y.2 ids
  | .z :: ks, y, ids => outU ks y.2 ids
  | .t d :: ks, y, ids => (ids.take d.nsl).map (fun id => (id, Cell.dead)) ++ outU ks y.2 (ids.drop d.nsl)
  | .c _ d :: ks, y, ids => (ids.headD 0, .box (lv d y.1)) :: outU ks y.2 (ids.drop 1)

def upFrom (b : Nat) : Nat → List Nat
  | 0 => []
  | n + 1 => b :: upFrom (b + 1) n

def out1 (k : RK) (x : k.T) (b : Nat) : AV × Store := match k with
  | .o d => (wrapM d (giveM d x (upFrom b d.nsl)).1, (giveM d x (upFrom b d.nsl)).2)
  | .r d => (opn d x, [])
  | .p d => (.ptr b 0 0 0, [(b, .box (lv d x))])
def outR : (rs : List RK) → ResT rs → Nat → List AV × Store
  | [], _, _ => ([], [])
  | [k], x, b => ([(out1 k x b).1], (out1 k x b).2)
  | k :: k' :: ks, x, b => ((out1 k x.1 b).1 :: (outR (k' :: ks) x.2 (b + k.n)).1, (out1 k x.1 b).2 ++ (outR (k' :: ks) x.2 (b + k.n)).2)
def one : List AV → AV
  | [v] => v
  | vs => .tup vs

def Ctr.out (c : Ctr) (r : ResT c.rs × UpdT c.pk) (b : Nat) (ids : List Nat) : AV × Store :=
  (one (outR c.rs r.1 b).1, (outR c.rs r.1 b).2 ++ outU c.pk r.2 ids)

/-- Slices of elements without slices inside. -/
def Kd.flatM : Kd → Bool
  | .sl d => d.flat
  | .pr a b => a.flatM && b.flatM
  | _ => true
def RK.nr : RK → Bool
  | .o d => d.flatM
  | .r d => d.flat
  | .p d => d.flat
def PK.nr : PK → Bool
  | .v _ => true
  | .p d => d.flat
  | .m d => d.flatM
  | .f _ => true
  | .z => true
  | .t _ => true
  | .c _ d => d.flat
/-- Nothing of the answer is only read. -/
def Ctr.nr (c : Ctr) : Bool := c.rs.all RK.nr && c.pk.all PK.nr
/-- The same of a value: nothing of it is only read. -/
def nrK : (d : Kd) → d.T → Bool
  | .int _, _ => true
  | .bool, _ => true
  | .str, _ => true
  | .sl d, l => d.flat || List.isEmpty l
  | .pr a b, x => nrK a x.1 && nrK b x.2
def RK.nrv : (k : RK) → k.T → Bool
  | .o d, x => nrK d x
  | .r d, _ => d.flat
  | .p d, _ => d.flat
def nrRs : (rs : List RK) → ResT rs → Bool
  | [], _ => true
  | [k], x => k.nrv x
  | k :: k' :: ks, x => k.nrv x.1 && nrRs (k' :: ks) x.2

/-- The box that stands at a function's hand. -/
def cloPtr (g : FuncId) : AV → Option Nat
  | .clo g' [.ptr id 0 0 0] => match Nat.beq g g' with
    | true => some id
    | false => none
  | _ => none
theorem cloPtr_some {g : FuncId} {v : AV} {id : Nat} (h : cloPtr g v = some id) : v = .clo g [.ptr id 0 0 0] := by
  unfold cloPtr at h
  split at h
  · split at h
    · rename_i hb
      cases h
      rw [Nat.eq_of_beq_eq_true hb]
    · cases h
  · cases h
def cloNil (g : FuncId) : AV → Bool
  | .clo g' [] => Nat.beq g g'
  | _ => false
theorem cloNil_true {g : FuncId} {v : AV} (h : cloNil g v = true) : v = .clo g [] := by
  unfold cloNil at h
  split at h
  · rw [Nat.eq_of_beq_eq_true h]
  · cases h

def args (h : Store) : (ks : List PK) → List AV → Option (ArgT ks × List Nat)
  | [], [] => some ((), [])
  | .v d :: ks, v :: vs => (toT h d v).bind fun x => (args h ks vs).bind fun y => some ((x, y.1), y.2)
  | .p d :: ks, .ptr id 0 0 0 :: vs => match h.get id with
    | .box cs => (ofLv h d cs).bind fun x => (args h ks vs).bind fun y => some ((x, y.1), id :: y.2)
    | _ => none
  | .m d :: ks, v :: vs => match aggOf v == isPr d with
    | true => (takeM h d (leavesOf v)).bind fun x => (args h ks vs).bind fun y => some ((x.1, y.1), x.2 ++ y.2)
    | false => none
  | .t d :: ks, v :: vs => match aggOf v == isPr d with
    | true => (takeM h d (leavesOf v)).bind fun x => (args h ks vs).bind fun y => some ((x.1, y.1), x.2 ++ y.2)
    | false => none
  | .z :: ks, .nils :: vs => (args h ks vs).bind fun y => some (((), y.1), y.2)
  | .f g :: ks, v :: vs => match cloNil g v with
    | true => (args h ks vs).bind fun y => some (((), y.1), y.2)
    | false => none
  | .c g d :: ks, v :: vs => match cloPtr g v with
    | some id => match h.get id with
      | .box cs => (ofLv h d cs).bind fun x => (args h ks vs).bind fun y => some ((x, y.1), id :: y.2)
      | _ => none
    | none => none
  | _, _ => none


def distinct : List Nat → Bool
  | [] => true
  | x :: xs => xs.all (fun y => !Nat.beq x y) && distinct xs

/-- The slices of one's own that are handed on to be only read. -/
def readIds (h : Store) : List PK → List AV → List Nat
  | .v _ :: ks, v :: vs => ids1 v ++ readIds h ks vs
  | .p _ :: ks, .ptr id _ _ _ :: vs => (match h.get id with
    | .box cs => cs.flatMap ids0
    | _ => []) ++ readIds h ks vs
  | .c g _ :: ks, v :: vs => (match cloPtr g v with
    | some id => match h.get id with
      | .box cs => cs.flatMap ids0
      | _ => []
    | none => []) ++ readIds h ks vs
  | _ :: ks, _ :: vs => readIds h ks vs
  | _, _ => []
def notIn (ids : List Nat) (x : Nat) : Bool := ids.all fun y => !Nat.beq x y

abbrev Res := AV × List (Nat × Cell)
abbrev Ctrs := FuncId → Option Ctr

def callA (Φ : Ctrs) (f : FuncId) (vs : List AV) (h : Store) (b : Nat) : Tree Res := match Φ f with
  | some c => match c.nr || (readIds h c.pk vs).isEmpty with
    | true => match args h c.pk vs with
      | some x => match distinct x.2 && (readIds h c.pk vs).all (notIn x.2) with
        | true => .bd (c.F x.1) fun r => .ret (c.out r b x.2)
        | false => .fail
      | none => .fail
    | false => match args h c.pk vs with
      | some x => match distinct x.2 && (readIds h c.pk vs).all (notIn x.2) with
        | true => match c.pk.all PK.nr with
          | true => .bd (c.F x.1) fun r => .br (nrRs c.rs r.1) (.ret (c.out r b x.2)) (.ret ((c.out r b x.2).1, (c.out r b x.2).2 ++ (readIds h c.pk vs).map fun id => (id, Cell.dead)))
          | false => .bd (c.F x.1) fun r => .ret ((c.out r b x.2).1, (c.out r b x.2).2 ++ (readIds h c.pk vs).map fun id => (id, Cell.dead))
        | false => .fail
      | none => .fail
  | none => .fail

/-! ### Operations -/
def strEq (a b : ByteArray) : Bool := decide (a = b)
def bits2 (k : IntKind) (f : BitVec k.bits → BitVec k.bits → BitVec k.bits) (a b : Int) : Int := k.wrap (f (BitVec.ofInt k.bits a) (BitVec.ofInt k.bits b)).toNat

def eq1 : AV → AV → Option Bool
  | .int k a, .int k' b => if k = k' then some (decide (a = b)) else none
  | .bool a, .bool b => some (a == b)
  | .str a, .str b => some (strEq a b)
  | _, _ => none

def int2 (op : BinOp) (k : IntKind) (a b : Int) : Tree AV := match op with
  | .add => .ret (.int k (k.wrap (a + b)))
  | .sub => .ret (.int k (k.wrap (a - b)))
  | .mul => .ret (.int k (k.wrap (a * b)))
  | .quo => .br (decide (b = 0)) .fail (.ret (.int k (k.wrap (a.tdiv b))))
  | .rem => .br (decide (b = 0)) .fail (.ret (.int k (a.tmod b)))
  | .and => .ret (.int k (bits2 k (· &&& ·) a b))
  | .or => .ret (.int k (bits2 k (· ||| ·) a b))
  | .xor => .ret (.int k (bits2 k (· ^^^ ·) a b))
  | .andNot => .ret (.int k (bits2 k (fun x y => x &&& ~~~y) a b))
  | .eql => .ret (.bool (decide (a = b)))
  | .neq => .ret (.bool (!decide (a = b)))
  | .lss => .ret (.bool (decide (a < b)))
  | .leq => .ret (.bool (decide (a ≤ b)))
  | .gtr => .ret (.bool (decide (a > b)))
  | .geq => .ret (.bool (decide (a ≥ b)))
  | _ => .fail

def binA (op : BinOp) : AV → AV → Tree AV
  | .int k a, .int k' b => match op with
    | .shl => .br (decide (b < 0)) .fail (.ret (.int k (k.wrap (a * 2 ^ (min b.toNat k.bits)))))
    | .shr => .br (decide (b < 0)) .fail (.ret (.int k (a.fdiv (2 ^ (min b.toNat k.bits)))))
    | op => if k = k' then int2 op k a b else .fail
  | .str a, .str b => match op with
    | .add => .br (decide (a.size + b.size ≤ 9223372036854775807)) (.ret (.str (a ++ b))) .fail
    | .eql => .ret (.bool (strEq a b))
    | .neq => .ret (.bool (!strEq a b))
    | _ => .fail
  | .bool a, .bool b => match op with
    | .eql => .ret (.bool (a == b))
    | .neq => .ret (.bool (!(a == b)))
    | _ => .fail
  | _, _ => .fail

def unA (op : UnOp) : AV → Tree AV
  | .bool b => match op with
    | .not => .ret (.bool (!b))
    | _ => .fail
  | .int k n => match op with
    | .neg => .ret (.int k (k.wrap (0 - n)))
    | .xor => .ret (.int k (bits2 k (· ^^^ ·) (if k.signed then -1 else k.max) n))
    | _ => .fail
  | _ => .fail

def bytesStr (l : List Int) : ByteArray := ⟨(l.map fun n => UInt8.ofNat n.toNat).toArray⟩
def strBytes (s : ByteArray) : List Int := s.data.toList.map fun b => (b.toNat : Int)
def bt (s : ByteArray) (i : Int) : Int := ((s.data.toList.getD i.toNat 0).toNat : Int)

def convA (s d : TypeDesc) (eInt : Option IntKind) (v : AV) (h : Store) : Tree Res := match d, v with
  | .int k, .int _ n => .ret (.int k (k.wrap n), [])
  | .string, .int _ n => .ret (.str (Utf8.encode n), [])
  | .string, .str s => .ret (.str s, [])
  | .string, v => match s, eInt with
    | .slice _, some .u8 => match rdSl h (.int .u8) v with
      | some l => .ret (.str (bytesStr l), [])
      | none => .fail
    | _, _ => .fail
  | _, _ => .fail

def elInt (Γ : Tys) : TypeDesc → Option IntKind
  | .slice e => match Γ.get e with
    | some i => match i.desc with
      | .int k => some k
      | _ => none
    | none => none
  | _ => none

def lenA (h : Store) : AV → Option Int
  | .str s => some (s.size : Int)
  | .rsl _ l => some (l.length : Int)
  | .nils => some 0
  | .osl id => match h.get id with
    | .arr _ l => some (l.length : Int)
    | _ => none
  | .vsl _ _ _ n => some (n : Int)
  | _ => none

def lenTy : TypeDesc → AV → Bool
  | .string, .str _ => true
  | .string, _ => false
  | .slice _, .str _ => false
  | .slice _, _ => true
  | _, _ => false

def room : Nat := 140737488355328

/-- What is owned may be the first of an append: its content; the id that is gone. -/
def appL (h : Store) (d : Kd) : AV → Option (List d.T × List (Nat × Cell))
  | .nils => some ([], [])
  | .osl id => match h.get id with
    | .arr d' l => (cast d' d l).map fun l => (l, [(id, .dead)])
    | _ => none
  | .vsl id _ 0 n => match h.get id with
    | .arr d' l => (cast d' d l).map fun l => (l.take n, [(id, .dead)])
    | _ => none
  | _ => none

def appA (i : TI) (s x : AV) (h : Store) (b : Nat) : Tree Res := match (match Nat.ble 1 i.bytes with
    | true => i.kd
    | false => none) with
  | some d => match appL h d s, (match x with
      | .str y => if hd : d = .int .u8 then some (hd ▸ (strBytes y : (Kd.sl (.int .u8)).T)) else none
      | x => rdSl h d x) with
    | some l, some (m : List d.T) => .br (decide ((l.1.length + m.length) * i.bytes ≤ room)) (.ret (.osl b, (b, .arr d (l.1 ++ m)) :: l.2)) .fail
    | _, _ => .fail
  | none => .fail

def minA : AV → AV → Option AV
  | .int k x, .int k' y => if k = k' then some (.int k (if y < x then y else x)) else none
  | _, _ => none
def maxA : AV → AV → Option AV
  | .int k x, .int k' y => if k = k' then some (.int k (if y > x then y else x)) else none
  | _, _ => none
def foldA (f : AV → AV → Option AV) : AV → List AV → Tree Res
  | v, [] => .ret (v, [])
  | v, x :: xs => match f v x with
    | some y => foldA f y xs
    | none => .fail

def appTy : TypeDesc → AV → Bool
  | .string, .str _ => true
  | .string, _ => false
  | .slice _, .str _ => false
  | .slice _, _ => true
  | _, _ => false

def builtinA (Γ : Tys) (bi : Builtin) (tys : List TypeId) (vs : List AV) (h : Store) (b : Nat) : Tree Res := match bi, vs with
  | .len, [v] => match tys with
    | t :: _ => match Γ.get t, lenA h v with
      | some j, some n => match lenTy j.desc v with
        | true => .ret (.int .i64 n, [])
        | false => .fail
      | _, _ => .fail
    | _ => .fail
  | .append, [.nils, .int .i64 n] => match tys with
    | [t, u] => match Γ.get t, Γ.get u with
      | some j, some k => match j.desc, k.desc with
        | .slice e, .int _ => match Γ.get e with
          | some i => match i.kd, Nat.ble 1 i.bytes with
            | some d, true => .br (decide (0 ≤ n)) (.br (decide (n * i.bytes ≤ room)) (.ret (.osl b, [(b, .arr d (List.replicate n.toNat d.zero))])) .fail) .fail
            | _, _ => .fail
          | none => .fail
        | _, _ => .fail
      | _, _ => .fail
    | _ => .fail
  | .append, [s, x] => match tys with
    | [t, u] => match Γ.get t, Γ.get u with
      | some j, some k => match j.desc with
        | .slice e => match Γ.get e, appTy k.desc x with
          | some i, true => appA i s x h b
          | _, _ => .fail
        | _ => .fail
      | _, _ => .fail
    | _ => .fail
  | .cap, [.nils] => match tys with
    | t :: _ => match Γ.get t with
      | some j => match j.desc with
        | .slice _ => .ret (.int .i64 0, [])
        | _ => .fail
      | none => .fail
    | _ => .fail
  | .min, v :: vs => foldA minA v vs
  | .max, v :: vs => foldA maxA v vs
  | _, _ => .fail

/-- A bound of a slice: given, or not. -/
def bnd (v : Option AV) (dflt : Int) : Option Int := match v with
  | none => some dflt
  | some (.int _ n) => some n
  | _ => none

def sliceA (es : Nat) (h : Store) (x : AV) (lo hi : Option AV) : Tree Res := match x with
  | .str s => match bnd lo 0, bnd hi s.size with
    | some l, some u => .br (decide (0 ≤ l)) (.br (decide (l ≤ u)) (.br (decide (u ≤ s.size)) (.ret (.str (s.extract l.toNat u.toNat), [])) .fail) .fail) .fail
    | _, _ => .fail
  | .rsl d xs => match bnd lo 0, bnd hi xs.length, Nat.beq es d.sz with
    | some l, some u, true => .br (decide (0 ≤ l)) (.br (decide (l ≤ u)) (.br (decide (u ≤ xs.length)) (.ret (.rsl d (part xs l.toNat (u.toNat - l.toNat)), [])) .fail) .fail) .fail
    | _, _, _ => .fail
  | .nils => match bnd lo 0, bnd hi 0 with
    | some l, some u => .br (decide (l = 0)) (.br (decide (u = 0)) (.ret (.nils, [])) .fail) .fail
    | _, _ => .fail
  | .osl id => match h.get id with
    | .arr d xs => match bnd lo 0, bnd hi xs.length, Nat.beq es d.sz with
      | some l, some u, true => .br (decide (0 ≤ l)) (.br (decide (l ≤ u)) (.br (decide (u ≤ xs.length)) (.ret (.vsl id d.sz l.toNat (u.toNat - l.toNat), [])) .fail) .fail) .fail
      | _, _, _ => .fail
    | _ => .fail
  | .vsl id sz a n => match bnd lo 0, bnd hi n, Nat.beq es sz with
    | some l, some u, true => .br (decide (0 ≤ l)) (.br (decide (l ≤ u)) (.br (decide (u ≤ n)) (.ret (.vsl id sz (a + l.toNat) (u.toNat - l.toNat), [])) .fail) .fail) .fail
    | _, _, _ => .fail
  | _ => .fail

def indexAddrA (es : Nat) (h : Store) : AV → AV → Tree Res
  | .rsl d l, .int _ i => match Nat.beq es d.sz with
    | true => .br (decide (0 ≤ i)) (.br (decide (i < l.length)) (.ret (.rptr d (rd d l i.toNat) 0, [])) .fail) .fail
    | false => .fail
  | .osl id, .int _ i => match h.get id with
    | .arr d l => match Nat.beq es d.sz with
      | true => .br (decide (0 ≤ i)) (.br (decide (i < l.length)) (.ret (.ptr id d.sz i.toNat 0, [])) .fail) .fail
      | false => .fail
    | _ => .fail
  | .vsl id sz lo n, .int _ i => match Nat.beq es sz with
    | true => .br (decide (0 ≤ i)) (.br (decide (i < n)) (.ret (.ptr id sz (lo + i.toNat) 0, [])) .fail) .fail
    | false => .fail
  | _, _ => .fail

def loadA (i : TI) (h : Store) : AV → Tree Res
  | .ptr id sz n c => match h.get id with
    | .box cs => match Nat.beq sz 0, Nat.ble (c + i.size) cs.length with
      | true, true => (shut i.isAgg (part cs c i.size)).bind fun v => .ret (v, [])
      | _, _ => .fail
    | .arr d l => match Nat.beq sz d.sz, Nat.ble (c + i.size) d.sz with
      | true, true => (shut i.isAgg (part (lv d (rd d l n)) c i.size)).bind fun v => .ret (v, [])
      | _, _ => .fail
    | _ => .fail
  | .rptr d x c => match Nat.ble (c + i.size) d.sz with
    | true => (shut i.isAgg (part (lv d x) c i.size)).bind fun v => .ret (v, [])
    | false => .fail
  | _ => .fail

def storeA (i : TI) (h : Store) (v : AV) : AV → Tree Res
  | .ptr id sz n c => match Nat.beq (leavesOf v).length i.size && v.isDef && (leavesOf v).all AV.isDef with
    | true => match h.get id with
      | .box cs => match Nat.beq sz 0, Nat.ble (c + i.size) cs.length with
        | true, true => .ret (.undef, [(id, .box (setRange cs c (leavesOf v)))])
        | _, _ => .fail
      | .arr d l => match Nat.beq sz d.sz, Nat.ble (c + i.size) d.sz with
        | true, true => match updL h d (rd d l n) c (leavesOf v) with
          | some y => .bd (some (l.set n y)) fun (z : List d.T) => .ret (.undef, [(id, .arr d z)])
          | none => .fail
        | _, _ => .fail
      | _ => .fail
    | false => .fail
  | _ => .fail

/-- A slice of one's own, taken for one that is only read. -/
def frz0 (h : Store) : AV → AV
  | .osl id => match h.get id with
    | .arr d l => .rsl d l
    | _ => .undef
  | v => v
def frz (h : Store) : AV → AV
  | .agg cs => .agg (cs.map (frz0 h))
  | .clo f cs => .clo f cs
  | v => frz0 h v
/-- What is put into an array: its slices are only read from then on. -/
def storeF (i : TI) (h : Store) (v a : AV) : Tree Res := match (ids1 v).isEmpty with
  | true => storeA i h v a
  | false => match a with
    | .ptr id sz n c => match h.get id with
      | .arr _ _ => (storeA i ((ids1 v).map (fun id => (id, Cell.dead)) ++ h) (frz h v) (.ptr id sz n c)).bind fun r => .ret (r.1, r.2 ++ (ids1 v).map fun id => (id, Cell.dead))
      | _ => storeA i h v (.ptr id sz n c)
    | a => storeA i h v a

/-- Where field j of a struct lies: offset, size. -/
def place (Γ : Tys) (d : TypeDesc) (j : Nat) : Option (Nat × TI) := match d with
  | .struct fs => match fs.toList[j]? with
    | some f => match Γ.get f.type with
      | some i => some (f.offset, i)
      | none => none
    | none => none
  | _ => none

def fillA (Γ : Tys) (d : TypeDesc) : List AV → List (Nat × AV) → Option (List AV)
  | cs, [] => some cs
  | cs, (j, v) :: r => match place Γ d j with
    | some (off, i) => match Nat.beq (leavesOf v).length i.size && v.isDef, Nat.ble (off + i.size) cs.length with
      | true, true => fillA Γ d (setRange cs off (leavesOf v)) r
      | _, _ => none
    | none => none

/-- The elements of a slice's literal, all given, in order; slices of one's own inside are only read from then on. -/
def elems (h : Store) (d : Kd) : Nat → List (Nat × AV) → Option (List d.T)
  | _, [] => some []
  | n, (j, v) :: r => match Nat.beq j n && v.isDef with
    | true => (ofLv h d (leavesOf v)).bind fun x => (elems h d (n + 1) r).bind fun xs => some (x :: xs)
    | false => none

/-- Of bools the type is asked. -/
def boolTy (Γ : Tys) (t : TypeId) : AV → Bool
  | .bool _ => match Γ.get t with
    | some i => match i.desc with
      | .bool => true
      | _ => false
    | none => false
  | _ => true

/-- A part of a struct, as a value. -/
def subA (agg : Bool) (cs : List AV) : Option AV := match agg, cs with
  | true, cs => some (.agg cs)
  | false, [c] => some c
  | false, _ => none
/-- Structs compared: one field after the other. -/
def eqFs (Γ : Tys) (rec : TypeId → AV → AV → Option Bool) (cs ds : List AV) : List Field → Option Bool
  | [] => some true
  | f :: fs => match Γ.get f.type with
    | some k => match Nat.ble (f.offset + k.size) cs.length && Nat.ble (f.offset + k.size) ds.length, subA k.isAgg (part cs f.offset k.size), subA k.isAgg (part ds f.offset k.size) with
      | true, some x, some y => match rec f.type x y, eqFs Γ rec cs ds fs with
        | some b, some b' => some (b && b')
        | _, _ => none
      | _, _, _ => none
    | none => none
def eqA (Γ : Tys) : Nat → TypeId → AV → AV → Option Bool
  | 0, _, _, _ => none
  | n + 1, t, x, y => match Γ.get t with
    | some i => match i.desc, x, y with
      | .int _, .int k a, .int k' b => if k = k' then some (decide (a = b)) else none
      | .bool, .bool a, .bool b => some (a == b)
      | .string, .str a, .str b => some (strEq a b)
      | .struct fs, .agg cs, .agg ds => match i.eq with
        | true => eqFs Γ (eqA Γ n) cs ds fs.toList
        | false => none
      | _, _, _ => none
    | none => none

/-- Slices of one's own that are put where they are only read from then on. -/
def kills (d : Kd) (vs : List AV) : List (Nat × Cell) := match d.flat with
  | true => []
  | false => (vs.flatMap ids1).map fun id => (id, .dead)

def opP (Γ : Tys) (Φ : Ctrs) (op : Op) (ev : Operand → AV) (h : Store) (b : Nat) : Tree Res := match op with
  | .move x => .ret (ev x, [])
  | .assign x => .ret (ev x, [])
  | .pick c x y => match ev c with
    | .bool t => .br t (.ret (ev x, [])) (.ret (ev y, []))
    | _ => .fail
  | .alloc e => match Γ.get e with
    | some i => .ret (.ptr b 0 0 0, [(b, .box (zeroLeaves i))])
    | none => .fail
  | .box _ x => match (ev x).isDef with
    | true => .ret (.ptr b 0 0 0, [(b, .box (leavesOf (ev x)))])
    | false => .fail
  | .build t ps => match Γ.get t with
    | some i => match i.desc with
      | .struct fs => match fs.toList.all fun f => (Γ.get f.type).isSome with
        | true => match fillA Γ i.desc (zeroLeaves i) (ps.toList.map fun p => (p.1, ev p.2)) with
          | some cs => .ret (.agg cs, [])
          | none => .fail
        | false => .fail
      | _ => .fail
    | none => .fail
  | .buildSlice t len ps => match Γ.get t with
    | some j => match j.desc with
      | .slice e => match Γ.get e with
        | some i => match i.kd with
          | some d => match Nat.beq ps.size len, Nat.ble (len * i.size) 16777216 with
            | true, true => match elems h d 0 (ps.toList.map fun p => (p.1, ev p.2)) with
              | some l => .ret (.osl b, (b, .arr d l) :: kills d (ps.toList.map fun p => ev p.2))
              | none => .fail
            | _, _ => .fail
          | none => .fail
        | none => .fail
      | _ => .fail
    | none => .fail
  | .load t a => match Γ.get t with
    | some i => loadA i h (ev a)
    | none => .fail
  | .store t a x => match Γ.get t with
    | some i => storeF i h (ev x) (ev a)
    | none => .fail
  | .nilCheck x => match ev x with
    | .ptr id sz i c => .ret (.ptr id sz i c, [])
    | .rptr d y c => .ret (.rptr d y c, [])
    | _ => .fail
  | .binOp op t x y _ => match boolTy Γ t (ev x) with
    | true => match aggOf (ev x) with
      | true => match op, eqA Γ 16 t (ev x) (ev y) with
        | .eql, some b => .ret (.bool b, [])
        | .neq, some b => .ret (.bool (!b), [])
        | _, _ => .fail
      | false => (binA op (ev x) (ev y)).bind fun v => .ret (v, [])
    | false => .fail
  | .unOp op _ x => (unA op (ev x)).bind fun v => .ret (v, [])
  | .convert s d x => match Γ.get s, Γ.get d with
    | some i, some j => convA i.desc j.desc (elInt Γ i.desc) (ev x) h
    | _, _ => .fail
  | .makeFunc fn first caps => match fn, first.toList, (caps.toList.map ev).all AV.isLeaf with
    | .func f, [], true => .ret (.clo f (caps.toList.map ev), [])
    | _, _, _ => .fail
  | .makeSlice t n c => match Γ.get t with
    | some j => match j.desc with
      | .slice e => match Γ.get e with
        | some i => match i.kd, Nat.ble 1 i.bytes, ev n, ev c with
          | some d, true, .int .i64 n, .int .i64 c => .br (decide (0 ≤ n)) (.br (decide (n ≤ c)) (.br (decide (c * i.bytes ≤ room)) (.ret (.osl b, [(b, .arr d (List.replicate n.toNat d.zero))])) .fail) .fail) .fail
          | _, _, _, _ => .fail
        | none => .fail
      | _ => .fail
    | none => .fail
  | .slice t x lo hi mx => match mx, Γ.get t with
    | none, some j => match j.desc with
      | .string => match ev x with
        | .str s => sliceA 0 h (.str s) (lo.map ev) (hi.map ev)
        | _ => .fail
      | .slice e => match Γ.get e, ev x with
        | _, .str _ => .fail
        | some k, v => sliceA k.size h v (lo.map ev) (hi.map ev)
        | none, _ => .fail
      | _ => .fail
    | _, _ => .fail
  | .fieldAddr t x f => match Γ.get t with
    | some i => match place Γ i.desc f with
      | some (off, j) => match Nat.beq j.size 0, ev x with
        | false, .ptr id sz n c => .ret (.ptr id sz n (c + off), [])
        | false, .rptr d y c => .ret (.rptr d y (c + off), [])
        | _, _ => .fail
      | none => .fail
    | none => .fail
  | .field t x f => match Γ.get t with
    | some i => match place Γ i.desc f, ev x with
      | some (off, j), .agg cs => match Nat.ble (off + j.size) cs.length with
        | true => (shut j.isAgg (part cs off j.size)).bind fun v => .ret (v, [])
        | false => .fail
      | _, _ => .fail
    | none => .fail
  | .indexAddr t x i => match Γ.get t with
    | some j => match j.desc with
      | .slice e => match Γ.get e with
        | some k => indexAddrA k.size h (ev x) (ev i)
        | none => .fail
      | _ => .fail
    | none => .fail
  | .index t x i => match Γ.get t with
    | some j => match j.desc with
      | .string => match ev x, ev i with
        | .str s, .int _ n => .br (decide (0 ≤ n)) (.br (decide (n < s.size)) (.ret (.int .u8 (bt s n), [])) .fail) .fail
        | _, _ => .fail
      | _ => .fail
    | none => .fail
  | .extract x j => match ev x with
    | .tup vs => match vs[j]? with
      | some v => .ret (v, [])
      | none => .fail
    | _ => .fail
  | .call c => match (c.args.toList.map ev).all AV.isDef with
    | true => match c.callee with
      | .value (.func f) => callA Φ f (c.args.toList.map ev) h b
      | .value x => match ev x with
        | .clo f cs => callA Φ f (c.args.toList.map ev ++ cs) h b
        | _ => .fail
      | .builtin bi => builtinA Γ bi c.argTypes.toList (c.args.toList.map ev) h b
      | _ => .fail
    | false => .fail
  | _ => .fail

end Go.Nu

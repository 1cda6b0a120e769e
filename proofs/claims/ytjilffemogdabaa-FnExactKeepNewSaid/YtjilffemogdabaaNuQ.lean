/- Nu, part Q: a function's body over abstract values. -/
import Derived.Test.YtjilffemogdabaaNuB
namespace Go.Nu
set_option linter.unusedVariables false

/-- Ids of blocks stand from here on; temporaries below. -/
def idBase : Nat := 1048576

def constAV : Value → AV
  | .agg cs => .agg (cs.toList.map ofZero)
  | v => ofZero v
def tmpAV (σ : Store) (t : Nat) : AV := match Nat.blt t idBase with
  | true => match σ.get t with
    | .av v => v
    | _ => .undef
  | false => .undef
def evS (σ : Store) : Operand → AV
  | .tmp t => tmpAV σ t
  | .const v => constAV v
  | .func f => .clo f []
  | .global _ => .undef

def putS (σ : Store) (d : Option Tmp) (v : AV) : Store := match d with
  | some d => (d, .av v) :: σ
  | none => σ
def dstOk (n : Nat) : Option Tmp → Bool
  | some d => Nat.blt d n
  | none => true
def idsOk (ws : Store) : Bool := ws.all fun p => Nat.ble idBase p.1

/-- The temporary that a guard asks. -/
def guardTmp (ops : List Oper) (j : Nat) : Option Tmp := match ops[j]? with
  | some o => o.dst
  | none => none

section
variable (Γ : Tys) (Φ : Ctrs) (n : Nat)

/-- One operation, if it is wanted. -/
def stepW (ops : List Oper) (o : Oper) (σ h : Store) (b : Nat) {R : Type} (run skip : Store → Option R) : Option R := match o.guard with
  | none => run σ
  | some (j, want) => match guardTmp ops j with
    | some t => match tmpAV σ t, want with
      | .bool c, true => cond c (run ((t, .av (.bool true)) :: σ)) (skip ((t, .av (.bool false)) :: σ))
      | .bool c, false => cond c (skip ((t, .av (.bool true)) :: σ)) (run ((t, .av (.bool false)) :: σ))
      | .tup [], _ => skip σ
      | _, _ => none
    | none => none

/-- Two ways that must come to the same. -/
noncomputable def same {α : Type} (x y : Option α) : Option α := by
  classical exact if x = y then x else none
@[simp] theorem same_self {α : Type} (x : Option α) : same x x = x := by simp [same]
theorem same_some {α : Type} {x y : Option α} {r : α} (h : same x y = some r) : x = some r ∧ y = some r := by
  unfold same at h
  split at h
  · rename_i e; exact ⟨h, e ▸ h⟩
  · cases h

/-- How long a slice is. -/
def lenQ (h : Store) : AV → Option Nat
  | .rsl _ l => some l.length
  | .osl id => match h.get id with
    | .arr _ l => some l.length
    | _ => none
  | .vsl _ _ _ n => some n
  | .nils => some 0
  | _ => none
def isSlice (i : TI) : Bool := match i.desc with
  | .slice _ => true
  | _ => false
/-- A slice compared with nil: whether it is '!='; how long it is. -/
def nilQ (σ : Store) : Op → Option (Bool × Nat)
  | .binOp .eql t x (.const (.slice none 0 0)) _ => match (Γ.get t).map isSlice with
    | some true => (lenQ σ (evS σ x)).map fun n => (false, n)
    | _ => none
  | .binOp .neq t x (.const (.slice none 0 0)) _ => match (Γ.get t).map isSlice with
    | some true => (lenQ σ (evS σ x)).map fun n => (true, n)
    | _ => none
  | _ => none

/-- One operation in the order of the text. -/
noncomputable def stepS (ops : List Oper) (o : Oper) (σ : Store) (b : Nat) {R : Type} (K : Store → Option R) : Option R := match dstOk n o.dst with
  | true => stepW ops o σ σ b (fun σ => match nilQ Γ σ o.op with
      | some q => cond (Nat.beq q.2 0) (same (K (putS σ o.dst (.bool (!q.1)))) (K (putS σ o.dst (.bool q.1)))) (K (putS σ o.dst (.bool q.1)))
      | none => (opP Γ Φ o.op (evS σ) σ b).run fun r => match idsOk r.2 with
        | true => K (putS (r.2 ++ σ) o.dst r.1)
        | false => none) fun σ => K (putS σ o.dst (.tup []))
  | false => none

noncomputable def regionS (ops : List Oper) : List Oper → Store → Nat → {R : Type} → (Store → Nat → Option R) → Option R
  | [], σ, t, _, K => K σ t
  | o :: l, σ, t, _, K => stepS Γ Φ n ops o σ t fun σ' => regionS ops l σ' (t + 64) K

/-! ### A region that draws its order -/
def idsP : AV → List Nat
  | .osl id => [id]
  | .vsl id _ _ _ => [id]
  | .ptr id _ _ _ => [id]
  | .agg cs => cs.flatMap fun c => match c with
    | .osl id => [id]
    | .vsl id _ _ _ => [id]
    | .ptr id _ _ _ => [id]
    | _ => []
  | .clo _ cs => cs.flatMap fun c => match c with
    | .osl id => [id]
    | .vsl id _ _ _ => [id]
    | .ptr id _ _ _ => [id]
    | _ => []
  | _ => []
def boxIds : Cell → List Nat
  | .box cs => cs.flatMap idsP
  | _ => []
def opTmps (o : Op) : List Nat := o.operands.toList.flatMap fun x => match x with
  | .tmp t => [t]
  | _ => []
/-- What an operation looks at: temporaries, the blocks that they name, the blocks that boxes name. -/
def foot1 (σ : Store) (ts : List Nat) : List Nat := ts.flatMap fun t => idsP (tmpAV σ t)
def foot2 (σ : Store) (ids : List Nat) : List Nat := ids.flatMap fun id => boxIds (σ.get id)
def foot (σ : Store) (o : Op) : List Nat := opTmps o ++ (foot1 σ (opTmps o) ++ foot2 σ (foot1 σ (opTmps o)))
def snip (σ : Store) (ks : List Nat) : Store := ks.map fun k => (k, σ.get k)

/-- What an operation of such a region was: what it looked at, what it wrote. -/
structure Did where
  at_ : List Nat
  ws : Store
def gTmps (ops : List Oper) (o : Oper) : List Nat := match o.guard with
  | some (j, _) => match guardTmp ops j with
    | some t => [t]
    | none => []
  | none => []

def stepD (ops : List Oper) (o : Oper) (σ : Store) (b : Nat) {R : Type} (K : Did → Store → Option R) : Option R := match dstOk n o.dst with
  | true => stepW ops o σ σ b (fun σ => (opP Γ Φ o.op (evS (snip σ (foot σ o.op))) (snip σ (foot σ o.op)) b).run fun r => match idsOk r.2 with
      | true => K ⟨gTmps ops o ++ foot σ o.op, putS r.2 o.dst r.1⟩ (putS r.2 o.dst r.1 ++ σ)
      | false => none) fun σ => K ⟨gTmps ops o, putS [] o.dst (.tup [])⟩ (putS [] o.dst (.tup []) ++ σ)
  | false => none

/-- Which operations come before which, in any order: as bits. -/
def befs : List Oper → List Nat → List Nat
  | [], acc => acc
  | o :: l, acc => befs l (acc ++ [o.after.toList.foldl (fun s e => if Region.binds .any e then s ||| 2 ^ e.on ||| acc.getD e.on 0 else s) 0])
def edgesOk : List Oper → Nat → Bool
  | [], _ => true
  | o :: l, i => o.after.toList.all (fun e => !Region.binds .any e || Nat.blt e.on i) && edgesOk l (i + 1)

def disj (xs ys : List Nat) : Bool := xs.all fun x => ys.all fun y => !Nat.beq x y
def keys (ws : Store) : List Nat := ws.map (·.1)
def freeOf (x y : Did) : Bool := disj (keys x.ws) y.at_ && disj (keys y.ws) x.at_ && disj (keys x.ws) (keys y.ws)
/-- Every two, the one not before the other, are apart. -/
def apartOk (bs : List Nat) (ds : List Did) : Bool :=
  ds.zipIdx.all fun p => ds.zipIdx.all fun q => !Nat.blt p.2 q.2 || (bs.getD q.2 0).testBit p.2 || freeOf p.1 q.1

def regionD (ops : List Oper) : List Oper → Store → Nat → List Did → {R : Type} → (List Did → Store → Nat → Option R) → Option R
  | [], σ, t, ds, _, K => K ds σ t
  | o :: l, σ, t, ds, _, K => stepD Γ Φ n ops o σ t fun d σ' => regionD ops l σ' (t + 64) (ds ++ [d]) K

/-! ### Code -/
inductive AExit where
  | normal
  | exit (id : Nat)
  | ret

/-- Where a loop's state is told anew: its temporaries that are kept; blocks are named anew. -/
def renAV0 (f : Nat → Nat) : AV → AV
  | .osl id => .osl (f id)
  | .vsl id sz lo n => .vsl (f id) sz lo n
  | .ptr id sz i c => .ptr (f id) sz i c
  | v => v
def renAV (f : Nat → Nat) : AV → AV
  | .agg cs => .agg (cs.map (renAV0 f))
  | .clo g cs => .clo g (cs.map (renAV0 f))
  | .tup _ => .undef
  | v => renAV0 f v
def renCell (f : Nat → Nat) : Cell → Cell
  | .box cs => .box (cs.map (renAV0 f))
  | .arr d l => .arr d l
  | _ => .none
def dedup : List Nat → List Nat → List Nat
  | [], acc => acc
  | x :: xs, acc => match acc.any (Nat.beq x) with
    | true => dedup xs acc
    | false => dedup xs (acc ++ [x])
def indexOf (x : Nat) : List Nat → Nat → Nat
  | [], i => i
  | y :: ys, i => match Nat.beq y x with
    | true => i
    | false => indexOf x ys (i + 1)
/-- The ids that a loop's state has: those of the parameters first. -/
def liveIds (np : Nat) (keep : List Nat) (σ : Store) : List Nat :=
  dedup (foot1 σ keep ++ foot2 σ (foot1 σ keep ++ upFrom idBase np)) (upFrom idBase np)
def closed (ids : List Nat) (σ : Store) : Bool := ids.all fun id => (boxIds (σ.get id)).all fun j => ids.any (Nat.beq j)
def norm (np : Nat) (keep : List Nat) (σ : Store) : Option (Store × Nat) :=
  match closed (liveIds np keep σ) σ with
  | true => some ((keep.map fun t => (t, .av (renAV (fun id => idBase + indexOf id (liveIds np keep σ) 0) (tmpAV σ t)))) ++
      ((liveIds np keep σ).map fun id => (idBase + indexOf id (liveIds np keep σ) 0, renCell (fun id => idBase + indexOf id (liveIds np keep σ) 0) (σ.get id))),
      idBase + (liveIds np keep σ).length)
  | false => none

/-- A loop is known by the first region in it. -/
def firstRegion : Code → Nat
  | .region id _ _ => id
  | .seq a _ => firstRegion a
  | .block _ c => firstRegion c
  | .loop c => firstRegion c
  | .cond _ a _ => firstRegion a
  | .scope c => firstRegion c
  | _ => 0
/-! ### Shapes of states -/
/-- A leaf: what is known of it; the rest is told by a value. -/
inductive HS where
  | undef | nils | nilp
  | int (k : IntKind) | bool | str
  | rsl (d : Kd)
  | osl (id : Nat)
  | vsl (id sz : Nat)
  | ptr (id sz c : Nat)
  | ptr0 (id sz i c : Nat)
  | rptr (d : Kd) (c : Nat)

@[reducible] def HTs : List HS → Type
  | [] => Unit
  | .int _ :: hs => Int × HTs hs
  | .bool :: hs => Bool × HTs hs
  | .str :: hs => ByteArray × HTs hs
  | .rsl d :: hs => List d.T × HTs hs
  | .vsl _ _ :: hs => Nat × Nat × HTs hs
  | .ptr _ _ _ :: hs => Nat × HTs hs
  | .rptr d _ :: hs => d.T × HTs hs
  | _ :: hs => HTs hs

def fillL : (hs : List HS) → HTs hs → List AV
  | [], _ => []
  | .int k :: hs, x => .int k x.1 :: fillL hs x.2
  | .bool :: hs, x => .bool x.1 :: fillL hs x.2
  | .str :: hs, x => .str x.1 :: fillL hs x.2
  | .rsl d :: hs, x => .rsl d x.1 :: fillL hs x.2
  | .vsl id sz :: hs, x => .vsl id sz x.1 x.2.1 :: fillL hs x.2.2
  | .ptr id sz c :: hs, x => .ptr id sz x.1 c :: fillL hs x.2
  | .rptr d c :: hs, x => .rptr d x.1 c :: fillL hs x.2
  | .undef :: hs, x => .undef :: fillL hs x
  | .nils :: hs, x => .nils :: fillL hs x
  | .nilp :: hs, x => .nilp :: fillL hs x
  | .osl id :: hs, x => .osl id :: fillL hs x
  | .ptr0 id sz i c :: hs, x => .ptr id sz i c :: fillL hs x

def castK (d d' : Kd) (x : d.T) : Option d'.T := if h : d = d' then some (h ▸ x) else none
def exL : (hs : List HS) → List AV → Option (HTs hs)
  | [], [] => some ()
  | .int k :: hs, .int k' n :: vs => (castI k' k n).bind fun n => (exL hs vs).bind fun y => some (n, y)
  | .bool :: hs, .bool b :: vs => (exL hs vs).bind fun y => some (b, y)
  | .str :: hs, .str b :: vs => (exL hs vs).bind fun y => some (b, y)
  | .rsl d :: hs, .rsl d' l :: vs => (cast d' d l).bind fun l => (exL hs vs).bind fun y => some (l, y)
  | .vsl id sz :: hs, .vsl id' sz' lo n :: vs => match Nat.beq id id' && Nat.beq sz sz' with
    | true => (exL hs vs).bind fun y => some (lo, n, y)
    | false => none
  | .ptr id sz c :: hs, .ptr id' sz' i c' :: vs => match Nat.beq id id' && (Nat.beq sz sz' && Nat.beq c c') with
    | true => (exL hs vs).bind fun y => some (i, y)
    | false => none
  | .rptr d c :: hs, .rptr d' x c' :: vs => match Nat.beq c c' with
    | true => (castK d' d x).bind fun x => (exL hs vs).bind fun y => some (x, y)
    | false => none
  | .undef :: hs, .undef :: vs => exL hs vs
  | .nils :: hs, .nils :: vs => exL hs vs
  | .nilp :: hs, .nilp :: vs => exL hs vs
  | .osl id :: hs, .osl id' :: vs => match Nat.beq id id' with
    | true => exL hs vs
    | false => none
  | .ptr0 id sz i c :: hs, .ptr id' sz' i' c' :: vs => match Nat.beq id id' && (Nat.beq sz sz' && (Nat.beq i i' && Nat.beq c c')) with
    | true => exL hs vs
    | false => none
  | _, _ => none

inductive SK where
  | one | agg (n : Nat) | clo (f : FuncId) (n : Nat)
inductive CK where
  | none | arr | box (n : Nat)

def asmC : List CK → Nat → List AV → Store
  | [], _, _ => []
  | .none :: cs, b, vs => (b, .none) :: asmC cs (b + 1) vs
  | .arr :: cs, b, .rsl d l :: vs => (b, .arr d l) :: asmC cs (b + 1) vs
  | .arr :: cs, b, vs => (b, .none) :: asmC cs (b + 1) vs
  | .box n :: cs, b, vs => (b, .box (vs.take n)) :: asmC cs (b + 1) (vs.drop n)
def asm : List (Nat × SK) → List CK → Nat → List AV → Store
  | [], cs, b, vs => asmC cs b vs
  | (t, .one) :: sl, cs, b, v :: vs => (t, .av v) :: asm sl cs b vs
  | (t, .one) :: sl, cs, b, [] => (t, .av .undef) :: asm sl cs b []
  | (t, .agg n) :: sl, cs, b, vs => (t, .av (.agg (vs.take n))) :: asm sl cs b (vs.drop n)
  | (t, .clo f n) :: sl, cs, b, vs => (t, .av (.clo f (vs.take n))) :: asm sl cs b (vs.drop n)
def disC : List CK → Nat → Store → Option (List AV)
  | [], _, [] => some []
  | .none :: cs, b, (k, .none) :: σ => match Nat.beq k b with
    | true => disC cs (b + 1) σ
    | false => none
  | .arr :: cs, b, (k, .arr d l) :: σ => match Nat.beq k b with
    | true => (disC cs (b + 1) σ).bind fun vs => some (.rsl d l :: vs)
    | false => none
  | .box n :: cs, b, (k, .box us) :: σ => match Nat.beq k b && Nat.beq us.length n with
    | true => (disC cs (b + 1) σ).bind fun vs => some (us ++ vs)
    | false => none
  | _, _, _ => none
def dis : List (Nat × SK) → List CK → Nat → Store → Option (List AV)
  | [], cs, b, σ => disC cs b σ
  | (t, .one) :: sl, cs, b, (k, .av v) :: σ => match Nat.beq k t with
    | true => (dis sl cs b σ).bind fun vs => some (v :: vs)
    | false => none
  | (t, .agg n) :: sl, cs, b, (k, .av (.agg us)) :: σ => match Nat.beq k t && Nat.beq us.length n with
    | true => (dis sl cs b σ).bind fun vs => some (us ++ vs)
    | false => none
  | (t, .clo f n) :: sl, cs, b, (k, .av (.clo f' us)) :: σ => match Nat.beq k t && (Nat.beq us.length n && Nat.beq f f') with
    | true => (dis sl cs b σ).bind fun vs => some (us ++ vs)
    | false => none
  | _, _, _, _ => none

structure Sh where
  slots : List (Nat × SK)
  cells : List CK
  leaves : List HS
@[reducible] def Sh.T (s : Sh) : Type := HTs s.leaves
def Sh.fill (s : Sh) (x : s.T) : Store × Nat := (asm s.slots s.cells idBase (fillL s.leaves x), idBase + s.cells.length)
def Sh.ex (s : Sh) (p : Store × Nat) : Option s.T := match Nat.beq p.2 (idBase + s.cells.length) with
  | true => (dis s.slots s.cells idBase p.1).bind (exL s.leaves)
  | false => none
def Sh.keep (s : Sh) : List Nat := s.slots.map (·.1)

/-- A nil slice, taken for an empty one of one's own. -/
def ownN : List (Nat × Kd) → Store → Nat → Store × Nat
  | [], σ, t => (σ, t)
  | (x, d) :: l, σ, t => match tmpAV σ (x % idBase) with
    | .nils => match Nat.beq (x / idBase) 0 with
      | true => ownN l ((x % idBase, .av (.osl t)) :: (t, .arr d []) :: σ) (t + 1)
      | false => ownN l σ t
    | .ptr id 0 0 0 => match σ.get id with
      | .box cs => match cs[x / idBase - 1]? with
        | some .nils => ownN l ((id, .box (cs.set (x / idBase - 1) (.osl t))) :: (t, .arr d []) :: σ) (t + 1)
        | _ => ownN l σ t
      | _ => ownN l σ t
    | _ => ownN l σ t
/-- A state as one of a shape. -/
def Sh.of (np : Nat) (own : List (Nat × Kd)) (s : Sh) (σ : Store) (t : Nat) : Option s.T :=
  (norm np s.keep (ownN own σ t).1).bind s.ex

/-- Ways out of a loop. -/
structure Ex where
  e : AExit
  own : List (Nat × Kd)
  sh : Sh
@[reducible] def ExT : List Ex → Type
  | [] => Empty
  | [e] => e.sh.T
  | e :: e' :: es => e.sh.T ⊕ ExT (e' :: es)
def sameE : AExit → AExit → Bool
  | .normal, .normal => true
  | .ret, .ret => true
  | .exit i, .exit j => Nat.beq i j
  | _, _ => false
def ExT.of (np : Nat) (e : AExit) (σ : Store) (t : Nat) : (es : List Ex) → Option (ExT es)
  | [] => none
  | [x] => match sameE x.e e with
    | true => x.sh.of np x.own σ t
    | false => none
  | x :: x' :: es => match sameE x.e e with
    | true => match x.sh.of np x.own σ t with
      | some y => some (.inl y)
      | none => (ExT.of np e σ t (x' :: es)).bind fun y => some (.inr y)
    | false => (ExT.of np e σ t (x' :: es)).bind fun y => some (.inr y)
def ExT.elim {R : Type} (K : AExit → Store → Nat → Option R) : (es : List Ex) → ExT es → Option R
  | [], _ => none
  | [x], y => K x.e (x.sh.fill y).1 (x.sh.fill y).2
  | x :: x' :: es, y => match y with
    | .inl y => K x.e (x.sh.fill y).1 (x.sh.fill y).2
    | .inr y => ExT.elim K (x' :: es) y

/-- What is told of a loop. -/
structure LCtr where
  own : List (Nat × Kd)
  sh : Sh
  ex : List Ex
  G : sh.T → Option (ExT ex)
abbrev LTab := Nat → Option LCtr

variable (np : Nat) (Λ : LTab)
noncomputable def aexec : Code → {R : Type} → Store → Nat → (AExit → Store → Nat → Option R) → Option R
  | .skip, _, σ, t, K => K .normal σ t
  | .label _, _, σ, t, K => K .normal σ t
  | .region _ ops draw, _, σ, t, K => match draw with
    | false => regionS Γ Φ n ops.toList ops.toList σ t fun σ t => K .normal σ t
    | true => regionD Γ Φ n ops.toList ops.toList σ t [] fun ds σ t => match edgesOk ops.toList 0 && apartOk (befs ops.toList []) ds with
      | true => K .normal σ t
      | false => none
  | .seq x y, _, σ, t, K => aexec x σ t fun e σ t => match e with
    | .normal => aexec y σ t K
    | .exit id => K (.exit id) σ t
    | .ret => K .ret σ t
  | .cond c x y, _, σ, t, K => match c with
    | .tmp d => match tmpAV σ d with
      | .bool v => cond v (aexec x ((d, .av (.bool true)) :: σ) t K) (aexec y ((d, .av (.bool false)) :: σ) t K)
      | _ => none
    | .const (.bool v) => cond v (aexec x σ t K) (aexec y σ t K)
    | _ => none
  | .block id c, _, σ, t, K => aexec c σ t fun e σ t => match e with
    | .exit j => match Nat.beq j id with
      | true => K .normal σ t
      | false => K (.exit j) σ t
    | .normal => K .normal σ t
    | .ret => K .ret σ t
  | .loop c, _, σ, t, K => match Λ (firstRegion c) with
    | some l => (l.sh.of np l.own σ t).bind fun x => obind (l.G x) fun y => ExT.elim K l.ex y
    | none => none
  | .exit id, _, σ, t, K => K (.exit id) σ t
  | .ret, _, σ, t, K => K .ret σ t
  | _, _, _, _, _ => none

/-- Once round a loop. -/
noncomputable def loopStep (c : Code) (l : LCtr) (rec : l.sh.T → Option (ExT l.ex)) (x : l.sh.T) : Option (ExT l.ex) :=
  aexec Γ Φ n np Λ c (l.sh.fill x).1 (l.sh.fill x).2 fun e σ t => match e with
    | .normal => (l.sh.of np l.own σ t).bind rec
    | .exit id => ExT.of np (.exit id) σ t l.ex
    | .ret => ExT.of np .ret σ t l.ex
end

def rounds {X E : Type} (B : (X → Option E) → X → Option E) : Nat → X → Option E
  | 0, _ => none
  | k + 1, x => B (rounds B k) x

def loopsOf : Code → List Code
  | .seq a b => loopsOf a ++ loopsOf b
  | .cond _ a b => loopsOf a ++ loopsOf b
  | .block _ c => loopsOf c
  | .loop c => c :: loopsOf c
  | .scope c => loopsOf c
  | _ => []

end Go.Nu

/- Nu, part W: a whole function over abstract values. -/
import Derived.Test.YtjilffemogdabaaNuQ
namespace Go.Nu
set_option linter.unusedVariables false

/-- Where a result's slice comes from. -/
inductive Src0 where
  | nil
  | whole (id : Nat)
  | pre (id n : Nat)

/-- A value whose slices are one's own: given up. -/
def takeO (h : Store) : (d : Kd) → List AV → Option (d.T × List Src0)
  | .sl d, [.osl id] => match h.get id with
    | .arr d' l => (cast d' d l).map fun l => (l, [.whole id])
    | _ => none
  | .sl d, [.vsl id _ lo n] => match lo, h.get id with
    | 0, .arr d' l => (cast d' d l).map fun l => (l.take n, [.pre id n])
    | _, _ => none
  | .sl d, [.nils] => some ([], [.nil])
  | .sl _, _ => none
  | .pr a b, cs => (takeO h a (cs.take a.sz)).bind fun x => (takeO h b (cs.drop a.sz)).bind fun y => some ((x.1, y.1), x.2 ++ y.2)
  | .int k, cs => (ofLv h (.int k) cs).map fun x => (x, [])
  | .bool, cs => (ofLv h .bool cs).map fun x => (x, [])
  | .str, cs => (ofLv h .str cs).map fun x => (x, [])

def take1 (h : Store) (k : RK) (v : AV) : Option (k.T × List Src0) := match k with
  | .o d => match aggOf v == isPr d with
    | true => takeO h d (leavesOf v)
    | false => none
  | .r d => match (ids1 v).isEmpty with
    | true => (toT h d v).map fun x => (x, [])
    | false => none
  | .p d => match v with
    | .ptr id 0 0 0 => match h.get id with
      | .box cs => match (cs.flatMap ids0).isEmpty with
        | true => (ofLv h d cs).map fun x => (x, [.whole id])
        | false => none
      | _ => none
    | _ => none

def takeR (h : Store) : (rs : List RK) → List AV → Option (ResT rs × List Src0)
  | [], [] => some ((), [])
  | [k], [v] => take1 h k v
  | k :: k' :: ks, v :: vs => (take1 h k v).bind fun x => (takeR h (k' :: ks) vs).bind fun y => some ((x.1, y.1), x.2 ++ y.2)
  | _, _ => none

/-- What the parameters hold behind the call. -/
def takeU (h : Store) : (ks : List PK) → List Nat → Option (UpdT ks)
  | [], _ => some ()
  | .v _ :: ks, ids => (takeU h ks ids).map fun y => ((), y)
  | .p d :: ks, ids => match h.get (ids.headD 0) with
    | .box cs => match (cs.flatMap ids0).isEmpty with
      | true => (ofLv h d cs).bind fun x => (takeU h ks (ids.drop 1)).bind fun y => some (x, y)
      | false => none
    | _ => none
  | .m d :: ks, ids => (takeM h d (giveM d d.zero (ids.take d.nsl)).1).bind fun x => (takeU h ks (ids.drop d.nsl)).bind fun y => some (x.1, y)
  | .f _ :: ks, ids => (takeU h ks ids).map fun y => ((), y)
  | .z :: ks, ids => (takeU h ks ids).map fun y => ((), y)
  | .t d :: ks, ids => (takeU h ks (ids.drop d.nsl)).map fun y => ((), y)
  | .c _ d :: ks, ids => match h.get (ids.headD 0) with
    | .box cs => match (cs.flatMap ids0).isEmpty with
      | true => (ofLv h d cs).bind fun x => (takeU h ks (ids.drop 1)).bind fun y => some (x, y)
      | false => none
    | _ => none

/-- The parameters' ids that the caller keeps. -/
def keepIds : List PK → List Nat → List Nat
  | [], _ => []
  | .v _ :: ks, ids => keepIds ks ids
  | .f _ :: ks, ids => keepIds ks ids
  | .z :: ks, ids => keepIds ks ids
  | .p _ :: ks, ids => ids.take 1 ++ keepIds ks (ids.drop 1)
  | .c _ _ :: ks, ids => ids.take 1 ++ keepIds ks (ids.drop 1)
  | .m d :: ks, ids => ids.take d.nsl ++ keepIds ks (ids.drop d.nsl)
  | .t d :: ks, ids => keepIds ks (ids.drop d.nsl)
def srcIds : Src0 → List Nat
  | .nil => []
  | .whole id => [id]
  | .pre id _ => [id]

def resAV (Γ : Tys) (σ : Store) : ResultVar → Option AV
  | .tmp t => some (tmpAV σ t)
  | .cell a ty => match Γ.get ty with
    | some i => (loadA i σ (tmpAV σ a)).run fun r => some r.1
    | none => none

def resAVs (Γ : Tys) (σ : Store) : List ResultVar → Option (List AV)
  | [] => some []
  | r :: rs => (resAV Γ σ r).bind fun v => (resAVs Γ σ rs).bind fun vs => some (v :: vs)

def tmpsOf : List AV → Nat → Store
  | [], _ => []
  | v :: vs, i => (i, .av v) :: tmpsOf vs (i + 1)

def finish (Γ : Tys) (fn : Func) (pk : List PK) (rs : List RK) (σ : Store) : Option (ResT rs × UpdT pk) :=
  (resAVs Γ σ fn.results.toList).bind fun vs => match vs.all AV.isDef with
    | true => (takeR σ rs vs).bind fun x => (takeU σ pk (upFrom idBase (pk.map PK.n).sum)).bind fun y =>
        match distinct (x.2.flatMap srcIds ++ keepIds pk (upFrom idBase (pk.map PK.n).sum)) with
        | true => some (x.1, y)
        | false => none
    | false => none

noncomputable def arun (Γ : Tys) (Φ : Ctrs) (Λ : LTab) (fn : Func) (c : Code) (pk : List PK) (rs : List RK) (x : ArgT pk) : Option (ResT rs × UpdT pk) :=
  aexec Γ Φ fn.ntmps (pk.map PK.n).sum Λ c (tmpsOf (inA pk x (upFrom idBase (pk.map PK.n).sum)).1 0 ++ (inA pk x (upFrom idBase (pk.map PK.n).sum)).2) (idBase + (pk.map PK.n).sum)
    fun e σ _ => match e with
      | .exit _ => none
      | .normal => finish Γ fn pk rs σ
      | .ret => finish Γ fn pk rs σ

end Go.Nu

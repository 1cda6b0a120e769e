/- Nu, part Zc: tables of contracts; a loop's rounds. -/
import Derived.Test.YtjilffemogdabaaNuZb
namespace Go.Nu
set_option linter.unusedVariables false

def ctab : List (FuncId × Ctr) → Ctrs
  | [], _ => none
  | (k, c) :: r, i => match Nat.beq k i with
    | true => some c
    | false => ctab r i
def ltab : List (Nat × LCtr) → LTab
  | [], _ => none
  | (k, c) :: r, i => match Nat.beq k i with
    | true => some c
    | false => ltab r i

theorem ctab_nil (P : Program) : ∀ f c, ctab [] f = some c → c.ok P f := fun _ _ h => by cases h
theorem ctab_cons {P : Program} {k : FuncId} {c : Ctr} {r : List (FuncId × Ctr)} (h : c.ok P k) (hs : ∀ f c, ctab r f = some c → c.ok P f) : ∀ f c', ctab ((k, c) :: r) f = some c' → c'.ok P f := by
  intro f c' e
  simp only [ctab] at e
  split at e
  · rename_i hb
    cases e
    rw [← Nat.eq_of_beq_eq_true hb]
    exact h
  · exact hs _ _ e

def bodyOf (fn : Func) : Code := fn.body.getD .skip
def AllL (p : Code → Prop) : List Code → Prop
  | [] => True
  | c :: cs => p c ∧ AllL p cs
theorem allL_mem {p : Code → Prop} : ∀ {cs : List Code}, AllL p cs → ∀ c ∈ cs, p c
  | c :: cs, h, d, hd => by
    rcases List.mem_cons.1 hd with rfl | hd
    · exact h.1
    · exact allL_mem h.2 d hd
/-- A loop's code, and what is told of it. -/
def LOk (Γ : Tys) (Φ : Ctrs) (n np : Nat) (Λ : LTab) (c : Code) : Prop := ∀ l, Λ (firstRegion c) = some l → l.ok Γ Φ n np Λ c
theorem lone_ok {Γ : Tys} {Φ : Ctrs} {n np : Nat} {Λ : LTab} {c : Code} {l : LCtr} {B : (l.sh.T → Option (ExT l.ex)) → l.sh.T → Option (ExT l.ex)} (k : Nat)
    (hB : ∀ rec x, loopStep Γ Φ n np Λ c l rec x = B rec x) (hG : ∀ x, l.G x = rounds B k x) : l.ok Γ Φ n np Λ c := by
  intro x y h
  refine ⟨k, ?_⟩
  have : loopStep Γ Φ n np Λ c l = B := by funext rec x; exact hB rec x
  rw [this, ← hG]
  exact h
theorem is_ok {Γ : Tys} {Φ : Ctrs} {n np : Nat} {Λ : LTab} {c : Code} {l : LCtr} {i : Nat} (hc : Nat.beq (firstRegion c) i = true) (hl : Λ i = some l) (h : l.ok Γ Φ n np Λ c) : LOk Γ Φ n np Λ c := by
  intro l' e
  rw [Nat.eq_of_beq_eq_true hc, hl] at e
  cases e
  exact h

theorem not_ok {Γ : Tys} {Φ : Ctrs} {n np : Nat} {Λ : LTab} {c : Code} {i : Nat} (hc : Nat.beq (firstRegion c) i = true) (hl : (Λ i).isNone = true) : LOk Γ Φ n np Λ c := by
  intro l' e
  rw [Nat.eq_of_beq_eq_true hc] at e
  rw [e] at hl
  cases hl

section
variable {p : Code → Prop}
theorem loops0 : ∀ {cs : List Code}, Nat.beq cs.length 0 = true → AllL p cs
  | [], _ => trivial
theorem loops1 : ∀ {cs : List Code}, Nat.beq cs.length 1 = true → p (cs.getD 0 .skip) → AllL p cs
  | [_], _, h0 => ⟨h0, trivial⟩
theorem loops2 : ∀ {cs : List Code}, Nat.beq cs.length 2 = true → p (cs.getD 0 .skip) → p (cs.getD 1 .skip) → AllL p cs
  | [_, _], _, h0, h1 => ⟨h0, h1, trivial⟩
theorem loops3 : ∀ {cs : List Code}, Nat.beq cs.length 3 = true → p (cs.getD 0 .skip) → p (cs.getD 1 .skip) → p (cs.getD 2 .skip) → AllL p cs
  | [_, _, _], _, h0, h1, h2 => ⟨h0, h1, h2, trivial⟩
theorem loops4 : ∀ {cs : List Code}, Nat.beq cs.length 4 = true → p (cs.getD 0 .skip) → p (cs.getD 1 .skip) → p (cs.getD 2 .skip) → p (cs.getD 3 .skip) → AllL p cs
  | [_, _, _, _], _, h0, h1, h2, h3 => ⟨h0, h1, h2, h3, trivial⟩
theorem loops5 : ∀ {cs : List Code}, Nat.beq cs.length 5 = true → p (cs.getD 0 .skip) → p (cs.getD 1 .skip) → p (cs.getD 2 .skip) → p (cs.getD 3 .skip) → p (cs.getD 4 .skip) → AllL p cs
  | [_, _, _, _, _], _, h0, h1, h2, h3, h4 => ⟨h0, h1, h2, h3, h4, trivial⟩
end

theorem fun_ok' {P : Program} {Γ : Tys} {Φ : Ctrs} {Λ : LTab} (hΓ : Tys.ok P Γ) (hΦ : ∀ f c, Φ f = some c → c.ok P f) (hm : P.follows .mixedOrders = true)
    {f : FuncId} {fn : Func} {c : Code} (hf : P.funcs[f]? = some fn) (hb : fn.body = some c) (hname : (fn.name == "runtime.NumGoroutine") = false) {pk : List PK} {rs : List RK} {np : Nat}
    (hnp : Nat.beq (pk.map PK.n).sum np = true) (hΛ : AllL (LOk Γ Φ fn.ntmps np Λ) (loopsOf c))
    (hnt : Nat.ble pk.length fn.ntmps = true) (hn : Nat.ble fn.ntmps idBase = true) (hrs : Nat.ble (rs.map RK.n).sum 64 = true) {F : ArgT pk → Option (ResT rs × UpdT pk)} (hF : ∀ x r, F x = some r → arun Γ Φ Λ fn c pk rs x = some r) :
    Ctr.ok P f ⟨pk, rs, F⟩ := by
  have := Nat.eq_of_beq_eq_true hnp
  subst this
  exact fun_ok hΓ hΦ hm hf hb hname (allL_mem hΛ) (Nat.le_of_ble_eq_true hnt) (Nat.le_of_ble_eq_true hn) (Nat.le_of_ble_eq_true hrs) hF

def eqkB (P : Program) (t : TypeId) (i : TI) : Bool := cond i.eq (!P.stoodInHeld t && (!P.eqGuardType P.depth t && (match i.desc with
  | .struct fs => fs.toList.all fun f => f.name != "_"
  | _ => true))) true
theorem tiOk {P : Program} {t : TypeId} {i : TI} (h1 : P.underlying t = some i.desc) (j : TypeInfo) (h2 : P.info? t = some j) (h3 : j.size = i.size) (h4 : j.bytes = i.bytes) (h5 : j.zero = some i.zero)
    (h6 : (i.kd.map fun d => (d.sz, d.zc)) = i.kd.map fun _ => (i.size, i.zero.cells.toList)) (h7 : eqkB P t i = true) : TI.ok P t i := by
  refine ⟨h1, ⟨j, h2, h3, h4, h5⟩, fun d hd => ?_, fun he => ?_⟩
  · rw [hd] at h6
    simp only [Option.map_some, Option.some.injEq, Prod.mk.injEq] at h6
    exact h6
  · unfold eqkB at h7
    rw [he] at h7
    simp only [cond_true, Bool.and_eq_true, Bool.not_eq_true'] at h7
    refine ⟨h7.1, h7.2.1, fun fs hfs f hf => ?_⟩
    have h8 := h7.2.2
    rw [hfs] at h8
    have h9 := List.all_eq_true.1 h8 f hf
    simpa using h9

/-- Enough for every loop over what memory holds. -/
def fuel : Nat := 1208925819614629174706176

/-- An empty list of that type. -/
abbrev nilL (α : Type) : List α := []

end Go.Nu

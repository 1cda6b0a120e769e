/- Nu, part J: arithmetic, conversions, make, append. -/
import Derived.Test.YtjilffemogdabaaNuI
import Derived.Laws.StructEq
namespace Go.Nu
set_option linter.unusedSimpArgs false
set_option linter.unnecessarySimpa false
set_option linter.unusedVariables false
set_option linter.unusedSectionVars false

theorem run_ret {α R : Type} (a : α) (K : α → Option R) : (Tree.ret a).run K = K a := rfl
theorem run_fail {α R : Type} (K : α → Option R) : (Tree.fail : Tree α).run K = none := rfl

section
variable {P : Program} {S : Nat → Prop} {w : World} {ρ : Rho} {h : Store} {b : Nat}

theorem bool2 (op : BinOp) : (∃ x, x = op) := ⟨op, rfl⟩

theorem toList_beq (a b : ByteArray) : (a.toList == b.toList) = strEq a b := by
  unfold strEq
  rw [Bool.eq_iff_iff]
  simp only [beq_iff_eq, decide_eq_true_eq]
  constructor
  · intro e
    have h1 : a.data.toList = b.data.toList := by
      have := e
      simpa [ByteArray.toList_eq] using this
    have : a.data = b.data := Array.toList_inj.1 h1
    cases a; cases b; simp_all
  · rintro rfl; rfl

theorem binOp_ok {op : BinOp} {t : TypeId} {xo yo : Operand} {a c : AV} {x y : Value} {av : AV} (ht : ∀ p q, a = .bool p → c = .bool q → P.underlying t = some .bool) (ha : L1 S w ρ a x) (hc : L1 S w ρ c y)
    (hr : (binA op a c).run some = some av) : ∃ v, (do eqGuard op t xo yo x y; binOp op t x y : Sem Value).run P w = .ok v w ∧ L0 S w ρ av v := by
  cases a with
  | int k m =>
    cases c with
    | int k' n =>
      simp only [L1, L0] at ha hc
      subst ha; subst hc
      have hg : (eqGuard op t xo yo (.int k m) (.int k' n)).run P w = .ok () w := by
        unfold eqGuard
        split <;> simp
      simp only [Sem.run_bind, hg, Result.andThen_ok]
      by_cases hk : k = k'
      · subst hk
        cases op <;> simp only [binA, int2, if_true, Tree.br_some, run_ret, run_fail, Option.some.injEq, Bool.false_eq_true, and_false, false_or, or_false, reduceCtorEq] at hr
        all_goals first
          | (subst hr; refine ⟨_, ?_, rfl⟩; simp only [binOp, ne_eq, not_true_eq_false, if_false]; rfl)
          | (obtain ⟨c0, rfl⟩ := hr
             have c0 := of_decide_eq_false c0
             refine ⟨_, ?_, rfl⟩
             simp [binOp, Op.intDiv, Op.shift, c0])
      · cases op <;> simp only [binA, hk, if_false, Tree.br_some, run_ret, run_fail, Option.some.injEq, Bool.false_eq_true, and_false, false_or, or_false, reduceCtorEq] at hr
        all_goals
          obtain ⟨c0, rfl⟩ := hr
          have c0 := of_decide_eq_false c0
          refine ⟨_, ?_, rfl⟩
          simp [binOp, Op.shift, c0]
    | _ => simp [binA, Tree.run] at hr
  | str m =>
    cases c with
    | str n =>
      simp only [L1, L0] at ha hc
      subst ha; subst hc
      have hg : (eqGuard op t xo yo (.string m) (.string n)).run P w = .ok () w := by
        unfold eqGuard
        split <;> simp
      simp only [Sem.run_bind, hg, Result.andThen_ok]
      cases op <;> simp only [binA, Tree.br_some, run_ret, run_fail, Option.some.injEq, Bool.false_eq_true, and_false, false_or, or_false, reduceCtorEq] at hr
      case add =>
        obtain ⟨c0, rfl⟩ := hr
        have c0 := of_decide_eq_true c0
        exact ⟨_, by rw [binOp_string_add]; exact run_string_add_sum w m n (by omega), rfl⟩
      case eql => subst hr; exact ⟨_, by rw [binOp_string_eql, toList_beq]; rfl, rfl⟩
      case neq => subst hr; exact ⟨_, by rw [binOp_string_neq, toList_beq]; rfl, rfl⟩
    | _ => simp [binA, Tree.run] at hr
  | bool m =>
    cases c with
    | bool n =>
      have hu := ht m n rfl rfl
      simp only [L1, L0] at ha hc
      subst ha; subst hc
      have hg : (eqGuard op t xo yo (.bool m) (.bool n)).run P w = .ok () w := by
        unfold eqGuard
        split <;> simp
      simp only [Sem.run_bind, hg, Result.andThen_ok]
      cases op <;> simp only [binA, Tree.run, Option.some.injEq, reduceCtorEq] at hr
      case eql => subst hr; exact ⟨_, run_eql_bool w t m n hu, rfl⟩
      case neq => subst hr; exact ⟨_, run_neq_bool w t m n hu, rfl⟩
    | _ => simp [binA, Tree.run] at hr
  | _ => simp [binA, Tree.run] at hr

theorem unOp_ok {op : UnOp} {a : AV} {x : Value} {av : AV} (ha : L1 S w ρ a x) (hr : (unA op a).run some = some av) : ∃ v, (Op.unary op x).run P w = .ok v w ∧ L0 S w ρ av v := by
  cases a with
  | bool m =>
    simp only [L1, L0] at ha
    subst ha
    cases op <;> simp only [unA, Tree.run, Option.some.injEq, reduceCtorEq] at hr
    subst hr
    exact ⟨_, by simp [Op.unary], rfl⟩
  | int k n =>
    simp only [L1, L0] at ha
    subst ha
    cases op <;> simp only [unA, Tree.run, Option.some.injEq, reduceCtorEq] at hr
    all_goals
      subst hr
      exact ⟨_, rfl, rfl⟩
  | _ => simp [unA, Tree.run] at hr

end

section
variable {P : Program} {Γ : Tys} (hΓ : Tys.ok P Γ) {S : Nat → Prop} {w : World} {ρ : Rho}
include hΓ
theorem part_ok {t : TypeId} {k : TI} (ht : Γ.get t = some k) {off : Nat} {cs : List AV} {vs : Array Value} {v0 : AV} (hv : All2 (L0 S w ρ) cs vs.toList) (hle : off + k.size ≤ cs.length)
    (hr : subA k.isAgg (part cs off k.size) = some v0) : ∃ v, (Go.part t vs off).run P w = .ok v w ∧ L1 S w ρ v0 v := by
  have hvl : cs.length = vs.size := by rw [hv.length, Array.length_toList]
  have hpt := hv.part off k.size
  have hA := run_agg hΓ ht w
  have hS := run_sz hΓ ht w
  cases hb : k.isAgg with
  | true =>
    rw [hb] at hr hA
    simp only [subA, Option.some.injEq] at hr
    subst hr
    refine ⟨.agg (vs.extract off (off + k.size)), ?_, ⟨_, rfl, ?_⟩⟩
    · simp only [Go.part, Sem.run_bind, hA, hS, Result.andThen_ok, Sem.run_pure, if_true]
    · have e : (vs.extract off (off + k.size)).toList = part vs.toList off k.size := by
        rw [Array.toList_extract]
        simp [List.extract, part]
      rw [e]
      exact hpt
  | false =>
    rw [hb] at hr hA
    match hpc : part cs off k.size, hr with
    | [c0], hr =>
      simp only [subA, Option.some.injEq] at hr
      subst hr
      rw [hpc] at hpt
      have hsz : k.size = 1 := by
        have : (part cs off k.size).length = k.size := part_length _ _ _ hle
        rw [hpc] at this
        simpa using this.symm
      have hlt : off < vs.size := by omega
      have hq : part vs.toList off k.size = [vs[off]] := by
        rw [hsz]
        simp only [part]
        apply List.ext_getElem?
        intro m
        simp only [List.getElem?_take, List.getElem?_drop]
        cases m with
        | zero => simp [hlt]
        | succ m => simp
      rw [hq] at hpt
      refine ⟨vs[off], ?_, L0.one hpt.1⟩
      simp only [Go.part, Sem.run_bind, hA, Result.andThen_ok, Sem.run_pure, Bool.false_eq_true, if_false, Array.getElem?_eq_getElem hlt]

theorem eqFs_ok {d : Nat} {rec : TypeId → AV → AV → Option Bool} (hrec : ∀ t x y vx vy b, L1 S w ρ x vx → L1 S w ρ y vy → rec t x y = some b → (Op.equalIn d t vx vy).run P w = .ok b w)
    {cs ds : List AV} {xs ys : Array Value} (hx : All2 (L0 S w ρ) cs xs.toList) (hy : All2 (L0 S w ρ) ds ys.toList) : ∀ (fs : List Field) (b : Bool), (∀ f ∈ fs, f.name ≠ "_") → eqFs Γ rec cs ds fs = some b → (Op.eqFields d xs ys fs).run P w = .ok b w
  | [], b, _, h => by
    simp only [eqFs, Option.some.injEq] at h
    subst h
    rfl
  | f :: fs, b, hn, h => by
    simp only [eqFs] at h
    split at h
    case h_2 => cases h
    rename_i k hk
    split at h
    case h_2 => cases h
    rename_i x y hb ex ey
    rw [Bool.and_eq_true] at hb
    split at h
    case h_2 => cases h
    rename_i b1 b2 e1 e2
    cases h
    obtain ⟨vx, r1, l1⟩ := part_ok hΓ hk hx (Nat.le_of_ble_eq_true hb.1) ex
    obtain ⟨vy, r2, l2⟩ := part_ok hΓ hk hy (Nat.le_of_ble_eq_true hb.2) ey
    have r3 := hrec f.type x y vx vy b1 l1 l2 e1
    have r4 := eqFs_ok hrec hx hy fs b2 (fun f hf => hn f (List.mem_cons_of_mem _ hf)) e2
    have hne := hn f (by simp)
    simp only [Op.eqFields, ne_eq, hne, not_false_iff, if_true, Sem.run_bind, r1, r2, r3, Result.andThen_ok, Sem.run_ite]
    cases b1 with
    | true => simpa using r4
    | false => simp

theorem eqA_ok : ∀ (n d : Nat) (t : TypeId) (x y : AV) (vx vy : Value) (b : Bool), n ≤ d → L1 S w ρ x vx → L1 S w ρ y vy → eqA Γ n t x y = some b → (Op.equalIn d t vx vy).run P w = .ok b w := by
  intro n
  induction n with
  | zero => intro d t x y vx vy b _ _ _ h; cases h
  | succ n ih =>
    intro d t x y vx vy b hd lx ly h
    match d, hd with
    | d + 1, hd =>
      simp only [eqA] at h
      split at h
      case h_2 => cases h
      rename_i i hi
      have hu := (hΓ t i hi).und
      split at h
      · rename_i k0 k a k' c he
        rw [he] at hu
        split at h
        case isFalse => cases h
        rename_i hk
        cases h
        subst hk
        have e1 : vx = .int k a := lx
        have e2 : vy = .int k c := ly
        subst e1; subst e2
        rw [run_equalIn_int w d t k k0 a c hu]
        congr 1
      · rename_i a c he
        rw [he] at hu
        cases h
        have e1 : vx = .bool a := lx
        have e2 : vy = .bool c := ly
        subst e1; subst e2
        exact run_equalIn_bool' w d t a c hu
      · rename_i a c he
        rw [he] at hu
        cases h
        have e1 : vx = .string a := lx
        have e2 : vy = .string c := ly
        subst e1; subst e2
        rw [run_equalIn_string w d t a c hu, toList_beq]
      · rename_i fs cs ds he
        split at h
        case h_2 => cases h
        rename_i hq
        rw [he] at hu
        obtain ⟨q1, q2, q3⟩ := (hΓ t i hi).eqk hq
        obtain ⟨xs, rfl, hx⟩ := lx
        obtain ⟨ys, rfl, hy⟩ := ly
        have hfs : P.fieldsOf t = fs := by simp [Program.fieldsOf, hu]
        rw [run_equalIn_agg w d t xs ys (by rw [hfs]; exact hu) q1, hfs]
        exact eqFs_ok hΓ (fun t x y vx vy b l1 l2 e => ih d t x y vx vy b (by omega) l1 l2 e) hx hy fs.toList b (q3 fs he) h
      · cases h
theorem eqA_eq {t : TypeId} {x y : AV} {b : Bool} (hax : aggOf x = true) (h : eqA Γ 16 t x y = some b) : ∃ i cs ds, Γ.get t = some i ∧ i.eq = true ∧ x = .agg cs ∧ y = .agg ds := by
  simp only [eqA] at h
  split at h
  case h_2 => cases h
  rename_i i hi
  split at h <;> first | (cases hax; done) | skip
  · rename_i fs cs ds he
    split at h
    case h_2 => cases h
    rename_i hq
    exact ⟨i, cs, ds, hi, hq, rfl, rfl⟩
  · cases h

theorem structEq_ok {t : TypeId} {x y : AV} {b : Bool} {xo yo : Operand} {vx vy : Value} (hax : aggOf x = true) (h : eqA Γ 16 t x y = some b) (lx : L1 S w ρ x vx) (ly : L1 S w ρ y vy) :
    (do eqGuard .eql t xo yo vx vy; Go.binOp .eql t vx vy : Sem Value).run P w = .ok (.bool b) w ∧ (do eqGuard .neq t xo yo vx vy; Go.binOp .neq t vx vy : Sem Value).run P w = .ok (.bool (!b)) w := by
  obtain ⟨i, cs, ds, hi, hq, rfl, rfl⟩ := eqA_eq hΓ hax h
  have r := eqA_ok hΓ 16 10000 t _ _ vx vy b (by omega) lx ly h
  obtain ⟨q1, q2, q3⟩ := (hΓ t i hi).eqk hq
  obtain ⟨xs, rfl, _⟩ := lx
  obtain ⟨ys, rfl, _⟩ := ly
  constructor
  · simp only [Sem.run_bind, run_eqGuard_agg w .eql t xo yo xs ys q2, Result.andThen_ok, run_eql_struct, r]
  · simp only [Sem.run_bind, run_eqGuard_agg w .neq t xo yo xs ys q2, Result.andThen_ok, run_neq_struct, r]
end

end Go.Nu

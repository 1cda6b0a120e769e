/- Nu, part Z: a function's contract. -/
import Derived.Test.YtjilffemogdabaaNuY
namespace Go.Nu
set_option linter.unusedSimpArgs false
set_option linter.unnecessarySimpa false
set_option linter.unusedVariables false
set_option linter.unusedSectionVars false

/-! ### Stores as lists -/
theorem zip_live : ∀ {ids : List Nat} {cs : List Cell} {i : Nat}, (Store.get (ids.zip cs) i).live = true → ∃ (j : Nat), ids[j]? = some i ∧ cs[j]? = some (Store.get (ids.zip cs) i)
  | [], _, _, h => by simp [Store.get, Cell.live] at h
  | _ :: _, [], _, h => by simp [Store.get, Cell.live] at h
  | k :: ids, c :: cs, i, h => by
    simp only [List.zip_cons_cons, Store.get] at h ⊢
    cases hb : Nat.beq k i with
    | true => exact ⟨0, by rw [Nat.eq_of_beq_eq_true hb]; rfl, by simp⟩
    | false =>
      rw [hb] at h
      obtain ⟨j, h1, h2⟩ := zip_live h
      exact ⟨j + 1, by simpa using h1, by simpa using h2⟩
theorem zip_at : ∀ {ids : List Nat} {cs : List Cell} {i j : Nat} {c : Cell}, ids.Nodup → ids[j]? = some i → cs[j]? = some c → Store.get (ids.zip cs) i = c
  | [], _, _, _, _, _, h, _ => by simp at h
  | _ :: _, [], _, _, _, _, _, h => by simp at h
  | k :: ids, c0 :: cs, i, 0, c, hd, h1, h2 => by
    simp at h1 h2
    subst h1
    subst h2
    simp only [List.zip_cons_cons, Store.get]
    have : Nat.beq k k = true := Nat.beq_refl k
    rw [this]
  | k :: ids, c0 :: cs, i, j + 1, c, hd, h1, h2 => by
    simp only [List.getElem?_cons_succ] at h1 h2
    simp only [List.zip_cons_cons, Store.get]
    rw [List.nodup_cons] at hd
    cases hb : Nat.beq k i with
    | true =>
      have := Nat.eq_of_beq_eq_true hb
      subst this
      exact absurd (List.mem_of_getElem? h1) hd.1
    | false => exact zip_at hd.2 h1 h2
theorem zip_out {ids : List Nat} {cs : List Cell} {i : Nat} (h : i ∉ ids) : ∀ {c : Cell}, c = Store.get (ids.zip cs) i → c = .none := by
  induction ids generalizing cs with
  | nil => intro c e; simpa [Store.get] using e
  | cons k ids ih =>
    intro c e
    match cs, e with
    | [], e => simpa [Store.get] using e
    | c0 :: cs, e =>
      simp only [List.zip_cons_cons, Store.get] at e
      simp only [List.mem_cons, not_or] at h
      cases hb : Nat.beq k i with
      | true => exact absurd (Nat.eq_of_beq_eq_true hb).symm h.1
      | false => rw [hb] at e; exact ih h.2 e
theorem tmps_get : ∀ (vs : List AV) (i0 : Nat) (σ : Store) (j : Nat), Store.get (tmpsOf vs i0 ++ σ) j = if i0 ≤ j then (match vs[j - i0]? with
    | some v => .av v
    | none => σ.get j) else σ.get j
  | [], i0, σ, j => by simp [tmpsOf]
  | v :: vs, i0, σ, j => by
    simp only [tmpsOf, List.cons_append, Store.get]
    rw [tmps_get vs (i0 + 1) σ j]
    cases hb : Nat.beq i0 j with
    | true =>
      have := Nat.eq_of_beq_eq_true hb
      subst this
      simp
    | false =>
      have hne : i0 ≠ j := fun e => by rw [e, Nat.beq_refl] at hb; cases hb
      simp only
      by_cases h1 : i0 ≤ j
      · rw [if_pos (by omega), if_pos h1]
        obtain ⟨k, rfl⟩ := Nat.exists_eq_add_of_lt (show i0 < j by omega)
        rw [show i0 + k + 1 - (i0 + 1) = k by omega, show i0 + k + 1 - i0 = k + 1 by omega]
        rfl
      · rw [if_neg (by omega), if_neg h1]

/-! ### Results -/
theorem run_fst {t : Tree Res} {v : AV} (h : (t.run fun r => some r.1) = some v) : ∃ r, t.run some = some r ∧ r.1 = v := by
  obtain ⟨a, h1, h2⟩ := Tree.run_some h
  exact ⟨a, h1, by simpa using h2⟩

def resSem (tmps : Array Value) : ResultVar → Sem Value
  | .tmp t => pure (tmps.getD t undef)
  | .cell a t => do loadVar t (← asAddr (tmps.getD a undef))

theorem asAddr_run {P : Program} {w : World} {t : TypeId} {p u : Value} (h : (Instr.loadAt t p).run P w = .ok u w) : (do loadVar t (← asAddr p) : Sem Value).run P w = .ok u w := by
  cases p with
  | pointer o =>
    cases o with
    | some a => exact h
    | none => cases h
  | _ => cases h

section
variable {P : Program} {Γ : Tys} (hΓ : Tys.ok P Γ) {S : Nat → Prop} {w : World} {ρ : Rho} {σ : Store} {tmps : Array Value}
include hΓ

theorem resAV_run (H : HRel S w ρ σ) (tm : ∀ x, L2 S w ρ (tmpAV σ x) (tmps.getD x undef)) {rv : ResultVar} {v : AV} (h : resAV Γ σ rv = some v) (hd : v.isDef = true) :
    ∃ u, (resSem tmps rv).run P w = .ok u w ∧ L1 S w ρ v u := by
  have l1 : ∀ {v : AV} {u : Value}, L2 S w ρ v u → v.isDef = true → L1 S w ρ v u := by
    intro v u l hd
    cases v <;> first | exact l | cases hd
  cases rv with
  | tmp t =>
    simp only [resAV, Option.some.injEq] at h
    subst h
    exact ⟨_, rfl, l1 (tm t) hd⟩
  | cell a ty =>
    simp only [resAV] at h
    split at h
    case h_2 => cases h
    rename_i i hi
    obtain ⟨r, h1, rfl⟩ := run_fst h
    have ha := tm a
    generalize tmpAV σ a = x at *
    have hx : L1 S w ρ x (tmps.getD a undef) := by
      cases x <;> first | exact ha | cases h1
    obtain ⟨u, h2, h3, _⟩ := load_ok' hΓ hi H hx h1
    exact ⟨u, asAddr_run h2, l1 h3 hd⟩

theorem resAVs_run (H : HRel S w ρ σ) (tm : ∀ x, L2 S w ρ (tmpAV σ x) (tmps.getD x undef)) : ∀ {rvs : List ResultVar} {vs : List AV}, resAVs Γ σ rvs = some vs → vs.all AV.isDef = true →
    ∃ us, (rvs.mapM (resSem tmps)).run P w = .ok us w ∧ All2 (L1 S w ρ) vs us
  | [], vs, h, hd => by
    simp only [resAVs, Option.some.injEq] at h
    subst h
    exact ⟨[], rfl, trivial⟩
  | rv :: rvs, vs, h, hd => by
    simp only [resAVs, Option.bind_eq_some_iff] at h
    obtain ⟨v, h1, vs', h2, h3⟩ := h
    cases h3
    simp only [List.all_cons, Bool.and_eq_true] at hd
    obtain ⟨u, k1, k2⟩ := resAV_run hΓ H tm h1 hd.1
    obtain ⟨us, k3, k4⟩ := resAVs_run H tm h2 hd.2
    refine ⟨u :: us, ?_, k2, k4⟩
    simp only [List.mapM_cons, Sem.run_bind, k1, k3, Result.andThen_ok, Sem.run_pure]
end

def one' : List Value → Value
  | [v] => v
  | vs => .tuple vs.toArray

theorem results_run {P : Program} {w : World} {fn : Func} {tmps : Array Value} {us : List Value} (h : (fn.results.toList.mapM (resSem tmps)).run P w = .ok us w) : (results fn tmps).run P w = .ok (one' us) w := by
  have e : results fn tmps = (do
      let vs ← fn.results.mapM (resSem tmps)
      pure (if h : vs.size = 1 then vs[0] else .tuple vs)) := by
    unfold results
    congr 1
  rw [e]
  simp only [Array.mapM_eq_mapM_toList, Sem.run_bind, h, Result.andThen_ok, Sem.run_pure, Sem.run_map, map_eq_pure_bind]
  match us with
  | [] => rfl
  | [u] => rfl
  | _ :: _ :: _ => rfl

theorem one_rel {S : Nat → Prop} {w : World} {ρ : Rho} : ∀ {vs : List AV} {us : List Value}, All2 (L1 S w ρ) vs us → L2 S w ρ (one vs) (one' us)
  | [], [], _ => ⟨#[], rfl, trivial⟩
  | [v], [u], h => h.1.two
  | _ :: _ :: _, _ :: _ :: _, h => ⟨_, rfl, h⟩
  | [], _ :: _, h => h.elim
  | _ :: _, [], h => h.elim
  | [_], _ :: _ :: _, h => h.2.elim
  | _ :: _ :: _, [_], h => h.2.elim

end Go.Nu

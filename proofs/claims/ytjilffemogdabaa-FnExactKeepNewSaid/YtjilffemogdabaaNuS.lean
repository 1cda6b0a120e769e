/- Nu, part S: a region in the order of the text; code without draws. -/
import Derived.Test.YtjilffemogdabaaNuR
namespace Go.Nu
set_option linter.unusedSimpArgs false
set_option linter.unnecessarySimpa false
set_option linter.unusedVariables false
set_option linter.unusedSectionVars false

section
variable {n np : Nat} {S0 : Nat → Prop} {w0 : World} {ρ0 : Rho} {O0 F S : Nat → Prop} {w : World} {ρ : Rho} {σ : Store} {a : Act}
variable {P : Program} {Γ : Tys} (hΓ : Tys.ok P Γ) {Φ : Ctrs} (hΦ : ∀ f c, Φ f = some c → c.ok P f) (hn : n ≤ idBase)
include hΓ hΦ hn

omit hΦ hn hΓ in
theorem lenQ_val {av : AV} {k : Nat} {v : Value} (H : HRel S w ρ σ) (h : lenQ σ av = some k) (l : L2 S w ρ av v) : ∃ A m c, v = .slice A m c ∧ (k ≠ 0 → A ≠ none) := by
  cases av <;> first | (cases h; done) | skip
  case rsl d x =>
    simp only [lenQ, Option.some.injEq] at h
    subst h
    obtain ⟨A, c, e, h1, h2⟩ := l
    simp only [List.cons.injEq, and_true] at e
    subst e
    refine ⟨A, _, c, rfl, fun hne => ?_⟩
    rcases h2 with h2 | ⟨ad, h2, _⟩
    · exact absurd (by rw [h2]; rfl) hne
    · rw [h2]; simp
  case osl id =>
    simp only [lenQ] at h
    split at h
    case h_2 => cases h
    rename_i d x hg
    simp only [Option.some.injEq] at h
    subst h
    obtain ⟨o, h1, rfl⟩ := l
    have hb := H.blk id
    rw [hg] at hb
    rcases hb with ⟨b1, b2⟩ | ⟨g, cap, vs, t, b1, _⟩
    · rw [b1] at h1; cases h1
      exact ⟨none, 0, 0, rfl, fun hne => absurd (by rw [b2]; rfl) hne⟩
    · rw [b1] at h1; cases h1
      exact ⟨_, _, _, rfl, fun _ => by simp⟩
  case vsl id sz lo m =>
    simp only [lenQ, Option.some.injEq] at h
    subst h
    obtain ⟨o, h1, h2, h3⟩ := l
    cases o with
    | nil =>
      simp only [Loc.isSub] at h2
      simp only [Loc.len] at h3
      exact ⟨none, 0, 0, h2, fun hne => absurd (by omega) hne⟩
    | «at» g len cap =>
      obtain ⟨b, c, h4, _⟩ := h2
      exact ⟨_, _, _, h4, fun _ => by simp⟩
  case nils =>
    simp only [lenQ, Option.some.injEq] at h
    subst h
    exact ⟨none, 0, 0, l, fun hne => absurd rfl hne⟩

omit hΦ hn hΓ in
theorem run_equal_nil (w : World) {t : TypeId} {e : TypeId} (hu : P.underlying t = some (.slice e)) (A : Option Addr) (m c : Nat) : (Op.equal t (.slice A m c) (.slice none 0 0)).run P w = .ok A.isNone w := by
  show (Op.equalIn (9999 + 1) t (.slice A m c) (.slice none 0 0)).run P w = .ok A.isNone w
  rw [Op.equalIn]
  simp only [Sem.run_bind, run_underlying hu, Result.andThen_ok]
  cases A <;> rfl

omit hΦ hn hΓ in
theorem run_eqGuard_slice (w : World) (op : BinOp) (t : TypeId) (x y : Operand) (A : Option Addr) (m c : Nat) : (eqGuard op t x y (.slice A m c) (.slice none 0 0)).run P w = .ok () w := by
  unfold eqGuard
  split <;> simp

omit hΦ hn in
theorem nil_step {o : Oper} {q : Bool × Nat} (R0 : Rel n np S0 w0 ρ0 O0 F S w ρ σ a) (h : nilQ Γ σ o.op = some q) {next : Act → World → Prop} {Q : Exit → Act → World → Prop}
    (h1 : q.2 = 0 → next (a.put o.dst (.bool (!q.1))) w) (h2 : next (a.put o.dst (.bool q.1)) w) : o.wp P a w next Q := by
  obtain ⟨dst, op, type, pos, after, guard⟩ := o
  simp only at h
  unfold nilQ at h
  split at h
  · rename_i t x yt
    split at h
    case h_2 => cases h
    rename_i ht
    simp only [Option.map_eq_some_iff] at h ht
    obtain ⟨k, hk, rfl⟩ := h
    obtain ⟨i, hi, hs⟩ := ht
    obtain ⟨A, m, c, hv, hA⟩ := lenQ_val R0.h hk (evS_rel R0.tm x)
    have hu : ∃ e, P.underlying t = some (.slice e) := by
      have := (hΓ t i hi).und
      unfold isSlice at hs
      split at hs
      · rename_i e he; exact ⟨e, by rw [this, he]⟩
      · cases hs
    obtain ⟨e, hu⟩ := hu
    refine Go.Nu.wp_value (v := .bool A.isNone) (w' := w) ?_ ?_
    · show (do pure (Next.value (← (do eqGuard .eql t x (.const (.slice none 0 0)) (a.eval x) (.slice none 0 0); Go.binOp .eql t (a.eval x) (.slice none 0 0)))) : Sem Next).run P w = _
      refine run_v ?_
      rw [hv]
      simp only [Sem.run_bind, run_eqGuard_slice, Result.andThen_ok, Go.binOp, run_equal_nil w hu, Sem.run_pure]
    · cases A with
      | none =>
        have hk0 : k = 0 := by
          by_cases h0 : k = 0
          · exact h0
          · exact absurd rfl (hA h0)
        exact h1 hk0
      | some _ => exact h2
  · rename_i t x yt
    split at h
    case h_2 => cases h
    rename_i ht
    simp only [Option.map_eq_some_iff] at h ht
    obtain ⟨k, hk, rfl⟩ := h
    obtain ⟨i, hi, hs⟩ := ht
    obtain ⟨A, m, c, hv, hA⟩ := lenQ_val R0.h hk (evS_rel R0.tm x)
    have hu : ∃ e, P.underlying t = some (.slice e) := by
      have := (hΓ t i hi).und
      unfold isSlice at hs
      split at hs
      · rename_i e he; exact ⟨e, by rw [this, he]⟩
      · cases hs
    obtain ⟨e, hu⟩ := hu
    refine Go.Nu.wp_value (v := .bool (!A.isNone)) (w' := w) ?_ ?_
    · show (do pure (Next.value (← (do eqGuard .neq t x (.const (.slice none 0 0)) (a.eval x) (.slice none 0 0); Go.binOp .neq t (a.eval x) (.slice none 0 0)))) : Sem Next).run P w = _
      refine run_v ?_
      rw [hv]
      simp only [Sem.run_bind, run_eqGuard_slice, Result.andThen_ok, Go.binOp, run_equal_nil w hu, Sem.run_pure]
    · cases A with
      | none =>
        have hk0 : k = 0 := by
          by_cases h0 : k = 0
          · exact h0
          · exact absurd rfl (hA h0)
        exact h1 hk0
      | some _ => exact h2
  · cases h

theorem stepS_ok {ops : Array Oper} {i : Nat} {o : Oper} (ho : ops[i]? = some o) {t : Nat} {R : Type} {K : Store → Option R} {r : R} (R0 : Rel n np S0 w0 ρ0 O0 (fun id => t ≤ id) S w ρ σ a)
    (hr : stepS Γ Φ n ops.toList o σ t K = some r) {next : Act → World → Prop} {Q : Exit → Act → World → Prop}
    (hk : ∀ S' w' ρ' σ' a', Rel n np S0 w0 ρ0 O0 (fun id => t + 64 ≤ id) S' w' ρ' σ' a' → K σ' = some r → next a' w') : wpOp P ops Q i next a w := by
  unfold stepS at hr
  split at hr
  case h_2 => cases hr
  rename_i hd
  have run : ∀ {σ : Store}, Rel n np S0 w0 ρ0 O0 (fun id => t ≤ id) S w ρ σ a → (match nilQ Γ σ o.op with
      | some q => cond (Nat.beq q.2 0) (same (K (putS σ o.dst (.bool (!q.1)))) (K (putS σ o.dst (.bool q.1)))) (K (putS σ o.dst (.bool q.1)))
      | none => (opP Γ Φ o.op (evS σ) σ t).run fun r => match idsOk r.2 with
        | true => K (putS (r.2 ++ σ) o.dst r.1)
        | false => none) = some r → o.wp P a w next Q := by
    intro σ R1 h
    split at h
    · rename_i q hq
      have put : ∀ b, K (putS σ o.dst (.bool b)) = some r → next (a.put o.dst (.bool b)) w := fun b hK =>
        hk S w ρ _ _ ((R1.put hn hd (av := .bool b) (v := .bool b) rfl).fewer fun id h3 => by omega) hK
      cases hz : Nat.beq q.2 0 with
      | true =>
        rw [hz] at h
        obtain ⟨k1, k2⟩ := same_some h
        exact nil_step hΓ R1 hq (fun _ => put _ k1) (put _ k2)
      | false =>
        rw [hz] at h
        exact nil_step hΓ R1 hq (fun h0 => by rw [h0] at hz; cases hz) (put _ h)
    obtain ⟨r1, h1, h2⟩ := Tree.run_some h
    split at h2
    case h_2 => cases h2
    rename_i hi
    refine op_step hΓ hΦ hn R1 (fun _ => .inl rfl) h1 hi hd (fun id h3 _ => h3) fun S' w' ρ' a' R2 => hk S' w' ρ' _ a' (R2.fewer fun id h3 => ⟨by omega, by omega⟩) h2
  have skip : ∀ {σ : Store}, Rel n np S0 w0 ρ0 O0 (fun id => t ≤ id) S w ρ σ a → K (putS σ o.dst (.tup [])) = some r → next (a.put o.dst undef) w := by
    intro σ R1 h
    exact hk S w ρ _ _ ((R1.put hn hd (av := .tup []) (v := undef) ⟨#[], rfl, trivial⟩).fewer fun id h3 => by omega) h
  unfold stepW at hr
  unfold wpOp
  simp only [ho]
  split at hr
  · rename_i hg
    have hw : Region.wanted o (yielded ops a.tmps) = true := by unfold Region.wanted; rw [hg]
    rw [hw, if_pos rfl]
    exact .inl (run R0 hr)
  · rename_i j want hg
    split at hr
    case h_2 => cases hr
    rename_i tt htt
    split at hr
    · rename_i c hc
      have hw := wanted_told hΓ hΦ R0 hg htt hc
      cases c with
      | true =>
        rw [hw]
        exact .inl (run (R0.told hc) hr)
      | false =>
        rw [hw]
        exact skip (R0.told hc) hr
    · rename_i c hc
      have hw := wanted_told hΓ hΦ R0 hg htt hc
      cases c with
      | true =>
        rw [hw]
        exact skip (R0.told hc) hr
      | false =>
        rw [hw]
        exact .inl (run (R0.told hc) hr)
    · rename_i hc
      rw [wanted_skip hΓ hΦ R0 hg htt hc]
      exact skip R0 hr
    · cases hr

theorem regionS_ok {ops : Array Oper} {Q : Exit → Act → World → Prop} : ∀ (l pre : List Oper) {S : Nat → Prop} {w : World} {ρ : Rho} {σ : Store} {a : Act} {t : Nat} {R : Type} {K : Store → Nat → Option R} {r : R}, ops.toList = pre ++ l →
    Rel n np S0 w0 ρ0 O0 (fun id => t ≤ id) S w ρ σ a → regionS Γ Φ n ops.toList l σ t K = some r →
    (∀ S' w' ρ' σ' t' a', Rel n np S0 w0 ρ0 O0 (fun id => t' ≤ id) S' w' ρ' σ' a' → K σ' t' = some r → Q .normal a' w') → wpOps P ops Q (List.range' pre.length l.length) a w
  | [], pre, S, w, ρ, σ, a, t, R, K, r, _, R0, hr, hk => by
    simp only [regionS] at hr
    exact hk S w ρ σ t a R0 hr
  | o :: l, pre, S, w, ρ, σ, a, t, R, K, r, he, R0, hr, hk => by
    have ho : ops[pre.length]? = some o := by
      rw [← Array.getElem?_toList, he, List.getElem?_append_right (Nat.le_refl _)]
      simp
    simp only [regionS] at hr
    rw [List.length_cons, List.range'_succ, wpOps_cons]
    refine stepS_ok hΓ hΦ hn ho R0 hr fun S' w' ρ' σ' a' R1 h1 => ?_
    have := regionS_ok l (pre ++ [o]) (by simp [he]) R1 h1 hk
    simpa using this

/-- How a jump reads. -/
def outOf : AExit → Exit
  | .normal => .normal
  | .exit id => .exit id
  | .ret => .ret

end

/-! ### A loop's state told anew -/
section
variable {n np : Nat} {S0 : Nat → Prop} {w0 : World} {ρ0 : Rho} {O0 F S : Nat → Prop} {w : World} {ρ : Rho} {σ : Store} {a : Act}

theorem mem_dedup : ∀ (xs acc : List Nat) (x : Nat), x ∈ dedup xs acc ↔ x ∈ acc ∨ x ∈ xs
  | [], acc, x => by simp [dedup]
  | y :: ys, acc, x => by
    simp only [dedup]
    split
    · rename_i h
      rw [mem_dedup ys acc x]
      obtain ⟨z, hz, hb⟩ := List.any_eq_true.1 h
      have := Nat.eq_of_beq_eq_true hb
      subst this
      constructor
      · rintro (h1 | h1)
        · exact .inl h1
        · exact .inr (by simp [h1])
      · rintro (h1 | h1)
        · exact .inl h1
        · rcases List.mem_cons.1 h1 with rfl | h1
          · exact .inl hz
          · exact .inr h1
    · rw [mem_dedup ys _ x, List.mem_append, List.mem_cons, List.mem_cons]
      constructor
      · rintro ((h1 | h1 | h1) | h1)
        · exact .inl h1
        · exact .inr (.inl h1)
        · cases h1
        · exact .inr (.inr h1)
      · rintro (h1 | h1 | h1)
        · exact .inl (.inl h1)
        · exact .inl (.inr (.inl h1))
        · exact .inr h1

theorem dedup_prefix : ∀ (xs acc : List Nat), ∃ r, dedup xs acc = acc ++ r
  | [], acc => ⟨[], by simp [dedup]⟩
  | y :: ys, acc => by
    simp only [dedup]
    split
    · exact dedup_prefix ys acc
    · obtain ⟨r, hr⟩ := dedup_prefix ys (acc ++ [y])
      exact ⟨y :: r, by rw [hr]; simp⟩

theorem dedup_nodup : ∀ (xs acc : List Nat), acc.Nodup → (dedup xs acc).Nodup
  | [], acc, h => h
  | y :: ys, acc, h => by
    simp only [dedup]
    split
    · exact dedup_nodup ys acc h
    · rename_i hn
      refine dedup_nodup ys _ ?_
      rw [List.nodup_append]
      refine ⟨h, by simp, fun x hx z hz => ?_⟩
      simp only [List.mem_singleton] at hz
      rintro rfl
      subst hz
      have : acc.any (Nat.beq x) = true := List.any_eq_true.2 ⟨x, hx, Nat.beq_refl _⟩
      rw [this] at hn
      cases hn

theorem indexOf_spec : ∀ (ids : List Nat) (x i : Nat), x ∈ ids → ∃ j, indexOf x ids i = i + j ∧ ids[j]? = some x
  | [], _, _, h => by simp at h
  | y :: ys, x, i, h => by
    simp only [indexOf]
    split
    · rename_i hb
      have := Nat.eq_of_beq_eq_true hb
      subst this
      exact ⟨0, rfl, rfl⟩
    · rename_i hb
      have hx : x ∈ ys := by
        rcases List.mem_cons.1 h with rfl | h
        · rw [Nat.beq_refl] at hb; cases hb
        · exact h
      obtain ⟨j, h1, h2⟩ := indexOf_spec ys x (i + 1) hx
      exact ⟨j + 1, by rw [h1]; omega, by simpa using h2⟩

theorem renAV0_rel {ρ' : Rho} {f : Nat → Nat} {v : AV} {u : Value} (hf : ∀ id ∈ idsP v, ρ' (f id) = ρ id) (h : L0 S w ρ v u) : L0 S w ρ' (renAV0 f v) u := by
  cases v with
  | osl id => obtain ⟨o, h1, h2⟩ := h; exact ⟨o, (hf id (by simp [idsP])).trans h1, h2⟩
  | vsl id sz lo n => obtain ⟨o, h1, h2⟩ := h; exact ⟨o, (hf id (by simp [idsP])).trans h1, h2⟩
  | ptr id sz i c => obtain ⟨g, len, cap, h1, h2⟩ := h; exact ⟨g, len, cap, (hf id (by simp [idsP])).trans h1, h2⟩
  | _ => exact h

theorem renAV0s_rel {ρ' : Rho} {f : Nat → Nat} : ∀ {vs : List AV} {us : List Value}, (∀ v ∈ vs, ∀ id ∈ idsP v, ρ' (f id) = ρ id) → All2 (L0 S w ρ) vs us → All2 (L0 S w ρ') (vs.map (renAV0 f)) us
  | [], [], _, _ => trivial
  | v :: vs, u :: us, hf, h => ⟨renAV0_rel (hf v (by simp)) h.1, renAV0s_rel (fun v hv => hf v (by simp [hv])) h.2⟩
  | [], _ :: _, _, h => h.elim
  | _ :: _, [], _, h => h.elim

theorem idsP_agg {cs : List AV} {v : AV} (hv : v ∈ cs) {id : Nat} (hi : id ∈ idsP v) (h0 : ∃ u, L0 S w ρ v u) : id ∈ idsP (.agg cs) := by
  obtain ⟨u, h0⟩ := h0
  simp only [idsP]
  refine List.mem_flatMap.2 ⟨v, hv, ?_⟩
  cases v <;> first | exact hi | exact h0.elim | (simp [idsP] at hi)

theorem All2.left {α β : Type} {R : α → β → Prop} : ∀ {as : List α} {bs : List β}, All2 R as bs → ∀ a ∈ as, ∃ b, R a b
  | [], [], _, a, ha => by simp at ha
  | a :: as, b :: bs, h, x, hx => by
    rcases List.mem_cons.1 hx with rfl | hx
    · exact ⟨b, h.1⟩
    · exact All2.left h.2 x hx
  | [], _ :: _, h, _, _ => h.elim
  | _ :: _, [], h, _, _ => h.elim

theorem renAV_rel {ρ' : Rho} {f : Nat → Nat} {v : AV} {u : Value} (hf : ∀ id ∈ idsP v, ρ' (f id) = ρ id) (h : L2 S w ρ v u) : L2 S w ρ' (renAV f v) u := by
  cases v with
  | agg cs =>
    obtain ⟨vs, h1, h2⟩ := h
    exact ⟨vs, h1, renAV0s_rel (fun v hv id hi => hf id (idsP_agg hv hi (h2.left v hv))) h2⟩
  | clo g cs =>
    obtain ⟨vs, h1, h2⟩ := h
    exact ⟨vs, h1, renAV0s_rel (fun v hv id hi => hf id (idsP_agg hv hi (h2.left v hv))) h2⟩
  | tup vs => trivial
  | _ => exact L1.two (L0.one (renAV0_rel hf h))

theorem upFrom_get : ∀ (n b i : Nat), (upFrom b n)[i]? = if i < n then some (b + i) else none
  | 0, b, i => by simp [upFrom]
  | n + 1, b, 0 => by simp [upFrom]
  | n + 1, b, i + 1 => by
    simp only [upFrom, List.getElem?_cons_succ, upFrom_get n (b + 1) i, Nat.add_lt_add_iff_right]
    split
    · congr 1; omega
    · rfl
theorem upFrom_mem {n b x : Nat} (h : x ∈ upFrom b n) : b ≤ x ∧ x < b + n := by
  obtain ⟨i, hi⟩ := List.getElem?_of_mem h
  rw [upFrom_get] at hi
  split at hi
  · cases hi; omega
  · cases hi
theorem upFrom_length (n b : Nat) : (upFrom b n).length = n := by
  induction n generalizing b with
  | zero => rfl
  | succ n ih => simp [upFrom, ih]
theorem upFrom_nodup : ∀ (n b : Nat), (upFrom b n).Nodup
  | 0, _ => by simp [upFrom]
  | n + 1, b => by
    simp only [upFrom, List.nodup_cons]
    exact ⟨fun h => by have := upFrom_mem h; omega, upFrom_nodup n (b + 1)⟩

theorem get_mapped {f : Nat → Nat × Cell} : ∀ (xs : List Nat) (id : Nat), (∃ x ∈ xs, (f x).1 = id ∧ Store.get (xs.map f) id = (f x).2) ∨ ((∀ x ∈ xs, (f x).1 ≠ id) ∧ Store.get (xs.map f) id = .none)
  | [], id => .inr ⟨fun x hx => by simp at hx, rfl⟩
  | x :: xs, id => by
    by_cases hx : id = (f x).1
    · refine .inl ⟨x, by simp, hx.symm, ?_⟩
      subst hx
      exact get_cons_same (f x).1 (f x).2 (xs.map f)
    · have e : Store.get ((x :: xs).map f) id = Store.get (xs.map f) id := get_cons_ne (f x).2 (xs.map f) hx
      rcases get_mapped xs id with ⟨y, hy, h1, h2⟩ | ⟨h1, h2⟩
      · exact .inl ⟨y, by simp [hy], h1, e.trans h2⟩
      · refine .inr ⟨fun y hy => ?_, e.trans h2⟩
        rcases List.mem_cons.1 hy with rfl | hy
        · exact fun e => hx e.symm
        · exact h1 y hy

theorem norm_ok {keep : List Nat} {s : Store × Nat} (R : Rel n np S0 w0 ρ0 O0 F S w ρ σ a) (h : norm np keep σ = some s) : ∃ ρ', Rel n np S0 w0 ρ0 O0 (fun id => s.2 ≤ id) S w ρ' s.1 a := by
  unfold norm at h
  split at h
  case h_2 => cases h
  rename_i hcl
  cases h
  generalize hids : liveIds np keep σ = ids at hcl ⊢
  have hmem : ∀ x, x ∈ ids ↔ x ∈ upFrom idBase np ∨ x ∈ foot1 σ keep ++ foot2 σ (foot1 σ keep ++ upFrom idBase np) := by
    intro x; rw [← hids]; exact mem_dedup _ _ x
  obtain ⟨rest, hpre⟩ := dedup_prefix (foot1 σ keep ++ foot2 σ (foot1 σ keep ++ upFrom idBase np)) (upFrom idBase np)
  have hpre : ids = upFrom idBase np ++ rest := by rw [← hids]; exact hpre
  have hnd : ids.Nodup := by rw [← hids]; exact dedup_nodup _ _ (upFrom_nodup _ _)
  let ρ' : Rho := fun id => if idBase ≤ id then (ids[id - idBase]?).bind ρ else none
  have hren : ∀ x ∈ ids, ρ' (idBase + indexOf x ids 0) = ρ x := by
    intro x hx
    obtain ⟨j, h1, h2⟩ := indexOf_spec ids x 0 hx
    simp only [ρ', h1, Nat.zero_add]
    rw [if_pos (by omega), Nat.add_sub_cancel_left, h2]
    rfl
  have hinj : ∀ x ∈ ids, ∀ y ∈ ids, indexOf x ids 0 = indexOf y ids 0 → x = y := by
    intro x hx y hy e
    obtain ⟨j, h1, h2⟩ := indexOf_spec ids x 0 hx
    obtain ⟨k, h3, h4⟩ := indexOf_spec ids y 0 hy
    rw [h1, h3] at e
    have : j = k := by omega
    subst this
    rw [h2] at h4
    exact Option.some.inj h4
  have hbox : ∀ x ∈ ids, ∀ cs, σ.get x = .box cs → ∀ v ∈ cs, ∀ id ∈ idsP v, id ∈ ids := by
    intro x hx cs hc v hv id hi
    have := List.all_eq_true.1 hcl x hx
    rw [hc] at this
    have := List.all_eq_true.1 this id (List.mem_flatMap.2 ⟨v, hv, hi⟩)
    obtain ⟨y, hy, hb⟩ := List.any_eq_true.1 this
    rw [Nat.eq_of_beq_eq_true hb]
    exact hy
  have hkeep : ∀ t ∈ keep, ∀ id ∈ idsP (tmpAV σ t), id ∈ ids := by
    intro t ht id hi
    rw [hmem]
    exact .inr (List.mem_append_left _ (List.mem_flatMap.2 ⟨t, ht, hi⟩))
  generalize hσ' : (keep.map fun t => (t, Cell.av (renAV (fun id => idBase + indexOf id ids 0) (tmpAV σ t)))) ++ (ids.map fun id => (idBase + indexOf id ids 0, renCell (fun id => idBase + indexOf id ids 0) (σ.get id))) = σ'
  -- what stands at a key
  have hget : ∀ id, (∃ t ∈ keep, t = id ∧ Store.get σ' id = .av (renAV (fun id => idBase + indexOf id ids 0) (tmpAV σ t))) ∨
      (id ∉ keep ∧ ∃ x ∈ ids, id = idBase + indexOf x ids 0 ∧ Store.get σ' id = renCell (fun id => idBase + indexOf id ids 0) (σ.get x)) ∨ (id ∉ keep ∧ Store.get σ' id = .none) := by
    intro id
    rw [← hσ', get_append]
    rcases get_mapped (f := fun t => (t, Cell.av (renAV (fun id => idBase + indexOf id ids 0) (tmpAV σ t)))) keep id with ⟨t, ht, h1, h2⟩ | ⟨h1, h2⟩
    · left
      refine ⟨t, ht, h1, ?_⟩
      have : (keep.map fun t => (t, Cell.av (renAV (fun id => idBase + indexOf id ids 0) (tmpAV σ t)))).any (fun p => Nat.beq p.1 id) = true :=
        List.any_eq_true.2 ⟨_, List.mem_map.2 ⟨t, ht, rfl⟩, by simp only at h1; rw [h1]; exact Nat.beq_refl _⟩
      rw [this]
      exact h2
    · right
      have hno : id ∉ keep := fun hm => h1 id hm rfl
      have : (keep.map fun t => (t, Cell.av (renAV (fun id => idBase + indexOf id ids 0) (tmpAV σ t)))).any (fun p => Nat.beq p.1 id) = false := by
        rw [List.any_eq_false]
        intro p hp hb
        obtain ⟨t, ht, rfl⟩ := List.mem_map.1 hp
        exact h1 t ht (Nat.eq_of_beq_eq_true hb)
      rw [this]
      rcases get_mapped (f := fun id => (idBase + indexOf id ids 0, renCell (fun id => idBase + indexOf id ids 0) (σ.get id))) ids id with ⟨x, hx, h3, h4⟩ | ⟨h3, h4⟩
      · exact .inl ⟨hno, x, hx, h3.symm, h4⟩
      · exact .inr ⟨hno, h4⟩
  have hlive : ∀ id, (Store.get σ' id).live = true → ∃ x ∈ ids, id = idBase + indexOf x ids 0 ∧ (σ.get x).live = true ∧ ρ' id = ρ x := by
    intro id hl
    rcases hget id with ⟨t, ht, _, h2⟩ | ⟨_, x, hx, h1, h2⟩ | ⟨_, h2⟩
    · rw [h2] at hl; cases hl
    · refine ⟨x, hx, h1, ?_, by rw [h1]; exact hren x hx⟩
      rw [h2] at hl
      cases hc : σ.get x <;> rw [hc] at hl <;> first | rfl | cases hl
    · rw [h2] at hl; cases hl
  have hown : ∀ b, Own ρ' σ' b → Own ρ σ b := by
    rintro b ⟨id, l, c, hl, hr⟩
    obtain ⟨x, hx, h1, h2, h3⟩ := hlive id hl
    exact ⟨x, l, c, h2, by rw [← h3]; exact hr⟩
  refine ⟨ρ', ⟨⟨R.h.inS, fun id => ?_, fun b hb ho => R.h.sep b hb (hown b ho), fun i j g l c l' c' hi hj ri rj => ?_⟩, fun x => ?_, R.sz, R.df, fun id hf => ?_, fun id hf => ?_, ⟨R.frame.sub, R.frame.keep, R.frame.grow, R.frame.snew, fun b hb => R.frame.onew b (hown b hb), R.frame.os, R.frame.tape, R.frame.output⟩, fun id h1 h2 => ?_, fun d hd => ?_⟩⟩
  · rcases hget id with ⟨t, ht, _, h2⟩ | ⟨_, x, hx, h1, h2⟩ | ⟨_, h2⟩
    · rw [h2]; trivial
    · rw [h2]
      have hB := R.h.blk x
      have hrx := hren x hx
      rw [← h1] at hrx
      cases hc : σ.get x with
      | box cs =>
        rw [hc] at hB
        obtain ⟨g, len, cap, vs, ty, e1, e2, e3⟩ := hB
        exact ⟨g, len, cap, vs, ty, hrx.trans e1, e2, renAV0s_rel (fun v hv id hi => hren id (hbox x hx cs hc v hv id hi)) e3⟩
      | arr d l =>
        rw [hc] at hB
        rcases hB with ⟨e1, e2⟩ | ⟨g, cap, vs, ty, e1, e2, e3, e4, e5⟩
        · exact .inl ⟨hrx.trans e1, e2⟩
        · exact .inr ⟨g, cap, vs, ty, hrx.trans e1, e2, e3, e4, e5⟩
      | _ => trivial
    · rw [h2]; trivial
  · obtain ⟨x, hx, h1, h2, h3⟩ := hlive i hi
    obtain ⟨y, hy, h4, h5, h6⟩ := hlive j hj
    have := R.h.inj x y g l c l' c' h2 h5 (by rw [← h3]; exact ri) (by rw [← h6]; exact rj)
    subst this
    rw [h1, h4]
  · by_cases hx : x < idBase
    · rw [tmpAV_lt hx]
      rcases hget x with ⟨t, ht, h1, h2⟩ | ⟨_, y, hy, h1, h2⟩ | ⟨_, h2⟩
      · subst h1
        rw [h2]
        exact renAV_rel (fun id hi => hren id (hkeep t ht id hi)) (R.tm t)
      · omega
      · rw [h2]; trivial
    · rw [tmpAV_ge (by omega)]; trivial
  · simp only [ρ']
    split
    · rw [List.getElem?_eq_none (by simp only at hf; omega)]; rfl
    · rfl
  · have : np ≤ ids.length := by rw [hpre, List.length_append, upFrom_length]; omega
    simp only at hf
    omega
  · have h3 : ids[id - idBase]? = some id := by
      rw [hpre, List.getElem?_append_left (by rw [upFrom_length]; omega), upFrom_get, if_pos (by omega), show idBase + (id - idBase) = id from by omega]
    simp only [ρ', if_pos h1, h3]
    exact R.pin id h1 h2
  · rcases hget d with ⟨t, ht, h1, h2⟩ | ⟨_, y, hy, h1, h2⟩ | ⟨_, h2⟩
    · rw [h2]; rfl
    · omega
    · rw [h2]; rfl

end
end Go.Nu

/- Nu, part F: the operations' runs: literals of slices; loads, stores; addresses. -/
import Derived.Test.YtjilffemogdabaaNuE
namespace Go.Nu
set_option linter.unusedSimpArgs false
set_option linter.unnecessarySimpa false

theorem setR_eq : ∀ (us vs : List Value) (c : Nat), c + us.length ≤ vs.length → setR vs c us = vs.take c ++ us ++ vs.drop (c + us.length)
  | [], vs, c, _ => by simp [setR]
  | u :: us, vs, c, h => by
    simp only [List.length_cons] at h
    rw [setR, setR_eq us (vs.set c u) (c + 1) (by simp; omega)]
    have h1 : (vs.set c u).take (c + 1) = vs.take c ++ [u] := by
      rw [List.take_succ_eq_append_getElem (by simp; omega)]
      simp [List.take_set_of_le]
    have h2 : (vs.set c u).drop (c + 1 + us.length) = vs.drop (c + 1 + us.length) := by
      rw [List.drop_set_of_lt (by omega)]
    rw [h1, h2]
    simp [Nat.add_assoc, Nat.add_comm 1]

theorem fill_seq (sz : Nat) : ∀ (qs : List (Nat × Value)) (n : Nat) (vs : Array Value), (∀ q ∈ qs, q.2.cells.size = sz) → (∀ i q, qs[i]? = some q → q.1 = n + i) →
    (n + qs.length) * sz ≤ vs.size → ∃ vs', Instr.fill (fun i => some (i * sz, sz)) vs qs = some vs' ∧
      vs'.toList = vs.toList.take (n * sz) ++ qs.flatMap (fun q => q.2.cells.toList) ++ vs.toList.drop ((n + qs.length) * sz)
  | [], n, vs, _, _, _ => ⟨vs, rfl, by simp⟩
  | (j, u) :: qs, n, vs, h1, h2, h3 => by
    have hj : j = n := h2 0 (j, u) rfl
    subst hj
    have hu : u.cells.size = sz := h1 (j, u) (by simp)
    have hlen : (j + 1 + qs.length) * sz ≤ vs.size := by simpa [Nat.add_assoc, Nat.add_comm 1] using h3
    have hb : j * sz + sz ≤ vs.size := by
      have : (j + 1) * sz ≤ (j + 1 + qs.length) * sz := Nat.mul_le_mul_right _ (by omega)
      rw [Nat.add_mul, Nat.one_mul] at this
      omega
    obtain ⟨vs', h4, h5⟩ := fill_seq sz qs (j + 1) (u.cells.zipIdx.foldl (fun cs (x : Value × Nat) => cs.setIfInBounds (j * sz + x.2) x.1) vs) (fun q hq => h1 q (by simp [hq]))
      (fun i q hq => by have := h2 (i + 1) q (by simpa using hq); omega)
      (by
        have : (u.cells.zipIdx.foldl (fun cs (x : Value × Nat) => cs.setIfInBounds (j * sz + x.2) x.1) vs).size = vs.size := by
          rw [← Array.length_toList, fill_step, setR_length, Array.length_toList]
        omega)
    refine ⟨vs', ?_, ?_⟩
    · simp only [Instr.fill]
      rw [if_neg (by simp [hu]; omega)]
      exact h4
    · rw [h5, fill_step, setR_eq _ _ _ (by rw [Array.length_toList, Array.length_toList, hu]; exact hb)]
      have e1 : (j + 1) * sz = j * sz + sz := by rw [Nat.add_mul, Nat.one_mul]
      have e2 : (j + 1 + qs.length) * sz = j * sz + sz + qs.length * sz := by rw [Nat.add_mul, e1]
      have e3 : u.cells.toList.length = sz := by rw [Array.length_toList, hu]
      have e4 : (vs.toList.take (j * sz)).length = j * sz := by rw [List.length_take, Array.length_toList]; omega
      simp only [List.length_cons, List.flatMap_cons, e1, e2, e3]
      have e5 : (j + (qs.length + 1)) * sz = j * sz + sz + qs.length * sz := by rw [← e2]; congr 1; omega
      rw [e5]
      rw [List.take_append_of_le_length (by simp [e4, e3]), List.take_of_length_le (by simp [e4, e3])]
      rw [List.drop_append, List.drop_of_length_le (by simp [e4, e3])]
      simp only [List.length_append, e4, e3, List.nil_append, List.drop_drop, List.append_assoc]
      have e6 : j * sz + sz + (j * sz + sz + qs.length * sz - (j * sz + sz)) = (j + ((j, u) :: qs).length) * sz := by
        simp only [List.length_cons]; rw [e5]; omega
      have e7 : (j + ((j, u) :: qs).length) * sz = j * sz + sz + qs.length * sz := by simp only [List.length_cons]; exact e5
      rw [e6, e7]

theorem elems_rep {S : Nat → Prop} {w : World} {ρ : Rho} {h : Store} (H : HRel S w ρ h) {d : Kd} : ∀ {ps : List (Nat × AV)} {qs : List (Nat × Value)} {n : Nat} {l : List d.T},
    elems h d n ps = some l → All2 (fun p q => p.1 = q.1 ∧ p.2 ≠ .undef ∧ L1 S w ρ p.2 q.2) ps qs →
    All2 (fun x (q : Nat × Value) => Rep (fun b => S b ∨ Blks ρ h (ps.flatMap fun p => ids1 p.2) b) w d x q.2.cells.toList) l qs ∧ ∀ i q, qs[i]? = some q → q.1 = n + i
  | [], [], n, l, hl, _ => by simp only [elems, Option.some.injEq] at hl; subst hl; exact ⟨trivial, fun i q h => by simp at h⟩
  | [], _ :: _, _, _, _, k => k.elim
  | _ :: _, [], _, _, _, k => k.elim
  | (j, v) :: ps, (j', u) :: qs, n, l, hl, k => by
    obtain ⟨⟨k1, k2, k3⟩, k4⟩ := k
    simp only at k1 k2 k3
    subst k1
    simp only [elems] at hl
    split at hl
    · rename_i hj
      simp only [Bool.and_eq_true] at hj
      have hj := Nat.eq_of_beq_eq_true hj.1
      subst hj
      simp only [Option.bind_eq_some_iff] at hl
      obtain ⟨x, hx, xs, hxs, e⟩ := hl
      cases e
      obtain ⟨r1, r2⟩ := elems_rep H hxs k4
      have hx := ofLv_rep H hx (k3.leaves k2)
      have w1 : ∀ b, (S b ∨ Blks ρ h ((leavesOf v).flatMap ids0) b) → (S b ∨ Blks ρ h (((j, v) :: ps).flatMap fun p => ids1 p.2) b) := by
        intro b hb
        refine hb.imp (fun x => x) ?_
        rintro ⟨id, hi, hk⟩
        refine ⟨id, ?_, hk⟩
        refine List.mem_flatMap.2 ⟨(j, v), by simp, ?_⟩
        cases v <;> simp only [leavesOf, ids1] at hi ⊢ <;> first | exact hi | simpa [ids0] using hi
      have w2 : ∀ b, (S b ∨ Blks ρ h (ps.flatMap fun p => ids1 p.2) b) → (S b ∨ Blks ρ h (((j, v) :: ps).flatMap fun p => ids1 p.2) b) := by
        intro b hb
        refine hb.imp (fun x => x) ?_
        rintro ⟨id, hi, hk⟩
        exact ⟨id, by simp [hi], hk⟩
      refine ⟨⟨hx.wider w1, r1.imp fun _ _ h => h.wider w2⟩, ?_⟩
      intro i q hq
      cases i with
      | zero => simp at hq; rw [← hq]; rfl
      | succ i => have := r2 i q (by simpa using hq); omega
    · cases hl

theorem freeze_ids {S : Nat → Prop} {w : World} {ρ : Rho} : ∀ (ids : List Nat) {h : Store}, HRel S w ρ h →
    ∃ S2, (∀ b, S b → S2 b) ∧ (∀ b, Blks ρ h ids b → S2 b) ∧ Ext S w ρ h S2 w ρ ((ids.map fun id => (id, Cell.dead)) ++ h) ∧ HRel S2 w ρ ((ids.map fun id => (id, Cell.dead)) ++ h)
  | [], h, H => ⟨S, fun _ h => h, fun b ⟨_, h, _⟩ => by simp at h, Ext.refl _ _ _ _, H⟩
  | id :: ids, h, H => by
    obtain ⟨S1, a1, a2, a3, a4⟩ := freeze_ids ids H
    obtain ⟨b1, b2⟩ := freeze_blk a4 id
    refine ⟨_, fun b hb => .inl (a1 b hb), ?_, a3.trans b1, b2⟩
    rintro b ⟨id', hi, hk⟩
    rcases List.mem_cons.1 hi with rfl | hi
    · by_cases hm : id' ∈ ids
      · exact .inl (a2 b ⟨id', hm, hk⟩)
      · right
        refine ⟨?_, hk.2⟩
        have : ∀ (ids : List Nat), id' ∉ ids → Store.get ((ids.map fun id => (id, Cell.dead)) ++ h) id' = h.get id' := by
          intro ids
          induction ids with
          | nil => intro _; rfl
          | cons x xs ih =>
            intro hx
            rw [List.map_cons, List.cons_append, get_cons_ne _ _ (fun e => hx (by simp [e]))]
            exact ih (fun e => hx (by simp [e]))
        rw [this ids hm]
        exact hk.1
    · exact .inl (a2 b ⟨id', hi, hk⟩)

theorem part_flatMap {α : Type} {f : α → List Value} {sz : Nat} (r : List Value) : ∀ (qs : List α) (i : Nat) (q : α), (∀ q ∈ qs, (f q).length = sz) → qs[i]? = some q → part (qs.flatMap f ++ r) (i * sz) sz = f q
  | q0 :: qs, 0, q, h, e => by
    simp at e
    subst e
    have := h q0 (by simp)
    simp [part, ← this]
  | q0 :: qs, i + 1, q, h, e => by
    have h0 := h q0 (by simp)
    have := part_flatMap r qs i q (fun q hq => h q (by simp [hq])) (by simpa using e)
    rw [← this]
    simp only [part, List.flatMap_cons, List.append_assoc]
    rw [show (i + 1) * sz = (f q0).length + i * sz by rw [h0, Nat.add_mul]; omega, List.drop_length_add_append]
  | [], _, _, _, e => by simp at e

theorem flatMap_size {sz : Nat} : ∀ (qs : List (Nat × Value)), (∀ q ∈ qs, q.2.cells.size = sz) → (qs.flatMap fun q => q.2.cells.toList).length = qs.length * sz
  | [], _ => by simp
  | q :: qs, h => by
    simp only [List.flatMap_cons, List.length_append, List.length_cons, Array.length_toList]
    rw [flatMap_size qs (fun q hq => h q (by simp [hq])), h q (by simp), Nat.add_mul]
    omega

/-! ### A literal of a slice -/
theorem buildSlice_ok {P : Program} {Γ : Tys} (hΓ : Tys.ok P Γ) {t e : TypeId} {j i : TI} {d : Kd} (ht : Γ.get t = some j) (hj : j.desc = .slice e) (he : Γ.get e = some i) (hd : i.kd = some d)
    {S : Nat → Prop} {w : World} {ρ : Rho} {h : Store} {b len : Nat} (H : HRel S w ρ h) (hb : ρ b = none) {ps : List (Nat × AV)} {qs : List (Nat × Value)} {l : List d.T}
    (hlen : ps.length = len) (h24 : len * i.size ≤ 16777216) (hl : elems h d 0 ps = some l) (hp : All2 (fun p q => p.1 = q.1 ∧ p.2 ≠ .undef ∧ L1 S w ρ p.2 q.2) ps qs) :
    ∃ v w', (Instr.buildSlice t len qs.toArray).run P w = .ok v w' ∧ Post S w ρ h b (.osl b, (b, .arr d l) :: kills d (ps.map fun p => p.2)) v w' := by
  obtain ⟨hsz, hzc⟩ := (hΓ e i he).kd d hd
  obtain ⟨r1, r2⟩ := elems_rep H hl hp
  have hql : qs.length = len := by rw [← hp.length, hlen]
  have hcell : ∀ q ∈ qs, q.2.cells.size = i.size := by
    intro q hq
    obtain ⟨k, hk⟩ := List.getElem?_of_mem hq
    have hkl : k < l.length := by
      rw [r1.length]
      exact (List.getElem?_eq_some_iff.1 hk).1
    obtain ⟨q', hq', hr⟩ := r1.get (List.getElem?_eq_getElem hkl)
    rw [hk] at hq'
    cases hq'
    have := hr.length
    rw [Array.length_toList] at this
    rw [this, hsz]
  let zs : Array Value := (Array.range (len * i.size)).map ((if len * i.size = 0 then #[] else i.zero.cells)[· % (if len * i.size = 0 then #[] else i.zero.cells).size]!)
  have hzs : zs.size = len * i.size := by simp [zs]
  obtain ⟨vs, hf, hvs⟩ := fill_seq i.size qs 0 zs hcell r2 (by rw [hql, hzs]; simp)
  simp only [Nat.zero_mul, List.take_zero, List.nil_append, Nat.zero_add] at hvs
  rw [List.drop_of_length_le (by rw [Array.length_toList, hzs, hql]; exact Nat.le_refl _), List.append_nil] at hvs
  have hvsz : vs.size = len * i.size := by rw [← Array.length_toList, hvs, flatMap_size qs hcell, hql]
  have hrun : (Instr.buildSlice t len qs.toArray).run P w = .ok (.slice (some ⟨w.heap.size, 0, none⟩) len len) (w.alloc (.cells vs e (0, 0))) := by
    have h24' : ¬ (len * i.size > 2 ^ 24) := by omega
    have hf' : Instr.fill (fun k => some (k * i.size, i.size)) zs qs.toArray.toList = some vs := by simpa using hf
    by_cases h0 : len * i.size = 0
    · have hz : zs = (Array.range (len * i.size)).map ((#[] : Array Value)[· % (#[] : Array Value).size]!) := by simp only [zs, h0, if_true]
      rw [hz] at hf'
      simp only [Instr.buildSlice, Sem.run_bind, run_und hΓ ht, run_sz hΓ he, Result.andThen_ok, hj, h24', if_false, h0, if_true, Sem.run_pure, Sem.run_ite]
      rw [h0] at hf'
      rw [hf']
      rfl
    · have hz : zs = (Array.range (len * i.size)).map (i.zero.cells[· % i.zero.cells.size]!) := by simp only [zs, h0, if_false]
      rw [hz] at hf'
      simp only [Instr.buildSlice, Sem.run_bind, run_und hΓ ht, run_sz hΓ he, Result.andThen_ok, hj, h24', if_false, h0, Sem.run_pure, Sem.run_ite, run_zv hΓ he]
      rw [hf']
      rfl
  refine ⟨_, _, hrun, ?_⟩
  have hpart : ∀ k (hk : k < l.length), ∃ q, qs[k]? = some q ∧ Rep (fun b => S b ∨ Blks ρ h (ps.flatMap fun p => ids1 p.2) b) w d l[k] q.2.cells.toList ∧ part vs.toList (k * i.size) i.size = q.2.cells.toList := by
    intro k hk
    obtain ⟨q, hq, hr⟩ := r1.get (List.getElem?_eq_getElem hk)
    refine ⟨q, hq, hr, ?_⟩
    rw [hvs]
    have := part_flatMap (f := fun q : Nat × Value => q.2.cells.toList) (sz := i.size) [] qs k q (fun q hq => by rw [Array.length_toList]; exact hcell q hq) hq
    simpa using this
  have hll : l.length = len := by rw [r1.length, hql]
  obtain ⟨S2, s1, s2, E, K⟩ : ∃ S2, (∀ b, S b → S2 b) ∧ (d.flat = true ∨ ∀ b, Blks ρ h (ps.flatMap fun p => ids1 p.2) b → S2 b) ∧
      Ext S w ρ h S2 w ρ (kills d (ps.map fun p => p.2) ++ h) ∧ HRel S2 w ρ (kills d (ps.map fun p => p.2) ++ h) := by
    unfold kills
    cases hfl : d.flat with
    | true => exact ⟨S, fun _ h => h, .inl rfl, Ext.refl _ _ _ _, H⟩
    | false =>
      obtain ⟨S2, a1, a2, a3, a4⟩ := freeze_ids (ps.flatMap fun p => ids1 p.2) H
      refine ⟨S2, a1, .inr a2, ?_, ?_⟩ <;> simpa [List.flatMap_map] using by assumption
  have hbr : BRel S2 (w.alloc (.cells vs e (0, 0))) (ρ.put b (.at w.heap.size len len)) b (.arr d l) := by
    refine .inr ⟨w.heap.size, len, vs, e, by rw [hll]; exact Rho.put_same _ _ _, alloc_get _ _, by omega, by rw [hvsz, hsz], fun k hk => ?_⟩
    obtain ⟨q, hq, hr, hpt⟩ := hpart k hk
    rw [hsz]
    show Rep _ _ d l[k] (part vs.toList (k * i.size) i.size)
    rw [hpt]
    rcases s2 with hfl | s2
    · exact hr.of_flat hfl
    · refine Rep.mono (fun b hb => hb) (fun b hb => ?_) (hr.wider fun b hb => hb.elim (s1 b) (s2 b))
      have := K.inS b hb
      show (w.heap.push _)[b]? = _
      rw [Array.getElem?_push, if_neg (by omega)]
  obtain ⟨E2, K2⟩ := new_blk K hb hbr
  refine ⟨S2, ρ.put b (.at w.heap.size len len), E.trans E2, K2, ?_, ?_⟩
  · exact ⟨_, Rho.put_same _ _ _, rfl⟩
  · intro id hne
    by_cases hid : id = b
    · subst hid; omega
    · rw [Rho.put_ne _ _ hid] at hne; exact absurd rfl hne

end Go.Nu

/- Nu, part G: loads, stores, addresses. -/
import Derived.Test.YtjilffemogdabaaNuF
namespace Go.Nu
set_option linter.unusedSimpArgs false
set_option linter.unnecessarySimpa false

theorem All2.part {α β : Type} {R : α → β → Prop} {as : List α} {bs : List β} (h : All2 R as bs) (o n : Nat) : All2 R (part as o n) (Nu.part bs o n) := (h.drop o).take n

theorem part_length {α : Type} (l : List α) (o n : Nat) (h : o + n ≤ l.length) : (part l o n).length = n := by simp [part]; omega

theorem rd_get {d : Kd} {l : List d.T} {n : Nat} (h : n < l.length) : rd d l n = l[n] := by simp [rd, h]

theorem shut_ret {agg : Bool} {cs : List AV} {r : Res} (h : ((shut agg cs).bind fun v => .ret (v, [])).run some = some r) : ∃ v, (shut agg cs).run some = some v ∧ r = (v, []) := by
  obtain ⟨v, h1, h2⟩ := Tree.bind_some h
  simp only [Tree.run, Option.some.injEq] at h2
  exact ⟨v, h1, h2.symm⟩

theorem load_ok' {P : Program} {Γ : Tys} (hΓ : Tys.ok P Γ) {t : TypeId} {i : TI} (ht : Γ.get t = some i) {S : Nat → Prop} {w : World} {ρ : Rho} {h : Store} {a : AV} {p : Value} {r : Res}
    (H : HRel S w ρ h) (ha : L1 S w ρ a p) (hr : (loadA i h a).run some = some r) : ∃ v, (Instr.loadAt t p).run P w = .ok v w ∧ L2 S w ρ r.1 v ∧ r.2 = [] := by
  have key : ∀ (ad : Addr) (cs : List Value) (as : List AV), p = .pointer (some ad) → ad.spot = none → cellsAt w ad cs → cs.length = i.size → All2 (L0 S w ρ) as cs →
      (((shut i.isAgg as).bind fun v => .ret (v, [])).run some = some r) → ∃ v, (Instr.loadAt t p).run P w = .ok v w ∧ L2 S w ρ r.1 v ∧ r.2 = [] := by
    intro ad cs as hp hs hc hl hv hr
    obtain ⟨v, h1, rfl⟩ := shut_ret hr
    obtain ⟨u, h2, h3⟩ := run_loadVar hΓ ht hs hc hl hv h1
    refine ⟨u, ?_, h3, rfl⟩
    subst hp
    simp only [Instr.loadAt, Instr.sureAddr, Sem.run_bind, Sem.run_pure, Result.andThen_ok, h2]
  cases a with
  | ptr id sz n c =>
    simp only [L1, L0] at ha
    obtain ⟨g, len, cap, h1, h2, h3⟩ := ha
    simp only [loadA] at hr
    split at hr
    · rename_i cs hg
      split at hr
      · rename_i hsz hle
        have hsz := Nat.eq_of_beq_eq_true hsz
        have hle := Nat.le_of_ble_eq_true hle
        have hb := H.blk id
        rw [hg] at hb
        obtain ⟨g', len', cap', vs, ty, e1, e2, e3⟩ := hb
        rw [h1] at e1
        cases e1
        refine key ⟨g, c, none⟩ (part vs.toList c i.size) _ (by rw [h2, hsz]; simp) rfl (cells_blk e2 c i.size) (part_length _ _ _ ?_) (e3.part c i.size) hr
        rw [← e3.length]
        exact hle
      · simp [Tree.run] at hr
    · rename_i d l hg
      split at hr
      · rename_i hsz hle
        have hsz := Nat.eq_of_beq_eq_true hsz
        have hle := Nat.le_of_ble_eq_true hle
        rcases arr_at H hg with ⟨e1, _⟩ | ⟨g', cap', vs, ty, e1, e2, e3, e4, e5, _⟩
        · rw [h1] at e1; cases e1
        · rw [h1] at e1
          cases e1
          have hpos := d.sz_pos
          have hn : n < l.length := by rcases h3 with h3 | h3 <;> omega
          have hrep := e5 n hn
          rw [rd_get hn] at hr
          have hlv := lv_rep (ρ := ρ) hrep
          have hpp : part (part vs.toList (n * d.sz) d.sz) c i.size = part vs.toList (n * d.sz + c) i.size := part_part _ _ _ _ _ hle
          refine key ⟨g, n * sz + c, none⟩ (part (part vs.toList (n * d.sz) d.sz) c i.size) _ h2 rfl ?_ ?_ (hlv.part c i.size) hr
          · rw [hpp, hsz]; exact cells_blk e2 _ _
          · exact part_length _ _ _ (by rw [hrep.length]; exact hle)
      · simp [Tree.run] at hr
    · simp [Tree.run] at hr
  | rptr d x c =>
    simp only [L1, L0] at ha
    obtain ⟨ad, cs, h1, h2, h3, h4, h5⟩ := ha
    simp only [loadA] at hr
    split at hr
    · rename_i hle
      have hle := Nat.le_of_ble_eq_true hle
      refine key (plus ad c) (part cs c i.size) _ h1 rfl ?_ (part_length _ _ _ (by rw [h5.length]; exact hle)) ((lv_rep (ρ := ρ) h5).part c i.size) hr
      intro j hj
      rw [plus_plus]
      simp only [part, List.length_take, List.length_drop] at hj
      rw [h4 (c + j) (by omega)]
      simp only [part]
      rw [List.getElem?_take_of_lt (by omega), List.getElem?_drop]
    · simp [Tree.run] at hr
  | _ => simp [loadA, Tree.run] at hr

theorem load_ok {P : Program} {Γ : Tys} (hΓ : Tys.ok P Γ) {t : TypeId} {i : TI} (ht : Γ.get t = some i) {S : Nat → Prop} {w : World} {ρ : Rho} {h : Store} {b : Nat} {a : AV} {p : Value} {r : Res}
    (H : HRel S w ρ h) (ha : L1 S w ρ a p) (hr : (loadA i h a).run some = some r) : ∃ v, (Instr.loadAt t p).run P w = .ok v w ∧ Post S w ρ h b r v w := by
  obtain ⟨v, h1, h2, h3⟩ := load_ok' hΓ ht H ha hr
  obtain ⟨r1, r2⟩ := r
  simp only at h3
  subst h3
  exact ⟨v, h1, Post.same H h2⟩

/-! ### Stores -/
theorem run_storeCells {P : Program} {g : Nat} {t : TypeId} : ∀ (us : List Value) (w : World) (vs : Array Value) (o k : Nat), w.heap[g]? = some (.cells vs t (0, 0)) → (∀ u ∈ us, u.oneCell' = true) →
    o + k + us.length ≤ vs.size → ∃ w', (storeCells ⟨g, o, none⟩ us k).run P w = .ok () w' ∧ w'.heap[g]? = some (.cells (setR vs.toList (o + k) us).toArray t (0, 0)) ∧
      (∀ b, b ≠ g → w'.heap[b]? = w.heap[b]?) ∧ w'.heap.size = w.heap.size ∧ w'.os = w.os ∧ w'.tape = w.tape ∧ w'.output = w.output
  | [], w, vs, o, k, hg, _, _ => ⟨w, rfl, by simpa [setR] using hg, fun _ _ => rfl, rfl, rfl, rfl, rfl⟩
  | u :: us, w, vs, o, k, hg, hu, hl => by
    simp only [List.length_cons] at hl
    have hc : w.cell? ⟨g, o + k, none⟩ = some (vs[o + k]'(by omega)) := by
      simp only [World.cell?, hg]
      simp
    have hz : w.frozen? ⟨g, o + k, none⟩ = false := by simp [World.frozen?, hg]
    have hadd : (⟨g, o, none⟩ : Addr).add k = ⟨g, o + k, none⟩ := add_plus _ rfl k
    have hset : (w.setCell ⟨g, o + k, none⟩ u).heap[g]? = some (.cells (vs.setIfInBounds (o + k) u) t (0, 0)) := by
      simp [World.setCell, Array.getElem?_modify, hg]
    obtain ⟨w', h1, h2, h3, h4, h5, h6, h7⟩ := run_storeCells (P := P) us (w.setCell ⟨g, o + k, none⟩ u) (vs.setIfInBounds (o + k) u) o (k + 1) hset (fun u hu' => hu u (by simp [hu'])) (by simp; omega)
    refine ⟨w', ?_, ?_, ?_, ?_, h5, h6, h7⟩
    · simp only [storeCells, hadd, Sem.run_bind, run_store P w _ u _ (hu u (by simp)), hc, hz, Bool.false_eq_true, if_false, Result.andThen_ok, h1]
    · rw [h2]
      simp [setR, Nat.add_assoc]
    · intro b hb
      rw [h3 b hb]
      simp [World.setCell, Array.getElem?_modify, hb.symm]
    · rw [h4]; simp [World.setCell]

theorem run_storeVar {P : Program} {Γ : Tys} (hΓ : Tys.ok P Γ) {t : TypeId} {i : TI} (ht : Γ.get t = some i) {w : World} {g o : Nat} {ty : TypeId} {vs : Array Value} {u : Value}
    (hg : w.heap[g]? = some (.cells vs ty (0, 0))) (hu : ∀ x ∈ u.cells.toList, x.oneCell' = true) (hl : u.cells.size = i.size) (ho : o + i.size ≤ vs.size) :
    ∃ w', (storeVar t ⟨g, o, none⟩ u).run P w = .ok () w' ∧ w'.heap[g]? = some (.cells (setR vs.toList o u.cells.toList).toArray ty (0, 0)) ∧
      (∀ b, b ≠ g → w'.heap[b]? = w.heap[b]?) ∧ w'.heap.size = w.heap.size ∧ w'.os = w.os ∧ w'.tape = w.tape ∧ w'.output = w.output := by
  obtain ⟨w', h1, h2⟩ := run_storeCells (P := P) u.cells.toList w vs o 0 hg hu (by rw [Array.length_toList, hl]; exact ho)
  refine ⟨w', ?_, by simpa using h2⟩
  simp only [storeVar, Sem.run_bind, run_sz hΓ ht, Result.andThen_ok, hl, ne_eq, not_true_eq_false, if_false, Sem.run_pure]
  exact h1

theorem leaves_one {S : Nat → Prop} {w : World} {ρ : Rho} : ∀ {as : List AV} {us : List Value}, All2 (L0 S w ρ) as us → as.all AV.isDef = true → ∀ u ∈ us, u.oneCell' = true
  | [], [], _, _, u, hu => by simp at hu
  | a :: as, u0 :: us, h, hd, u, hu => by
    simp only [List.all_cons, Bool.and_eq_true] at hd
    rcases List.mem_cons.1 hu with rfl | hu
    · exact oneCell_of_L0 h.1 (by rintro rfl; cases hd.1)
    · exact leaves_one h.2 hd.2 u hu
  | [], _ :: _, h, _, _, _ => h.elim
  | _ :: _, [], h, _, _, _ => h.elim

theorem upd1_rep {S : Nat → Prop} {w : World} {ρ : Rho} {h : Store} : ∀ {d : Kd} {x y : d.T} {c : Nat} {a : AV} {u : Value} {cs : List Value},
    upd1 h d x c a = some y → Rep S w d x cs → L0 S w ρ a u → Rep S w d y (cs.set c u) := by
  intro d
  induction d with
  | int k =>
    intro x y c a u cs hy hx ha
    match c, a, hy with
    | 0, .int k' n, hy =>
      obtain ⟨rfl, rfl⟩ := castI_some hy
      simp only [Rep] at hx; simp only [L0] at ha
      subst hx; subst ha; rfl
  | bool =>
    intro x y c a u cs hy hx ha
    match c, a, hy with
    | 0, .bool b, hy =>
      simp only [upd1, Option.some.injEq] at hy
      simp only [Rep] at hx; simp only [L0] at ha
      subst hx; subst ha; subst hy; rfl
  | str =>
    intro x y c a u cs hy hx ha
    match c, a, hy with
    | 0, .str b, hy =>
      simp only [upd1, Option.some.injEq] at hy
      simp only [Rep] at hx; simp only [L0] at ha
      subst hx; subst ha; subst hy; rfl
  | sl d _ =>
    intro x y c a u cs hy hx ha
    obtain ⟨A, cp, rfl, _⟩ := hx
    match c, a, hy with
    | 0, .rsl d' l, hy =>
      obtain ⟨rfl, rfl⟩ := cast_some hy
      exact ha
    | 0, .nils, hy =>
      simp only [upd1, Option.some.injEq] at hy
      subst hy
      simp only [L0] at ha
      subst ha
      exact ⟨none, 0, rfl, Nat.le_refl _, .inl rfl⟩
  | pr p q ihp ihq =>
    intro x y c a u cs hy hx ha
    obtain ⟨c1, c2, rfl, h1, h2⟩ := hx
    have hl := h1.length
    simp only [upd1] at hy
    split at hy
    · rename_i hb
      have hlt : ¬ p.sz ≤ c := fun hle => by rw [Nat.ble_eq_true_of_le hle] at hb; cases hb
      rw [Option.map_eq_some_iff] at hy
      obtain ⟨z, hz, rfl⟩ := hy
      rw [List.set_append_left _ _ (by omega)]
      exact ⟨c1.set c u, c2, rfl, ihp hz h1 ha, h2⟩
    · rename_i hb
      have hle := Nat.le_of_ble_eq_true hb
      rw [Option.map_eq_some_iff] at hy
      obtain ⟨z, hz, rfl⟩ := hy
      rw [List.set_append_right _ _ (by omega), hl]
      exact ⟨c1, c2.set (c - p.sz) u, rfl, h1, ihq hz h2 ha⟩

theorem updL_rep {S : Nat → Prop} {w : World} {ρ : Rho} {h : Store} {d : Kd} : ∀ {as : List AV} {us : List Value} {x y : d.T} {c : Nat} {cs : List Value},
    updL h d x c as = some y → Rep S w d x cs → All2 (L0 S w ρ) as us → Rep S w d y (setR cs c us)
  | [], [], x, y, c, cs, hy, hx, _ => by simp only [updL, Option.some.injEq] at hy; subst hy; exact hx
  | a :: as, u :: us, x, y, c, cs, hy, hx, ha => by
    simp only [updL, Option.bind_eq_some_iff] at hy
    obtain ⟨z, hz, hy⟩ := hy
    show Rep S w d y (setR (cs.set c u) (c + 1) us)
    exact updL_rep hy (upd1_rep hz hx ha.1) ha.2
  | [], _ :: _, _, _, _, _, _, _, h => h.elim
  | _ :: _, [], _, _, _, _, _, _, h => h.elim

theorem setR_get : ∀ (us vs : List Value) (o j : Nat), o + us.length ≤ vs.length → (setR vs o us)[j]? = if o ≤ j ∧ j < o + us.length then us[j - o]? else vs[j]?
  | [], vs, o, j, _ => by simp [setR]; omega
  | u :: us, vs, o, j, h => by
    simp only [List.length_cons] at h
    rw [setR, setR_get us (vs.set o u) (o + 1) j (by simp; omega)]
    by_cases h1 : j = o
    · subst h1
      rw [if_neg (by omega), if_pos (by simp)]
      simp [List.getElem?_set]
      omega
    · by_cases h2 : o + 1 ≤ j ∧ j < o + 1 + us.length
      · rw [if_pos h2, if_pos (by simp; omega)]
        rw [show j - o = (j - (o + 1)) + 1 by omega, List.getElem?_cons_succ]
      · rw [if_neg h2, if_neg (by simp; omega), List.getElem?_set_ne (by omega)]

theorem part_setR_other {vs us : List Value} {o a n : Nat} (h : o + us.length ≤ vs.length) (hd : a + n ≤ o ∨ o + us.length ≤ a) : part (setR vs o us) a n = part vs a n := by
  apply List.ext_getElem?
  intro j
  simp only [part, List.getElem?_take, List.getElem?_drop]
  split
  · rw [setR_get us vs o _ h, if_neg (by omega)]
  · rfl

theorem part_setR_same {vs us : List Value} {a c n : Nat} (h : a + n ≤ vs.length) (hc : c + us.length ≤ n) : part (setR vs (a + c) us) a n = setR (part vs a n) c us := by
  apply List.ext_getElem?
  intro j
  have hp : (part vs a n).length = n := part_length _ _ _ h
  rw [setR_get us (part vs a n) c j (by omega)]
  simp only [part, List.getElem?_take, List.getElem?_drop]
  by_cases hj : j < n
  · simp only [hj, if_true]
    rw [setR_get us vs (a + c) _ (by omega)]
    by_cases h1 : c ≤ j ∧ j < c + us.length
    · rw [if_pos (by omega), if_pos h1, show a + j - (a + c) = j - c by omega]
    · rw [if_neg (by omega), if_neg h1]
  · simp only [hj, if_false]
    rw [if_neg (by omega)]

theorem store_ok {P : Program} {Γ : Tys} (hΓ : Tys.ok P Γ) {t : TypeId} {i : TI} (ht : Γ.get t = some i) {S : Nat → Prop} {w : World} {ρ : Rho} {h : Store} {b : Nat} {a x : AV} {p u : Value} {r : Res}
    (H : HRel S w ρ h) (ha : L1 S w ρ a p) (hx : L1 S w ρ x u) (hr : (storeA i h x a).run some = some r) :
    ∃ w', (Instr.storeAt t p u).run P w = .ok () w' ∧ r.1 = .undef ∧ ∀ v, Post S w ρ h b r v w' := by
  cases a with
  | ptr id sz n c =>
    simp only [L1, L0] at ha
    obtain ⟨g, len, cap, h1, h2, h3⟩ := ha
    simp only [storeA] at hr
    split at hr
    case h_2 => simp [Tree.run] at hr
    rename_i hok
    simp only [Bool.and_eq_true] at hok
    have hlen := Nat.eq_of_beq_eq_true hok.1.1
    have hdef : x ≠ .undef := by rintro rfl; cases hok.1.2
    have hlv := hx.leaves hdef
    have hone := leaves_one hlv hok.2
    have hul : u.cells.size = i.size := by rw [← Array.length_toList, ← hlv.length, hlen]
    split at hr
    · rename_i cs hg
      split at hr
      case h_2 => simp [Tree.run] at hr
      rename_i hsz hle
      have hsz := Nat.eq_of_beq_eq_true hsz
      have hle := Nat.le_of_ble_eq_true hle
      have hb := H.blk id
      rw [hg] at hb
      obtain ⟨g', len', cap', vs, ty, e1, e2, e3⟩ := hb
      rw [h1] at e1
      cases e1
      simp only [Tree.run, Option.some.injEq] at hr
      subst hr
      have hvl : cs.length = vs.size := by rw [e3.length, Array.length_toList]
      obtain ⟨w', k1, k2, k3, k4, k5, k6, k7⟩ := run_storeVar hΓ ht e2 hone hul (o := c) (by omega)
      have hgS : ∀ bb, S bb → w'.heap[bb]? = w.heap[bb]? := fun bb hb => k3 bb (fun e => H.sep bb hb (e ▸ ⟨id, len, cap, by rw [hg]; rfl, h1⟩))
      refine ⟨w', ?_, rfl, fun v => ?_⟩
      · subst h2
        simp only [Instr.storeAt, Instr.sureAddr, Sem.run_bind, Sem.run_pure, Result.andThen_ok, hsz, Nat.mul_zero, Nat.zero_add, k1]
      · have := chg_blk (w' := w') (c := .box (setRange cs c (leavesOf x))) H (by rw [hg]; rfl) h1 k3 k4 k5 k6 k7
          ⟨g, len, cap, _, ty, h1, k2, by
            have := (setRange_rel c e3 hlv).imp (R' := L0 S w' ρ) fun _ _ hh => hh.mono (fun _ hb => hb) hgS (fun _ _ e => e)
            simpa using this⟩
        exact ⟨S, ρ, this.1, this.2, trivial, fun _ hne => absurd rfl hne⟩
    · rename_i d l hg
      split at hr
      case h_2 => simp [Tree.run] at hr
      rename_i hsz hle
      have hsz := Nat.eq_of_beq_eq_true hsz
      have hle := Nat.le_of_ble_eq_true hle
      split at hr
      case h_2 => simp [Tree.run] at hr
      rename_i y hy
      simp only [Tree.run, obind_some, Option.some.injEq] at hr
      subst hr
      rcases arr_at H hg with ⟨e1, _⟩ | ⟨g', cap', vs, ty, e1, e2, e3, e4, e5, _⟩
      · rw [h1] at e1; cases e1
      · rw [h1] at e1
        cases e1
        have hpos := d.sz_pos
        have hn : n < l.length := by rcases h3 with h3 | h3 <;> omega
        rw [rd_get hn] at hy
        have hrep := e5 n hn
        have hnb : (n + 1) * d.sz ≤ cap * d.sz := Nat.mul_le_mul_right _ (by omega)
        rw [Nat.add_mul, Nat.one_mul] at hnb
        obtain ⟨w', k1, k2, k3, k4, k5, k6, k7⟩ := run_storeVar hΓ ht e2 hone hul (o := n * d.sz + c) (by omega)
        have hgS : ∀ bb, S bb → w'.heap[bb]? = w.heap[bb]? := fun bb hb => k3 bb (fun e => H.sep bb hb (e ▸ ⟨id, l.length, cap, by rw [hg]; rfl, h1⟩))
        have hus : u.cells.toList.length = i.size := by rw [Array.length_toList, hul]
        have hvs : vs.toList.length = cap * d.sz := by rw [Array.length_toList, e4]
        refine ⟨w', ?_, rfl, fun v => ?_⟩
        · subst h2
          simp only [Instr.storeAt, Instr.sureAddr, Sem.run_bind, Sem.run_pure, Result.andThen_ok, hsz, k1]
        · have := chg_blk (w' := w') (c := .arr d (l.set n y)) H (by rw [hg]; rfl) h1 k3 k4 k5 k6 k7
            (.inr ⟨g, cap, _, ty, by rw [List.length_set]; exact h1, k2, by rw [List.length_set]; exact e3, by simp [setR_length]; exact e4, fun k hk => by
              rw [List.length_set] at hk
              show Rep S w' d _ (part (setR vs.toList (n * d.sz + c) u.cells.toList).toArray.toList (k * d.sz) d.sz)
              refine Rep.mono (fun _ hb => hb) hgS ?_
              by_cases hkn : k = n
              · subst hkn
                have e : (l.set k y)[k]'(by simpa using hk) = y := by simp
                rw [e]
                rw [show (setR vs.toList (k * d.sz + c) u.cells.toList).toArray.toList = setR vs.toList (k * d.sz + c) u.cells.toList by simp]
                rw [part_setR_same (by omega) (by omega)]
                exact updL_rep hy hrep hlv
              · have e : (l.set n y)[k]'(by simpa using hk) = l[k] := by simp [List.getElem_set, Ne.symm hkn]
                rw [e]
                rw [show (setR vs.toList (n * d.sz + c) u.cells.toList).toArray.toList = setR vs.toList (n * d.sz + c) u.cells.toList by simp]
                have hkb : (k + 1) * d.sz ≤ cap * d.sz := Nat.mul_le_mul_right _ (by omega)
                rw [part_setR_other (by omega) ?_]
                · exact e5 k hk
                · rcases Nat.lt_or_gt_of_ne hkn with hlt | hgt
                  · left
                    have : (k + 1) * d.sz ≤ n * d.sz := Nat.mul_le_mul_right _ hlt
                    rw [Nat.add_mul, Nat.one_mul] at this
                    omega
                  · right
                    have : (n + 1) * d.sz ≤ k * d.sz := Nat.mul_le_mul_right _ hgt
                    rw [Nat.add_mul, Nat.one_mul] at this
                    omega⟩)
          exact ⟨S, ρ, this.1, this.2, trivial, fun _ hne => absurd rfl hne⟩
    · simp [Tree.run] at hr
  | _ => simp [storeA, Tree.run] at hr

theorem frz0_rel {S S2 : Nat → Prop} {w : World} {ρ : Rho} {h : Store} {ids : List Nat} (H : HRel S w ρ h) (h1 : ∀ b, S b → S2 b) (h2 : ∀ b, Blks ρ h ids b → S2 b) {c : AV} {v : Value} (hi : ∀ id ∈ ids0 c, id ∈ ids) (l : L0 S w ρ c v) : L0 S2 w ρ (frz0 h c) v := by
  cases c with
  | osl id =>
    simp only [frz0]
    split
    · rename_i d x hg
      have e : ofLv h (.sl d) [.osl id] = some x := by simp [ofLv, rdSl, hg, cast]
      have r := ofLv_rep H e (vs := [v]) ⟨l, trivial⟩
      refine Rep.mono (fun b hb => ?_) (fun _ _ => rfl) r
      rcases hb with hb | ⟨id', hm, hk⟩
      · exact h1 b hb
      · simp only [List.flatMap_cons, List.flatMap_nil, List.append_nil] at hm
        exact h2 b ⟨id', hi id' hm, hk⟩
    · trivial
  | _ => exact L0.mono h1 (fun _ _ => rfl) (fun _ _ e => e) l

theorem frz_rel {S S2 : Nat → Prop} {w : World} {ρ : Rho} {h : Store} (H : HRel S w ρ h) {c : AV} {v : Value} (h1 : ∀ b, S b → S2 b) (h2 : ∀ b, Blks ρ h (ids1 c) b → S2 b) (l : L1 S w ρ c v) : L1 S2 w ρ (frz h c) v := by
  have one : ∀ c', L0 S w ρ c' v → (∀ id ∈ ids0 c', id ∈ ids1 c) → L1 S2 w ρ (frz0 h c') v := fun c' l0 hi => (frz0_rel H h1 h2 hi l0).one
  cases c with
  | agg cs =>
    obtain ⟨vs, e, l⟩ := l
    refine ⟨vs, e, ?_⟩
    have key : ∀ (cs0 : List AV) (us : List Value), (∀ id ∈ cs0.flatMap ids0, id ∈ ids1 (.agg cs)) → All2 (L0 S w ρ) cs0 us → All2 (L0 S2 w ρ) (cs0.map (frz0 h)) us := by
      intro cs0
      induction cs0 with
      | nil => intro us _ l; match us, l with | [], _ => trivial
      | cons c cs0 ih =>
        intro us hi l
        match us, l with
        | u :: us, l =>
          exact ⟨frz0_rel H h1 h2 (fun id hm => hi id (by simp [hm])) l.1, ih us (fun id hm => hi id (by simp only [List.flatMap_cons, List.mem_append]; exact .inr hm)) l.2⟩
    exact key cs vs.toList (fun id hm => hm) l
  | clo f cs => exact L1.mono h1 (fun _ _ => rfl) (fun _ _ e => e) l
  | tup vs => exact l.elim
  | undef => exact one .undef l (fun id hm => hm)
  | bool b => exact one (.bool b) l (fun id hm => hm)
  | int k n => exact one (.int k n) l (fun id hm => hm)
  | str t => exact one (.str t) l (fun id hm => hm)
  | rsl d x => exact one (.rsl d x) l (fun id hm => hm)
  | osl i => exact one (.osl i) l (fun id hm => hm)
  | vsl i sz lo n => exact one (.vsl i sz lo n) l (fun id hm => hm)
  | nils => exact one .nils l (fun id hm => hm)
  | nilp => exact one .nilp l (fun id hm => hm)
  | ptr i sz n c => exact one (.ptr i sz n c) l (fun id hm => hm)
  | rptr d x c => exact one (.rptr d x c) l (fun id hm => hm)

theorem storeF_ok {P : Program} {Γ : Tys} (hΓ : Tys.ok P Γ) {t : TypeId} {i : TI} (ht : Γ.get t = some i) {S : Nat → Prop} {w : World} {ρ : Rho} {h : Store} {b : Nat} {a x : AV} {p u : Value} {r : Res}
    (H : HRel S w ρ h) (ha : L1 S w ρ a p) (hx : L1 S w ρ x u) (hr : (storeF i h x a).run some = some r) :
    ∃ w', (Instr.storeAt t p u).run P w = .ok () w' ∧ r.1 = .undef ∧ ∀ v, Post S w ρ h b r v w' := by
  unfold storeF at hr
  split at hr
  · exact store_ok hΓ ht H ha hx hr
  · split at hr
    · rename_i id sz n c
      split at hr
      · obtain ⟨r', e1, e2⟩ := Tree.bind_some hr
        simp only [Tree.run, Option.some.injEq] at e2
        subst e2
        obtain ⟨S2, a1, a2, E1, K1⟩ := freeze_ids (ids1 x) H
        obtain ⟨w', h1, h2, h3⟩ := store_ok hΓ (b := b) ht K1 (L1.mono a1 (fun _ _ => rfl) (fun _ _ e => e) ha) (frz_rel H a1 a2 hx) e1
        refine ⟨w', h1, h2, fun v => ?_⟩
        obtain ⟨S', ρ', q1, q2, q3, q4⟩ := h3 v
        refine ⟨S', ρ', ?_, ?_, ?_, q4⟩
        · have e := E1.trans q1
          rw [← List.append_assoc] at e
          exact e
        · have e := q2
          rw [← List.append_assoc] at e
          exact e
        · exact q3
      · exact store_ok hΓ ht H ha hx hr
    · exact store_ok hΓ ht H ha hx hr

end Go.Nu

/- Nu, part L: append. -/
import Derived.Test.YtjilffemogdabaaNuK
namespace Go.Nu
set_option linter.unusedSimpArgs false
set_option linter.unnecessarySimpa false
set_option linter.unusedVariables false
set_option linter.unusedSectionVars false

theorem Rep.one {S : Nat → Prop} {w : World} : ∀ {d : Kd} {x : d.T} {cs : List Value}, Rep S w d x cs → ∀ c ∈ cs, c.oneCell' = true
  | .int _, _, _, h, c, hc => by simp only [Rep] at h; subst h; simp at hc; subst hc; rfl
  | .bool, _, _, h, c, hc => by simp only [Rep] at h; subst h; simp at hc; subst hc; rfl
  | .str, _, _, h, c, hc => by simp only [Rep] at h; subst h; simp at hc; subst hc; rfl
  | .sl _, _, _, h, c, hc => by obtain ⟨A, cp, rfl, _⟩ := h; simp at hc; subst hc; rfl
  | .pr a b, _, _, h, c, hc => by
    obtain ⟨c1, c2, rfl, h1, h2⟩ := h
    rcases List.mem_append.1 hc with hc | hc
    · exact h1.one c hc
    · exact h2.one c hc

theorem cell_heap {w w1 : World} (h : w1.heap = w.heap) (a : Addr) : w1.cell? a = w.cell? a := by simp [World.cell?, h]

/-- What is appended: its cells, as the machine reads them. -/
def Src (P : Program) (S : Nat → Prop) (w : World) (d : Kd) (m : List d.T) (xv : Value) : Prop :=
  ∃ news : List Value, news.length = m.length * d.sz ∧ (∀ w1 : World, w1.heap = w.heap → (Builtin.firstCells d.sz m.length xv).run P w1 = .ok news.toArray w1) ∧
    (∀ w1, (Builtin.lenOf xv).run P w1 = .ok m.length w1) ∧ (∀ u ∈ news, u.oneCell' = true) ∧ ∀ i (hi : i < m.length), Rep S w d m[i] (part news (i * d.sz) d.sz)

theorem src_nil (P : Program) (S : Nat → Prop) (w : World) (d : Kd) (A : Option Addr) (c : Nat) : Src P S w d [] (.slice A 0 c) := by
  refine ⟨[], by simp, fun w1 _ => ?_, fun w1 => rfl, fun u hu => by simp at hu, fun i hi => by simp at hi⟩
  cases A with
  | none => rfl
  | some a => simp [Builtin.firstCells, loadCells, loadCellsFrom]

theorem src_at {P : Program} {S : Nat → Prop} {w : World} {d : Kd} {m : List d.T} {ad : Addr} {c : Nat} (hs : ad.spot = none)
    (hm : ∀ i (hi : i < m.length), ∃ es, cellsAt w (plus ad (i * d.sz)) es ∧ Rep S w d m[i] es) : Src P S w d m (.slice (some ad) m.length c) := by
  let news := (List.range (m.length * d.sz)).map fun j => (w.cell? (plus ad j)).getD undef
  have hl : news.length = m.length * d.sz := by simp [news]
  have hget : ∀ i (hi : i < m.length) j, j < d.sz → ∃ v, w.cell? (plus ad (i * d.sz + j)) = some v := by
    intro i hi j hj
    obtain ⟨es, h1, h2⟩ := hm i hi
    have hlen := h2.length
    have := h1 j (by omega)
    rw [plus_plus] at this
    exact ⟨es[j]'(by omega), by rw [this]; simp [hlen, hj]⟩
  have hpart : ∀ i (hi : i < m.length) es, cellsAt w (plus ad (i * d.sz)) es → es.length = d.sz → part news (i * d.sz) d.sz = es := by
    intro i hi es h1 hlen
    have hb : (i + 1) * d.sz ≤ m.length * d.sz := Nat.mul_le_mul_right _ hi
    rw [Nat.add_mul, Nat.one_mul] at hb
    apply List.ext_getElem?
    intro j
    simp only [part, List.getElem?_take, List.getElem?_drop]
    by_cases hj : j < d.sz
    · rw [if_pos hj]
      simp only [news, List.getElem?_map]
      rw [List.getElem?_range (by omega)]
      have := h1 j (by omega)
      rw [plus_plus] at this
      simp only [Option.map_some, this]
      rw [List.getElem?_eq_getElem (by omega)]
      rfl
    · rw [if_neg hj, List.getElem?_eq_none (by omega)]
  refine ⟨news, hl, fun w1 hw => ?_, fun w1 => rfl, fun u hu => ?_, fun i hi => ?_⟩
  · refine run_firstCells_some (P := P) w1 d.sz m.length ad m.length c news hl fun j v hj => ?_
    rw [add_plus ad hs, cell_heap hw]
    have hjl : j < news.length := (List.getElem?_eq_some_iff.1 hj).1
    rw [hl] at hjl
    have hpos := d.sz_pos
    have hi : j / d.sz < m.length := (Nat.div_lt_iff_lt_mul hpos).2 hjl
    obtain ⟨v', hv'⟩ := hget (j / d.sz) hi (j % d.sz) (Nat.mod_lt _ hpos)
    have e : j / d.sz * d.sz + j % d.sz = j := by rw [Nat.mul_comm]; exact Nat.div_add_mod j d.sz
    rw [e] at hv'
    simp only [news, List.getElem?_map, List.getElem?_range hjl, Option.map_some, hv', Option.getD_some, Option.some.injEq] at hj
    rw [hv', hj]
  · obtain ⟨j, hj⟩ := List.getElem?_of_mem hu
    have hjl : j < news.length := (List.getElem?_eq_some_iff.1 hj).1
    rw [hl] at hjl
    have hpos := d.sz_pos
    have hi : j / d.sz < m.length := (Nat.div_lt_iff_lt_mul hpos).2 hjl
    obtain ⟨es, h1, h2⟩ := hm _ hi
    have hp := hpart _ hi es h1 h2.length
    have e : j / d.sz * d.sz + j % d.sz = j := by rw [Nat.mul_comm]; exact Nat.div_add_mod j d.sz
    have : u ∈ es := by
      rw [← hp]
      refine List.mem_of_getElem? (i := j % d.sz) ?_
      simp only [part, List.getElem?_take, List.getElem?_drop]
      rw [if_pos (Nat.mod_lt _ hpos), e]
      exact hj
    exact h2.one u this
  · obtain ⟨es, h1, h2⟩ := hm i hi
    rw [hpart i hi es h1 h2.length]
    exact h2

theorem rdSl_src {P : Program} {S : Nat → Prop} {w : World} {ρ : Rho} {h : Store} {d : Kd} {v : AV} {m : List d.T} {val : Value} (H : HRel S w ρ h)
    (hr : rdSl h d v = some m) (hv : L0 S w ρ v val) : Src P S w d m val := by
  cases v with
  | rsl d' l' =>
    obtain ⟨rfl, rfl⟩ := cast_some hr
    obtain ⟨A, c, e, _, h3⟩ := hv
    cases e
    rcases h3 with h3 | ⟨ad, rfl, f2, _, f4⟩
    · have hl0 : m = [] := h3
      subst hl0
      exact src_nil _ _ _ _ _ _
    · exact src_at f2 f4
  | nils =>
    simp only [rdSl, Option.some.injEq] at hr
    subst hr
    simp only [L0] at hv
    subst hv
    exact src_nil _ _ _ _ _ _
  | osl id =>
    simp only [rdSl] at hr
    split at hr
    · rename_i d' l' hg
      obtain ⟨rfl, rfl⟩ := cast_some hr
      obtain ⟨o, ho, rfl⟩ := hv
      rcases arr_at H hg with ⟨h1, rfl⟩ | ⟨g, cap, vs, t, h1, h2, h3, h4, h5, h6⟩
      · rw [ho] at h1; cases h1
        exact src_nil _ _ _ _ _ _
      · rw [ho] at h1; cases h1
        refine src_at rfl fun i hi => ⟨part vs.toList (i * d'.sz) d'.sz, ?_, h5 i hi⟩
        have := cells_blk h2 (i * d'.sz) d'.sz
        simpa [plus] using this
    · cases hr
  | vsl id sz lo n =>
    simp only [rdSl] at hr
    split at hr
    · rename_i d' l' hg
      split at hr
      · rename_i hsz
        have hsz := Nat.eq_of_beq_eq_true hsz
        rw [Option.map_eq_some_iff] at hr
        obtain ⟨l1, hc, rfl⟩ := hr
        obtain ⟨rfl, rfl⟩ := cast_some hc
        obtain ⟨o, ho, hv, hle⟩ := hv
        rcases arr_at H hg with ⟨h1, rfl⟩ | ⟨g, cap, vs, t, h1, h2, h3, h4, h5, h6⟩
        · rw [ho] at h1; cases h1
          simp only [Loc.isSub] at hv
          subst hv
          have e : part ([] : List d'.T) lo n = [] := by simp [part]
          rw [e]
          exact src_nil _ _ _ _ _ _
        · rw [ho] at h1; cases h1
          obtain ⟨b, c, rfl, hnc, _, hb⟩ := hv
          simp only [Loc.len] at hle
          have hlen : (part l1 lo n).length = n := by simp [part]; omega
          have key : Src P S w d' (part l1 lo n) (.slice (some ⟨g, b, none⟩) (part l1 lo n).length c) := by
            refine src_at rfl fun i hi => ⟨part vs.toList ((lo + i) * d'.sz) d'.sz, ?_, ?_⟩
            · rw [hlen] at hi
              have := cells_blk h2 ((lo + i) * d'.sz) d'.sz
              rw [hb (by omega), hsz]
              simpa [plus, Nat.add_mul] using this
            · rw [hlen] at hi
              have hi' : lo + i < l1.length := by omega
              have e : (part l1 lo n)[i]'(by rw [hlen]; exact hi) = l1[lo + i] := by simp [part]
              rw [e]
              exact h5 (lo + i) hi'
          rw [hlen] at key
          exact key
      · cases hr
    · cases hr
  | _ => cases hr

theorem src_str (P : Program) (S : Nat → Prop) (w : World) (s : ByteArray) : Src P S w (.int .u8) (strBytes s) (.string s) := by
  have hl : (strBytes s).length = s.size := by simp [strBytes]
  refine ⟨(strBytes s).map (Value.int .u8), by simp [Kd.sz], fun w1 _ => ?_, fun w1 => by rw [hl]; rfl, fun u hu => ?_, fun i hi => ?_⟩
  · rw [hl]
    simp only [Builtin.firstCells, Sem.run_pure]
    congr 1
    have : s.extract 0 s.size = s := by
      apply ByteArray.ext
      simp
    rw [this]
    apply Array.ext'
    simp [strBytes]
  · obtain ⟨n, _, rfl⟩ := List.mem_map.1 hu
    rfl
  · show part _ (i * 1) 1 = [_]
    apply List.ext_getElem?
    intro j
    simp only [part, List.getElem?_take, List.getElem?_drop, Nat.mul_one]
    cases j with
    | zero => simp [hi]
    | succ j => simp

theorem part_setR_in {vs us : List Value} {o a n : Nat} (h : o + us.length ≤ vs.length) (ha : a + n ≤ us.length) : part (setR vs o us) (o + a) n = part us a n := by
  apply List.ext_getElem?
  intro j
  simp only [part, List.getElem?_take, List.getElem?_drop]
  split
  · rw [setR_get us vs o _ h, if_pos (by omega)]
    congr 1
    omega
  · rfl

theorem part_append_left {x y : List Value} {a n : Nat} (h : a + n ≤ x.length) : part (x ++ y) a n = part x a n := by
  apply List.ext_getElem?
  intro j
  simp only [part, List.getElem?_take, List.getElem?_drop]
  split
  · rw [List.getElem?_append_left (by omega)]
  · rfl

theorem part_append_right {x y : List Value} {a n : Nat} : part (x ++ y) (x.length + a) n = part y a n := by
  apply List.ext_getElem?
  intro j
  simp only [part, List.getElem?_take, List.getElem?_drop]
  split
  · rw [List.getElem?_append_right (by omega)]
    congr 1
    omega
  · rfl

/-- A nil slice under a new id. -/
theorem new_nil {S : Nat → Prop} {w : World} {ρ : Rho} {h : Store} {id : Nat} {d : Kd} (H : HRel S w ρ h) (hid : ρ id = none) :
    Ext S w ρ h S w (ρ.put id .nil) ((id, .arr d []) :: h) ∧ HRel S w (ρ.put id .nil) ((id, .arr d []) :: h) := by
  have hle : ρ.le (ρ.put id .nil) := Rho.put_le hid
  have hget : ∀ j g l c, (Store.get ((id, .arr d []) :: h) j).live = true → ρ.put id .nil j = some (.at g l c) → (h.get j).live = true ∧ ρ j = some (.at g l c) := by
    intro j g l c hl hr
    by_cases hj : j = id
    · subst hj; rw [Rho.put_same] at hr; cases hr
    · rw [get_cons_ne _ _ hj] at hl; rw [Rho.put_ne _ _ hj] at hr; exact ⟨hl, hr⟩
  have hown : ∀ b, Own (ρ.put id .nil) ((id, .arr d []) :: h) b → Own ρ h b := by
    rintro b ⟨j, l, c, hl, hr⟩
    obtain ⟨h1, h2⟩ := hget j b l c hl hr
    exact ⟨j, l, c, h1, h2⟩
  refine ⟨⟨hle, fun _ hb => hb, fun b _ _ => rfl, Nat.le_refl _, fun b hb => .inl hb, fun b hb => .inr (hown b hb), rfl, rfl, rfl⟩,
    ⟨H.inS, fun j => ?_, fun b hb h1 => H.sep b hb (hown b h1), fun i j g l c l' c' hi hj ri rj => ?_⟩⟩
  · by_cases hj : j = id
    · subst hj; rw [get_cons_same]; exact .inl ⟨Rho.put_same _ _ _, rfl⟩
    · rw [get_cons_ne _ _ hj]
      exact BRel.move (fun _ hb => hb) (fun _ _ => rfl) hle (fun _ _ _ _ _ => rfl) (H.blk j)
  · obtain ⟨a1, a2⟩ := hget i g l c hi ri
    obtain ⟨b1, b2⟩ := hget j g l' c' hj rj
    exact H.inj i j g l c l' c' a1 b1 a2 b2

section
variable {P : Program} {Γ : Tys} (hΓ : Tys.ok P Γ) {S : Nat → Prop} {w : World} {ρ : Rho} {h : Store} {b : Nat}
include hΓ

theorem put_range {id0 : Nat} {o : Loc} : ∀ id, ρ.put id0 o id ≠ ρ id → id0 ≤ id ∧ id < id0 + 64 := by
  intro id hne
  by_cases hid : id = id0
  · subst hid; omega
  · rw [Rho.put_ne _ _ hid] at hne; exact absurd rfl hne

/-- append to a nil slice. -/
theorem append_nil_ok {t u e ty : TypeId} {j k i : TI} {d : Kd} (ht : Γ.get t = some j) (hu : Γ.get u = some k) (hj : j.desc = .slice e) (he : Γ.get e = some i) (hk : k.desc = .string ∨ ∃ e', k.desc = .slice e')
    (hd : i.kd = some d) (hby : 1 ≤ i.bytes) (H : HRel S w ρ h) (hb : ρ b = none) {m : List d.T} {xv : Value} (hs : Src P S w d m xv) (hroom : m.length * i.bytes ≤ room) :
    ∃ v w', (Builtin.append_ #[t, u] ty #[.slice none 0 0, xv]).run P w = .ok v w' ∧ Post S w ρ h b (.osl b, [(b, .arr d m)]) v w' := by
  obtain ⟨hsz, hzc⟩ := (hΓ e i he).kd d hd
  obtain ⟨ii, k1, k2, k3, k4⟩ := (hΓ e i he).info
  have hut := (hΓ t j ht).und
  rw [hj] at hut
  have huu := (hΓ u k hu).und
  obtain ⟨news, n1, n2, n3, n4, n5⟩ := hs
  have hzl : i.zero.cells.size = i.size := by rw [← Array.length_toList, ← hzc, zc_length, hsz]
  by_cases hm : m.length = 0
  · have hm0 : m = [] := List.eq_nil_of_length_eq_zero hm
    have hnews : news = [] := List.eq_nil_of_length_eq_zero (by rw [n1, hm]; simp)
    rw [hm] at n2 n3
    rw [hnews] at n2
    have hrun := run_app_none (P := P) (w := w) (ty := ty) hut huu hk k1 n3 (by rw [k2, ← hsz]; exact n2 w rfl)
    obtain ⟨E, K⟩ := new_nil (d := d) H hb
    rw [hm0]
    exact ⟨_, _, hrun, S, _, E, K, ⟨_, Rho.put_same _ _ _, rfl⟩, put_range hΓ⟩
  · have hroomv : room = 140737488355328 := rfl
    have hle1 : m.length * 1 ≤ m.length * i.bytes := Nat.mul_le_mul_left _ hby
    have hrun := run_app_grow (P := P) (w := w) (ty := ty) (base := none) (sLen := 0) (sCap := 0) (olds := []) hut huu hk k1 k4 n3 (by rw [k2, ← hsz]; exact n2 w.drew rfl) (by rfl) (by omega) (by omega)
      (growslice_fits (by omega) (by rw [k3]; simpa [hroomv] using hroom))
    simp only [Nat.zero_add, List.nil_append] at hrun
    have hge := grownCap_ge w m.length 0 e
    have hbr : BRel S (w.drew.alloc (.cells (#[] ++ news.toArray ++ Builtin.zeroCells i.zero.cells (grownCap w m.length 0 e - m.length)) e)) (ρ.put b (.at w.drew.heap.size m.length (grownCap w m.length 0 e))) b (.arr d m) := by
      refine .inr ⟨w.drew.heap.size, _, _, e, Rho.put_same _ _ _, alloc_get _ _, hge, ?_, fun q hq => ?_⟩
      · simp only [Array.size_append, size_zeroCells, hzl, List.size_toArray, n1, hsz]
        rw [List.length_nil, Nat.zero_add, ← Nat.add_mul]
        congr 1
        omega
      · have hqb : (q + 1) * d.sz ≤ m.length * d.sz := Nat.mul_le_mul_right _ hq
        rw [Nat.add_mul, Nat.one_mul] at hqb
        have e1 : part (#[] ++ news.toArray ++ Builtin.zeroCells i.zero.cells (grownCap w m.length 0 e - m.length)).toList (q * d.sz) d.sz = part news (q * d.sz) d.sz := by
          simp only [Array.toList_append, List.nil_append]
          exact part_append_left (by omega)
        show Rep _ _ d m[q] (part _ (q * d.sz) d.sz)
        rw [e1]
        refine Rep.mono (fun _ hb => hb) (fun bb hbb => ?_) (n5 q hq)
        have := H.inS bb hbb
        show (w.heap.push _)[bb]? = _
        rw [Array.getElem?_push, if_neg (by omega)]
    obtain ⟨E, K⟩ := new_blk (w := w.drew) H.drew hb hbr
    refine ⟨_, _, ?_, S, _, E.drew, K, ⟨_, Rho.put_same _ _ _, rfl⟩, put_range hΓ⟩
    rw [hrun]
    rfl

omit hΓ in
theorem run_app_zeros {t u ty e : TypeId} {ii : TypeInfo} {z : Value} {kk : IntKind} (ht : P.underlying t = some (.slice e)) (hu : P.underlying u = some (.int kk)) (hi : P.info? e = some ii) (hz : ii.zero = some z)
    {n : Nat} (h0 : 0 < n) (h63 : (n : Int) ≤ 140737488355328) (hsz : 0 < ii.size) (h48 : (n : Int) * (ii.bytes : Int) ≤ 140737488355328) (hfit : Builtin.nextslicecap n 0 * ii.bytes ≤ 281474976710656) :
    (Builtin.append_ #[t, u] ty #[.slice none 0 0, .int .i64 n]).run P w = .ok (.slice (some ⟨w.heap.size, 0, none⟩) n (grownCap w n 0 e))
        (w.drew.alloc (.cells (Builtin.zeroCells z.cells n ++ Builtin.zeroCells z.cells (grownCap w n 0 e - n)) e)) := by
  have hw : IntKind.i64.wrap (n : Int) = n := by rw [IntKind.wrap_i64]; omega
  have c1 : ¬ ((n : Int) < 0) := by omega
  have c2 : ¬ ((n : Int) * (ii.bytes : Int) > 2 ^ 48) := by omega
  have c2' : ¬ (281474976710656 < (n : Int) * (ii.bytes : Int)) := by omega
  have c3 : ¬ (n ≤ 0) := by omega
  have c4 : ¬ (9223372036854775807 < (n : Int)) := by omega
  have c5 : ¬ (281474976710656 < Builtin.nextslicecap n 0 * ii.bytes) := by omega
  have c6 : ¬ (n = 0 ∨ ii.size = 0) := by omega
  have c7 : ¬ n = 0 := by omega
  have c8 : ¬ ii.size = 0 := by omega
  simp [Builtin.append_, run_underlying ht, run_underlying hu, sizeOf, typeInfo, zeroValue, asInt, asIntOf, hi, hz, hw, c1, c2, c2', c3, c4, c5, c6, c7, c8, Question.forced, newRow, grownCap, Builtin.firstCells]
  intro hh
  exact absurd hh (by have := Nat.mul_pos h0 hsz; omega)

omit hΓ in
theorem run_app_zero0 {t u ty e : TypeId} {ii : TypeInfo} {kk : IntKind} (ht : P.underlying t = some (.slice e)) (hu : P.underlying u = some (.int kk)) (hi : P.info? e = some ii) :
    (Builtin.append_ #[t, u] ty #[.slice none 0 0, .int .i64 0]).run P w = .ok (.slice none 0 0) w := by
  have hw : IntKind.i64.wrap 0 = 0 := by rw [IntKind.wrap_i64]; omega
  simp [Builtin.append_, run_underlying ht, run_underlying hu, sizeOf, typeInfo, asInt, asIntOf, hi, hw]

omit hΓ in
theorem zeroCells_made (z : Array Value) (n : Nat) : Builtin.zeroCells z n = madeCells z (n * z.size) := rfl

/-- append of so many zero values to a nil slice. -/
theorem append_zeros_ok {t u e ty : TypeId} {j k i : TI} {d : Kd} {kk : IntKind} (ht : Γ.get t = some j) (hu : Γ.get u = some k) (hj : j.desc = .slice e) (he : Γ.get e = some i) (hk : k.desc = .int kk)
    (hd : i.kd = some d) (hby : 1 ≤ i.bytes) (H : HRel S w ρ h) (hb : ρ b = none) {n : Int} (h0 : 0 ≤ n) (hroom : n * i.bytes ≤ room) :
    ∃ v w', (Builtin.append_ #[t, u] ty #[.slice none 0 0, .int .i64 n]).run P w = .ok v w' ∧ Post S w ρ h b (.osl b, [(b, .arr d (List.replicate n.toNat d.zero))]) v w' := by
  obtain ⟨hsz, hzc⟩ := (hΓ e i he).kd d hd
  obtain ⟨ii, k1, k2, k3, k4⟩ := (hΓ e i he).info
  have hut := (hΓ t j ht).und
  rw [hj] at hut
  have huu := (hΓ u k hu).und
  rw [hk] at huu
  obtain ⟨m, rfl⟩ := Int.eq_ofNat_of_zero_le h0
  have hroomv : room = 140737488355328 := rfl
  have hm1 : m * 1 ≤ m * i.bytes := Nat.mul_le_mul_left _ hby
  have hm2 : ((m * i.bytes : Nat) : Int) ≤ (room : Nat) := by simpa using hroom
  have hm3 : m * i.bytes ≤ 140737488355328 := by omega
  rw [Int.toNat_natCast]
  by_cases hm : m = 0
  · subst hm
    obtain ⟨E, K⟩ := new_nil (d := d) H hb
    exact ⟨_, _, run_app_zero0 hut huu k1, S, _, E, K, ⟨_, Rho.put_same _ _ _, rfl⟩, put_range hΓ⟩
  · have hzl : i.zero.cells.size = i.size := by rw [← Array.length_toList, ← hzc, zc_length, hsz]
    have hpos := d.sz_pos
    have hrun := run_app_zeros (P := P) (w := w) (ty := ty) hut huu k1 k4 (n := m) (by omega) (by omega) (by omega) (by rw [k3]; have : ((m * i.bytes : Nat) : Int) = (m : Int) * (i.bytes : Int) := by simp
                                                                                                                        omega) (growslice_fits (by omega) (by rw [k3]; omega))
    have hge := grownCap_ge w m 0 e
    have hbr : BRel S (w.drew.alloc (.cells (Builtin.zeroCells i.zero.cells m ++ Builtin.zeroCells i.zero.cells (grownCap w m 0 e - m)) e)) (ρ.put b (.at w.drew.heap.size m (grownCap w m 0 e))) b (.arr d (List.replicate m d.zero)) := by
      refine .inr ⟨w.drew.heap.size, _, _, e, by rw [List.length_replicate]; exact Rho.put_same _ _ _, alloc_get _ _, by rw [List.length_replicate]; exact hge, ?_, fun q hq => ?_⟩
      · simp only [Array.size_append, size_zeroCells, hzl, hsz]
        rw [← Nat.add_mul]
        congr 1
        omega
      · rw [List.length_replicate] at hq
        have e1 : (List.replicate m d.zero)[q]'(by rw [List.length_replicate]; exact hq) = d.zero := by simp
        rw [e1]
        have hqb : (q + 1) * d.sz ≤ m * d.sz := Nat.mul_le_mul_right _ hq
        rw [Nat.add_mul, Nat.one_mul] at hqb
        have e2 := part_made i.zero.cells m q hq
        rw [hzl] at e2
        show Rep _ _ d d.zero (part _ (q * d.sz) d.sz)
        rw [Array.toList_append, part_append_left (by rw [Array.length_toList, size_zeroCells, hzl, ← hsz]; omega), zeroCells_made, hzl, hsz, e2, ← hzc]
        exact zero_rep _ _ d
    obtain ⟨E, K⟩ := new_blk (w := w.drew) H.drew hb hbr
    refine ⟨_, _, ?_, S, _, E.drew, K, ⟨_, Rho.put_same _ _ _, rfl⟩, put_range hΓ⟩
    rw [hrun]
    rfl

/-- append to a slice of one's own: the first n of id's. -/
theorem append_own_ok {t u e ty : TypeId} {j k i : TI} {d : Kd} (ht : Γ.get t = some j) (hu : Γ.get u = some k) (hj : j.desc = .slice e) (he : Γ.get e = some i) (hk : k.desc = .string ∨ ∃ e', k.desc = .slice e')
    (hd : i.kd = some d) (hby : 1 ≤ i.bytes) (H : HRel S w ρ h) (hb : ρ b = none) {m l : List d.T} {id n g cap : Nat} {xv : Value} (hs : Src P S w d m xv) (hg : h.get id = .arr d l) (hr : ρ id = some (.at g l.length cap)) (hn : n ≤ l.length)
    (hroom : (n + m.length) * i.bytes ≤ room) :
    ∃ v w', (Builtin.append_ #[t, u] ty #[.slice (some ⟨g, 0, none⟩) n cap, xv]).run P w = .ok v w' ∧ Post S w ρ h b (.osl b, [(b, .arr d (l.take n ++ m)), (id, .dead)]) v w' := by
  obtain ⟨hsz, hzc⟩ := (hΓ e i he).kd d hd
  obtain ⟨ii, k1, k2, k3, k4⟩ := (hΓ e i he).info
  have hut := (hΓ t j ht).und
  rw [hj] at hut
  have huu := (hΓ u k hu).und
  obtain ⟨news, n1, n2, n3, n4, n5⟩ := hs
  have hzl : i.zero.cells.size = i.size := by rw [← Array.length_toList, ← hzc, zc_length, hsz]
  rcases arr_at H hg with ⟨e1, _⟩ | ⟨g', cap', vs, ty', e1, e2, e3, e4, e5, e6⟩
  · rw [hr] at e1; cases e1
  rw [hr] at e1
  cases e1
  have hlen : (l.take n ++ m).length = n + m.length := by simp; omega
  have hnb : n * d.sz ≤ cap * d.sz := Nat.mul_le_mul_right _ (by omega)
  have hvs : vs.toList.length = cap * d.sz := by rw [Array.length_toList, e4]
  by_cases hfit : n + m.length ≤ cap
  · have hfb : (n + m.length) * d.sz ≤ cap * d.sz := Nat.mul_le_mul_right _ hfit
    rw [Nat.add_mul] at hfb
    obtain ⟨w', s1, s2, s3, s4, s5, s6, s7⟩ := run_storeCells (P := P) news w vs (n * d.sz) 0 e2 n4 (by rw [n1]; omega)
    have hrun := run_app_room (P := P) (w := w) (ty := ty) hut huu hk k1 (g := g) (sLen := n) (sCap := cap) n3 (by rw [k2, ← hsz]; exact n2 w rfl) hfit (by rw [k2, ← hsz]; exact s1)
    have hlive : (h.get id).live = true := by rw [hg]; rfl
    have hgS : ∀ bb, S bb → w'.heap[bb]? = w.heap[bb]? := fun bb hbb => s3 bb (fun ee => H.sep bb hbb (ee ▸ ⟨id, _, _, hlive, hr⟩))
    have hbr : BRel S w' (ρ.put b (.at g (n + m.length) cap)) b (.arr d (l.take n ++ m)) := by
      refine .inr ⟨g, cap, _, ty', by rw [hlen]; exact Rho.put_same _ _ _, s2, by rw [hlen]; exact hfit, by simp [setR_length]; exact e4, fun q hq => ?_⟩
      rw [hlen] at hq
      have hqb : (q + 1) * d.sz ≤ (n + m.length) * d.sz := Nat.mul_le_mul_right _ hq
      rw [Nat.add_mul, Nat.one_mul, Nat.add_mul] at hqb
      show Rep S w' d _ (part (setR vs.toList (n * d.sz + 0) news).toArray.toList (q * d.sz) d.sz)
      rw [Nat.add_zero, show (setR vs.toList (n * d.sz) news).toArray.toList = setR vs.toList (n * d.sz) news by simp]
      refine Rep.mono (fun _ hb => hb) hgS ?_
      by_cases hqn : q < n
      · have hqn' : (q + 1) * d.sz ≤ n * d.sz := Nat.mul_le_mul_right _ hqn
        rw [Nat.add_mul, Nat.one_mul] at hqn'
        rw [part_setR_other (by rw [n1]; omega) (.inl hqn')]
        have ee : (l.take n ++ m)[q]'(by rw [hlen]; exact hq) = l[q] := by
          rw [List.getElem_append_left (by simp; omega)]; simp
        rw [ee]
        exact e5 q (by omega)
      · have ee : (l.take n ++ m)[q]'(by rw [hlen]; exact hq) = m[q - n]'(by omega) := by
          rw [List.getElem_append_right (by simp; omega)]
          congr 1
          simp; omega
        rw [ee]
        have eq1 : q * d.sz = n * d.sz + (q - n) * d.sz := by rw [← Nat.add_mul]; congr 1; omega
        rw [eq1, part_setR_in (by rw [n1]; omega) (by
          have : (q - n + 1) * d.sz ≤ m.length * d.sz := Nat.mul_le_mul_right _ (by omega)
          rw [Nat.add_mul, Nat.one_mul] at this
          rw [n1]; exact this)]
        exact n5 (q - n) (by omega)
    obtain ⟨E, K⟩ := take_blk (w' := w') H hlive hr hb s3 s4 s5 s6 s7 hbr
    exact ⟨_, _, hrun, S, _, E, K, ⟨_, Rho.put_same _ _ _, rfl⟩, put_range hΓ⟩
  · have hroomv : room = 140737488355328 := rfl
    have hle1 : (n + m.length) * 1 ≤ (n + m.length) * i.bytes := Nat.mul_le_mul_left _ hby
    have holds : (Builtin.firstCells ii.size n (.slice (some ⟨g, 0, none⟩) n cap)).run P w.drew = .ok (part vs.toList 0 (n * d.sz)).toArray w.drew := by
      refine run_firstCells_some (P := P) w.drew ii.size n ⟨g, 0, none⟩ n cap _ (by rw [k2, ← hsz]; exact part_length _ _ _ (by omega)) fun jj v hv => ?_
      have hc := cells_blk (w := w) e2 0 (n * d.sz)
      have hjl : jj < (part vs.toList 0 (n * d.sz)).length := (List.getElem?_eq_some_iff.1 hv).1
      have := hc jj hjl
      rw [hv] at this
      rw [add_plus _ rfl, ← this]
      rfl
    have hrun := run_app_grow (P := P) (w := w) (ty := ty) (base := some ⟨g, 0, none⟩) (sLen := n) (sCap := cap) hut huu hk k1 k4 n3 (by rw [k2, ← hsz]; exact n2 w.drew rfl) holds (by omega) (by omega)
      (growslice_fits (by omega) (by rw [k3]; simpa [hroomv] using hroom))
    have hge := grownCap_ge w (n + m.length) cap e
    obtain ⟨E1, K1⟩ := kill_blk H id
    have hol : (part vs.toList 0 (n * d.sz)).length = n * d.sz := part_length _ _ _ (by omega)
    have hbr : BRel S (w.drew.alloc (.cells ((part vs.toList 0 (n * d.sz)).toArray ++ news.toArray ++ Builtin.zeroCells i.zero.cells (grownCap w (n + m.length) cap e - (n + m.length))) e)) (ρ.put b (.at w.drew.heap.size (n + m.length) (grownCap w (n + m.length) cap e))) b (.arr d (l.take n ++ m)) := by
      refine .inr ⟨w.drew.heap.size, _, _, e, by rw [hlen]; exact Rho.put_same _ _ _, alloc_get _ _, by rw [hlen]; exact hge, ?_, fun q hq => ?_⟩
      · simp only [Array.size_append, size_zeroCells, hzl, List.size_toArray, n1]
        rw [hol, hsz, ← Nat.add_mul, ← Nat.add_mul]
        congr 1
        omega
      · rw [hlen] at hq
        have hqb : (q + 1) * d.sz ≤ (n + m.length) * d.sz := Nat.mul_le_mul_right _ hq
        rw [Nat.add_mul, Nat.one_mul, Nat.add_mul] at hqb
        show Rep _ _ d _ (part _ (q * d.sz) d.sz)
        simp only [Array.toList_append]
        rw [part_append_left (by simp only [List.length_append, hol, n1]; omega)]
        have hSm : ∀ bb, S bb → (w.drew.alloc (.cells ((part vs.toList 0 (n * d.sz)).toArray ++ news.toArray ++ Builtin.zeroCells i.zero.cells (grownCap w (n + m.length) cap e - (n + m.length))) e)).heap[bb]? = w.heap[bb]? := fun bb hbb => by
          have := H.inS bb hbb
          show (w.heap.push _)[bb]? = _
          rw [Array.getElem?_push, if_neg (by omega)]
        refine Rep.mono (fun _ hb => hb) hSm ?_
        by_cases hqn : q < n
        · have hqn' : (q + 1) * d.sz ≤ n * d.sz := Nat.mul_le_mul_right _ hqn
          rw [Nat.add_mul, Nat.one_mul] at hqn'
          rw [part_append_left (by rw [hol]; exact hqn'), part_part _ _ _ _ _ hqn', Nat.zero_add]
          have ee : (l.take n ++ m)[q]'(by rw [hlen]; exact hq) = l[q] := by
            rw [List.getElem_append_left (by simp; omega)]; simp
          rw [ee]
          exact e5 q (by omega)
        · have ee : (l.take n ++ m)[q]'(by rw [hlen]; exact hq) = m[q - n]'(by omega) := by
            rw [List.getElem_append_right (by simp; omega)]
            congr 1
            simp; omega
          rw [ee]
          have eq1 : q * d.sz = (part vs.toList 0 (n * d.sz)).length + (q - n) * d.sz := by rw [hol, ← Nat.add_mul]; congr 1; omega
          rw [eq1, part_append_right]
          exact n5 (q - n) (by omega)
    obtain ⟨E2, K2⟩ := new_blk (w := w.drew) K1.drew hb hbr
    refine ⟨_, _, ?_, S, _, E1.trans E2.drew, K2, ⟨_, Rho.put_same _ _ _, rfl⟩, put_range hΓ⟩
    rw [hrun]
    rfl

end
end Go.Nu

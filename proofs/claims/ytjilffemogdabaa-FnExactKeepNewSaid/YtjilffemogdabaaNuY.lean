/- Nu, part Y: what is told of results and of what the parameters hold. -/
import Derived.Test.YtjilffemogdabaaNuX
namespace Go.Nu
set_option linter.unusedSimpArgs false
set_option linter.unnecessarySimpa false
set_option linter.unusedVariables false
set_option linter.unusedSectionVars false

theorem BRel.ren {S : Nat → Prop} {w : World} {ρ ρ' : Rho} {i i' : Nat} {c : Cell} (h : BRel S w ρ i c) (e : ρ' i' = ρ i) (hb : ∀ cs, c = .box cs → ∀ vs, All2 (L0 S w ρ) cs vs → All2 (L0 S w ρ') cs vs) : BRel S w ρ' i' c := by
  cases c with
  | box cs =>
    obtain ⟨g, len, cap, vs, t, h1, h2, h3⟩ := h
    exact ⟨g, len, cap, vs, t, e.trans h1, h2, hb cs rfl _ h3⟩
  | arr d l =>
    rcases h with ⟨h1, h2⟩ | ⟨g, cap, vs, t, h1, h2⟩
    · exact .inl ⟨e.trans h1, h2⟩
    · exact .inr ⟨g, cap, vs, t, e.trans h1, h2⟩
  | _ => trivial

def cells1 (k : RK) (x : k.T) : List Cell := match k with
  | .o d => cellsM d x
  | .r _ => []
  | .p d => [.box (lv d x)]
theorem cells1_length (k : RK) (x : k.T) : (cells1 k x).length = k.n := by
  cases k with
  | o d => exact cellsM_length d x
  | _ => rfl

theorem upFrom_get' : ∀ (n b j : Nat), j < n → (upFrom b n)[j]? = some (b + j)
  | n + 1, b, 0, _ => by simp [upFrom]
  | n + 1, b, j + 1, h => by
    simp only [upFrom, List.getElem?_cons_succ]
    rw [upFrom_get' n (b + 1) j (by omega)]
    congr 1
    omega
theorem upFrom_none {n b j : Nat} (h : n ≤ j) : (upFrom b n)[j]? = none := by
  rw [List.getElem?_eq_none_iff, upFrom_length]; exact h
theorem upFrom_some {n b j i : Nat} (h : (upFrom b n)[j]? = some i) : i = b + j ∧ j < n := by
  by_cases hj : j < n
  · rw [upFrom_get' n b j hj] at h; cases h; exact ⟨rfl, hj⟩
  · rw [upFrom_none (by omega)] at h; cases h
theorem upFrom_append : ∀ (m n b : Nat), upFrom b (m + n) = upFrom b m ++ upFrom (b + m) n
  | 0, n, b => by simp [upFrom]
  | m + 1, n, b => by
    rw [show m + 1 + n = (m + n) + 1 by omega]
    simp only [upFrom, List.cons_append]
    rw [upFrom_append m n (b + 1), show b + 1 + m = b + (m + 1) by omega]
theorem upFrom_take (m n b : Nat) (h : m ≤ n) : (upFrom b n).take m = upFrom b m := by
  obtain ⟨k, rfl⟩ := Nat.exists_eq_add_of_le h
  rw [upFrom_append, List.take_append_of_le_length (by rw [upFrom_length]; exact Nat.le_refl _), List.take_of_length_le (by rw [upFrom_length]; exact Nat.le_refl _)]
theorem upFrom_drop (m n b : Nat) (h : m ≤ n) : (upFrom b n).drop m = upFrom (b + m) (n - m) := by
  obtain ⟨k, rfl⟩ := Nat.exists_eq_add_of_le h
  rw [upFrom_append, List.drop_append_of_le_length (by rw [upFrom_length]; exact Nat.le_refl _), List.drop_of_length_le (by rw [upFrom_length]; exact Nat.le_refl _), Nat.add_sub_cancel_left]
  rfl

theorem out1_zip (k : RK) (x : k.T) (b : Nat) : (out1 k x b).2 = (upFrom b k.n).zip (cells1 k x) := by
  cases k with
  | o d => exact giveM_zip d x _ (upFrom_length _ _)
  | r d => rfl
  | p d => rfl

def cellsR : (rs : List RK) → ResT rs → List Cell
  | [], _ => []
  | [k], x => cells1 k x
  | k :: k' :: ks, x => cells1 k x.1 ++ cellsR (k' :: ks) x.2
theorem cellsR_length : ∀ (rs : List RK) (x : ResT rs), (cellsR rs x).length = (rs.map RK.n).sum
  | [], _ => rfl
  | [k], x => by simp [cellsR, cells1_length]
  | k :: k' :: ks, x => by simp [cellsR, cells1_length, cellsR_length (k' :: ks)]
theorem outR_zip : ∀ (rs : List RK) (x : ResT rs) (b : Nat), (outR rs x b).2 = (upFrom b (rs.map RK.n).sum).zip (cellsR rs x)
  | [], _, _ => rfl
  | [k], x, b => by simp [outR, cellsR, out1_zip]
  | k :: k' :: ks, x, b => by
    simp only [outR, cellsR]
    rw [out1_zip, outR_zip (k' :: ks)]
    rw [show ((k :: k' :: ks).map RK.n).sum = k.n + ((k' :: ks).map RK.n).sum by simp, upFrom_append, List.zip_append (by rw [upFrom_length, cells1_length])]

def cellsU : (ks : List PK) → UpdT ks → List Cell
  | [], _ => []
  | .v _ :: ks, y => cellsU ks y.2
  | .p d :: ks, y => .box (lv d y.1) :: cellsU ks y.2
  | .m d :: ks, y => cellsM d y.1 ++ cellsU ks y.2
  | .t d :: ks, y => List.replicate d.nsl .dead ++ cellsU ks y.2
  | .f _ :: ks, y => cellsU ks y.2
  | .z :: ks, y => cellsU ks y.2
  | .c _ d :: ks, y => .box (lv d y.1) :: cellsU ks y.2
theorem cellsU_length : ∀ (ks : List PK) (x : UpdT ks), (cellsU ks x).length = (ks.map PK.n).sum
  | [], _ => rfl
  | .v _ :: ks, x => by simp [cellsU, PK.n, cellsU_length ks]
  | .p d :: ks, x => by simp [cellsU, PK.n, cellsU_length ks]; omega
  | .m d :: ks, x => by simp [cellsU, PK.n, cellsU_length ks, cellsM_length]
  | .t d :: ks, x => by simp [cellsU, PK.n, cellsU_length ks]
  | .f _ :: ks, x => by simp [cellsU, PK.n, cellsU_length ks]
  | .z :: ks, x => by simp [cellsU, PK.n, cellsU_length ks]
  | .c _ d :: ks, x => by simp [cellsU, PK.n, cellsU_length ks]; omega
theorem outU_zip : ∀ (ks : List PK) (x : UpdT ks) (ids : List Nat), ids.length = (ks.map PK.n).sum → outU ks x ids = ids.zip (cellsU ks x)
  | [], _, ids, h => by simp [outU, cellsU]
  | .v _ :: ks, x, ids, h => by simp only [outU, cellsU]; exact outU_zip ks x.2 ids (by simpa [PK.n] using h)
  | .p d :: ks, x, ids, h => by
    match ids, h with
    | [], h => simp [PK.n] at h; omega
    | id :: ids, h =>
      simp only [outU, cellsU, List.headD_cons, List.drop_succ_cons, List.drop_zero, List.zip_cons_cons]
      rw [outU_zip ks x.2 ids (by simp [PK.n] at h; omega)]
  | .m d :: ks, x, ids, h => by
    simp only [List.map_cons, List.sum_cons, PK.n] at h
    simp only [outU, cellsU]
    rw [giveM_zip d x.1 _ (by simp; omega), outU_zip ks x.2 _ (by simp; omega)]
    conv => rhs; rw [← List.take_append_drop d.nsl ids]
    rw [List.zip_append (by rw [cellsM_length]; simp; omega)]
  | .f _ :: ks, x, ids, h => by simp only [outU, cellsU]; exact outU_zip ks x.2 ids (by simpa [PK.n] using h)
  | .t d :: ks, x, ids, h => by
    simp only [List.map_cons, List.sum_cons, PK.n] at h
    simp only [outU, cellsU]
    rw [outU_zip ks x.2 _ (by simp; omega)]
    have e : ∀ (l : List Nat) (n : Nat), l.length = n → l.map (fun id => (id, Cell.dead)) = l.zip (List.replicate n .dead) := by
      intro l
      induction l with
      | nil => intro n _; simp
      | cons a l ih =>
        intro n hn
        subst hn
        simp only [List.map_cons, List.length_cons, List.replicate_succ, List.zip_cons_cons]
        rw [ih l.length rfl]
    rw [e (ids.take d.nsl) d.nsl (by simp; omega)]
    conv => rhs; rw [← List.take_append_drop d.nsl ids]
    rw [List.zip_append (by simp; omega)]
  | .z :: ks, x, ids, h => by simp only [outU, cellsU]; exact outU_zip ks x.2 ids (by simpa [PK.n] using h)
  | .c _ d :: ks, x, ids, h => by
    match ids, h with
    | [], h => simp [PK.n] at h; omega
    | id :: ids, h =>
      simp only [outU, cellsU, List.headD_cons, List.drop_succ_cons, List.drop_zero, List.zip_cons_cons]
      rw [outU_zip ks x.2 ids (by simp [PK.n] at h; omega)]

/-- Live cells alone. -/
theorem cellsM_live : ∀ (d : Kd) (x : d.T), ∀ c ∈ cellsM d x, c.live = true
  | .int _, _, c, h => by cases h
  | .bool, _, c, h => by cases h
  | .str, _, c, h => by cases h
  | .sl d, l, c, h => by simp [cellsM] at h; subst h; rfl
  | .pr a b, x, c, h => by
    simp only [cellsM, List.mem_append] at h
    rcases h with h | h
    · exact cellsM_live a x.1 c h
    · exact cellsM_live b x.2 c h
theorem cellsA_live : ∀ (ks : List PK) (x : ArgT ks), ∀ c ∈ cellsA ks x, c.live = true
  | [], _, c, h => by cases h
  | .v _ :: ks, x, c, h => cellsA_live ks x.2 c h
  | .p d :: ks, x, c, h => by
    simp only [cellsA, List.mem_cons] at h
    rcases h with rfl | h
    · rfl
    · exact cellsA_live ks x.2 c h
  | .m d :: ks, x, c, h => by
    simp only [cellsA, List.mem_append] at h
    rcases h with h | h
    · exact cellsM_live d x.1 c h
    · exact cellsA_live ks x.2 c h
  | .t d :: ks, x, c, h => by
    simp only [cellsA, List.mem_append] at h
    rcases h with h | h
    · exact cellsM_live d x.1 c h
    · exact cellsA_live ks x.2 c h
  | .f _ :: ks, x, c, h => cellsA_live ks x.2 c h
  | .z :: ks, x, c, h => cellsA_live ks x.2 c h
  | .c _ d :: ks, x, c, h => by
    simp only [cellsA, List.mem_cons] at h
    rcases h with rfl | h
    · rfl
    · exact cellsA_live ks x.2 c h

theorem cellsM_nobox : ∀ (d : Kd) (x : d.T) (cs : List AV), Cell.box cs ∈ cellsM d x → False
  | .int _, _, c, h => by cases h
  | .bool, _, c, h => by cases h
  | .str, _, c, h => by cases h
  | .sl d, l, c, h => by simp [cellsM] at h
  | .pr a b, x, c, h => by
    simp only [cellsM, List.mem_append] at h
    rcases h with h | h
    · exact cellsM_nobox a x.1 c h
    · exact cellsM_nobox b x.2 c h
theorem giveM_length : ∀ (d : Kd) (x : d.T) (ids : List Nat), (giveM d x ids).1.length = d.sz
  | .int _, _, _ => by simp [giveM, Kd.sz]
  | .bool, _, _ => by simp [giveM, Kd.sz]
  | .str, _, _ => by simp [giveM, Kd.sz]
  | .sl _, _, [] => by simp [giveM, Kd.sz]
  | .sl _, _, _ :: _ => by simp [giveM, Kd.sz]
  | .pr a b, x, ids => by simp [giveM, Kd.sz, giveM_length a, giveM_length b]

section
variable {S : Nat → Prop} {w : World} {ρ : Rho} {h : Store}

theorem take1_rel (H : HRel S w ρ h) {k : RK} {v : AV} {x : k.T} {srcs : List Src0} {u : Value} (e : take1 h k v = some (x, srcs)) (l : L1 S w ρ v u) :
    srcs.length = k.n ∧ (∀ s ∈ srcs, ∀ id ∈ srcIds s, (h.get id).live = true) ∧ ∀ (ρ' : Rho) (b : Nat), (∀ (j : Nat) s, srcs[j]? = some s → ρ' (b + j) = locOf ρ s) →
      L1 S w ρ' (out1 k x b).1 u ∧ ∀ (j : Nat) c, (cells1 k x)[j]? = some c → BRel S w ρ' (b + j) c := by
  cases k with
  | o d =>
    simp only [take1] at e
    split at e
    case h_2 => cases e
    rename_i hg
    have hg := eq_of_beq hg
    have key : ∀ {cs : List AV} {vs : List Value}, takeO h d cs = some (x, srcs) → All2 (L0 S w ρ) cs vs → srcs.length = d.nsl ∧ (∀ s ∈ srcs, ∀ id ∈ srcIds s, (h.get id).live = true) ∧ ∀ (ρ' : Rho) (b : Nat), (∀ (j : Nat) s, srcs[j]? = some s → ρ' (b + j) = locOf ρ s) →
        All2 (L0 S w ρ') (giveM d x (upFrom b d.nsl)).1 vs ∧ ∀ (j : Nat) c, (cellsM d x)[j]? = some c → BRel S w ρ' (b + j) c := by
      intro cs vs e hv
      obtain ⟨h1, h2, h3⟩ := takeO_rel H e hv
      refine ⟨h1, h2, fun ρ' b hr => ?_⟩
      obtain ⟨h4, h5⟩ := h3 ρ' (upFrom b d.nsl) (upFrom_length _ _) fun j i s k1 k2 => by
        obtain ⟨rfl, _⟩ := upFrom_some k1
        exact hr j s k2
      refine ⟨h4, fun j c k1 => h5 j (b + j) c (upFrom_get' _ _ _ ?_) k1⟩
      have := (List.getElem?_eq_some_iff.1 k1).1
      rwa [cellsM_length] at this
    cases hp : isPr d with
    | true =>
      rw [hp] at hg
      cases v <;> first | (cases hg; done) | skip
      rename_i cs
      obtain ⟨vs, rfl, hv⟩ := l
      obtain ⟨h1, h2, h3⟩ := key e hv
      refine ⟨h1, h2, fun ρ' b hr => ?_⟩
      obtain ⟨h4, h5⟩ := h3 ρ' b hr
      refine ⟨?_, h5⟩
      simp only [out1, wrapM, hp]
      exact ⟨vs, rfl, h4⟩
    | false =>
      rw [hp] at hg
      have hx : takeO h d [AV.undef] = none := by cases d <;> first | rfl | cases hp
      have hl0 : leavesOf v = [v] ∧ L0 S w ρ v u := by
        cases v <;> first | (cases hg; done) | exact ⟨rfl, l⟩ | (simp only [leavesOf] at e; rw [hx] at e; cases e)
      rw [hl0.1] at e
      obtain ⟨h1, h2, h3⟩ := key (vs := [u]) e ⟨hl0.2, trivial⟩
      refine ⟨h1, h2, fun ρ' b hr => ?_⟩
      obtain ⟨h4, h5⟩ := h3 ρ' b hr
      refine ⟨?_, h5⟩
      simp only [out1, wrapM, hp]
      generalize (giveM d x (upFrom b d.nsl)).1 = gs at *
      match gs, h4 with
      | [g], h4 => exact h4.1.one
  | r d =>
    simp only [take1] at e
    split at e
    case h_2 => cases e
    rename_i hg
    simp only [Option.map_eq_some_iff] at e
    obtain ⟨y, e, e2⟩ := e
    cases e2
    refine ⟨rfl, fun s hs => by simp at hs, fun ρ' b _ => ⟨?_, fun j c hc => by simp [cells1] at hc⟩⟩
    refine opn_any (toT_rel H e l (fun _ h => h) fun id hi => ?_)
    rw [List.isEmpty_iff] at hg
    rw [hg] at hi
    cases hi
  | p d =>
    simp only [take1] at e
    split at e
    case h_2 => cases e
    rename_i id
    split at e
    case h_2 => cases e
    rename_i cs hg
    split at e
    case h_2 => cases e
    rename_i hi
    rw [List.isEmpty_iff] at hi
    simp only [Option.map_eq_some_iff] at e
    obtain ⟨y, e, e2⟩ := e
    cases e2
    have hb := H.blk id
    rw [hg] at hb
    obtain ⟨g, len, cap, vs, t, b1, b2, b3⟩ := hb
    refine ⟨rfl, fun s hs id' hi' => ?_, fun ρ' b hr => ?_⟩
    · simp only [List.mem_singleton] at hs; subst hs
      simp only [srcIds, List.mem_singleton] at hi'; subst hi'
      rw [hg]; rfl
    · have h0 : ρ' b = some (.at g len cap) := (hr 0 _ rfl).trans b1
      refine ⟨?_, fun j c hc => ?_⟩
      · obtain ⟨g', len', cap', k1, k2, k3⟩ := l
        rw [b1] at k1
        cases k1
        exact ⟨g, len, cap, h0, k2, .inl rfl⟩
      · have hj : j = 0 := by
          have := (List.getElem?_eq_some_iff.1 hc).1
          simp [cells1] at this; exact this
        subst hj
        simp [cells1] at hc
        subst hc
        refine ⟨g, len, cap, vs, t, h0, b2, lv_rep ((ofLv_rep H e b3).wider fun bb hbb => hbb.elim (fun x => x) ?_)⟩
        rw [hi]
        rintro ⟨_, h, _⟩
        cases h

theorem takeR_rel (H : HRel S w ρ h) : ∀ {rs : List RK} {vs : List AV} {x : ResT rs} {srcs : List Src0} {us : List Value}, takeR h rs vs = some (x, srcs) → All2 (L1 S w ρ) vs us →
    srcs.length = (rs.map RK.n).sum ∧ (∀ s ∈ srcs, ∀ id ∈ srcIds s, (h.get id).live = true) ∧ ∀ (ρ' : Rho) (b : Nat), (∀ (j : Nat) s, srcs[j]? = some s → ρ' (b + j) = locOf ρ s) →
      All2 (L1 S w ρ') (outR rs x b).1 us ∧ ∀ (j : Nat) c, (cellsR rs x)[j]? = some c → BRel S w ρ' (b + j) c
  | [], [], x, srcs, us, e, l => by
    simp only [takeR, Option.some.injEq] at e
    cases e
    match us, l with
    | [], _ => exact ⟨rfl, fun s hs => by simp at hs, fun ρ' b _ => ⟨trivial, fun j c hc => by simp [cellsR] at hc⟩⟩
  | [k], [v], x, srcs, us, e, l => by
    match us, l with
    | [u], l =>
      obtain ⟨h1, h2, h3⟩ := take1_rel H e l.1
      exact ⟨by simpa using h1, h2, fun ρ' b hr => ⟨⟨(h3 ρ' b hr).1, trivial⟩, (h3 ρ' b hr).2⟩⟩
  | k :: k' :: ks, v :: vs, x, srcs, us, e, l => by
    match us, l with
    | u :: us, l =>
      simp only [takeR, Option.bind_eq_some_iff] at e
      obtain ⟨⟨y, s1⟩, ey, ⟨z, s2⟩, ez, e⟩ := e
      cases e
      obtain ⟨a1, a2, a3⟩ := take1_rel H ey l.1
      obtain ⟨b1, b2, b3⟩ := takeR_rel H ez l.2
      refine ⟨by simp only [List.length_append, List.map_cons, List.sum_cons] at *; omega, fun s hs => ?_, fun ρ' b hr => ?_⟩
      · rcases List.mem_append.1 hs with hs | hs
        · exact a2 s hs
        · exact b2 s hs
      · have hl1 : s1.length = k.n := a1
        obtain ⟨c1, c2⟩ := a3 ρ' b fun j s hs => hr j s (by
          have := (List.getElem?_eq_some_iff.1 hs).1
          rw [List.getElem?_append_left this]; exact hs)
        obtain ⟨d1, d2⟩ := b3 ρ' (b + k.n) fun j s hs => by
          have := hr (k.n + j) s (by rw [List.getElem?_append_right (show s1.length ≤ k.n + j by omega), show k.n + j - s1.length = j by omega]; exact hs)
          rw [← this, Nat.add_assoc]
        refine ⟨⟨c1, d1⟩, fun j c hc => ?_⟩
        simp only [cellsR] at hc
        by_cases hj : j < k.n
        · rw [List.getElem?_append_left (by rw [cells1_length]; exact hj)] at hc
          exact c2 j c hc
        · rw [List.getElem?_append_right (by rw [cells1_length]; omega), cells1_length] at hc
          have := d2 (j - k.n) c hc
          rw [show b + k.n + (j - k.n) = b + j by omega] at this
          exact this
  | [], _ :: _, _, _, _, e, _ => by simp [takeR] at e
  | [_], [], _, _, _, e, _ => by simp [takeR] at e
  | [_], _ :: _ :: _, _, _, _, e, _ => by simp [takeR] at e
  | _ :: _ :: _, [], _, _, _, e, _ => by simp [takeR] at e

theorem takeM_zero : ∀ {d : Kd} {z x : d.T} {ids ids' : List Nat}, takeM h d (giveM d z ids).1 = some (x, ids') → ids.length = d.nsl → ∀ (j i : Nat) c, ids[j]? = some i → (cellsM d x)[j]? = some c → h.get i = c
  | .int _, _, _, _, _, _, _, j, i, c, _, h2 => by simp [cellsM] at h2
  | .bool, _, _, _, _, _, _, j, i, c, _, h2 => by simp [cellsM] at h2
  | .str, _, _, _, _, _, _, j, i, c, _, h2 => by simp [cellsM] at h2
  | .sl d, z, x, ids, ids', e, hl, j, i, c, h1, h2 => by
    match ids, hl with
    | [id], _ =>
      have hj : j = 0 := by
        have := (List.getElem?_eq_some_iff.1 h1).1
        simp at this; exact this
      subst hj
      simp at h1
      subst h1
      simp [cellsM] at h2
      subst h2
      simp only [giveM, takeM] at e
      split at e
      case h_2 => cases e
      rename_i d' l' hg
      simp only [Option.map_eq_some_iff] at e
      obtain ⟨y, e, e2⟩ := e
      obtain ⟨rfl, rfl⟩ := cast_some e
      cases e2
      exact hg
  | .pr a b, z, x, ids, ids', e, hl, j, i, c, h1, h2 => by
    simp only [Kd.nsl] at hl
    simp only [giveM, takeM, Option.bind_eq_some_iff] at e
    have la : (giveM a z.1 (ids.take a.nsl)).1.length = a.sz := giveM_length a z.1 _
    rw [List.take_append_of_le_length (by omega), List.take_of_length_le (by omega), List.drop_append_of_le_length (by omega), List.drop_of_length_le (by omega)] at e
    obtain ⟨⟨y, s1⟩, ey, ⟨t, s2⟩, ez, e⟩ := e
    cases e
    simp only [cellsM] at h2
    by_cases hj : j < a.nsl
    · rw [List.getElem?_append_left (by rw [cellsM_length]; exact hj)] at h2
      exact takeM_zero ey (by simp; omega) j i c (by rw [List.getElem?_take_of_lt hj]; exact h1) h2
    · rw [List.getElem?_append_right (by rw [cellsM_length]; omega), cellsM_length] at h2
      exact takeM_zero (by simpa using ez) (by simp; omega) (j - a.nsl) i c (by rw [List.getElem?_drop, show a.nsl + (j - a.nsl) = j by omega]; exact h1) h2

theorem takeU_rel (H : HRel S w ρ h) : ∀ {ks : List PK} {ids : List Nat} {y : UpdT ks}, takeU h ks ids = some y → ids.length = (ks.map PK.n).sum →
    ∀ (j i : Nat) c, ids[j]? = some i → (cellsU ks y)[j]? = some c → c.live = true → (h.get i).live = true ∧ ∀ (ρ' : Rho) (i' : Nat), ρ' i' = ρ i → BRel S w ρ' i' c
  | [], _, _, _, _, j, i, c, _, h2, _ => by simp [cellsU] at h2
  | .v d :: ks, ids, y, e, hl, j, i, c, h1, h2, hlv => by
    simp only [takeU, Option.map_eq_some_iff] at e
    obtain ⟨y', e, rfl⟩ := e
    exact takeU_rel H e (by simpa [PK.n] using hl) j i c h1 h2 hlv
  | .p d :: ks, [], y, e, hl, j, i, c, h1, h2, hlv => by simp at h1
  | .p d :: ks, id :: ids, y, e, hl, j, i, c, h1, h2, hlv => by
    simp only [takeU, List.headD_cons, List.drop_succ_cons, List.drop_zero] at e
    split at e
    case h_2 => cases e
    rename_i cs hg
    split at e
    case h_2 => cases e
    rename_i hi
    rw [List.isEmpty_iff] at hi
    simp only [Option.bind_eq_some_iff] at e
    obtain ⟨x, ex, y', ey, e⟩ := e
    cases e
    simp only [cellsU] at h2
    cases j with
    | zero =>
      simp at h1 h2
      subst h1
      subst h2
      have hb := H.blk id
      rw [hg] at hb
      obtain ⟨g, len, cap, vs, t, b1, b2, b3⟩ := hb
      refine ⟨by rw [hg]; rfl, fun ρ' i' er => ⟨g, len, cap, vs, t, er.trans b1, b2, lv_rep ((ofLv_rep H ex b3).wider fun bb hbb => hbb.elim (fun x => x) ?_)⟩⟩
      rw [hi]
      rintro ⟨_, h, _⟩
      cases h
    | succ j =>
      simp only [List.getElem?_cons_succ] at h1 h2
      exact takeU_rel H ey (by simp [PK.n] at hl; omega) j i c h1 h2 hlv
  | .c _ d :: ks, [], y, e, hl, j, i, c, h1, h2, hlv => by simp at h1
  | .c _ d :: ks, id :: ids, y, e, hl, j, i, c, h1, h2, hlv => by
    simp only [takeU, List.headD_cons, List.drop_succ_cons, List.drop_zero] at e
    split at e
    case h_2 => cases e
    rename_i cs hg
    split at e
    case h_2 => cases e
    rename_i hi
    rw [List.isEmpty_iff] at hi
    simp only [Option.bind_eq_some_iff] at e
    obtain ⟨x, ex, y', ey, e⟩ := e
    cases e
    simp only [cellsU] at h2
    cases j with
    | zero =>
      simp at h1 h2
      subst h1
      subst h2
      have hb := H.blk id
      rw [hg] at hb
      obtain ⟨g, len, cap, vs, t, b1, b2, b3⟩ := hb
      refine ⟨by rw [hg]; rfl, fun ρ' i' er => ⟨g, len, cap, vs, t, er.trans b1, b2, lv_rep ((ofLv_rep H ex b3).wider fun bb hbb => hbb.elim (fun x => x) ?_)⟩⟩
      rw [hi]
      rintro ⟨_, h, _⟩
      cases h
    | succ j =>
      simp only [List.getElem?_cons_succ] at h1 h2
      exact takeU_rel H ey (by simp [PK.n] at hl; omega) j i c h1 h2 hlv
  | .t d :: ks, ids, y, e, hl, j, i, c, h1, h2, hlv => by
    simp only [List.map_cons, List.sum_cons, PK.n] at hl
    simp only [takeU, Option.map_eq_some_iff] at e
    obtain ⟨y', e, rfl⟩ := e
    simp only [cellsU] at h2
    by_cases hj : j < d.nsl
    · rw [List.getElem?_append_left (by simpa using hj), List.getElem?_replicate, if_pos hj] at h2
      cases h2
      cases hlv
    · rw [List.getElem?_append_right (by simp; omega), List.length_replicate] at h2
      exact takeU_rel H e (by simp; omega) (j - d.nsl) i c (by rw [List.getElem?_drop, show d.nsl + (j - d.nsl) = j by omega]; exact h1) h2 hlv
  | .z :: ks, ids, y, e, hl, j, i, c, h1, h2, hlv => by
    simp only [takeU, Option.map_eq_some_iff] at e
    obtain ⟨y', e, rfl⟩ := e
    exact takeU_rel H e (by simpa [PK.n] using hl) j i c h1 h2 hlv
  | .f d :: ks, ids, y, e, hl, j, i, c, h1, h2, hlv => by
    simp only [takeU, Option.map_eq_some_iff] at e
    obtain ⟨y', e, rfl⟩ := e
    exact takeU_rel H e (by simpa [PK.n] using hl) j i c h1 h2 hlv
  | .m d :: ks, ids, y, e, hl, j, i, c, h1, h2, hlv => by
    simp only [List.map_cons, List.sum_cons, PK.n] at hl
    simp only [takeU, Option.bind_eq_some_iff] at e
    obtain ⟨⟨x, s1⟩, ex, y', ey, e⟩ := e
    cases e
    simp only [cellsU] at h2
    by_cases hj : j < d.nsl
    · rw [List.getElem?_append_left (by rw [cellsM_length]; exact hj)] at h2
      have hc := takeM_zero ex (by simp; omega) j i c (by rw [List.getElem?_take_of_lt hj]; exact h1) h2
      have hl := cellsM_live d x c (List.mem_of_getElem? h2)
      refine ⟨by rw [hc]; exact hl, fun ρ' i' er => ?_⟩
      have hb := H.blk i
      rw [hc] at hb
      refine hb.ren er fun cs hcs => ?_
      exfalso
      subst hcs
      have hm := List.mem_of_getElem? h2
      exact cellsM_nobox d x cs hm
    · rw [List.getElem?_append_right (by rw [cellsM_length]; omega), cellsM_length] at h2
      exact takeU_rel H ey (by simp; omega) (j - d.nsl) i c (by rw [List.getElem?_drop, show d.nsl + (j - d.nsl) = j by omega]; exact h1) h2 hlv
/-- Live cells are kept. -/
theorem keep_live : ∀ {ks : List PK} {ids : List Nat} {y : UpdT ks} (j i : Nat) (c : Cell), ids.length = (ks.map PK.n).sum → ids[j]? = some i → (cellsU ks y)[j]? = some c → c.live = true → i ∈ keepIds ks ids
  | [], _, _, j, i, c, _, _, h2, _ => by simp [cellsU] at h2
  | .v _ :: ks, ids, y, j, i, c, hl, h1, h2, h3 => keep_live (ks := ks) j i c (by simpa [PK.n] using hl) h1 h2 h3
  | .f _ :: ks, ids, y, j, i, c, hl, h1, h2, h3 => keep_live (ks := ks) j i c (by simpa [PK.n] using hl) h1 h2 h3
  | .z :: ks, ids, y, j, i, c, hl, h1, h2, h3 => keep_live (ks := ks) j i c (by simpa [PK.n] using hl) h1 h2 h3
  | .p d :: ks, ids, y, j, i, c, hl, h1, h2, h3 => by
    simp only [List.map_cons, List.sum_cons, PK.n] at hl
    simp only [keepIds]
    cases j with
    | zero => exact List.mem_append_left _ (List.mem_of_getElem? (i := 0) (by rw [List.getElem?_take_of_lt (by omega)]; exact h1))
    | succ j => exact List.mem_append_right _ (keep_live (ks := ks) (y := y.2) j i c (by simp; omega) (by rw [List.getElem?_drop, Nat.add_comm]; exact h1) (by simpa [cellsU] using h2) h3)
  | .c _ d :: ks, ids, y, j, i, c, hl, h1, h2, h3 => by
    simp only [List.map_cons, List.sum_cons, PK.n] at hl
    simp only [keepIds]
    cases j with
    | zero => exact List.mem_append_left _ (List.mem_of_getElem? (i := 0) (by rw [List.getElem?_take_of_lt (by omega)]; exact h1))
    | succ j => exact List.mem_append_right _ (keep_live (ks := ks) (y := y.2) j i c (by simp; omega) (by rw [List.getElem?_drop, Nat.add_comm]; exact h1) (by simpa [cellsU] using h2) h3)
  | .m d :: ks, ids, y, j, i, c, hl, h1, h2, h3 => by
    simp only [List.map_cons, List.sum_cons, PK.n] at hl
    simp only [keepIds]
    simp only [cellsU] at h2
    by_cases hj : j < d.nsl
    · exact List.mem_append_left _ (List.mem_of_getElem? (i := j) (by rw [List.getElem?_take_of_lt hj]; exact h1))
    · rw [List.getElem?_append_right (by rw [cellsM_length]; omega), cellsM_length] at h2
      exact List.mem_append_right _ (keep_live (ks := ks) (y := y.2) (j - d.nsl) i c (by simp; omega) (by rw [List.getElem?_drop, show d.nsl + (j - d.nsl) = j by omega]; exact h1) h2 h3)
  | .t d :: ks, ids, y, j, i, c, hl, h1, h2, h3 => by
    simp only [List.map_cons, List.sum_cons, PK.n] at hl
    simp only [keepIds]
    simp only [cellsU] at h2
    by_cases hj : j < d.nsl
    · rw [List.getElem?_append_left (by simpa using hj), List.getElem?_replicate, if_pos hj] at h2
      cases h2
      cases h3
    · rw [List.getElem?_append_right (by simp; omega), List.length_replicate] at h2
      exact keep_live (ks := ks) (y := y.2) (j - d.nsl) i c (by simp; omega) (by rw [List.getElem?_drop, show d.nsl + (j - d.nsl) = j by omega]; exact h1) h2 h3
end

end Go.Nu

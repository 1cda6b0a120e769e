/- Nu, part X: a function's contract out of its run over abstract values. -/
import Derived.Test.YtjilffemogdabaaNuV
import Derived.Test.YtjilffemogdabaaNuW
namespace Go.Nu
set_option linter.unusedSimpArgs false
set_option linter.unnecessarySimpa false
set_option linter.unusedVariables false
set_option linter.unusedSectionVars false

/-! ### Arguments under other ids -/
def cellsM : (d : Kd) → d.T → List Cell
  | .sl d, l => [.arr d l]
  | .pr a b, x => cellsM a x.1 ++ cellsM b x.2
  | _, _ => []
theorem cellsM_length : ∀ (d : Kd) (x : d.T), (cellsM d x).length = d.nsl
  | .int _, _ => rfl
  | .bool, _ => rfl
  | .str, _ => rfl
  | .sl _, _ => rfl
  | .pr a b, x => by simp [cellsM, Kd.nsl, cellsM_length a, cellsM_length b]
theorem giveM_zip : ∀ (d : Kd) (x : d.T) (ids : List Nat), ids.length = d.nsl → (giveM d x ids).2 = ids.zip (cellsM d x)
  | .int _, _, ids, h => by simp [giveM, cellsM]
  | .bool, _, ids, h => by simp [giveM, cellsM]
  | .str, _, ids, h => by simp [giveM, cellsM]
  | .sl d, l, ids, h => by
    match ids, h with
    | [id], _ => rfl
  | .pr a b, x, ids, h => by
    simp only [Kd.nsl] at h
    simp only [giveM, cellsM]
    rw [giveM_zip a x.1 _ (by simp; omega), giveM_zip b x.2 _ (by simp; omega)]
    conv => rhs; rw [← List.take_append_drop a.nsl ids]
    rw [List.zip_append (by rw [cellsM_length]; simp; omega)]

def cellsA : (ks : List PK) → ArgT ks → List Cell
  | [], _ => []
  | .v _ :: ks, x => cellsA ks x.2
  | .p d :: ks, x => .box (lv d x.1) :: cellsA ks x.2
  | .m d :: ks, x => cellsM d x.1 ++ cellsA ks x.2
  | .t d :: ks, x => cellsM d x.1 ++ cellsA ks x.2
  | .f _ :: ks, x => cellsA ks x.2
  | .z :: ks, x => cellsA ks x.2
  | .c _ d :: ks, x => .box (lv d x.1) :: cellsA ks x.2
theorem cellsA_length : ∀ (ks : List PK) (x : ArgT ks), (cellsA ks x).length = (ks.map PK.n).sum
  | [], _ => rfl
  | .v _ :: ks, x => by simp [cellsA, PK.n, cellsA_length ks]
  | .p d :: ks, x => by simp [cellsA, PK.n, cellsA_length ks]; omega
  | .m d :: ks, x => by simp [cellsA, PK.n, cellsA_length ks, cellsM_length]
  | .t d :: ks, x => by simp [cellsA, PK.n, cellsA_length ks, cellsM_length]
  | .f _ :: ks, x => by simp [cellsA, PK.n, cellsA_length ks]
  | .z :: ks, x => by simp [cellsA, PK.n, cellsA_length ks]
  | .c _ d :: ks, x => by simp [cellsA, PK.n, cellsA_length ks]; omega
theorem inA_zip : ∀ (ks : List PK) (x : ArgT ks) (ids : List Nat), ids.length = (ks.map PK.n).sum → (inA ks x ids).2 = ids.zip (cellsA ks x)
  | [], _, ids, h => by simp [inA, cellsA]
  | .v _ :: ks, x, ids, h => by simp only [inA, cellsA]; exact inA_zip ks x.2 ids (by simpa [PK.n] using h)
  | .p d :: ks, x, ids, h => by
    match ids, h with
    | [], h => simp [PK.n] at h; omega
    | id :: ids, h =>
      simp only [inA, cellsA, List.headD_cons, List.drop_succ_cons, List.drop_zero, List.zip_cons_cons]
      rw [inA_zip ks x.2 ids (by simp [PK.n] at h; omega)]
  | .m d :: ks, x, ids, h => by
    simp only [List.map_cons, List.sum_cons, PK.n] at h
    simp only [inA, cellsA]
    rw [giveM_zip d x.1 _ (by simp; omega), inA_zip ks x.2 _ (by simp; omega)]
    conv => rhs; rw [← List.take_append_drop d.nsl ids]
    rw [List.zip_append (by rw [cellsM_length]; simp; omega)]
  | .t d :: ks, x, ids, h => by
    simp only [List.map_cons, List.sum_cons, PK.n] at h
    simp only [inA, cellsA]
    rw [giveM_zip d x.1 _ (by simp; omega), inA_zip ks x.2 _ (by simp; omega)]
    conv => rhs; rw [← List.take_append_drop d.nsl ids]
    rw [List.zip_append (by rw [cellsM_length]; simp; omega)]
  | .f _ :: ks, x, ids, h => by simp only [inA, cellsA]; exact inA_zip ks x.2 ids (by simpa [PK.n] using h)
  | .z :: ks, x, ids, h => by simp only [inA, cellsA]; exact inA_zip ks x.2 ids (by simpa [PK.n] using h)
  | .c _ d :: ks, x, ids, h => by
    match ids, h with
    | [], h => simp [PK.n] at h; omega
    | id :: ids, h =>
      simp only [inA, cellsA, List.headD_cons, List.drop_succ_cons, List.drop_zero, List.zip_cons_cons]
      rw [inA_zip ks x.2 ids (by simp [PK.n] at h; omega)]

/-- Two lists of ids lie at the same places. -/
def Same (ρ ρ' : Rho) (ids ids' : List Nat) : Prop := ids.length = ids'.length ∧ ∀ (j i i' : Nat), ids[j]? = some i → ids'[j]? = some i' → ρ i = ρ' i'

theorem Same.take {ρ ρ' : Rho} {ids ids' : List Nat} (h : Same ρ ρ' ids ids') (n : Nat) : Same ρ ρ' (ids.take n) (ids'.take n) := by
  refine ⟨by simp [h.1], fun j i i' h1 h2 => ?_⟩
  rw [List.getElem?_take] at h1 h2
  split at h1
  · rename_i hj
    rw [if_pos hj] at h2
    exact h.2 j i i' h1 h2
  · cases h1
theorem Same.drop {ρ ρ' : Rho} {ids ids' : List Nat} (h : Same ρ ρ' ids ids') (n : Nat) : Same ρ ρ' (ids.drop n) (ids'.drop n) := by
  refine ⟨by simp [h.1], fun j i i' h1 h2 => ?_⟩
  rw [List.getElem?_drop] at h1 h2
  exact h.2 (n + j) i i' h1 h2

section
variable {S : Nat → Prop} {w : World} {ρ ρ' : Rho}
theorem lv_any : ∀ (d : Kd) (x : d.T) {vs : List Value}, All2 (L0 S w ρ) (lv d x) vs → All2 (L0 S w ρ') (lv d x) vs
  | .int _, _, vs, h => by match vs, h with | [v], h => exact ⟨h.1, trivial⟩
  | .bool, _, vs, h => by match vs, h with | [v], h => exact ⟨h.1, trivial⟩
  | .str, _, vs, h => by match vs, h with | [v], h => exact ⟨h.1, trivial⟩
  | .sl _, _, vs, h => by match vs, h with | [v], h => exact ⟨h.1, trivial⟩
  | .pr a b, x, vs, h => by
    have e : ∀ {as bs : List AV} {vs : List Value}, All2 (L0 S w ρ) (as ++ bs) vs → ∃ v1 v2, vs = v1 ++ v2 ∧ All2 (L0 S w ρ) as v1 ∧ All2 (L0 S w ρ) bs v2 := by
      intro as
      induction as with
      | nil => intro bs vs h; exact ⟨[], vs, rfl, trivial, h⟩
      | cons a as ih =>
        intro bs vs h
        match vs, h with
        | v :: vs, h =>
          obtain ⟨v1, v2, e1, e2, e3⟩ := ih h.2
          exact ⟨v :: v1, v2, by rw [e1]; rfl, ⟨h.1, e2⟩, e3⟩
    obtain ⟨v1, v2, rfl, h1, h2⟩ := e h
    exact (lv_any a x.1 h1).append (lv_any b x.2 h2)
theorem opn_any {d : Kd} {x : d.T} {v : Value} (h : L1 S w ρ (opn d x) v) : L1 S w ρ' (opn d x) v := by
  cases d with
  | pr a b => obtain ⟨vs, e, h⟩ := h; exact ⟨vs, e, lv_any (.pr a b) x h⟩
  | _ => exact h
theorem giveM_ren : ∀ (d : Kd) (x : d.T) {ids ids' : List Nat} {vs : List Value}, ids.length = d.nsl → Same ρ ρ' ids ids' → All2 (L0 S w ρ) (giveM d x ids).1 vs → All2 (L0 S w ρ') (giveM d x ids').1 vs
  | .int _, _, _, _, vs, _, _, h => by match vs, h with | [v], h => exact ⟨h.1, trivial⟩
  | .bool, _, _, _, vs, _, _, h => by match vs, h with | [v], h => exact ⟨h.1, trivial⟩
  | .str, _, _, _, vs, _, _, h => by match vs, h with | [v], h => exact ⟨h.1, trivial⟩
  | .sl d, l, ids, ids', vs, hl, hs, h => by
    match ids, ids', hl, hs with
    | [i], [i'], _, hs =>
      match vs, h with
      | [v], h =>
        obtain ⟨⟨o, h1, h2⟩, _⟩ := h
        exact ⟨⟨o, (hs.2 0 i i' rfl rfl).symm.trans h1, h2⟩, trivial⟩
    | [i], [], _, hs => have := hs.1; simp at this
    | [i], _ :: _ :: _, _, hs => have := hs.1; simp at this
  | .pr a b, x, ids, ids', vs, hl, hs, h => by
    simp only [Kd.nsl] at hl
    have e : ∀ {as bs : List AV} {vs : List Value}, All2 (L0 S w ρ) (as ++ bs) vs → ∃ v1 v2, vs = v1 ++ v2 ∧ All2 (L0 S w ρ) as v1 ∧ All2 (L0 S w ρ) bs v2 := by
      intro as
      induction as with
      | nil => intro bs vs h; exact ⟨[], vs, rfl, trivial, h⟩
      | cons a as ih =>
        intro bs vs h
        match vs, h with
        | v :: vs, h =>
          obtain ⟨v1, v2, e1, e2, e3⟩ := ih h.2
          exact ⟨v :: v1, v2, by rw [e1]; rfl, ⟨h.1, e2⟩, e3⟩
    obtain ⟨v1, v2, rfl, h1, h2⟩ := e h
    exact (giveM_ren a x.1 (by simp; omega) (hs.take a.nsl) h1).append (giveM_ren b x.2 (by simp; omega) (hs.drop a.nsl) h2)

theorem inA_ren : ∀ (ks : List PK) (x : ArgT ks) {ids ids' : List Nat} {us : List Value}, ids.length = (ks.map PK.n).sum → Same ρ ρ' ids ids' → All2 (L1 S w ρ) (inA ks x ids).1 us → All2 (L1 S w ρ') (inA ks x ids').1 us
  | [], _, _, _, us, _, _, h => by match us, h with | [], h => trivial
  | .v d :: ks, x, ids, ids', us, hl, hs, h => by
    match us, h with
    | u :: us, h => exact ⟨opn_any h.1, inA_ren ks x.2 (by simpa [PK.n] using hl) hs h.2⟩
  | .p d :: ks, x, ids, ids', us, hl, hs, h => by
    match us, h with
    | u :: us, h =>
      match ids, ids', hl, hs with
      | i :: ids, i' :: ids', hl, hs =>
        refine ⟨?_, inA_ren ks x.2 (by simp [PK.n] at hl; simp; omega) (hs.drop 1) h.2⟩
        obtain ⟨g, len, cap, h1, h2⟩ := h.1
        exact ⟨g, len, cap, (hs.2 0 i i' rfl rfl).symm.trans h1, h2⟩
      | [], _, hl, _ => simp [PK.n] at hl; omega
      | _ :: _, [], _, hs => have := hs.1; simp at this
  | .z :: ks, x, ids, ids', us, hl, hs, h => by
    match us, h with
    | u :: us, h => exact ⟨h.1, inA_ren ks x.2 (by simpa [PK.n] using hl) hs h.2⟩
  | .f g :: ks, x, ids, ids', us, hl, hs, h => by
    match us, h with
    | u :: us, h => exact ⟨clo_nil_rel h.1, inA_ren ks x.2 (by simpa [PK.n] using hl) hs h.2⟩
  | .c g d :: ks, x, ids, ids', us, hl, hs, h => by
    match us, h with
    | u :: us, h =>
      match ids, ids', hl, hs with
      | i :: ids, i' :: ids', hl, hs =>
        refine ⟨?_, inA_ren ks x.2 (by simp [PK.n] at hl; simp; omega) (hs.drop 1) h.2⟩
        exact clo_ptr_rel (fun o h1 => (hs.2 0 i i' rfl rfl).symm.trans h1) h.1
      | [], _, hl, _ => simp [PK.n] at hl; omega
      | _ :: _, [], _, hs => have := hs.1; simp at this
  | .t d :: ks, x, ids, ids', us, hl, hs, h => by
    simp only [List.map_cons, List.sum_cons, PK.n] at hl
    match us, h with
    | u :: us, h =>
      refine ⟨?_, inA_ren ks x.2 (by simp; omega) (hs.drop d.nsl) h.2⟩
      have h1 : L1 S w ρ (wrapM d (giveM d x.1 (ids.take d.nsl)).1) u := h.1
      show L1 S w ρ' (wrapM d (giveM d x.1 (ids'.take d.nsl)).1) u
      have hs' := hs.take d.nsl
      have hl' : (ids.take d.nsl).length = d.nsl := by simp; omega
      generalize ids.take d.nsl = js at *
      generalize ids'.take d.nsl = js' at *
      cases d with
      | pr a b =>
        obtain ⟨vs, e, h1⟩ := h1
        exact ⟨vs, e, giveM_ren (.pr a b) x.1 hl' hs' h1⟩
      | sl d =>
        match js, js', hl', hs' with
        | [i], [i'], _, hs' =>
          obtain ⟨o, h2, h3⟩ := h1
          exact ⟨o, (hs'.2 0 i i' rfl rfl).symm.trans h2, h3⟩
        | [i], [], _, hs => have := hs.1; simp at this
        | [i], _ :: _ :: _, _, hs => have := hs.1; simp at this
      | _ => exact h1
  | .m d :: ks, x, ids, ids', us, hl, hs, h => by
    simp only [List.map_cons, List.sum_cons, PK.n] at hl
    match us, h with
    | u :: us, h =>
      refine ⟨?_, inA_ren ks x.2 (by simp; omega) (hs.drop d.nsl) h.2⟩
      have h1 : L1 S w ρ (wrapM d (giveM d x.1 (ids.take d.nsl)).1) u := h.1
      show L1 S w ρ' (wrapM d (giveM d x.1 (ids'.take d.nsl)).1) u
      have hs' := hs.take d.nsl
      have hl' : (ids.take d.nsl).length = d.nsl := by simp; omega
      generalize ids.take d.nsl = js at *
      generalize ids'.take d.nsl = js' at *
      cases d with
      | pr a b =>
        obtain ⟨vs, e, h1⟩ := h1
        exact ⟨vs, e, giveM_ren (.pr a b) x.1 hl' hs' h1⟩
      | sl d =>
        match js, js', hl', hs' with
        | [i], [i'], _, hs' =>
          obtain ⟨o, h2, h3⟩ := h1
          exact ⟨o, (hs'.2 0 i i' rfl rfl).symm.trans h2, h3⟩
        | [i], [], _, hs => have := hs.1; simp at this
        | [i], _ :: _ :: _, _, hs => have := hs.1; simp at this
      | _ => exact h1
end

/-! ### Results -/
def locOf (ρ : Rho) : Src0 → Option Loc
  | .nil => some .nil
  | .whole id => ρ id
  | .pre id n => (ρ id).map fun o => match o with
    | .nil => .nil
    | .at g _ cap => .at g n cap

theorem distinct_nodup : ∀ {xs : List Nat}, distinct xs = true → xs.Nodup
  | [], _ => List.nodup_nil
  | x :: xs, h => by
    simp only [distinct, Bool.and_eq_true] at h
    rw [List.nodup_cons]
    refine ⟨fun hx => ?_, distinct_nodup h.2⟩
    have := List.all_eq_true.1 h.1 x hx
    simp at this

section
variable {S : Nat → Prop} {w : World} {ρ ρ' : Rho} {h : Store}

theorem All2.split {α β : Type} {R : α → β → Prop} : ∀ {as bs : List α} {vs : List β}, All2 R (as ++ bs) vs → ∃ v1 v2, vs = v1 ++ v2 ∧ All2 R as v1 ∧ All2 R bs v2
  | [], bs, vs, h => ⟨[], vs, rfl, trivial, h⟩
  | a :: as, bs, v :: vs, h => by
    obtain ⟨v1, v2, e1, e2, e3⟩ := All2.split (as := as) h.2
    exact ⟨v :: v1, v2, by rw [e1]; rfl, ⟨h.1, e2⟩, e3⟩
  | _ :: _, _, [], h => h.elim

/-- What is told of a value whose slices are given up. -/
theorem takeO_rel (H : HRel S w ρ h) : ∀ {d : Kd} {cs : List AV} {x : d.T} {srcs : List Src0} {vs : List Value}, takeO h d cs = some (x, srcs) → All2 (L0 S w ρ) cs vs →
    srcs.length = d.nsl ∧ (∀ s ∈ srcs, ∀ id ∈ srcIds s, (h.get id).live = true) ∧ ∀ (ρ' : Rho) (ids : List Nat), ids.length = d.nsl → (∀ (j i : Nat) s, ids[j]? = some i → srcs[j]? = some s → ρ' i = locOf ρ s) →
      All2 (L0 S w ρ') (giveM d x ids).1 vs ∧ ∀ (j i : Nat) c, ids[j]? = some i → (cellsM d x)[j]? = some c → BRel S w ρ' i c := by
  have scal : ∀ {d : Kd} {cs : List AV} {x : d.T} {vs : List Value}, ofLv h d cs = some x → All2 (L0 S w ρ) cs vs → d.flat = true → ∀ ρ', All2 (L0 S w ρ') (lv d x) vs := by
    intro d cs x vs e l hf ρ'
    exact lv_rep ((ofLv_rep H e l).of_flat hf)
  intro d
  induction d with
  | int k =>
    intro cs x srcs vs e l
    simp only [takeO, Option.map_eq_some_iff] at e
    obtain ⟨y, e, e2⟩ := e
    cases e2
    exact ⟨rfl, fun s hs => by simp at hs, fun ρ' ids _ _ => ⟨scal e l rfl ρ', fun j i c _ hc => by simp [cellsM] at hc⟩⟩
  | bool =>
    intro cs x srcs vs e l
    simp only [takeO, Option.map_eq_some_iff] at e
    obtain ⟨y, e, e2⟩ := e
    cases e2
    exact ⟨rfl, fun s hs => by simp at hs, fun ρ' ids _ _ => ⟨scal e l rfl ρ', fun j i c _ hc => by simp [cellsM] at hc⟩⟩
  | str =>
    intro cs x srcs vs e l
    simp only [takeO, Option.map_eq_some_iff] at e
    obtain ⟨y, e, e2⟩ := e
    cases e2
    exact ⟨rfl, fun s hs => by simp at hs, fun ρ' ids _ _ => ⟨scal e l rfl ρ', fun j i c _ hc => by simp [cellsM] at hc⟩⟩
  | sl d _ =>
    intro cs x srcs vs e l
    have cell1 : ∀ {x : List d.T} {ids : List Nat} {j i : Nat} {c : Cell}, ids[j]? = some i → (cellsM (.sl d) x)[j]? = some c → ids.length = 1 → j = 0 ∧ c = .arr d x ∧ ids = [i] := by
      intro x ids j i c h1 h2 h3
      match ids, h3 with
      | [i0], _ =>
        have hj : j = 0 := by
          have := (List.getElem?_eq_some_iff.1 h1).1
          simp at this; exact this
        subst hj
        simp at h1
        simp [cellsM] at h2
        exact ⟨rfl, h2.symm, by rw [h1]⟩
    match cs, vs, e, l with
    | [.osl id], [v], e, l =>
      simp only [takeO] at e
      split at e
      case h_2 => cases e
      rename_i d' l' hg
      simp only [Option.map_eq_some_iff] at e
      obtain ⟨y, e, e2⟩ := e
      obtain ⟨rfl, rfl⟩ := cast_some e
      cases e2
      refine ⟨rfl, fun s hs id' hi => ?_, fun ρ' ids hl hr => ?_⟩
      · simp only [List.mem_singleton] at hs; subst hs
        simp only [srcIds, List.mem_singleton] at hi; subst hi
        rw [hg]; rfl
      · match ids, hl with
        | [i0], _ =>
          have h0 : ρ' i0 = ρ id := hr 0 i0 _ rfl rfl
          obtain ⟨o, h1, h2⟩ := l.1
          refine ⟨⟨⟨o, h0.trans h1, h2⟩, trivial⟩, fun j i c k1 k2 => ?_⟩
          obtain ⟨rfl, rfl, e3⟩ := cell1 k1 k2 rfl
          cases e3
          have hB := H.blk id
          rw [hg] at hB
          rcases hB with ⟨b1, b2⟩ | ⟨g, cap, vs, t, b1, b2⟩
          · exact .inl ⟨h0.trans b1, b2⟩
          · exact .inr ⟨g, cap, vs, t, h0.trans b1, b2⟩
    | [.vsl id sz lo n], [v], e, l =>
      simp only [takeO] at e
      split at e
      case h_2 => cases e
      rename_i d' l' hg
      simp only [Option.map_eq_some_iff] at e
      obtain ⟨y, e, e2⟩ := e
      obtain ⟨rfl, rfl⟩ := cast_some e
      cases e2
      refine ⟨rfl, fun s hs id' hi => ?_, fun ρ' ids hl hr => ?_⟩
      · simp only [List.mem_singleton] at hs; subst hs
        simp only [srcIds, List.mem_singleton] at hi; subst hi
        rw [hg]; rfl
      · match ids, hl with
        | [i0], _ =>
          have h0 := hr 0 i0 _ rfl rfl
          obtain ⟨o, h1, h2, h3⟩ := l.1
          simp only [locOf, h1, Option.map_some] at h0
          rcases arr_at H hg with ⟨b1, b2⟩ | ⟨g, cap, vs, t, b1, b2, b3, b4, b5, _⟩
          · rw [h1] at b1
            cases b1
            simp only [Loc.isSub] at h2
            subst b2
            refine ⟨⟨⟨.nil, h0, h2⟩, trivial⟩, fun j i c k1 k2 => ?_⟩
            obtain ⟨rfl, rfl, e3⟩ := cell1 k1 k2 rfl
            cases e3
            exact .inl ⟨h0, by simp⟩
          · rw [h1] at b1
            cases b1
            obtain ⟨bb, cc, rfl, c1, c2, c3⟩ := h2
            obtain ⟨rfl, rfl⟩ := c2 rfl
            simp only [Loc.len, Nat.zero_add] at h3
            refine ⟨⟨⟨.at g n cc, h0, rfl⟩, trivial⟩, fun j i c k1 k2 => ?_⟩
            obtain ⟨rfl, rfl, e3⟩ := cell1 k1 k2 rfl
            cases e3
            have hln : (y.take n).length = n := by simp; omega
            refine .inr ⟨g, cc, vs, t, by rw [hln]; exact h0, b2, by omega, b4, fun q hq => ?_⟩
            rw [hln] at hq
            have := b5 q (by omega)
            simpa [part] using this
    | [.nils], [v], e, l =>
      simp only [takeO, Option.some.injEq] at e
      cases e
      refine ⟨rfl, fun s hs id' hi => ?_, fun ρ' ids hl hr => ?_⟩
      · simp only [List.mem_singleton] at hs; subst hs; cases hi
      · match ids, hl with
        | [i0], _ =>
          have h0 : ρ' i0 = some .nil := hr 0 i0 _ rfl rfl
          have hl1 := l.1
          simp only [L0] at hl1
          refine ⟨⟨⟨.nil, h0, hl1⟩, trivial⟩, fun j i c k1 k2 => ?_⟩
          obtain ⟨rfl, rfl, e3⟩ := cell1 k1 k2 rfl
          cases e3
          exact .inl ⟨h0, rfl⟩
  | pr a b iha ihb =>
    intro cs x srcs vs e l
    simp only [takeO, Option.bind_eq_some_iff] at e
    obtain ⟨⟨y, s1⟩, ey, ⟨z, s2⟩, ez, e⟩ := e
    cases e
    obtain ⟨a1, a2, a3⟩ := iha ey (l.take a.sz)
    obtain ⟨b1, b2, b3⟩ := ihb ez (l.drop a.sz)
    refine ⟨by simp [a1, b1, Kd.nsl], fun s hs => ?_, fun ρ' ids hl hr => ?_⟩
    · rcases List.mem_append.1 hs with hs | hs
      · exact a2 s hs
      · exact b2 s hs
    · simp only [Kd.nsl] at hl
      obtain ⟨c1, c2⟩ := a3 ρ' (ids.take a.nsl) (by simp; omega) fun j i s h1 h2 => by
        have hj : j < a.nsl := by rw [← a1]; exact (List.getElem?_eq_some_iff.1 h2).1
        rw [List.getElem?_take_of_lt hj] at h1
        exact hr j i s h1 (by rw [List.getElem?_append_left (by rw [a1]; exact hj)]; exact h2)
      obtain ⟨d1, d2⟩ := b3 ρ' (ids.drop a.nsl) (by simp; omega) fun j i s h1 h2 => by
        rw [List.getElem?_drop] at h1
        exact hr (a.nsl + j) i s h1 (by rw [List.getElem?_append_right (show s1.length ≤ a.nsl + j by omega), show a.nsl + j - s1.length = j by omega]; exact h2)
      refine ⟨?_, fun j i c h1 h2 => ?_⟩
      · have := c1.append d1
        rw [List.take_append_drop] at this
        exact this
      · simp only [cellsM] at h2
        by_cases hj : j < a.nsl
        · rw [List.getElem?_append_left (by rw [cellsM_length]; exact hj)] at h2
          exact c2 j i c (by rw [List.getElem?_take_of_lt hj]; exact h1) h2
        · rw [List.getElem?_append_right (by rw [cellsM_length]; omega), cellsM_length] at h2
          exact d2 (j - a.nsl) i c (by rw [List.getElem?_drop, show a.nsl + (j - a.nsl) = j by omega]; exact h1) h2

end

end Go.Nu

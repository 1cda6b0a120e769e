/- Nu, part D: what is read. -/
import Derived.Test.YtjilffemogdabaaNuC
namespace Go.Nu

theorem Kd.sz_pos : ∀ d : Kd, 0 < d.sz
  | .int _ => by simp [Kd.sz]
  | .bool => by simp [Kd.sz]
  | .str => by simp [Kd.sz]
  | .sl _ => by simp [Kd.sz]
  | .pr a b => by have := a.sz_pos; simp [Kd.sz]; omega

theorem lv_length : ∀ (d : Kd) (x : d.T), (lv d x).length = d.sz
  | .int _, _ => rfl
  | .bool, _ => rfl
  | .str, _ => rfl
  | .sl _, _ => rfl
  | .pr a b, x => by simp [lv, Kd.sz, lv_length a, lv_length b]

theorem lv_rep {S : Nat → Prop} {w : World} {ρ : Rho} : ∀ {d : Kd} {x : d.T} {cs : List Value}, Rep S w d x cs → All2 (L0 S w ρ) (lv d x) cs
  | .int _, _, _, h => by simp only [Rep] at h; subst h; exact ⟨rfl, trivial⟩
  | .bool, _, _, h => by simp only [Rep] at h; subst h; exact ⟨rfl, trivial⟩
  | .str, _, _, h => by simp only [Rep] at h; subst h; exact ⟨rfl, trivial⟩
  | .sl d, l, _, h => by
    obtain ⟨A, c, rfl, h2⟩ := h
    exact ⟨⟨A, c, rfl, h2⟩, trivial⟩
  | .pr a b, x, _, h => by
    obtain ⟨c1, c2, rfl, h1, h2⟩ := h
    exact (lv_rep h1).append (lv_rep h2)

/-- A block's cells from o on. -/
theorem cells_blk {w : World} {g : Nat} {vs : Array Value} {t : TypeId} {fz : Nat × Nat} (h : w.heap[g]? = some (.cells vs t fz)) (o n : Nat) : cellsAt w ⟨g, o, none⟩ (part vs.toList o n) := by
  intro j hj
  simp only [part, List.length_take, List.length_drop] at hj
  simp only [plus, World.cell?, h, part]
  rw [List.getElem?_take_of_lt (by omega), List.getElem?_drop, Array.getElem?_toList]
  rfl

theorem part_part {α : Type} (l : List α) (a n b m : Nat) (h : b + m ≤ n) : part (part l a n) b m = part l (a + b) m := by
  apply List.ext_getElem?
  intro i
  simp only [part, List.getElem?_take, List.getElem?_drop]
  by_cases hi : i < m
  · simp [hi, show b + i < n by omega, Nat.add_assoc]
  · simp [hi]

/-- The blocks of a list of ids. -/
def Blks (ρ : Rho) (h : Store) (ids : List Nat) (b : Nat) : Prop := ∃ id, id ∈ ids ∧ Blk ρ h id b

theorem cast_some {d d' : Kd} {l : List d.T} {l' : List d'.T} (h : cast d d' l = some l') : ∃ e : d = d', l' = e ▸ l := by
  unfold cast at h
  split at h
  · rename_i e; exact ⟨e, by simpa using h.symm⟩
  · cases h

theorem arr_at {S : Nat → Prop} {w : World} {ρ : Rho} {h : Store} {id : Nat} {d : Kd} {l : List d.T} (H : HRel S w ρ h) (hg : h.get id = .arr d l) :
    (ρ id = some .nil ∧ l = []) ∨ ∃ g cap vs t, ρ id = some (.at g l.length cap) ∧ w.heap[g]? = some (.cells vs t (0, 0)) ∧
      l.length ≤ cap ∧ vs.size = cap * d.sz ∧ (∀ i (hi : i < l.length), Rep S w d l[i] (part vs.toList (i * d.sz) d.sz)) ∧ Blk ρ h id g := by
  have hb := H.blk id
  rw [hg] at hb
  rcases hb with h1 | ⟨g, cap, vs, t, h1, h2, h3, h4, h5⟩
  · exact .inl h1
  · exact .inr ⟨g, cap, vs, t, h1, h2, h3, h4, h5, ⟨_, _, hg⟩, _, _, h1⟩

theorem rdSl_rep {S : Nat → Prop} {w : World} {ρ : Rho} {h : Store} {d : Kd} {v : AV} {l : List d.T} {val : Value} (H : HRel S w ρ h)
    (hr : rdSl h d v = some l) (hv : L0 S w ρ v val) : Rep (fun b => S b ∨ Blks ρ h (ids0 v) b) w (.sl d) l [val] := by
  cases v with
  | rsl d' l' =>
    obtain ⟨rfl, rfl⟩ := cast_some hr
    exact Rep.mono (fun _ hb => .inl hb) (fun _ _ => rfl) hv
  | nils =>
    simp only [rdSl, Option.some.injEq] at hr
    subst hr
    simp only [L0] at hv
    subst hv
    exact ⟨none, 0, rfl, Nat.le_refl _, .inl rfl⟩
  | osl id =>
    simp only [rdSl] at hr
    split at hr
    · rename_i d' l' hg
      obtain ⟨rfl, rfl⟩ := cast_some hr
      obtain ⟨o, ho, rfl⟩ := hv
      rcases arr_at H hg with ⟨h1, rfl⟩ | ⟨g, cap, vs, t, h1, h2, h3, h4, h5, h6⟩
      · rw [ho] at h1; cases h1
        exact ⟨none, 0, rfl, Nat.le_refl _, .inl rfl⟩
      · rw [ho] at h1; cases h1
        refine ⟨some ⟨g, 0, none⟩, cap, rfl, h3, .inr ⟨⟨g, 0, none⟩, rfl, rfl, .inr ⟨id, by simp [ids0], h6⟩, fun i hi => ⟨part vs.toList (i * d'.sz) d'.sz, ?_, ?_⟩⟩⟩
        · have := cells_blk h2 (i * d'.sz) d'.sz
          simpa [plus] using this
        · exact (h5 i hi).mono (fun _ hb => .inl hb) (fun _ _ => rfl)
    · cases hr
  | vsl id sz lo n =>
    simp only [rdSl] at hr
    split at hr
    · rename_i d' l' hg
      split at hr
      · rename_i hsz
        have hsz := Nat.eq_of_beq_eq_true hsz
        rw [Option.map_eq_some_iff] at hr
        obtain ⟨l1, hc, rfl⟩ := hr
        obtain ⟨rfl, rfl⟩ := cast_some hc
        obtain ⟨o, ho, hv, hle⟩ := hv
        rcases arr_at H hg with ⟨h1, rfl⟩ | ⟨g, cap, vs, t, h1, h2, h3, h4, h5, h6⟩
        · rw [ho] at h1; cases h1
          simp only [Loc.isSub] at hv
          subst hv
          have e : part ([] : List d'.T) lo n = [] := by simp [part]
          exact ⟨none, 0, by simp [part], by simp [part], .inl e⟩
        · rw [ho] at h1; cases h1
          obtain ⟨b, c, rfl, hnc, _, hb⟩ := hv
          simp only [Loc.len] at hle
          have hlen : (part l1 lo n).length = n := by simp [part]; omega
          refine ⟨some ⟨g, b, none⟩, c, by rw [hlen], by rw [hlen]; exact hnc, ?_⟩
          by_cases hn : n = 0
          · left; exact List.eq_nil_of_length_eq_zero (by rw [hlen]; exact hn)
          · right
            refine ⟨⟨g, b, none⟩, rfl, rfl, .inr ⟨id, by simp [ids0], h6⟩, fun i hi => ⟨part vs.toList ((lo + i) * d'.sz) d'.sz, ?_, ?_⟩⟩
            · have := cells_blk h2 ((lo + i) * d'.sz) d'.sz
              rw [hb hn, hsz]
              simpa [plus, Nat.add_mul] using this
            · rw [hlen] at hi
              have hi' : lo + i < l1.length := by omega
              have e : (part l1 lo n)[i]'(by rw [hlen]; exact hi) = l1[lo + i] := by simp [part]
              have := (h5 (lo + i) hi').mono (S' := fun b => S b ∨ Blks ρ h (ids0 (.vsl id sz lo n)) b) (fun _ hb => .inl hb) (fun _ _ => rfl)
              show Rep _ w d' ((part l1 lo n)[i]'(by rw [hlen]; exact hi)) _
              rw [e]
              exact this
      · cases hr
    · cases hr
  | _ => cases hr

theorem ids0_sub {cs : List AV} {v : AV} (h : v ∈ cs) {id : Nat} (hi : id ∈ ids0 v) : id ∈ cs.flatMap ids0 := List.mem_flatMap.2 ⟨v, h, hi⟩

theorem Rep.wider {S S' : Nat → Prop} {w : World} {d : Kd} {x : d.T} {cs : List Value} (h : Rep S w d x cs) (hS : ∀ b, S b → S' b) : Rep S' w d x cs := h.mono hS (fun _ _ => rfl)

theorem castI_some {k k' : IntKind} {n x : Int} (h : castI k k' n = some x) : k = k' ∧ x = n := by
  unfold castI at h
  split at h
  · rename_i e; exact ⟨e, by simpa using h.symm⟩
  · cases h

theorem ofLv_rep {S : Nat → Prop} {w : World} {ρ : Rho} {h : Store} (H : HRel S w ρ h) : ∀ {d : Kd} {cs : List AV} {x : d.T} {vs : List Value},
    ofLv h d cs = some x → All2 (L0 S w ρ) cs vs → Rep (fun b => S b ∨ Blks ρ h (cs.flatMap ids0) b) w d x vs := by
  intro d
  induction d with
  | int k =>
    intro cs x vs hx hv
    match cs, vs, hx, hv with
    | [.int k' n], [v], hx, hv =>
      obtain ⟨rfl, rfl⟩ := castI_some hx
      have := hv.1
      simp only [L0] at this
      subst this
      rfl
  | bool =>
    intro cs x vs hx hv
    match cs, vs, hx, hv with
    | [.bool b], [v], hx, hv =>
      simp only [ofLv, Option.some.injEq] at hx
      subst hx
      have := hv.1
      simp only [L0] at this
      subst this
      rfl
  | str =>
    intro cs x vs hx hv
    match cs, vs, hx, hv with
    | [.str b], [v], hx, hv =>
      simp only [ofLv, Option.some.injEq] at hx
      subst hx
      have := hv.1
      simp only [L0] at this
      subst this
      rfl
  | sl d _ =>
    intro cs x vs hx hv
    match cs, vs, hx, hv with
    | [a], [v], hx, hv =>
      simp only [ofLv] at hx
      refine (rdSl_rep H hx hv.1).wider fun b hb => hb.imp (fun x => x) ?_
      rintro ⟨id, hi, hk⟩
      exact ⟨id, by simpa using hi, hk⟩
  | pr a b iha ihb =>
    intro cs x vs hx hv
    simp only [ofLv, Option.bind_eq_some_iff] at hx
    obtain ⟨y, hy, z, hz, e⟩ := hx
    cases e
    have h1 := iha hy (hv.take a.sz)
    have h2 := ihb hz (hv.drop a.sz)
    refine ⟨vs.take a.sz, vs.drop a.sz, (List.take_append_drop _ _).symm, h1.wider ?_, h2.wider ?_⟩
    · intro b hb
      refine hb.imp (fun x => x) ?_
      rintro ⟨id, hi, hk⟩
      obtain ⟨v, hv, hi⟩ := List.mem_flatMap.1 hi
      exact ⟨id, ids0_sub (List.mem_of_mem_take hv) hi, hk⟩
    · intro b hb
      refine hb.imp (fun x => x) ?_
      rintro ⟨id, hi, hk⟩
      obtain ⟨v, hv, hi⟩ := List.mem_flatMap.1 hi
      exact ⟨id, ids0_sub (List.mem_of_mem_drop hv) hi, hk⟩

end Go.Nu

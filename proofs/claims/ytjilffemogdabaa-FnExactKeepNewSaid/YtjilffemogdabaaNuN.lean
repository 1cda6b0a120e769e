/- Nu, part N: calls of what has a contract. -/
import Derived.Test.YtjilffemogdabaaNuM
namespace Go.Nu
set_option linter.unusedSimpArgs false
set_option linter.unnecessarySimpa false
set_option linter.unusedVariables false
set_option linter.unusedSectionVars false

/-- The call does what is told. -/
def Good (P : Program) (f : FuncId) (vs : List AV) (σ : Store) (b : Nat) (r : Res) : Prop :=
  ∀ S w ρ us, HRel S w ρ σ → All2 (L1 S w ρ) vs us → (∀ id, b ≤ id → id < b + 64 → ρ id = none) →
    Calls P f us.toArray w fun e w' => ∃ v, e = .returned v ∧ Post S w ρ σ b r v w'

structure Ctr.ok (P : Program) (f : FuncId) (c : Ctr) : Prop where
  code : ∃ fn, P.funcs[f]? = some fn ∧ (fn.name == "runtime.NumGoroutine") = false ∧ fn.body.isNone = false
  good : ∀ x r, c.F x = some r → ∀ b ids, distinct ids = true → (∀ id ∈ ids, id < b ∨ b + 64 ≤ id) → ids.length = (c.pk.map PK.n).sum → Good P f (inA c.pk x ids).1 (inA c.pk x ids).2 b (c.out r b ids)

/-! ### What does not hang on the world -/
def nr0 : AV → Bool
  | .rsl _ _ => false
  | .rptr _ _ _ => false
  | .agg _ => false
  | .clo _ _ => false
  | .tup _ => false
  | _ => true
def nrCell : Cell → Bool
  | .box cs => cs.all nr0
  | .arr d l => d.flat || List.isEmpty l
  | _ => true

theorem L0.nr {S S' : Nat → Prop} {w w' : World} {ρ : Rho} {a : AV} {v : Value} (h : nr0 a = true) (l : L0 S w ρ a v) : L0 S' w' ρ a v := by
  cases a <;> first | (cases h; done) | exact l
theorem L0s.nr {S S' : Nat → Prop} {w w' : World} {ρ : Rho} : ∀ {as : List AV} {vs : List Value}, as.all nr0 = true → All2 (L0 S w ρ) as vs → All2 (L0 S' w' ρ) as vs
  | [], [], _, _ => trivial
  | a :: as, v :: vs, h, l => by
    simp only [List.all_cons, Bool.and_eq_true] at h
    exact ⟨l.1.nr h.1, L0s.nr h.2 l.2⟩
  | [], _ :: _, _, l => l.elim
  | _ :: _, [], _, l => l.elim
theorem BRel.nr {S S' : Nat → Prop} {w : World} {ρ : Rho} {id : Nat} {c : Cell} (h : nrCell c = true) (l : BRel S w ρ id c) : BRel S' w ρ id c := by
  cases c with
  | box cs => obtain ⟨g, len, cap, vs, t, h1, h2, h3⟩ := l; exact ⟨g, len, cap, vs, t, h1, h2, L0s.nr h h3⟩
  | arr d l0 =>
    rcases l with l | ⟨g, cap, vs, t, h1, h2, h3, h4, h5⟩
    · exact .inl l
    · refine .inr ⟨g, cap, vs, t, h1, h2, h3, h4, fun i hi => ?_⟩
      simp only [nrCell, Bool.or_eq_true, List.isEmpty_iff] at h
      rcases h with h | h
      · exact (h5 i hi).of_flat h
      · subst h
        simp at hi
  | _ => trivial

/-! ### A step in a part of the store is a step in the whole -/
theorem get_append (ws σ : Store) (id : Nat) : Store.get (ws ++ σ) id = match ws.any (fun p => Nat.beq p.1 id) with
    | true => ws.get id
    | false => σ.get id := by
  induction ws with
  | nil => rfl
  | cons p ws ih =>
    obtain ⟨k, c⟩ := p
    simp only [List.cons_append, Store.get, List.any_cons]
    cases hb : Nat.beq k id with
    | true => rfl
    | false => simpa using ih

theorem frame_part {S Sc S1 S' : Nat → Prop} {w w' : World} {ρ ρ' : Rho} {h σp ws : Store} (H : HRel S w ρ h)
    (hsub : ∀ id, (σp.get id).live = true → (h.get id).live = true) (hws : ∀ id, (σp.get id).live = true → ws.any (fun p => Nat.beq p.1 id) = true ∨ σp.get id = h.get id)
    (E : Ext Sc w ρ σp S1 w' ρ' (ws ++ σp)) (K : HRel S1 w' ρ' (ws ++ σp))
    (s1 : ∀ b, S b → S' b) (s2 : ∀ b, S' b → S b ∨ w.heap.size ≤ b ∨ Own ρ σp b) (s3 : ∀ id, ws.any (fun p => Nat.beq p.1 id) = true ∨ (σp.get id).live = true → BRel S' w' ρ' id (Store.get (ws ++ σp) id))
    (s4 : ∀ b, S' b → ¬ Own ρ' (ws ++ σp) b) (s5 : ∀ b, S' b → b < w'.heap.size) : Ext S w ρ h S' w' ρ' (ws ++ h) ∧ HRel S' w' ρ' (ws ++ h) := by
  have hown : ∀ bb, Own ρ σp bb → Own ρ h bb := fun bb ⟨id, len, cap, hl, hr⟩ => ⟨id, len, cap, hsub id hl, hr⟩
  have hold : ∀ id, ws.any (fun p => Nat.beq p.1 id) = false → Store.get (ws ++ h) id = h.get id ∧ Store.get (ws ++ σp) id = σp.get id := fun id hf => by rw [get_append, get_append, hf]; exact ⟨rfl, rfl⟩
  have hnew : ∀ id, ws.any (fun p => Nat.beq p.1 id) = true → Store.get (ws ++ h) id = ws.get id ∧ Store.get (ws ++ σp) id = ws.get id := fun id hf => by rw [get_append, get_append, hf]; exact ⟨rfl, rfl⟩
  have hrho : ∀ id g l c, (h.get id).live = true → ρ' id = some (.at g l c) → ρ id = some (.at g l c) := by
    intro id g l c hl hr
    obtain ⟨o, ho⟩ := live_of_own H hl
    have := E.rho _ _ ho
    rw [hr] at this
    cases this
    exact ho
  -- an id of the whole: of the part, or far from it
  have hcase : ∀ id, (Store.get (ws ++ h) id).live = true → ((Store.get (ws ++ σp) id).live = true ∧ Store.get (ws ++ σp) id = Store.get (ws ++ h) id) ∨ ((h.get id).live = true ∧ Store.get (ws ++ h) id = h.get id ∧ (σp.get id).live = false) := by
    intro id hl
    cases hb : ws.any (fun p => Nat.beq p.1 id) with
    | true =>
      obtain ⟨e1, e2⟩ := hnew id hb
      exact .inl ⟨by rw [e2, ← e1]; exact hl, by rw [e1, e2]⟩
    | false =>
      obtain ⟨e1, e2⟩ := hold id hb
      rw [e1] at hl
      cases hp : (σp.get id).live with
      | true =>
        rcases hws id hp with h1 | h1
        · rw [hb] at h1; cases h1
        · exact .inl ⟨by rw [e2]; exact hp, by rw [e1, e2, h1]⟩
      | false => exact .inr ⟨hl, e1, rfl⟩
  have hfar : ∀ id g l c, (h.get id).live = true → (σp.get id).live = false → ρ id = some (.at g l c) → ¬ Own ρ σp g := by
    rintro id g l c hl hp hr ⟨id', l', c', hl', hr'⟩
    have := H.inj id id' g l c l' c' hl (hsub _ hl') hr hr'
    subst this
    rw [hp] at hl'
    cases hl'
  have hownn : ∀ bb, Own ρ' (ws ++ h) bb → Own ρ' (ws ++ σp) bb ∨ (Own ρ h bb ∧ ¬ Own ρ σp bb) := by
    rintro bb ⟨id, l, c, hl, hr⟩
    rcases hcase id hl with ⟨h1, h2⟩ | ⟨h1, h2, h3⟩
    · exact .inl ⟨id, l, c, h1, hr⟩
    · have hr' := hrho id bb l c h1 hr
      exact .inr ⟨⟨id, l, c, h1, hr'⟩, hfar id bb l c h1 h3 hr'⟩
  have hgr := E.grow
  refine ⟨⟨E.rho, s1, fun bb hb hn => E.keep bb hb (fun ho => hn (hown bb ho)), E.grow, fun bb hb => (s2 bb hb).imp (fun x => x) (fun h => h.imp (fun x => x) (hown bb)), fun bb hb => ?_, E.os, E.tape, E.output⟩,
    ⟨s5, fun id => ?_, fun bb hb ho => ?_, ?_⟩⟩
  · rcases hownn bb hb with ho | ho
    · exact (E.onew bb ho).imp (fun x => x) (hown bb)
    · exact .inr ho.1
  · cases hb : ws.any (fun p => Nat.beq p.1 id) with
    | true =>
      obtain ⟨e1, e2⟩ := hnew id hb
      rw [e1, ← e2]; exact s3 id (.inl hb)
    | false =>
      obtain ⟨e1, e2⟩ := hold id hb
      cases hp : (σp.get id).live with
      | true =>
        have h3 := s3 id (.inr hp)
        rcases hws id hp with h1 | h1
        · rw [hb] at h1; cases h1
        · rw [e2, h1, ← e1] at h3; exact h3
      | false =>
        rw [e1]
        exact BRel.move s1 (fun bb hbb => E.keep bb (H.inS bb hbb) (fun ho => H.sep bb hbb (hown bb ho))) E.rho (fun g l c hl hr => E.keep g (own_lt H ⟨id, l, c, hl, hr⟩) (hfar id g l c hl hp hr)) (H.blk id)
  · rcases hownn bb ho with ho | ⟨ho, hno⟩
    · exact s4 bb hb ho
    · rcases s2 bb hb with h1 | h1 | h1
      · exact H.sep bb h1 ho
      · have := own_lt H ho; omega
      · exact hno h1
  · intro i j g l c l' c' hi hj ri rj
    rcases hcase i hi with ⟨a1, a2⟩ | ⟨a1, a2, a3⟩ <;> rcases hcase j hj with ⟨b1, b2⟩ | ⟨b1, b2, b3⟩
    · exact K.inj i j g l c l' c' a1 b1 ri rj
    · have rj' := hrho j g l' c' b1 rj
      exfalso
      rcases E.onew g ⟨i, l, c, a1, ri⟩ with h1 | h1
      · have := own_lt H ⟨j, l', c', b1, rj'⟩; omega
      · exact hfar j g l' c' b1 b3 rj' h1
    · have ri' := hrho i g l c a1 ri
      exfalso
      rcases E.onew g ⟨j, l', c', b1, rj⟩ with h1 | h1
      · have := own_lt H ⟨i, l, c, a1, ri'⟩; omega
      · exact hfar i g l c a1 a3 ri' h1
    · exact H.inj i j g l c l' c' a1 b1 (hrho i g l c a1 ri) (hrho j g l' c' b1 rj)

/-! ### Arguments -/
theorem L1.agg {S : Nat → Prop} {w : World} {ρ : Rho} {cs : List AV} {v : Value} (h : L1 S w ρ (.agg cs) v) : ∃ vs, v = .agg vs ∧ All2 (L0 S w ρ) cs vs.toList := h

theorem opn_rel {S : Nat → Prop} {w : World} {ρ : Rho} {d : Kd} {x : d.T} {v : Value} (h : Rep S w d x v.cells.toList) (hp : isPr d = true → ∃ vs, v = .agg vs) (hn : isPr d = false → v.cells = #[v]) : L1 S w ρ (opn d x) v := by
  have hl := lv_rep (ρ := ρ) h
  cases d with
  | pr a b => obtain ⟨vs, rfl⟩ := hp rfl; exact ⟨vs, rfl, hl⟩
  | int k => rw [hn rfl] at hl; exact hl.1
  | bool => rw [hn rfl] at hl; exact hl.1
  | str => rw [hn rfl] at hl; exact hl.1
  | sl d => rw [hn rfl] at hl; exact hl.1

theorem ofLv_undef (h : Store) (d : Kd) (hd : isPr d = false) : ofLv h d [.undef] = none := by cases d <;> first | rfl | cases hd
theorem ofLv_clo (h : Store) (d : Kd) (hd : isPr d = false) (f : FuncId) (cs : List AV) : ofLv h d [.clo f cs] = none := by cases d <;> first | rfl | cases hd

theorem toT_rel {S SR : Nat → Prop} {w : World} {ρ : Rho} {h : Store} {d : Kd} {a : AV} {x : d.T} {v : Value} (H : HRel S w ρ h) (hx : toT h d a = some x) (ha : L1 S w ρ a v)
    (h1 : ∀ b, S b → SR b) (h2 : ∀ id ∈ ids1 a, ∀ b, Blk ρ h id b → SR b) : L1 SR w ρ (opn d x) v := by
  have go : ∀ {cs : List AV} {vs : List Value}, ofLv h d cs = some x → All2 (L0 S w ρ) cs vs → (∀ id ∈ cs.flatMap ids0, id ∈ ids1 a) → Rep SR w d x vs := by
    intro cs vs e l hi
    refine (ofLv_rep H e l).wider fun b hb => hb.elim (h1 b) ?_
    rintro ⟨id, k1, k2⟩
    exact h2 id (hi id k1) b k2
  have one : ∀ {a' : AV}, a' = a → (∀ cs, a' ≠ .agg cs) → isPr d = false → ofLv h d [a'] = some x → L1 SR w ρ (opn d x) v := by
    intro a' e hna hd hx2
    subst e
    have hdef : a' ≠ .undef := by rintro rfl; rw [ofLv_undef h d hd] at hx2; cases hx2
    have hcl : ∀ f cs, a' ≠ .clo f cs := by rintro f cs rfl; rw [ofLv_clo h d hd] at hx2; cases hx2
    have hl0 : L0 S w ρ a' v := by
      cases a' with
      | agg cs => exact absurd rfl (hna cs)
      | clo f cs => exact absurd rfl (hcl f cs)
      | tup vs => exact ha.elim
      | _ => exact ha
    have hone := oneCell_of_L0 hl0 hdef
    have hcells : v.cells = #[v] := by cases v <;> first | rfl | (simp [Value.oneCell'] at hone)
    refine opn_rel ?_ (fun h => by rw [hd] at h; cases h) (fun _ => hcells)
    rw [hcells]
    refine go (vs := [v]) hx2 ⟨hl0, trivial⟩ fun id hi => ?_
    simp only [List.flatMap_cons, List.flatMap_nil, List.append_nil] at hi
    cases a' <;> first | exact hi | (simp [ids0] at hi)
  cases a with
  | agg cs =>
    cases d with
    | pr p q =>
      obtain ⟨vs, rfl, hv⟩ := ha
      exact opn_rel (go hx hv fun id hi => hi) (fun _ => ⟨vs, rfl⟩) (fun h => by cases h)
    | _ => cases hx
  | _ =>
    cases d with
    | pr p q => cases hx
    | _ => exact one rfl (fun cs => by simp) rfl hx

theorem takeM_rel {S SR : Nat → Prop} {w : World} {ρ : Rho} {h : Store} (H : HRel S w ρ h) (h1 : ∀ b, S b → SR b) : ∀ {d : Kd} {cs : List AV} {x : d.T} {ids : List Nat} {vs : List Value},
    takeM h d cs = some (x, ids) → All2 (L0 S w ρ) cs vs → All2 (L0 SR w ρ) (giveM d x ids).1 vs ∧ (∀ p ∈ (giveM d x ids).2, (h.get p.1).live = true ∧ BRel SR w ρ p.1 p.2) ∧
      (giveM d x ids).2.map (·.1) = ids ∧ ids.length = d.nsl := by
  have scal : ∀ {d : Kd} {cs : List AV} {x : d.T} {vs : List Value}, ofLv h d cs = some x → All2 (L0 S w ρ) cs vs → d.flat = true → All2 (L0 SR w ρ) (lv d x) vs := by
    intro d cs x vs e l hf
    exact lv_rep ((ofLv_rep H e l).of_flat hf)
  intro d
  induction d with
  | int k =>
    intro cs x ids vs e l
    simp only [takeM, Option.map_eq_some_iff] at e
    obtain ⟨y, e, e2⟩ := e
    cases e2
    exact ⟨scal e l rfl, fun p hp => by simp [giveM] at hp, rfl, rfl⟩
  | bool =>
    intro cs x ids vs e l
    simp only [takeM, Option.map_eq_some_iff] at e
    obtain ⟨y, e, e2⟩ := e
    cases e2
    exact ⟨scal e l rfl, fun p hp => by simp [giveM] at hp, rfl, rfl⟩
  | str =>
    intro cs x ids vs e l
    simp only [takeM, Option.map_eq_some_iff] at e
    obtain ⟨y, e, e2⟩ := e
    cases e2
    exact ⟨scal e l rfl, fun p hp => by simp [giveM] at hp, rfl, rfl⟩
  | sl d _ =>
    intro cs x ids vs e l
    match cs, vs, e, l with
    | [.osl id], [v], e, l =>
      simp only [takeM] at e
      split at e
      · rename_i d' l' hg
        simp only [Option.map_eq_some_iff] at e
        obtain ⟨y, e, e2⟩ := e
        obtain ⟨rfl, rfl⟩ := cast_some e
        cases e2
        refine ⟨⟨l.1, trivial⟩, fun p hp => ?_, rfl, rfl⟩
        simp only [giveM, List.mem_singleton] at hp
        subst hp
        refine ⟨by rw [hg]; rfl, ?_⟩
        have := H.blk id
        rw [hg] at this
        exact BRel.move h1 (fun _ _ => rfl) (fun _ _ e => e) (fun _ _ _ _ _ => rfl) this
      · cases e
  | pr a b iha ihb =>
    intro cs x ids vs e l
    simp only [takeM, Option.bind_eq_some_iff] at e
    obtain ⟨⟨y, i1⟩, ey, ⟨z, i2⟩, ez, e⟩ := e
    cases e
    obtain ⟨a1, a2, a3, a4⟩ := iha ey (l.take a.sz)
    obtain ⟨b1, b2, b3, b4⟩ := ihb ez (l.drop a.sz)
    have t1 : (i1 ++ i2).take a.nsl = i1 := by rw [← a4]; exact List.take_left
    have t2 : (i1 ++ i2).drop a.nsl = i2 := by rw [← a4]; exact List.drop_left
    simp only [giveM, t1, t2]
    refine ⟨?_, fun p hp => ?_, ?_, ?_⟩
    · have := a1.append b1
      rwa [List.take_append_drop] at this
    · rcases List.mem_append.1 hp with hp | hp
      · exact a2 p hp
      · exact b2 p hp
    · rw [List.map_append, a3, b3]
    · simp [a4, b4, Kd.nsl]

theorem clo_ptr_rel {S S' : Nat → Prop} {w : World} {ρ ρ' : Rho} {f : FuncId} {id id' : Nat} {u : Value} (he : ∀ o, ρ id = some o → ρ' id' = some o) (h : L1 S w ρ (.clo f [.ptr id 0 0 0]) u) : L1 S' w ρ' (.clo f [.ptr id' 0 0 0]) u := by
  obtain ⟨vs, e, h⟩ := h
  refine ⟨vs, e, ?_⟩
  generalize vs.toList = l at h
  match l, h with
  | [v], h =>
    obtain ⟨⟨g, len, cap, h1, h2⟩, _⟩ := h
    exact ⟨⟨g, len, cap, he _ h1, h2⟩, trivial⟩
theorem clo_nil_rel {S S' : Nat → Prop} {w : World} {ρ ρ' : Rho} {f : FuncId} {u : Value} (h : L1 S w ρ (.clo f []) u) : L1 S' w ρ' (.clo f []) u := by
  obtain ⟨vs, e, h⟩ := h
  refine ⟨vs, e, ?_⟩
  generalize vs.toList = l at h
  match l, h with
  | [], h => trivial

theorem args_rel {S SR : Nat → Prop} {w : World} {ρ : Rho} {h : Store} (H : HRel S w ρ h) (h1 : ∀ b, S b → SR b) : ∀ {ks : List PK} {vs : List AV} {us : List Value} {x : ArgT ks} {ids : List Nat},
    args h ks vs = some (x, ids) → All2 (L1 S w ρ) vs us → (∀ id ∈ readIds h ks vs, ∀ b, Blk ρ h id b → SR b) →
    All2 (L1 SR w ρ) (inA ks x ids).1 us ∧ (∀ p ∈ (inA ks x ids).2, (h.get p.1).live = true ∧ BRel SR w ρ p.1 p.2) ∧ (inA ks x ids).2.map (·.1) = ids ∧ ids.length = (ks.map PK.n).sum := by
  intro ks
  induction ks with
  | nil =>
    intro vs us x ids e l _
    match vs, us, e, l with
    | [], [], e, l =>
      simp only [args, Option.some.injEq, Prod.mk.injEq] at e
      obtain ⟨_, rfl⟩ := e
      exact ⟨trivial, fun p hp => by simp [inA] at hp, rfl, rfl⟩
  | cons k ks ih =>
    intro vs us x ids e l hr
    match vs, us, l with
    | [], [], l => cases k <;> cases e
    | v :: vs, u :: us, l =>
      cases k with
      | v d =>
        simp only [args, Option.bind_eq_some_iff] at e
        obtain ⟨y, ey, ⟨z, i2⟩, ez, e⟩ := e
        cases e
        obtain ⟨b1, b2, b3, b4⟩ := ih ez l.2 (fun id hi => hr id (by simp [readIds, hi]))
        refine ⟨⟨toT_rel H ey l.1 h1 (fun id hi => hr id (by simp [readIds, hi])), b1⟩, b2, b3, by simpa [PK.n] using b4⟩
      | p d =>
        cases v with
        | ptr id sz n c =>
          obtain ⟨rfl, rfl, rfl⟩ : sz = 0 ∧ n = 0 ∧ c = 0 := by
            rcases sz with _ | sz <;> rcases n with _ | n <;> rcases c with _ | c <;> first | exact ⟨rfl, rfl, rfl⟩ | cases e
          have e : (match h.get id with
            | .box cs => (ofLv h d cs).bind fun x => (args h ks vs).bind fun y => some ((x, y.1), id :: y.2)
            | _ => none) = some (x, ids) := e
          split at e
          · rename_i cs hg
            simp only [Option.bind_eq_some_iff] at e
            obtain ⟨y, ey, ⟨z, i2⟩, ez, e⟩ := e
            cases e
            obtain ⟨b1, b2, b3, b4⟩ := ih ez l.2 (fun id hi => hr id (by simp [readIds, hi]))
            have hb := H.blk id
            rw [hg] at hb
            obtain ⟨g, len, cap, vs', t, e1, e2, e3⟩ := hb
            have hrep := ofLv_rep H ey e3
            refine ⟨⟨?_, ?_⟩, fun p hp => ?_, ?_, ?_⟩
            · exact l.1
            · simpa using b1
            · simp only [inA, List.headD_cons, List.drop_succ_cons, List.drop_zero, List.mem_cons] at hp
              rcases hp with rfl | hp
              · refine ⟨by rw [hg]; rfl, g, len, cap, vs', t, e1, e2, lv_rep (hrep.wider fun b hb => hb.elim (h1 b) ?_)⟩
                rintro ⟨id2, k1, k2⟩
                exact hr id2 (by simp only [readIds, hg]; exact List.mem_append_left _ k1) b k2
              · exact b2 p hp
            · simpa [inA] using b3
            · simp [PK.n, b4]; omega
          · cases e
        | _ => cases e
      | m d =>
        have e : (match aggOf v == isPr d with
          | true => (takeM h d (leavesOf v)).bind fun x => (args h ks vs).bind fun y => some ((x.1, y.1), x.2 ++ y.2)
          | false => none) = some (x, ids) := e
        split at e
        · rename_i hag
          simp only [Option.bind_eq_some_iff] at e
          obtain ⟨⟨y, i1⟩, ey, ⟨z, i2⟩, ez, e⟩ := e
          cases e
          obtain ⟨b1, b2, b3, b4⟩ := ih ez l.2 (fun id hi => hr id (by simpa [readIds] using hi))
          have fin : ∀ {vals : List Value}, All2 (L0 S w ρ) (leavesOf v) vals → (∀ cs, All2 (L0 SR w ρ) cs vals → L1 SR w ρ (wrapM d cs) u) →
              All2 (L1 SR w ρ) (inA (.m d :: ks) (y, z) (i1 ++ i2)).1 (u :: us) ∧ (∀ p ∈ (inA (.m d :: ks) (y, z) (i1 ++ i2)).2, (h.get p.1).live = true ∧ BRel SR w ρ p.1 p.2) ∧
              (inA (.m d :: ks) (y, z) (i1 ++ i2)).2.map (·.1) = i1 ++ i2 ∧ (i1 ++ i2).length = ((PK.m d :: ks).map PK.n).sum := by
            intro vals hl hw
            obtain ⟨a1, a2, a3, a4⟩ := takeM_rel H h1 ey hl
            have t1 : (i1 ++ i2).take d.nsl = i1 := by rw [← a4]; exact List.take_left
            have t2 : (i1 ++ i2).drop d.nsl = i2 := by rw [← a4]; exact List.drop_left
            simp only [inA, t1, t2]
            refine ⟨⟨hw _ a1, b1⟩, fun p hp => ?_, ?_, ?_⟩
            · rcases List.mem_append.1 hp with hp | hp
              · exact a2 p hp
              · exact b2 p hp
            · rw [List.map_append, a3, b3]
            · simp [PK.n, a4, b4]
          have hag : aggOf v = isPr d := by simpa using hag
          cases hpd : isPr d with
          | true =>
            rw [hpd] at hag
            cases v with
            | agg cs =>
              obtain ⟨vs', rfl, hv⟩ := l.1
              refine fin hv fun cs' hcs => ?_
              simp only [wrapM, hpd]
              exact ⟨vs', rfl, hcs⟩
            | _ => cases hag
          | false =>
            rw [hpd] at hag
            have hfin1 : ∀ {a' : AV}, leavesOf a' = [a'] → v = a' → L0 S w ρ a' u → _ := fun {a'} hla hva hl0 => fin (vals := [u]) (by rw [hva, hla]; exact ⟨hl0, trivial⟩) (fun cs' hcs => by
              match cs', hcs with
              | [c], hcs =>
                simp only [wrapM, hpd]
                exact hcs.1.one)
            cases v with
            | agg cs => cases hag
            | tup vs => exact l.1.elim
            | clo f cs => exfalso; cases d <;> first | (cases hpd; done) | (cases ey; done)
            | _ => exact hfin1 rfl rfl l.1
        · cases e
      | t d =>
        have e : (match aggOf v == isPr d with
          | true => (takeM h d (leavesOf v)).bind fun x => (args h ks vs).bind fun y => some ((x.1, y.1), x.2 ++ y.2)
          | false => none) = some (x, ids) := e
        split at e
        · rename_i hag
          simp only [Option.bind_eq_some_iff] at e
          obtain ⟨⟨y, i1⟩, ey, ⟨z, i2⟩, ez, e⟩ := e
          cases e
          obtain ⟨b1, b2, b3, b4⟩ := ih ez l.2 (fun id hi => hr id (by simpa [readIds] using hi))
          have fin : ∀ {vals : List Value}, All2 (L0 S w ρ) (leavesOf v) vals → (∀ cs, All2 (L0 SR w ρ) cs vals → L1 SR w ρ (wrapM d cs) u) →
              All2 (L1 SR w ρ) (inA (.t d :: ks) (y, z) (i1 ++ i2)).1 (u :: us) ∧ (∀ p ∈ (inA (.t d :: ks) (y, z) (i1 ++ i2)).2, (h.get p.1).live = true ∧ BRel SR w ρ p.1 p.2) ∧
              (inA (.t d :: ks) (y, z) (i1 ++ i2)).2.map (·.1) = i1 ++ i2 ∧ (i1 ++ i2).length = ((PK.t d :: ks).map PK.n).sum := by
            intro vals hl hw
            obtain ⟨a1, a2, a3, a4⟩ := takeM_rel H h1 ey hl
            have t1 : (i1 ++ i2).take d.nsl = i1 := by rw [← a4]; exact List.take_left
            have t2 : (i1 ++ i2).drop d.nsl = i2 := by rw [← a4]; exact List.drop_left
            simp only [inA, t1, t2]
            refine ⟨⟨hw _ a1, b1⟩, fun p hp => ?_, ?_, ?_⟩
            · rcases List.mem_append.1 hp with hp | hp
              · exact a2 p hp
              · exact b2 p hp
            · rw [List.map_append, a3, b3]
            · simp [PK.n, a4, b4]
          have hag : aggOf v = isPr d := by simpa using hag
          cases hpd : isPr d with
          | true =>
            rw [hpd] at hag
            cases v with
            | agg cs =>
              obtain ⟨vs', rfl, hv⟩ := l.1
              refine fin hv fun cs' hcs => ?_
              simp only [wrapM, hpd]
              exact ⟨vs', rfl, hcs⟩
            | _ => cases hag
          | false =>
            rw [hpd] at hag
            have hfin1 : ∀ {a' : AV}, leavesOf a' = [a'] → v = a' → L0 S w ρ a' u → _ := fun {a'} hla hva hl0 => fin (vals := [u]) (by rw [hva, hla]; exact ⟨hl0, trivial⟩) (fun cs' hcs => by
              match cs', hcs with
              | [c], hcs =>
                simp only [wrapM, hpd]
                exact hcs.1.one)
            cases v with
            | agg cs => cases hag
            | tup vs => exact l.1.elim
            | clo f cs => exfalso; cases d <;> first | (cases hpd; done) | (cases ey; done)
            | _ => exact hfin1 rfl rfl l.1
        · cases e
      | z =>
        cases v with
        | nils =>
          simp only [args, Option.bind_eq_some_iff] at e
          obtain ⟨⟨z, i2⟩, ez, e⟩ := e
          cases e
          obtain ⟨b1, b2, b3, b4⟩ := ih ez l.2 (fun id hi => hr id (by simpa [readIds] using hi))
          exact ⟨⟨l.1, b1⟩, b2, b3, by simpa [PK.n] using b4⟩
        | _ => cases e
      | f g =>
        replace e : (match cloNil g v with
          | true => (args h ks vs).bind fun y => some (((), y.1), y.2)
          | false => none) = some (x, ids) := e
        split at e
        · rename_i hc
          have hv := cloNil_true hc
          subst hv
          simp only [Option.bind_eq_some_iff] at e
          obtain ⟨⟨z, i2⟩, ez, e⟩ := e
          cases e
          obtain ⟨b1, b2, b3, b4⟩ := ih ez l.2 (fun id hi => hr id (by simpa [readIds] using hi))
          exact ⟨⟨clo_nil_rel l.1, b1⟩, b2, b3, by simpa [PK.n] using b4⟩
        · cases e
      | c f d =>
        replace e : (match cloPtr f v with
          | some id => match h.get id with
            | .box cs => (ofLv h d cs).bind fun x => (args h ks vs).bind fun y => some ((x, y.1), id :: y.2)
            | _ => none
          | none => none) = some (x, ids) := e
        split at e
        case h_2 => cases e
        rename_i id hc
        have hv := cloPtr_some hc
        subst hv
        split at e
        · rename_i cs hg
          simp only [Option.bind_eq_some_iff] at e
          obtain ⟨y, ey, ⟨z, i2⟩, ez, e⟩ := e
          cases e
          obtain ⟨b1, b2, b3, b4⟩ := ih ez l.2 (fun id hi => hr id (by simp [readIds, hi]))
          have hb := H.blk id
          rw [hg] at hb
          obtain ⟨g, len, cap, vs', t, e1, e2, e3⟩ := hb
          have hrep := ofLv_rep H ey e3
          refine ⟨⟨?_, ?_⟩, fun p hp => ?_, ?_, ?_⟩
          · exact clo_ptr_rel (fun _ h => h) l.1
          · simpa using b1
          · simp only [inA, List.headD_cons, List.drop_succ_cons, List.drop_zero, List.mem_cons] at hp
            rcases hp with rfl | hp
            · refine ⟨by rw [hg]; rfl, g, len, cap, vs', t, e1, e2, lv_rep (hrep.wider fun b hb => hb.elim (h1 b) ?_)⟩
              rintro ⟨id2, k1, k2⟩
              exact hr id2 (by simp only [readIds, hc, hg]; exact List.mem_append_left _ k1) b k2
            · exact b2 p hp
          · simpa [inA] using b3
          · simp [PK.n, b4]; omega
        · cases e

theorem giveM_keys : ∀ (d : Kd) (x : d.T) (ids : List Nat), ids.length = d.nsl → (giveM d x ids).2.map (·.1) = ids
  | .int _, _, ids, h => by simp [Kd.nsl] at h; subst h; rfl
  | .bool, _, ids, h => by simp [Kd.nsl] at h; subst h; rfl
  | .str, _, ids, h => by simp [Kd.nsl] at h; subst h; rfl
  | .sl d, l, ids, h => by
    match ids, h with
    | [id], _ => rfl
  | .pr a b, x, ids, h => by
    simp only [Kd.nsl] at h
    simp only [giveM, List.map_append]
    rw [giveM_keys a x.1 _ (by simp; omega), giveM_keys b x.2 _ (by simp; omega), List.take_append_drop]

theorem outU_keys : ∀ (ks : List PK) (y : UpdT ks) (ids : List Nat), ids.length = (ks.map PK.n).sum → (outU ks y ids).map (·.1) = ids
  | [], _, ids, h => by simp at h; subst h; rfl
  | .v d :: ks, y, ids, h => by
    simp only [outU]
    exact outU_keys ks y.2 ids (by simpa [PK.n] using h)
  | .p d :: ks, y, ids, h => by
    match ids, h with
    | id :: ids, h =>
      simp only [outU, List.map_cons, List.headD_cons, List.drop_succ_cons, List.drop_zero]
      rw [outU_keys ks y.2 ids (by simp [PK.n] at h; omega)]
    | [], h => simp [PK.n] at h; omega
  | .m d :: ks, y, ids, h => by
    simp only [List.map_cons, List.sum_cons, PK.n] at h
    simp only [outU, List.map_append]
    rw [giveM_keys d y.1 _ (by simp; omega), outU_keys ks y.2 _ (by simp; omega), List.take_append_drop]
  | .f d :: ks, y, ids, h => by
    simp only [outU]
    exact outU_keys ks y.2 ids (by simpa [PK.n] using h)
  | .z :: ks, y, ids, h => by
    simp only [outU]
    exact outU_keys ks y.2 ids (by simpa [PK.n] using h)
  | .t d :: ks, y, ids, h => by
    simp only [List.map_cons, List.sum_cons, PK.n] at h
    simp only [outU, List.map_append, List.map_map]
    rw [outU_keys ks y.2 _ (by simp; omega)]
    have e : (ids.take d.nsl).map ((fun x : Nat × Cell => x.1) ∘ fun id => (id, Cell.dead)) = ids.take d.nsl := by
      conv => rhs; rw [← List.map_id (ids.take d.nsl)]
      rfl
    rw [e, List.take_append_drop]
  | .c _ d :: ks, y, ids, h => by
    match ids, h with
    | id :: ids, h =>
      simp only [outU, List.map_cons, List.headD_cons, List.drop_succ_cons, List.drop_zero]
      rw [outU_keys ks y.2 ids (by simp [PK.n] at h; omega)]
    | [], h => simp [PK.n] at h; omega

def nr1 : AV → Bool
  | .agg cs => cs.all nr0
  | .clo _ cs => cs.all nr0
  | v => nr0 v
def nr2 : AV → Bool
  | .tup vs => vs.all nr1
  | v => nr1 v
theorem L1.nr {S S' : Nat → Prop} {w w' : World} {ρ : Rho} {a : AV} {v : Value} (h : nr1 a = true) (l : L1 S w ρ a v) : L1 S' w' ρ a v := by
  cases a with
  | agg cs => obtain ⟨vs, e, l⟩ := l; exact ⟨vs, e, L0s.nr h l⟩
  | clo f cs => obtain ⟨vs, e, l⟩ := l; exact ⟨vs, e, L0s.nr h l⟩
  | _ => simp only [L1] at l ⊢; exact L0.nr h l
theorem L1s.nr {S S' : Nat → Prop} {w w' : World} {ρ : Rho} : ∀ {as : List AV} {vs : List Value}, as.all nr1 = true → All2 (L1 S w ρ) as vs → All2 (L1 S' w' ρ) as vs
  | [], [], _, _ => trivial
  | a :: as, v :: vs, h, l => by
    simp only [List.all_cons, Bool.and_eq_true] at h
    exact ⟨l.1.nr h.1, L1s.nr h.2 l.2⟩
  | [], _ :: _, _, l => l.elim
  | _ :: _, [], _, l => l.elim
theorem L2.nr {S S' : Nat → Prop} {w w' : World} {ρ : Rho} {a : AV} {v : Value} (h : nr2 a = true) (l : L2 S w ρ a v) : L2 S' w' ρ a v := by
  cases a with
  | tup cs => obtain ⟨vs, e, l⟩ := l; exact ⟨vs, e, L1s.nr h l⟩
  | _ => simp only [L2] at l ⊢; exact L1.nr h l

theorem lv_nr : ∀ (d : Kd) (x : d.T), d.flat = true → (lv d x).all nr0 = true
  | .int _, _, _ => rfl
  | .bool, _, _ => rfl
  | .str, _, _ => rfl
  | .sl _, _, h => by cases h
  | .pr a b, x, h => by
    simp only [Kd.flat, Bool.and_eq_true] at h
    simp only [lv, List.all_append, Bool.and_eq_true]
    exact ⟨lv_nr a x.1 h.1, lv_nr b x.2 h.2⟩
theorem giveM_nrv : ∀ (d : Kd) (x : d.T) (ids : List Nat), nrK d x = true → (giveM d x ids).1.all nr0 = true ∧ ∀ p ∈ (giveM d x ids).2, nrCell p.2 = true
  | .int _, _, _, _ => ⟨rfl, fun p hp => by simp [giveM] at hp⟩
  | .bool, _, _, _ => ⟨rfl, fun p hp => by simp [giveM] at hp⟩
  | .str, _, _, _ => ⟨rfl, fun p hp => by simp [giveM] at hp⟩
  | .sl d, l, ids, h => by
    cases ids with
    | nil => exact ⟨rfl, fun p hp => by simp [giveM] at hp⟩
    | cons id ids => exact ⟨rfl, fun p hp => by simp only [giveM, List.mem_singleton] at hp; subst hp; exact h⟩
  | .pr a b, x, ids, h => by
    simp only [nrK, Bool.and_eq_true] at h
    obtain ⟨a1, a2⟩ := giveM_nrv a x.1 (ids.take a.nsl) h.1
    obtain ⟨b1, b2⟩ := giveM_nrv b x.2 (ids.drop a.nsl) h.2
    refine ⟨by simp only [giveM, List.all_append, Bool.and_eq_true]; exact ⟨a1, b1⟩, fun p hp => ?_⟩
    rcases List.mem_append.1 hp with hp | hp
    · exact a2 p hp
    · exact b2 p hp
theorem nrK_of : ∀ (d : Kd) (x : d.T), d.flatM = true → nrK d x = true
  | .int _, _, _ => rfl
  | .bool, _, _ => rfl
  | .str, _, _ => rfl
  | .sl d, l, h => by
    have h' : d.flat = true := h
    simp [nrK, h']
  | .pr a b, x, h => by
    simp only [Kd.flatM, Bool.and_eq_true] at h
    simp [nrK, nrK_of a x.1 h.1, nrK_of b x.2 h.2]
theorem giveM_nr (d : Kd) (x : d.T) (ids : List Nat) (h : d.flatM = true) : (giveM d x ids).1.all nr0 = true ∧ ∀ p ∈ (giveM d x ids).2, nrCell p.2 = true := giveM_nrv d x ids (nrK_of d x h)
theorem wrapM_nr {d : Kd} {cs : List AV} (h : cs.all nr0 = true) : nr1 (wrapM d cs) = true := by
  unfold wrapM
  split
  · exact h
  · simp only [List.all_cons, List.all_nil, Bool.and_true] at h
    rename_i c _
    cases c <;> first | exact h | rfl | (cases h)
  · rfl

theorem opn_nr {d : Kd} {x : d.T} (h : d.flat = true) : nr1 (opn d x) = true := by
  have hl := lv_nr d x h
  cases d with
  | pr a b => exact hl
  | sl d => cases h
  | _ => rfl

theorem out1_nr (k : RK) (x : k.T) (b : Nat) (h : k.nr = true) : nr1 (out1 k x b).1 = true ∧ ∀ p ∈ (out1 k x b).2, nrCell p.2 = true := by
  cases k with
  | o d =>
    obtain ⟨a1, a2⟩ := giveM_nr d x (upFrom b d.nsl) h
    exact ⟨wrapM_nr a1, a2⟩
  | r d => exact ⟨opn_nr h, fun p hp => by simp [out1] at hp⟩
  | p d => exact ⟨rfl, fun p hp => by simp only [out1, List.mem_singleton] at hp; subst hp; exact lv_nr d x h⟩

theorem outR_nr : ∀ (rs : List RK) (x : ResT rs) (b : Nat), rs.all RK.nr = true → (outR rs x b).1.all nr1 = true ∧ ∀ p ∈ (outR rs x b).2, nrCell p.2 = true
  | [], _, _, _ => ⟨rfl, fun p hp => by simp [outR] at hp⟩
  | [k], x, b, h => by
    simp only [List.all_cons, List.all_nil, Bool.and_true] at h
    obtain ⟨a1, a2⟩ := out1_nr k x b h
    exact ⟨by simp [outR, a1], a2⟩
  | k :: k' :: ks, x, b, h => by
    rw [List.all_cons, Bool.and_eq_true] at h
    obtain ⟨a1, a2⟩ := out1_nr k x.1 b h.1
    obtain ⟨b1, b2⟩ := outR_nr (k' :: ks) x.2 (b + k.n) h.2
    refine ⟨by simp only [outR, List.all_cons, a1, b1, Bool.and_true], fun p hp => ?_⟩
    rcases List.mem_append.1 hp with hp | hp
    · exact a2 p hp
    · exact b2 p hp

theorem out1_nrv (k : RK) (x : k.T) (b : Nat) (h : k.nrv x = true) : nr1 (out1 k x b).1 = true ∧ ∀ p ∈ (out1 k x b).2, nrCell p.2 = true := by
  cases k with
  | o d =>
    obtain ⟨a1, a2⟩ := giveM_nrv d x (upFrom b d.nsl) h
    exact ⟨wrapM_nr a1, a2⟩
  | r d => exact ⟨opn_nr h, fun p hp => by simp [out1] at hp⟩
  | p d => exact ⟨rfl, fun p hp => by simp only [out1, List.mem_singleton] at hp; subst hp; exact lv_nr d x h⟩
theorem outR_nrv : ∀ (rs : List RK) (x : ResT rs) (b : Nat), nrRs rs x = true → (outR rs x b).1.all nr1 = true ∧ ∀ p ∈ (outR rs x b).2, nrCell p.2 = true
  | [], _, _, _ => ⟨rfl, fun p hp => by simp [outR] at hp⟩
  | [k], x, b, h => by
    obtain ⟨a1, a2⟩ := out1_nrv k x b h
    exact ⟨by simp [outR, a1], a2⟩
  | k :: k' :: ks, x, b, h => by
    simp only [nrRs, Bool.and_eq_true] at h
    obtain ⟨a1, a2⟩ := out1_nrv k x.1 b h.1
    obtain ⟨b1, b2⟩ := outR_nrv (k' :: ks) x.2 (b + k.n) h.2
    refine ⟨by simp only [outR, List.all_cons, a1, b1, Bool.and_true], fun p hp => ?_⟩
    rcases List.mem_append.1 hp with hp | hp
    · exact a2 p hp
    · exact b2 p hp

theorem one_nr {vs : List AV} (h : vs.all nr1 = true) : nr2 (Nu.one vs) = true := by
  unfold Nu.one
  split
  · simp only [List.all_cons, List.all_nil, Bool.and_true] at h
    rename_i v
    cases v <;> first | exact h | rfl | (cases h)
  · exact h

theorem outU_nr : ∀ (ks : List PK) (y : UpdT ks) (ids : List Nat), ks.all PK.nr = true → ∀ p ∈ outU ks y ids, nrCell p.2 = true
  | [], _, _, _, p, hp => by simp [outU] at hp
  | .v d :: ks, y, ids, h, p, hp => by
    rw [List.all_cons, Bool.and_eq_true] at h
    exact outU_nr ks y.2 ids h.2 p hp
  | .p d :: ks, y, ids, h, p, hp => by
    rw [List.all_cons, Bool.and_eq_true] at h
    simp only [outU, List.mem_cons] at hp
    rcases hp with rfl | hp
    · exact lv_nr d y.1 h.1
    · exact outU_nr ks y.2 _ h.2 p hp
  | .m d :: ks, y, ids, h, p, hp => by
    rw [List.all_cons, Bool.and_eq_true] at h
    rcases List.mem_append.1 hp with hp | hp
    · exact (giveM_nr d y.1 _ h.1).2 p hp
    · exact outU_nr ks y.2 _ h.2 p hp
  | .f d :: ks, y, ids, h, p, hp => by
    rw [List.all_cons, Bool.and_eq_true] at h
    exact outU_nr ks y.2 ids h.2 p hp
  | .z :: ks, y, ids, h, p, hp => by
    rw [List.all_cons, Bool.and_eq_true] at h
    exact outU_nr ks y.2 ids h.2 p hp
  | .t d :: ks, y, ids, h, p, hp => by
    rw [List.all_cons, Bool.and_eq_true] at h
    rcases List.mem_append.1 hp with hp | hp
    · obtain ⟨id, _, rfl⟩ := List.mem_map.1 hp
      rfl
    · exact outU_nr ks y.2 _ h.2 p hp
  | .c _ d :: ks, y, ids, h, p, hp => by
    rw [List.all_cons, Bool.and_eq_true] at h
    simp only [outU, List.mem_cons] at hp
    rcases hp with rfl | hp
    · exact lv_nr d y.1 h.1
    · exact outU_nr ks y.2 _ h.2 p hp

theorem Ctr.out_nr {c : Ctr} (h : c.nr = true) (r : ResT c.rs × UpdT c.pk) (b : Nat) (ids : List Nat) : nr2 (c.out r b ids).1 = true ∧ ∀ p ∈ (c.out r b ids).2, nrCell p.2 = true := by
  unfold Ctr.nr at h
  rw [Bool.and_eq_true] at h
  obtain ⟨a1, a2⟩ := outR_nr c.rs r.1 b h.1
  refine ⟨one_nr a1, fun p hp => ?_⟩
  rcases List.mem_append.1 hp with hp | hp
  · exact a2 p hp
  · exact outU_nr c.pk r.2 ids h.2 p hp

theorem Ctr.out_nrv {c : Ctr} (hp : c.pk.all PK.nr = true) (r : ResT c.rs × UpdT c.pk) (h : nrRs c.rs r.1 = true) (b : Nat) (ids : List Nat) : nr2 (c.out r b ids).1 = true ∧ ∀ p ∈ (c.out r b ids).2, nrCell p.2 = true := by
  obtain ⟨a1, a2⟩ := outR_nrv c.rs r.1 b h
  refine ⟨one_nr a1, fun p hq => ?_⟩
  rcases List.mem_append.1 hq with hq | hq
  · exact a2 p hq
  · exact outU_nr c.pk r.2 ids hp p hq

theorem get_mem {σ : Store} {id : Nat} : (∃ p ∈ σ, p.1 = id ∧ σ.get id = p.2) ∨ σ.get id = .none := by
  induction σ with
  | nil => exact .inr rfl
  | cons p σ ih =>
    obtain ⟨k, c⟩ := p
    by_cases hk : id = k
    · subst hk; exact .inl ⟨(id, c), by simp, rfl, get_cons_same _ _ _⟩
    · rw [get_cons_ne _ _ hk]
      rcases ih with ⟨p, hp, h1, h2⟩ | h
      · exact .inl ⟨p, by simp [hp], h1, h2⟩
      · exact .inr h

theorem any_key {ws : Store} {id : Nat} (h : id ∈ ws.map (·.1)) : ws.any (fun p => Nat.beq p.1 id) = true := by
  obtain ⟨p, hp, rfl⟩ := List.mem_map.1 h
  exact List.any_eq_true.2 ⟨p, hp, Nat.beq_refl _⟩

theorem call_ok {P : Program} {Φ : Ctrs} (hΦ : ∀ f c, Φ f = some c → c.ok P f) {f : FuncId} {vs : List AV} {h : Store} {b : Nat} {r : Res} {S : Nat → Prop} {w : World} {ρ : Rho} {us : List Value}
    (hr : (callA Φ f vs h b).run some = some r) (H : HRel S w ρ h) (hv : All2 (L1 S w ρ) vs us) (hb : ∀ id, b ≤ id → id < b + 64 → ρ id = none) :
    Calls P f us.toArray w fun e w' => ∃ v, e = .returned v ∧ Post S w ρ h b r v w' := by
  unfold callA at hr
  split at hr
  case h_2 => cases hr
  rename_i c hc
  obtain ⟨x, y, hx, hd, hy, hr⟩ : ∃ x y, args h c.pk vs = some x ∧ (distinct x.2 && (readIds h c.pk vs).all (notIn x.2)) = true ∧ c.F x.1 = some y ∧
      ((((c.nr || (readIds h c.pk vs).isEmpty) = true ∧ r = c.out y b x.2) ∨ ((nr2 (c.out y b x.2).1 = true ∧ ∀ p ∈ (c.out y b x.2).2, nrCell p.2 = true) ∧ r = c.out y b x.2)) ∨ r = ((c.out y b x.2).1, (c.out y b x.2).2 ++ (readIds h c.pk vs).map fun id => (id, Cell.dead))) := by
    split at hr
    · rename_i hnr
      split at hr
      case h_2 => cases hr
      rename_i x hx
      split at hr
      case h_2 => cases hr
      rename_i hd
      obtain ⟨y, hy, hr⟩ := Tree.bd_some.1 hr
      simp only [Tree.run, Option.some.injEq] at hr
      exact ⟨x, y, hx, hd, hy, .inl (.inl ⟨hnr, hr.symm⟩)⟩
    · rename_i hnr
      split at hr
      case h_2 => cases hr
      rename_i x hx
      split at hr
      case h_2 => cases hr
      rename_i hd
      split at hr
      · rename_i hpk
        obtain ⟨y, hy, hr⟩ := Tree.bd_some.1 hr
        rcases Tree.br_some.1 hr with ⟨hv, hr⟩ | ⟨hv, hr⟩
        · simp only [Tree.run, Option.some.injEq] at hr
          exact ⟨x, y, hx, hd, hy, .inl (.inr ⟨Ctr.out_nrv hpk y hv b x.2, hr.symm⟩)⟩
        · simp only [Tree.run, Option.some.injEq] at hr
          exact ⟨x, y, hx, hd, hy, .inr hr.symm⟩
      · obtain ⟨y, hy, hr⟩ := Tree.bd_some.1 hr
        simp only [Tree.run, Option.some.injEq] at hr
        exact ⟨x, y, hx, hd, hy, .inr hr.symm⟩
  simp only [Bool.and_eq_true] at hd
  obtain ⟨x, ids⟩ := x
  simp only at hy hd
  have hok := hΦ f c hc
  obtain ⟨_, t2, t3, t4⟩ := args_rel H (SR := fun _ => True) (fun _ _ => trivial) (vs := vs) hx hv (fun _ _ _ _ => trivial)
  -- what is handed over is ours
  have hkey : ∀ id, (Store.get (inA c.pk x ids).2 id).live = true → id ∈ ids ∧ (h.get id).live = true := by
    intro id hl
    rcases get_mem (σ := (inA c.pk x ids).2) (id := id) with ⟨p, hp, h1, h2⟩ | h0
    · subst h1
      exact ⟨by rw [← t3]; exact List.mem_map.2 ⟨p, hp, rfl⟩, (t2 p hp).1⟩
    · rw [h0] at hl; cases hl
  have hids : ∀ id ∈ ids, (h.get id).live = true := by
    intro id hi
    rw [← t3] at hi
    obtain ⟨p, hp, rfl⟩ := List.mem_map.1 hi
    exact (t2 p hp).1
  have hsubo : ∀ bb, Own ρ (inA c.pk x ids).2 bb → Own ρ h bb := fun bb ⟨id, l1, c1, hl, hr⟩ => ⟨id, l1, c1, (hkey id hl).2, hr⟩
  have hidb : ∀ id ∈ ids, id < b ∨ b + 64 ≤ id := by
    intro id hi
    obtain ⟨o, ho⟩ := live_of_own H (hids id hi)
    by_cases h1 : b ≤ id
    · by_cases h2 : id < b + 64
      · rw [hb id h1 h2] at ho; cases ho
      · omega
    · omega
  have hkws : ∀ id, (Store.get (inA c.pk x ids).2 id).live = true → (c.out y b ids).2.any (fun p => Nat.beq p.1 id) = true := by
    intro id hl
    refine any_key ?_
    have := outU_keys c.pk y.2 ids t4
    rw [Ctr.out, List.map_append, this]
    exact List.mem_append_right _ (hkey id hl).1
  -- the reading set of the callee
  have main : ∀ (SR : Nat → Prop), (∀ bb, S bb → SR bb) → (∀ id ∈ readIds h c.pk vs, ∀ bb, Blk ρ h id bb → SR bb) → (∀ bb, SR bb → bb < w.heap.size) → (∀ bb, SR bb → ¬ Own ρ (inA c.pk x ids).2 bb) →
      Calls P f us.toArray w fun e w' => ∃ v, e = .returned v ∧ Post SR w ρ (inA c.pk x ids).2 b (c.out y b ids) v w' := by
    intro SR s1 s2 s3 s4
    obtain ⟨q1, q2, q3, q4⟩ := args_rel H s1 (vs := vs) hx hv s2
    refine hok.good x y hy b ids hd.1 hidb t4 SR w ρ us ⟨s3, fun id => ?_, s4, fun i j g l c l' c' hi hj ri rj => H.inj i j g l c l' c' (hkey i hi).2 (hkey j hj).2 ri rj⟩ q1 hb
    rcases get_mem (σ := (inA c.pk x ids).2) (id := id) with ⟨p, hp, h1, h2⟩ | h0
    · rw [h2, ← h1]; exact (q2 p hp).2
    · rw [h0]; trivial
  rcases hr with hr | rfl
  case inr =>
    obtain ⟨S2, a1, a2, E1, K1⟩ := freeze_ids (readIds h c.pk vs) H
    have hstay : ∀ id, id ∉ readIds h c.pk vs → Store.get (((readIds h c.pk vs).map fun id => (id, Cell.dead)) ++ h) id = h.get id := by
      intro id hn
      rw [get_append]
      split
      · rename_i ha
        obtain ⟨p, hp, hb⟩ := List.any_eq_true.1 ha
        obtain ⟨i, hi, rfl⟩ := List.mem_map.1 hp
        have hb : i = id := Nat.eq_of_beq_eq_true hb
        rw [hb] at hi
        exact absurd hi hn
      · rfl
    have hout : ∀ id ∈ ids, id ∉ readIds h c.pk vs := by
      intro id hi hr
      have h1 := List.all_eq_true.1 hd.2 id hr
      have h2 := List.all_eq_true.1 h1 id hi
      simp at h2
    have hlive2 : ∀ id, (Store.get (inA c.pk x ids).2 id).live = true → (Store.get (((readIds h c.pk vs).map fun id => (id, Cell.dead)) ++ h) id).live = true := by
      intro id hl
      obtain ⟨k1, k2⟩ := hkey id hl
      rw [hstay id (hout id k1)]
      exact k2
    refine (main S2 a1 (fun id hi bb hk => a2 bb ⟨id, hi, hk⟩) K1.inS (fun bb hbb ho => ?_)).mono ?_
    · obtain ⟨id, l1, c1, hl, hr⟩ := ho
      exact K1.sep bb hbb ⟨id, l1, c1, hlive2 id hl, hr⟩
    · rintro e w' ⟨v, rfl, S1, ρ', E, K, L, R⟩
      refine ⟨v, rfl, S1, ρ', ?_⟩
      have := frame_part (S' := S1) K1 hlive2 (fun id hl => .inl (hkws id hl)) E K E.sub E.snew (fun id _ => K.blk id) K.sep K.inS
      refine ⟨?_, ?_, L, R⟩
      · have e := E1.trans this.1
        rw [← List.append_assoc] at e
        exact e
      · have e := this.2
        rw [← List.append_assoc] at e
        exact e
  have key : ∀ (hout : nr2 (c.out y b ids).1 = true ∧ ∀ p ∈ (c.out y b ids).2, nrCell p.2 = true), Calls P f us.toArray w fun e w' => ∃ v, e = .returned v ∧ Post S w ρ h b (c.out y b ids) v w' := by
    intro hout
    refine (main (fun bb => (S bb ∨ Own ρ h bb) ∧ ¬ Own ρ (inA c.pk x ids).2 bb) ?_ ?_ ?_ (fun bb hbb => hbb.2)).mono ?_
    · exact fun bb hbb => ⟨.inl hbb, fun ho => H.sep bb hbb (hsubo bb ho)⟩
    · intro id hi bb hk
      have hko : Own ρ h bb := by obtain ⟨_, l1, c1, hr⟩ := (show _ from hk); exact ⟨id, l1, c1, hk.live, hr⟩
      refine ⟨.inr hko, ?_⟩
      rintro ⟨id', l1, c1, hl, hr⟩
      obtain ⟨k1, k2⟩ := hkey id' hl
      obtain ⟨_, l2, c2, hr2⟩ := (show _ from hk)
      have e := H.inj id id' bb l2 c2 l1 c1 hk.live k2 hr2 hr
      subst e
      have := List.all_eq_true.1 hd.2 id hi
      have := List.all_eq_true.1 this id k1
      simp at this
    · intro bb hbb
      exact hbb.1.elim (H.inS bb) (own_lt H)
    · rintro e w' ⟨v, rfl, S1, ρ', E, K, L, R⟩
      obtain ⟨n1, n2⟩ := hout
      refine ⟨v, rfl, S, ρ', ?_⟩
      have := frame_part (S' := S) H (fun id hl => (hkey id hl).2) (fun id hl => .inl (hkws id hl)) E K (fun _ h => h) (fun _ h => .inl h) (fun id hid => ?_) (fun bb hbb ho => ?_) (fun bb hbb => Nat.lt_of_lt_of_le (H.inS bb hbb) E.grow)
      · exact ⟨this.1, this.2, L.nr n1, R⟩
      · have hB := K.blk id
        have hid : (c.out y b ids).2.any (fun p => Nat.beq p.1 id) = true := hid.elim (fun h => h) (hkws id)
        rw [get_append, hid] at hB ⊢
        refine hB.nr ?_
        rcases get_mem (σ := (c.out y b ids).2) (id := id) with ⟨p, hp, h1, h2⟩ | h0
        · rw [h2]; exact n2 p hp
        · rw [h0]; rfl
      · rcases E.onew bb ho with h1 | h1
        · have := H.inS bb hbb; omega
        · exact H.sep bb hbb (hsubo bb h1)
  rcases hr with ⟨hnr, rfl⟩ | ⟨hout, rfl⟩
  case inr => exact key hout
  cases hcn : c.nr with
  | true => exact key (Ctr.out_nr hcn y b ids)
  | false =>
    rw [hcn, Bool.false_or] at hnr
    have hnil : readIds h c.pk vs = [] := List.isEmpty_iff.1 hnr
    refine (main S (fun _ h => h) (fun id hi => by rw [hnil] at hi; cases hi) H.inS (fun bb hbb ho => H.sep bb hbb (hsubo bb ho))).mono ?_
    rintro e w' ⟨v, rfl, S1, ρ', E, K, L, R⟩
    refine ⟨v, rfl, S1, ρ', ?_⟩
    have := frame_part (S' := S1) H (fun id hl => (hkey id hl).2) (fun id hl => .inl (hkws id hl)) E K E.sub E.snew (fun id _ => K.blk id) K.sep K.inS
    exact ⟨this.1, this.2, L, R⟩

end Go.Nu

/- Nu, part V: code does what is told. -/
import Derived.Test.YtjilffemogdabaaNuU
namespace Go.Nu
set_option linter.unusedSimpArgs false
set_option linter.unnecessarySimpa false
set_option linter.unusedVariables false
set_option linter.unusedSectionVars false

/-! ### States told by shapes -/
theorem castK_some {d d' : Kd} {x : d.T} {y : d'.T} (h : castK d d' x = some y) : ∃ e : d = d', y = e ▸ x := by
  unfold castK at h
  split at h
  · rename_i e; exact ⟨e, by simpa using h.symm⟩
  · cases h
theorem exL_fill : ∀ {hs : List HS} {vs : List AV} {x : HTs hs}, exL hs vs = some x → fillL hs x = vs
  | [], vs, x, h => by
    match vs, h with
    | [], _ => rfl
  | k :: hs, vs, x, h => by
    cases k
    all_goals
      match vs, h with
      | [], h => simp [exL] at h
      | v :: vs, h => ?_
    case int k =>
      cases v <;> first | (simp [exL] at h; done) | skip
      simp only [exL, Option.bind_eq_some_iff] at h
      obtain ⟨m, h1, y, h2, h3⟩ := h
      cases h3
      obtain ⟨rfl, rfl⟩ := castI_some h1
      simp only [fillL, exL_fill h2]
    case bool =>
      cases v <;> first | (simp [exL] at h; done) | skip
      simp only [exL, Option.bind_eq_some_iff] at h
      obtain ⟨y, h2, h3⟩ := h
      cases h3
      simp only [fillL, exL_fill h2]
    case str =>
      cases v <;> first | (simp [exL] at h; done) | skip
      simp only [exL, Option.bind_eq_some_iff] at h
      obtain ⟨y, h2, h3⟩ := h
      cases h3
      simp only [fillL, exL_fill h2]
    case rsl d =>
      cases v <;> first | (simp [exL] at h; done) | skip
      simp only [exL, Option.bind_eq_some_iff] at h
      obtain ⟨l, h1, y, h2, h3⟩ := h
      cases h3
      obtain ⟨rfl, rfl⟩ := cast_some h1
      simp only [fillL, exL_fill h2]
    case vsl id sz =>
      cases v <;> first | (simp [exL] at h; done) | skip
      simp only [exL] at h
      split at h
      case h_2 => cases h
      rename_i hb
      simp only [Bool.and_eq_true] at hb
      simp only [Option.bind_eq_some_iff] at h
      obtain ⟨y, h2, h3⟩ := h
      cases h3
      simp only [fillL, exL_fill h2, Nat.eq_of_beq_eq_true hb.1, Nat.eq_of_beq_eq_true hb.2]
    case ptr id sz c =>
      cases v <;> first | (simp [exL] at h; done) | skip
      simp only [exL] at h
      split at h
      case h_2 => cases h
      rename_i hb
      simp only [Bool.and_eq_true] at hb
      simp only [Option.bind_eq_some_iff] at h
      obtain ⟨y, h2, h3⟩ := h
      cases h3
      simp only [fillL, exL_fill h2, Nat.eq_of_beq_eq_true hb.1, Nat.eq_of_beq_eq_true hb.2.1, Nat.eq_of_beq_eq_true hb.2.2]
    case rptr d c =>
      cases v <;> first | (simp [exL] at h; done) | skip
      simp only [exL] at h
      split at h
      case h_2 => cases h
      rename_i hb
      simp only [Option.bind_eq_some_iff] at h
      obtain ⟨l, h1, y, h2, h3⟩ := h
      cases h3
      obtain ⟨rfl, rfl⟩ := castK_some h1
      simp only [fillL, exL_fill h2, Nat.eq_of_beq_eq_true hb]
    case undef =>
      cases v <;> first | (simp [exL] at h; done) | skip
      simp only [exL] at h
      simp only [fillL, exL_fill h]
    case nils =>
      cases v <;> first | (simp [exL] at h; done) | skip
      simp only [exL] at h
      simp only [fillL, exL_fill h]
    case nilp =>
      cases v <;> first | (simp [exL] at h; done) | skip
      simp only [exL] at h
      simp only [fillL, exL_fill h]
    case osl id =>
      cases v <;> first | (simp [exL] at h; done) | skip
      simp only [exL] at h
      split at h
      case h_2 => cases h
      rename_i hb
      simp only [fillL, exL_fill h, Nat.eq_of_beq_eq_true hb]
    case ptr0 id sz i c =>
      cases v <;> first | (simp [exL] at h; done) | skip
      simp only [exL] at h
      split at h
      case h_2 => cases h
      rename_i hb
      simp only [Bool.and_eq_true] at hb
      simp only [fillL, exL_fill h, Nat.eq_of_beq_eq_true hb.1, Nat.eq_of_beq_eq_true hb.2.1, Nat.eq_of_beq_eq_true hb.2.2.1, Nat.eq_of_beq_eq_true hb.2.2.2]

theorem take_len {us vs : List AV} {n : Nat} (h : us.length = n) : (us ++ vs).take n = us ∧ (us ++ vs).drop n = vs := by
  subst h
  simp

theorem disC_asm : ∀ {cs : List CK} {b : Nat} {σ : Store} {vs : List AV}, disC cs b σ = some vs → asmC cs b vs = σ
  | [], b, σ, vs, h => by
    cases σ with
    | nil => simp [disC] at h; subst h; rfl
    | cons _ _ => simp [disC] at h
  | c :: cs, b, σ, vs, h => by
    cases σ with
    | nil => cases c <;> simp [disC] at h
    | cons p σ =>
      obtain ⟨k, e⟩ := p
      cases c with
      | none =>
        cases e <;> first | (simp [disC] at h; done) | skip
        simp only [disC] at h
        split at h
        case h_2 => cases h
        rename_i hb
        simp only [asmC, disC_asm h, Nat.eq_of_beq_eq_true hb]
      | arr =>
        cases e <;> first | (simp [disC] at h; done) | skip
        simp only [disC] at h
        split at h
        case h_2 => cases h
        rename_i hb
        simp only [Option.bind_eq_some_iff] at h
        obtain ⟨y, h2, h3⟩ := h
        cases h3
        simp only [asmC, disC_asm h2, Nat.eq_of_beq_eq_true hb]
      | box n =>
        cases e <;> first | (simp [disC] at h; done) | skip
        simp only [disC] at h
        split at h
        case h_2 => cases h
        rename_i hb
        simp only [Bool.and_eq_true] at hb
        simp only [Option.bind_eq_some_iff] at h
        obtain ⟨y, h2, h3⟩ := h
        cases h3
        obtain ⟨t1, t2⟩ := take_len (vs := y) (Nat.eq_of_beq_eq_true hb.2)
        simp only [asmC, t1, t2, disC_asm h2, Nat.eq_of_beq_eq_true hb.1]

theorem dis_asm : ∀ {sl : List (Nat × SK)} {cs : List CK} {b : Nat} {σ : Store} {vs : List AV}, dis sl cs b σ = some vs → asm sl cs b vs = σ
  | [], cs, b, σ, vs, h => disC_asm (by simpa only [dis] using h)
  | (t, c) :: sl, cs, b, σ, vs, h => by
    cases σ with
    | nil => cases c <;> simp [dis] at h
    | cons p σ =>
      obtain ⟨k, e⟩ := p
      cases c with
      | one =>
        cases e <;> first | (simp [dis] at h; done) | skip
        simp only [dis] at h
        split at h
        case h_2 => cases h
        rename_i hb
        simp only [Option.bind_eq_some_iff] at h
        obtain ⟨y, h2, h3⟩ := h
        cases h3
        simp only [asm, dis_asm h2, Nat.eq_of_beq_eq_true hb]
      | agg n =>
        cases e <;> first | (simp [dis] at h; done) | skip
        rename_i v
        cases v <;> first | (simp [dis] at h; done) | skip
        simp only [dis] at h
        split at h
        case h_2 => cases h
        rename_i hb
        simp only [Bool.and_eq_true] at hb
        simp only [Option.bind_eq_some_iff] at h
        obtain ⟨y, h2, h3⟩ := h
        cases h3
        obtain ⟨t1, t2⟩ := take_len (vs := y) (Nat.eq_of_beq_eq_true hb.2)
        simp only [asm, t1, t2, dis_asm h2, Nat.eq_of_beq_eq_true hb.1]
      | clo f n =>
        cases e <;> first | (simp [dis] at h; done) | skip
        rename_i v
        cases v <;> first | (simp [dis] at h; done) | skip
        simp only [dis] at h
        split at h
        case h_2 => cases h
        rename_i hb
        simp only [Bool.and_eq_true] at hb
        simp only [Option.bind_eq_some_iff] at h
        obtain ⟨y, h2, h3⟩ := h
        cases h3
        obtain ⟨t1, t2⟩ := take_len (vs := y) (Nat.eq_of_beq_eq_true hb.2.1)
        simp only [asm, t1, t2, dis_asm h2, Nat.eq_of_beq_eq_true hb.1, Nat.eq_of_beq_eq_true hb.2.2]

theorem Sh.ex_fill {s : Sh} {p : Store × Nat} {x : s.T} (h : s.ex p = some x) : s.fill x = p := by
  unfold Sh.ex at h
  split at h
  case h_2 => cases h
  rename_i hb
  simp only [Option.bind_eq_some_iff] at h
  obtain ⟨vs, h1, h2⟩ := h
  obtain ⟨p1, p2⟩ := p
  have h3 : fillL s.leaves x = vs := exL_fill h2
  have h4 : p2 = idBase + s.cells.length := Nat.eq_of_beq_eq_true hb
  simp only [Sh.fill, h3, dis_asm h1, h4]

theorem sameE_eq {e e' : AExit} (h : sameE e e' = true) : e = e' := by
  cases e <;> cases e' <;> first | rfl | (cases h; done) | (simp only [sameE] at h; rw [Nat.eq_of_beq_eq_true h])

section
variable {n np : Nat} {S0 : Nat → Prop} {w0 : World} {ρ0 : Rho} {O0 S : Nat → Prop} {w : World} {ρ : Rho} {σ : Store} {a : Act} {t : Nat}

theorem own1_ok {x : Nat} {d : Kd} (R : Rel n np S0 w0 ρ0 O0 (fun id => t ≤ id) S w ρ σ a) (hx : tmpAV σ x = .nils) :
    ∃ ρ', Rel n np S0 w0 ρ0 O0 (fun id => t + 1 ≤ id) S w ρ' ((x, .av (.osl t)) :: (t, .arr d []) :: σ) a := by
  have hxl : x < idBase := by
    rcases Nat.lt_or_ge x idBase with h | h
    · exact h
    · rw [tmpAV_ge h] at hx; cases hx
  have htb := R.fb t (Nat.le_refl t)
  have hfr : ρ t = none := R.fr t (Nat.le_refl t)
  have hle : ρ.le (ρ.put t .nil) := Rho.put_le hfr
  have hat : ∀ id g l c, (ρ.put t .nil) id = some (.at g l c) → id ≠ t ∧ ρ id = some (.at g l c) := by
    intro id g l c h
    simp only [Rho.put] at h
    split at h
    · cases h
    · rename_i hne; exact ⟨hne, h⟩
  have hget : ∀ id, Store.get ((x, .av (.osl t)) :: (t, .arr d []) :: σ) id = if x = id then .av (.osl t) else if t = id then .arr d [] else σ.get id := by
    intro id
    simp only [Store.get]
    split
    · rename_i h; rw [if_pos (Nat.eq_of_beq_eq_true h)]
    · rename_i h
      rw [if_neg (fun e => by rw [e, Nat.beq_refl] at h; cases h)]
      split
      · rename_i h; rw [if_pos (Nat.eq_of_beq_eq_true h)]
      · rename_i h; rw [if_neg (fun e => by rw [e, Nat.beq_refl] at h; cases h)]
  have hlive : ∀ id, (Store.get ((x, .av (.osl t)) :: (t, .arr d []) :: σ) id).live = true → id = t ∨ (id ≠ t ∧ (σ.get id).live = true) := by
    intro id hl
    rw [hget] at hl
    split at hl
    · cases hl
    · split at hl
      · rename_i h; exact .inl h.symm
      · rename_i h; exact .inr ⟨fun e => h e.symm, hl⟩
  have hown : ∀ b, Own (ρ.put t .nil) ((x, .av (.osl t)) :: (t, .arr d []) :: σ) b → Own ρ σ b := by
    rintro b ⟨id, l, c, hl, hr⟩
    obtain ⟨h1, h2⟩ := hat id b l c hr
    rcases hlive id hl with h | h
    · exact absurd h h1
    · exact ⟨id, l, c, h.2, h2⟩
  refine ⟨ρ.put t .nil, ⟨⟨R.h.inS, fun id => ?_, fun b hb ho => R.h.sep b hb (hown b ho), fun i j g l c l' c' hi hj ri rj => ?_⟩, fun y => ?_, R.sz, R.df, fun id hf => ?_, fun id hf => ?_, ⟨R.frame.sub, R.frame.keep, R.frame.grow, R.frame.snew, fun b hb => R.frame.onew b (hown b hb), R.frame.os, R.frame.tape, R.frame.output⟩, fun id h1 h2 => ?_, fun e he => ?_⟩⟩
  · rw [hget]
    split
    · trivial
    · split
      · rename_i h; subst h
        exact .inl ⟨by simp [Rho.put], rfl⟩
      · exact BRel.move (fun _ h => h) (fun _ _ => rfl) hle (fun _ _ _ _ _ => rfl) (R.h.blk id)
  · obtain ⟨i1, i2⟩ := hat i g l c ri
    obtain ⟨j1, j2⟩ := hat j g l' c' rj
    rcases hlive i hi with h | h
    · exact absurd h i1
    · rcases hlive j hj with k | k
      · exact absurd k j1
      · exact R.h.inj i j g l c l' c' h.2 k.2 i2 j2
  · by_cases hy : y = x
    · subst hy
      have h1 := R.tm y
      rw [hx] at h1
      rw [tmpAV_lt hxl, hget, if_pos rfl]
      exact ⟨.nil, by simp [Rho.put], h1⟩
    · have : tmpAV ((x, .av (.osl t)) :: (t, .arr d []) :: σ) y = tmpAV σ y := by
        simp only [tmpAV]
        split
        · rename_i hlt
          have hlt : y < idBase := by simpa [Nat.blt_eq] using hlt
          rw [hget, if_neg (fun e => hy e.symm), if_neg (by omega)]
        · rfl
      rw [this]
      exact (R.tm y).mono (fun _ h => h) (fun _ _ => rfl) hle
  · simp only [Rho.put]
    rw [if_neg (by omega)]
    exact R.fr id (by omega)
  · exact R.fb id (by omega)
  · simp only [Rho.put]
    rw [if_neg (by omega)]
    exact R.pin id h1 h2
  · rw [hget]
    split
    · rfl
    · rw [if_neg (by omega)]
      exact R.lo e he

theorem own2_ok {i id0 : Nat} {cs : List AV} {d : Kd} (R : Rel n np S0 w0 ρ0 O0 (fun id => t ≤ id) S w ρ σ a) (hg : σ.get id0 = .box cs) (hi : cs[i]? = some .nils) :
    ∃ ρ', Rel n np S0 w0 ρ0 O0 (fun id => t + 1 ≤ id) S w ρ' ((id0, .box (cs.set i (.osl t))) :: (t, .arr d []) :: σ) a := by
  have htb := R.fb t (Nat.le_refl t)
  have hfr : ρ t = none := R.fr t (Nat.le_refl t)
  have hle : ρ.le (ρ.put t .nil) := Rho.put_le hfr
  have hb := R.h.blk id0
  rw [hg] at hb
  obtain ⟨g0, len0, cap0, vs0, t0, b1, b2, b3⟩ := hb
  have hne : id0 ≠ t := fun e => by rw [e, hfr] at b1; cases b1
  have hid0 : idBase ≤ id0 := by
    rcases Nat.lt_or_ge id0 idBase with h | h
    · have := R.lo id0 h
      rw [hg] at this
      cases this
    · exact h
  have hat : ∀ id g l c, (ρ.put t .nil) id = some (.at g l c) → id ≠ t ∧ ρ id = some (.at g l c) := by
    intro id g l c h
    simp only [Rho.put] at h
    split at h
    · cases h
    · rename_i hne; exact ⟨hne, h⟩
  have hget : ∀ id, Store.get ((id0, .box (cs.set i (.osl t))) :: (t, .arr d []) :: σ) id = if id0 = id then .box (cs.set i (.osl t)) else if t = id then .arr d [] else σ.get id := by
    intro id
    simp only [Store.get]
    split
    · rename_i h; rw [if_pos (Nat.eq_of_beq_eq_true h)]
    · rename_i h
      rw [if_neg (fun e => by rw [e, Nat.beq_refl] at h; cases h)]
      split
      · rename_i h; rw [if_pos (Nat.eq_of_beq_eq_true h)]
      · rename_i h; rw [if_neg (fun e => by rw [e, Nat.beq_refl] at h; cases h)]
  have hlive : ∀ id, (Store.get ((id0, .box (cs.set i (.osl t))) :: (t, .arr d []) :: σ) id).live = true → id = t ∨ (id ≠ t ∧ (σ.get id).live = true) := by
    intro id hl
    rw [hget] at hl
    split at hl
    · rename_i h; subst h
      exact .inr ⟨hne, by rw [hg]; rfl⟩
    · split at hl
      · rename_i h; exact .inl h.symm
      · rename_i h; exact .inr ⟨fun e => h e.symm, hl⟩
  have hown : ∀ b, Own (ρ.put t .nil) ((id0, .box (cs.set i (.osl t))) :: (t, .arr d []) :: σ) b → Own ρ σ b := by
    rintro b ⟨id, l, c, hl, hr⟩
    obtain ⟨h1, h2⟩ := hat id b l c hr
    rcases hlive id hl with h | h
    · exact absurd h h1
    · exact ⟨id, l, c, h.2, h2⟩
  refine ⟨ρ.put t .nil, ⟨⟨R.h.inS, fun id => ?_, fun b hb ho => R.h.sep b hb (hown b ho), fun i j g l c l' c' hi hj ri rj => ?_⟩, fun y => ?_, R.sz, R.df, fun id hf => ?_, fun id hf => ?_, ⟨R.frame.sub, R.frame.keep, R.frame.grow, R.frame.snew, fun b hb => R.frame.onew b (hown b hb), R.frame.os, R.frame.tape, R.frame.output⟩, fun id h1 h2 => ?_, fun e he => ?_⟩⟩
  · rw [hget]
    split
    · rename_i h; subst h
      refine ⟨g0, len0, cap0, vs0, t0, hle _ _ b1, b2, ?_⟩
      obtain ⟨v, k1, k2⟩ := b3.get hi
      have k3 : v = .slice none 0 0 := k2
      subst k3
      have hs : All2 (L0 S w (ρ.put t .nil)) (cs.set i (.osl t)) (vs0.toList.set i (.slice none 0 0)) :=
        All2.set i (b3.imp fun _ _ h => h.mono (fun _ h => h) (fun _ _ => rfl) hle) ⟨.nil, by simp [Rho.put], rfl⟩
      have he : vs0.toList.set i (.slice none 0 0) = vs0.toList := by
        apply List.ext_getElem?
        intro j
        rw [List.getElem?_set]
        split
        · rename_i hij; subst hij
          have := (List.getElem?_eq_some_iff.1 k1).1
          rw [if_pos this, k1]
        · rfl
      rw [he] at hs
      exact hs
    · split
      · rename_i h; subst h
        exact .inl ⟨by simp [Rho.put], rfl⟩
      · exact BRel.move (fun _ h => h) (fun _ _ => rfl) hle (fun _ _ _ _ _ => rfl) (R.h.blk id)
  · obtain ⟨i1, i2⟩ := hat i g l c ri
    obtain ⟨j1, j2⟩ := hat j g l' c' rj
    rcases hlive i hi with h | h
    · exact absurd h i1
    · rcases hlive j hj with k | k
      · exact absurd k j1
      · exact R.h.inj i j g l c l' c' h.2 k.2 i2 j2
  · have : tmpAV ((id0, .box (cs.set i (.osl t))) :: (t, .arr d []) :: σ) y = tmpAV σ y := by
      simp only [tmpAV]
      split
      · rename_i hlt
        have hlt : y < idBase := by simpa [Nat.blt_eq] using hlt
        rw [hget, if_neg (by omega), if_neg (by omega)]
      · rfl
    rw [this]
    exact (R.tm y).mono (fun _ h => h) (fun _ _ => rfl) hle
  · simp only [Rho.put]
    rw [if_neg (by omega)]
    exact R.fr id (by omega)
  · exact R.fb id (by omega)
  · simp only [Rho.put]
    rw [if_neg (by omega)]
    exact R.pin id h1 h2
  · rw [hget, if_neg (by omega), if_neg (by omega)]
    exact R.lo e he

theorem ownN_ok : ∀ {l : List (Nat × Kd)} {t : Nat} {ρ : Rho} {σ : Store}, Rel n np S0 w0 ρ0 O0 (fun id => t ≤ id) S w ρ σ a →
    ∃ ρ', Rel n np S0 w0 ρ0 O0 (fun id => (ownN l σ t).2 ≤ id) S w ρ' (ownN l σ t).1 a
  | [], t, ρ, σ, R => ⟨ρ, R⟩
  | (x, d) :: l, t, ρ, σ, R => by
    simp only [ownN]
    split
    · rename_i hx
      split
      · obtain ⟨ρ', R'⟩ := own1_ok (d := d) R hx
        exact ownN_ok R'
      · exact ownN_ok R
    · rename_i id hx
      split
      · rename_i cs hg
        split
        · rename_i hi
          obtain ⟨ρ', R'⟩ := own2_ok (d := d) R hg hi
          exact ownN_ok R'
        · exact ownN_ok R
      · exact ownN_ok R
    · exact ownN_ok R

theorem shOf_ok {s : Sh} {own : List (Nat × Kd)} {x : s.T} (R : Rel n np S0 w0 ρ0 O0 (fun id => t ≤ id) S w ρ σ a) (h : s.of np own σ t = some x) :
    ∃ ρ', Rel n np S0 w0 ρ0 O0 (fun id => (s.fill x).2 ≤ id) S w ρ' (s.fill x).1 a := by
  simp only [Sh.of, Option.bind_eq_some_iff] at h
  obtain ⟨p, h1, h2⟩ := h
  obtain ⟨ρ1, R1⟩ := ownN_ok (l := own) R
  obtain ⟨ρ2, R2⟩ := norm_ok R1 h1
  rw [Sh.ex_fill h2]
  exact ⟨ρ2, R2⟩

theorem exOf_ok {e : AExit} {R' : Type} {K : AExit → Store → Nat → Option R'} {r : R'} : ∀ {es : List Ex} {y : ExT es}, Rel n np S0 w0 ρ0 O0 (fun id => t ≤ id) S w ρ σ a → ExT.of np e σ t es = some y → ExT.elim K es y = some r →
    ∃ σ' t' ρ', Rel n np S0 w0 ρ0 O0 (fun id => t' ≤ id) S w ρ' σ' a ∧ K e σ' t' = some r
  | [], _, _, h, _ => by cases h
  | [x], y, R, h, hk => by
    simp only [ExT.of] at h
    split at h
    case h_2 => cases h
    rename_i hs
    obtain ⟨ρ', R1⟩ := shOf_ok R h
    rw [← sameE_eq hs]
    exact ⟨_, _, ρ', R1, hk⟩
  | x :: x' :: es, y, R, h, hk => by
    have rest : (ExT.of np e σ t (x' :: es)).bind (fun y => some (.inr y)) = some y → ∃ σ' t' ρ', Rel n np S0 w0 ρ0 O0 (fun id => t' ≤ id) S w ρ' σ' a ∧ K e σ' t' = some r := by
      intro h
      simp only [Option.bind_eq_some_iff] at h
      obtain ⟨z, h1, h2⟩ := h
      cases h2
      exact exOf_ok R h1 hk
    simp only [ExT.of] at h
    split at h
    · rename_i hs
      split at h
      · rename_i z hz
        cases h
        obtain ⟨ρ', R1⟩ := shOf_ok R hz
        rw [← sameE_eq hs]
        exact ⟨_, _, ρ', R1, hk⟩
      · exact rest h
    · exact rest h
end

/-- What is told of a loop is what its rounds do. -/
def LCtr.ok (Γ : Tys) (Φ : Ctrs) (n np : Nat) (Λ : LTab) (c : Code) (l : LCtr) : Prop := ∀ x y, l.G x = some y → ∃ k, Go.Nu.rounds (loopStep Γ Φ n np Λ c l) k x = some y

section
variable {n np : Nat} {S0 : Nat → Prop} {w0 : World} {ρ0 : Rho} {O0 : Nat → Prop}
variable {P : Program} {Γ : Tys} (hΓ : Tys.ok P Γ) {Φ : Ctrs} (hΦ : ∀ f c, Φ f = some c → c.ok P f) (hn : n ≤ idBase) (hm : P.follows .mixedOrders = true) {Λ : LTab}
include hΓ hΦ hn hm

theorem aexec_ok : ∀ (c : Code) (hΛ : ∀ c' ∈ loopsOf c, ∀ l, Λ (firstRegion c') = some l → l.ok Γ Φ n np Λ c') {R : Type} {σ : Store} {t : Nat} {K : AExit → Store → Nat → Option R} {r : R} {S : Nat → Prop} {w : World} {ρ : Rho} {a : Act} {Q : Exit → Act → World → Prop},
    Rel n np S0 w0 ρ0 O0 (fun id => t ≤ id) S w ρ σ a → aexec Γ Φ n np Λ c σ t K = some r →
    (∀ e S' w' ρ' σ' t' a', Rel n np S0 w0 ρ0 O0 (fun id => t' ≤ id) S' w' ρ' σ' a' → K e σ' t' = some r → Q (outOf e) a' w') → c.wp P Q a w := by
  intro c
  induction c with
  | skip =>
    intro hΛ R σ t K r S w ρ a Q R0 hr hk
    exact wp_skip (hk .normal S w ρ σ t a R0 hr)
  | label l =>
    intro hΛ R σ t K r S w ρ a Q R0 hr hk
    exact wp_label (hk .normal S w ρ σ t a R0 hr)
  | exit id =>
    intro hΛ R σ t K r S w ρ a Q R0 hr hk
    exact wp_exit (hk (.exit id) S w ρ σ t a R0 hr)
  | ret =>
    intro hΛ R σ t K r S w ρ a Q R0 hr hk
    exact wp_ret (hk .ret S w ρ σ t a R0 hr)
  | region id ops draw =>
    intro hΛ R σ t K r S w ρ a Q R0 hr hk
    simp only [aexec] at hr
    cases draw with
    | false =>
      simp only at hr
      refine wp_region ?_
      have := regionS_ok hΓ hΦ hn (ops := ops) (Q := Q) ops.toList [] rfl R0 hr fun S' w' ρ' σ' t' a' R1 h1 => hk .normal S' w' ρ' σ' t' a' R1 h1
      rw [List.range_eq_range']
      simpa using this
    | true =>
      simp only at hr
      obtain ⟨dl, σ', h1, h2, h3, h4⟩ := regionD_direct ops.toList hr
      split at h4
      case h_2 => cases h4
      rename_i hok
      simp only [Bool.and_eq_true, List.nil_append] at hok
      have hlen : dl.length = ops.size := by rw [h1, Array.length_toList]
      refine wp_region_any hm ?_
      have Rd : Rel n np S0 w0 ρ0 O0 (fun id => t ≤ id) S { w with drawn := w.drawn + 1 } ρ σ a := by
        have E : Ext S w ρ σ S w.drew ρ σ := ⟨fun _ _ h => h, fun _ h => h, fun _ _ _ => rfl, Nat.le_refl _, fun _ h => .inl h, fun _ h => .inr h, rfl, rfl, rfl⟩
        exact ⟨R0.h.drew, fun x => (R0.tm x).ext E R0.h, R0.sz, R0.df, R0.fr, R0.fb, R0.frame.ext E, R0.pin, R0.lo⟩
      refine any_ok (n := n) (np := np) (S0 := S0) (w0 := w0) (ρ0 := ρ0) (O0 := O0) hΓ hΦ hn hlen hok.1 hok.2 (fun i o hi => h2 i o (by rw [Array.getElem?_toList]; exact hi)) (fun S' w' ρ' a' R1 => ?_) ops.size _ (S := S) (ρ := ρ) (by simp) ?_ ?_ ?_
      · refine hk .normal S' w' ρ' σ' (t + 64 * ops.size) a' (R1.congr h3) ?_
        rw [Array.length_toList] at h4
        exact h4
      · refine Nat.le_trans List.countP_le_length ?_
        simp
      · intro j o hj hl
        exfalso
        have hjn : j < ops.size := (Array.getElem?_eq_some_iff.1 hj).1
        simp [Array.getD_eq_getD_getElem?, hjn] at hl
      · refine (Rd.fewer fun id h5 => ?_).congr fun k' => ?_
        · rcases h5 with h5 | ⟨j, _, _, h5, _⟩ <;> omega
        · exact mix_skip dl 0 fun j d hj hl => by
            have hjn : j < ops.size := by rw [← hlen]; exact (List.getElem?_eq_some_iff.1 hj).1
            simp [Array.getD_eq_getD_getElem?, hjn] at hl
  | seq x y ihx ihy =>
    intro hΛ R σ t K r S w ρ a Q R0 hr hk
    simp only [aexec] at hr
    refine wp_seq (ihx (fun c' h => hΛ c' (List.mem_append_left _ h)) R0 hr fun e S' w' ρ' σ' t' a' R1 h1 => ?_)
    cases e with
    | normal => exact ihy (fun c' h => hΛ c' (List.mem_append_right _ h)) R1 h1 hk
    | exit id => exact hk (.exit id) S' w' ρ' σ' t' a' R1 h1
    | ret => exact hk .ret S' w' ρ' σ' t' a' R1 h1
  | cond c x y ihx ihy =>
    intro hΛ R σ t K r S w ρ a Q R0 hr hk
    simp only [aexec] at hr
    split at hr
    · rename_i d
      split at hr
      · rename_i v hv
        have h1 := R0.tm d
        rw [hv] at h1
        have h2 : a.eval (.tmp d) = .bool v := h1
        refine wp_cond h2 ?_
        cases v with
        | true => exact ihx (fun c' h => hΛ c' (List.mem_append_left _ h)) (R0.told hv) hr hk
        | false => exact ihy (fun c' h => hΛ c' (List.mem_append_right _ h)) (R0.told hv) hr hk
      · cases hr
    · rename_i v
      refine wp_cond (t := v) rfl ?_
      cases v with
      | true => exact ihx (fun c' h => hΛ c' (List.mem_append_left _ h)) R0 hr hk
      | false => exact ihy (fun c' h => hΛ c' (List.mem_append_right _ h)) R0 hr hk
    · cases hr
  | block id c ih =>
    intro hΛ R σ t K r S w ρ a Q R0 hr hk
    simp only [aexec] at hr
    refine wp_block (ih hΛ R0 hr fun e S' w' ρ' σ' t' a' R1 h1 => ?_)
    cases e with
    | normal => exact hk .normal S' w' ρ' σ' t' a' R1 h1
    | ret => exact hk .ret S' w' ρ' σ' t' a' R1 h1
    | exit j =>
      simp only at h1
      simp only [outOf, Exit.inBlock]
      split at h1
      · rename_i hb
        rw [if_pos (Nat.eq_of_beq_eq_true hb)]
        exact hk .normal S' w' ρ' σ' t' a' R1 h1
      · rename_i hb
        rw [if_neg (fun e => by rw [e, Nat.beq_refl] at hb; cases hb)]
        exact hk (.exit j) S' w' ρ' σ' t' a' R1 h1
  | loop c ih =>
    intro hΛ R σ t K r S w ρ a Q R0 hr hk
    simp only [aexec] at hr
    split at hr
    case h_2 => cases hr
    rename_i l hl
    simp only [obind_eq, Option.bind_eq_some_iff] at hr
    obtain ⟨x, hx, y, hy, hr⟩ := hr
    obtain ⟨q, hq⟩ := hΛ c (by simp [loopsOf]) l hl x y hy
    obtain ⟨ρ1, R1⟩ := shOf_ok R0 hx
    refine wp_loop_rounds q ?_
    have key : ∀ (q : Nat) {x : l.sh.T} {S : Nat → Prop} {w : World} {ρ : Rho} {a : Act}, Rel n np S0 w0 ρ0 O0 (fun id => (l.sh.fill x).2 ≤ id) S w ρ (l.sh.fill x).1 a →
        Go.Nu.rounds (loopStep Γ Φ n np Λ c l) q x = some y → Code.rounds P c Q q a w := by
      intro q
      induction q with
      | zero => intro x S w ρ a _ h; cases h
      | succ q ihq =>
        intro x S w ρ a R2 h
        rw [rounds_succ]
        rw [Go.Nu.rounds, loopStep] at h
        refine ih (fun c' h => hΛ c' (by simp [loopsOf, h])) R2 h fun e S' w' ρ' σ' t' a' R3 h3 => ?_
        cases e with
        | normal =>
          simp only [Option.bind_eq_some_iff] at h3
          obtain ⟨x', hx', h3⟩ := h3
          obtain ⟨ρ4, R4⟩ := shOf_ok R3 hx'
          exact ihq R4 h3
        | exit id =>
          obtain ⟨σ5, t5, ρ5, R5, h5⟩ := exOf_ok R3 h3 hr
          exact hk (.exit id) S' w' ρ5 σ5 t5 a' R5 h5
        | ret =>
          obtain ⟨σ5, t5, ρ5, R5, h5⟩ := exOf_ok R3 h3 hr
          exact hk .ret S' w' ρ5 σ5 t5 a' R5 h5
    exact key q R1 hq
  | _ => intro hΛ R σ t K r S w ρ a Q R0 hr hk; simp only [aexec] at hr; cases hr

end
end Go.Nu

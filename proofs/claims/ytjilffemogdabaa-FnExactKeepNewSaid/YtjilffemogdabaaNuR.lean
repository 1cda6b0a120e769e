/- Nu, part R: the state of a running body; one operation of it. -/
import Derived.Test.YtjilffemogdabaaNuP
import Derived.Test.YtjilffemogdabaaNuQ
import Derived.LoopN
import Derived.Orders
namespace Go.Nu
set_option linter.unusedSimpArgs false
set_option linter.unnecessarySimpa false
set_option linter.unusedVariables false
set_option linter.unusedSectionVars false

/-- What may have become of the world since the call began (ids aside). -/
structure Fr (S0 : Nat → Prop) (w0 : World) (O0 : Nat → Prop) (S : Nat → Prop) (w : World) (O : Nat → Prop) : Prop where
  sub : ∀ b, S0 b → S b
  keep : ∀ b, b < w0.heap.size → ¬ O0 b → w.heap[b]? = w0.heap[b]?
  grow : w0.heap.size ≤ w.heap.size
  snew : ∀ b, S b → S0 b ∨ w0.heap.size ≤ b ∨ O0 b
  onew : ∀ b, O b → w0.heap.size ≤ b ∨ O0 b
  os : w.os = w0.os
  tape : w.tape = w0.tape
  output : w.output = w0.output

theorem Fr.ext {S0 S S' : Nat → Prop} {w0 w w' : World} {O0 : Nat → Prop} {ρ ρ' : Rho} {σ σ' : Store} (f : Fr S0 w0 O0 S w (Own ρ σ)) (k : Ext S w ρ σ S' w' ρ' σ') : Fr S0 w0 O0 S' w' (Own ρ' σ') := by
  refine ⟨fun b e => k.sub _ (f.sub _ e), fun b hb hn => ?_, Nat.le_trans f.grow k.grow, fun b e => ?_, fun b e => ?_, k.os.trans f.os, k.tape.trans f.tape, k.output.trans f.output⟩
  · rw [k.keep b (Nat.lt_of_lt_of_le hb f.grow) (fun ho => ?_), f.keep b hb hn]
    rcases f.onew b ho with h1 | h1
    · omega
    · exact hn h1
  · rcases k.snew b e with h1 | h1 | h1
    · exact f.snew b h1
    · exact .inr (.inl (Nat.le_trans f.grow h1))
    · exact .inr (f.onew b h1)
  · rcases k.onew b e with h1 | h1
    · exact .inl (Nat.le_trans f.grow h1)
    · exact f.onew b h1

/-- The state, told and real. F: ids that are not in use. -/
structure Rel (n np : Nat) (S0 : Nat → Prop) (w0 : World) (ρ0 : Rho) (O0 : Nat → Prop) (F : Nat → Prop) (S : Nat → Prop) (w : World) (ρ : Rho) (σ : Store) (a : Act) : Prop where
  h : HRel S w ρ σ
  tm : ∀ x, L2 S w ρ (tmpAV σ x) (a.tmps.getD x undef)
  sz : a.tmps.size = n
  df : a.defers = []
  fr : ∀ id, F id → ρ id = none
  fb : ∀ id, F id → idBase + np ≤ id
  frame : Fr S0 w0 O0 S w (Own ρ σ)
  pin : ∀ id, idBase ≤ id → id < idBase + np → ρ id = ρ0 id
  lo : ∀ d, d < idBase → (σ.get d).live = false

theorem HRel.congr {S : Nat → Prop} {w : World} {ρ : Rho} {σ σ' : Store} (h : HRel S w ρ σ) (e : ∀ k, σ'.get k = σ.get k) : HRel S w ρ σ' := by
  have ho : ∀ b, Own ρ σ' b → Own ρ σ b := fun b ⟨id, l, c, hl, hr⟩ => ⟨id, l, c, by rw [← e]; exact hl, hr⟩
  exact ⟨h.inS, fun id => by rw [e]; exact h.blk id, fun b hb hk => h.sep b hb (ho b hk), fun i j g l c l' c' hi hj ri rj => h.inj i j g l c l' c' (by rw [← e]; exact hi) (by rw [← e]; exact hj) ri rj⟩

theorem tmpAV_congr {σ σ' : Store} (e : ∀ k, σ'.get k = σ.get k) (x : Nat) : tmpAV σ' x = tmpAV σ x := by simp only [tmpAV, e]

theorem Own.congr {ρ : Rho} {σ σ' : Store} (e : ∀ k, σ'.get k = σ.get k) : Own ρ σ' = Own ρ σ := by
  funext b
  simp only [Own, e]

section
variable {n np : Nat} {S0 : Nat → Prop} {w0 : World} {ρ0 : Rho} {O0 F S : Nat → Prop} {w : World} {ρ : Rho} {σ : Store} {a : Act}

theorem Rel.congr {σ' : Store} (r : Rel n np S0 w0 ρ0 O0 F S w ρ σ a) (e : ∀ k, σ'.get k = σ.get k) : Rel n np S0 w0 ρ0 O0 F S w ρ σ' a :=
  ⟨r.h.congr e, fun x => by rw [tmpAV_congr e]; exact r.tm x, r.sz, r.df, r.fr, r.fb, by rw [Own.congr e]; exact r.frame, r.pin, fun d hd => by rw [e]; exact r.lo d hd⟩

theorem Rel.fewer {F' : Nat → Prop} (r : Rel n np S0 w0 ρ0 O0 F S w ρ σ a) (h : ∀ id, F' id → F id) : Rel n np S0 w0 ρ0 O0 F' S w ρ σ a :=
  ⟨r.h, r.tm, r.sz, r.df, fun id hf => r.fr id (h id hf), fun id hf => r.fb id (h id hf), r.frame, r.pin, r.lo⟩

theorem ofConst (S : Nat → Prop) (w : World) (ρ : Rho) (v : Value) : L2 S w ρ (constAV v) v := by
  unfold constAV
  split
  · rename_i cs; exact ⟨cs, rfl, ofZeros_rel _ _ _ _⟩
  · exact L1.two (L0.one (ofZero_rel _ _ _ _))

theorem evS_rel {σh : Store} (ht : ∀ x, L2 S w ρ (tmpAV σh x) (a.tmps.getD x undef)) : ∀ x, L2 S w ρ (evS σh x) (a.eval x)
  | .tmp t => ht t
  | .const v => ofConst S w ρ v
  | .func f => ⟨#[], rfl, trivial⟩
  | .global g => trivial

theorem tmpAV_lt {σ : Store} {x : Nat} (h : x < idBase) : tmpAV σ x = match σ.get x with | .av v => v | _ => .undef := by
  have : Nat.blt x idBase = true := by rw [Nat.blt_eq]; exact h
  simp only [tmpAV, this]
  cases σ.get x <;> rfl
theorem tmpAV_ge {σ : Store} {x : Nat} (h : idBase ≤ x) : tmpAV σ x = .undef := by
  have : Nat.blt x idBase = false := by
    cases hb : Nat.blt x idBase
    · rfl
    · rw [Nat.blt_eq] at hb; omega
  simp only [tmpAV, this]

theorem idsOk_key {ws : Store} (h : idsOk ws = true) {x : Nat} (hx : x < idBase) : ws.any (fun p => Nat.beq p.1 x) = false := by
  rw [List.any_eq_false]
  intro p hp hb
  have := Nat.le_of_ble_eq_true (List.all_eq_true.1 h p hp)
  have := Nat.eq_of_beq_eq_true hb
  omega

theorem tmpAV_ws {ws : Store} (h : idsOk ws = true) (x : Nat) : tmpAV (ws ++ σ) x = tmpAV σ x := by
  by_cases hx : x < idBase
  · rw [tmpAV_lt hx, tmpAV_lt hx, get_append, idsOk_key h hx]
  · rw [tmpAV_ge (by omega), tmpAV_ge (by omega)]

/-- A temporary's value stands in no block's place. -/
theorem HRel.tmp {d : Nat} {v : AV} (h : HRel S w ρ σ) (hd : (σ.get d).live = false) : HRel S w ρ ((d, .av v) :: σ) ∧ ∀ b, Own ρ ((d, .av v) :: σ) b ↔ Own ρ σ b := by
  have hl : ∀ j, (Store.get ((d, .av v) :: σ) j).live = true ↔ (σ.get j).live = true := by
    intro j
    by_cases hj : j = d
    · subst hj; rw [get_cons_same, hd]; simp [Cell.live]
    · rw [get_cons_ne _ _ hj]
  have ho : ∀ b, Own ρ ((d, .av v) :: σ) b ↔ Own ρ σ b := fun b => ⟨fun ⟨id, l, c, h1, h2⟩ => ⟨id, l, c, (hl id).1 h1, h2⟩, fun ⟨id, l, c, h1, h2⟩ => ⟨id, l, c, (hl id).2 h1, h2⟩⟩
  refine ⟨⟨h.inS, fun id => ?_, fun b hb hk => h.sep b hb ((ho b).1 hk), fun i j g l c l' c' hi hj ri rj => h.inj i j g l c l' c' ((hl i).1 hi) ((hl j).1 hj) ri rj⟩, ho⟩
  by_cases hj : id = d
  · subst hj; rw [get_cons_same]; trivial
  · rw [get_cons_ne _ _ hj]; exact h.blk id

/-- What a branch tells of a temporary. -/
theorem Rel.told {t : Nat} {c : Bool} (r : Rel n np S0 w0 ρ0 O0 F S w ρ σ a) (ht : tmpAV σ t = .bool c) : Rel n np S0 w0 ρ0 O0 F S w ρ ((t, .av (.bool c)) :: σ) a := by
  have hlt : t < idBase := by
    rcases Nat.lt_or_ge t idBase with h | h
    · exact h
    · rw [tmpAV_ge h] at ht; cases ht
  have hg : σ.get t = .av (.bool c) := by
    rw [tmpAV_lt hlt] at ht
    split at ht
    · rename_i v hv; rw [hv, ht]
    · cases ht
  refine r.congr fun k => ?_
  by_cases hk : k = t
  · subst hk; rw [get_cons_same, hg]
  · rw [get_cons_ne _ _ hk]

end

theorem getD_put {a : Act} {d x : Nat} {v : Value} (hd : d < a.tmps.size) : (a.put (some d) v).tmps.getD x undef = if x = d then v else a.tmps.getD x undef := by
  simp only [Act.put]
  by_cases hx : x = d
  · subst hx
    simp [Array.getD, hd]
  · rw [if_neg hx]
    simp only [Array.getD_eq_getD_getElem?]
    rw [Array.getElem?_setIfInBounds_ne (Ne.symm hx)]

section
variable {n np : Nat} {S0 : Nat → Prop} {w0 : World} {ρ0 : Rho} {O0 F S : Nat → Prop} {w : World} {ρ : Rho} {σ : Store} {a : Act}

/-- A temporary is set. -/
theorem Rel.put {dst : Option Tmp} {av : AV} {v : Value} (hn : n ≤ idBase) (r : Rel n np S0 w0 ρ0 O0 F S w ρ σ a) (hd : dstOk n dst = true) (hv : L2 S w ρ av v) :
    Rel n np S0 w0 ρ0 O0 F S w ρ (putS σ dst av) (a.put dst v) := by
  cases dst with
  | none => exact r
  | some d =>
    have hdn : d < n := by simpa [dstOk, Nat.blt_eq] using hd
    have hdb : d < idBase := Nat.lt_of_lt_of_le hdn hn
    obtain ⟨k1, k2⟩ := r.h.tmp (v := av) (r.lo d hdb)
    refine ⟨k1, fun x => ?_, ?_, r.df, r.fr, r.fb, ?_, r.pin, fun e he => ?_⟩
    · rw [getD_put (by rw [r.sz]; exact hdn)]
      by_cases hx : x = d
      · subst hx
        rw [if_pos rfl]
        show L2 S w ρ (tmpAV ((x, .av av) :: σ) x) v
        rw [tmpAV_lt hdb, get_cons_same]
        exact hv
      · rw [if_neg hx]
        show L2 S w ρ (tmpAV ((d, .av av) :: σ) x) _
        have : tmpAV ((d, .av av) :: σ) x = tmpAV σ x := by
          by_cases hxb : x < idBase
          · rw [tmpAV_lt hxb, tmpAV_lt hxb, get_cons_ne _ _ hx]
          · rw [tmpAV_ge (by omega), tmpAV_ge (by omega)]
        rw [this]
        exact r.tm x
    · show (a.tmps.setIfInBounds d v).size = n
      rw [Array.size_setIfInBounds]; exact r.sz
    · have : Own ρ (putS σ (some d) av) = Own ρ σ := by funext b; exact propext (k2 b)
      rw [this]
      exact r.frame
    · show (Store.get ((d, .av av) :: σ) e).live = false
      by_cases hed : e = d
      · subst hed; rw [get_cons_same]; rfl
      · rw [get_cons_ne _ _ hed]; exact r.lo e he

/-- What is told of a part of the store goes for the whole. -/
theorem Rel.post {h : Store} {b : Nat} {r : Res} {v : Value} {w' : World} (R : Rel n np S0 w0 ρ0 O0 F S w ρ σ a) (hh : ∀ k, h.get k = σ.get k ∨ h.get k = .none) (p : Post S w ρ h b r v w')
    (hb : ∀ id, b ≤ id → id < b + 64 → F id) (hi : idsOk r.2 = true) : ∃ S' ρ', Rel n np S0 w0 ρ0 O0 (fun id => F id ∧ ¬ (b ≤ id ∧ id < b + 64)) S' w' ρ' (r.2 ++ σ) a ∧ L2 S' w' ρ' r.1 v := by
  obtain ⟨S', ρ', E, K, L, Q⟩ := p
  obtain ⟨E', K'⟩ := frame_part (S' := S') R.h (fun id hl => by rcases hh id with e | e <;> rw [e] at hl <;> first | exact hl | cases hl)
    (fun id hl => by rcases hh id with e | e <;> first | exact .inr e | (rw [e] at hl; cases hl)) E K E.sub E.snew (fun id _ => K.blk id) K.sep K.inS
  refine ⟨S', ρ', ⟨K', fun x => ?_, R.sz, R.df, fun id hf => ?_, fun id hf => R.fb id hf.1, R.frame.ext E', fun id h1 h2 => ?_, fun d hd => ?_⟩, L⟩
  · rw [tmpAV_ws hi]
    exact (R.tm x).ext E' R.h
  · by_cases hne : ρ' id = ρ id
    · rw [hne]; exact R.fr id hf.1
    · exact absurd (Q id hne) hf.2
  · by_cases hne : ρ' id = ρ id
    · rw [hne]; exact R.pin id h1 h2
    · have h3 := Q id hne
      have := R.fb id (hb id h3.1 h3.2)
      omega
  · rw [get_append, idsOk_key hi hd]; exact R.lo d hd

theorem part_tm {h : Store} (R : Rel n np S0 w0 ρ0 O0 F S w ρ σ a) (hh : ∀ k, h.get k = σ.get k ∨ h.get k = .none) : ∀ x, L2 S w ρ (tmpAV h x) (a.tmps.getD x undef) := by
  intro x
  by_cases hx : x < idBase
  · rw [tmpAV_lt hx]
    rcases hh x with e | e
    · have := R.tm x
      rw [tmpAV_lt hx] at this
      rw [e]; exact this
    · rw [e]; trivial
  · rw [tmpAV_ge (by omega)]; trivial

theorem part_h {h : Store} (H : HRel S w ρ σ) (hh : ∀ k, h.get k = σ.get k ∨ h.get k = .none) : HRel S w ρ h := by
  have hl : ∀ k, (h.get k).live = true → (σ.get k).live = true := fun k hk => by rcases hh k with e | e <;> rw [e] at hk <;> first | exact hk | cases hk
  refine ⟨H.inS, fun id => ?_, fun b hb ⟨id, l, c, h1, h2⟩ => H.sep b hb ⟨id, l, c, hl id h1, h2⟩, fun i j g l c l' c' hi hj ri rj => H.inj i j g l c l' c' (hl i hi) (hl j hj) ri rj⟩
  rcases hh id with e | e
  · rw [e]; exact H.blk id
  · rw [e]; trivial

variable {P : Program} {Γ : Tys} (hΓ : Tys.ok P Γ) {Φ : Ctrs} (hΦ : ∀ f c, Φ f = some c → c.ok P f)
include hΓ hΦ

/-- One operation, carried out. -/
theorem op_step (hn : n ≤ idBase) {h : Store} {o : Oper} {b : Nat} {r : Res} (R : Rel n np S0 w0 ρ0 O0 F S w ρ σ a) (hh : ∀ k, h.get k = σ.get k ∨ h.get k = .none)
    (hr : (opP Γ Φ o.op (evS h) h b).run some = some r) (hi : idsOk r.2 = true) (hd : dstOk n o.dst = true) (hb : ∀ id, b ≤ id → id < b + 64 → F id) {next : Act → World → Prop} {Q : Exit → Act → World → Prop}
    (hk : ∀ S' w' ρ' a', Rel n np S0 w0 ρ0 O0 (fun id => F id ∧ ¬ (b ≤ id ∧ id < b + 64)) S' w' ρ' (putS (r.2 ++ σ) o.dst r.1) a' → next a' w') : o.wp P a w next Q := by
  refine opP_ok hΓ hΦ hr (part_h R.h hh) (evS_rel (part_tm R hh)) (fun id h1 h2 => R.fr id (hb id h1 h2)) fun v w' hp => ?_
  obtain ⟨S', ρ', R', L⟩ := R.post hh hp hb hi
  exact hk S' w' ρ' _ (R'.put hn hd L)

/-- Whether an operation is wanted is told by its guard. -/
theorem wanted_told {ops : Array Oper} {o : Oper} {j t : Nat} {want c : Bool} (R : Rel n np S0 w0 ρ0 O0 F S w ρ σ a) (hg : o.guard = some (j, want)) (ht : guardTmp ops.toList j = some t) (hc : tmpAV σ t = .bool c) :
    Region.wanted o (yielded ops a.tmps) = (c == want) := by
  have h1 := R.tm t
  rw [hc] at h1
  simp only [L2, L1, L0] at h1
  have h2 : a.tmps[t]? = some (.bool c) := by
    rcases Nat.lt_or_ge t a.tmps.size with hlt | hge
    · have : a.tmps.getD t undef = a.tmps[t] := by simp [Array.getD, hlt]
      rw [this] at h1
      rw [Array.getElem?_eq_getElem hlt, h1]
    · have : a.tmps.getD t undef = undef := by simp [Array.getD, Nat.not_lt.2 hge]
      rw [this] at h1
      cases h1
  have h3 : (ops[j]?).bind (·.dst) = some t := by
    unfold guardTmp at ht
    rw [Array.getElem?_toList] at ht
    split at ht
    · rename_i o' ho; rw [ho]; exact ht
    · cases ht
  unfold Region.wanted
  rw [hg]
  simp only [yielded, h3, Option.bind_some, h2]
  cases c <;> cases want <;> rfl

theorem wanted_skip {ops : Array Oper} {o : Oper} {j t : Nat} {want : Bool} (R : Rel n np S0 w0 ρ0 O0 F S w ρ σ a) (hg : o.guard = some (j, want)) (ht : guardTmp ops.toList j = some t) (hc : tmpAV σ t = .tup []) :
    Region.wanted o (yielded ops a.tmps) = false := by
  have h1 := R.tm t
  rw [hc] at h1
  obtain ⟨vs, h1, _⟩ := h1
  have h3 : (ops[j]?).bind (·.dst) = some t := by
    unfold guardTmp at ht
    rw [Array.getElem?_toList] at ht
    split at ht
    · rename_i o' ho; rw [ho]; exact ht
    · cases ht
  have h2 : ∀ b, a.tmps[t]? ≠ some (.bool b) := by
    intro b hb
    have : a.tmps.getD t undef = .bool b := by rw [Array.getD_eq_getD_getElem?, hb]; rfl
    rw [h1] at this
    cases this
  unfold Region.wanted
  rw [hg]
  simp only [yielded, h3, Option.bind_some]
  cases hh : a.tmps[t]? with
  | none => rfl
  | some v =>
    cases v <;> first | rfl | exact absurd hh (h2 _)

end
end Go.Nu

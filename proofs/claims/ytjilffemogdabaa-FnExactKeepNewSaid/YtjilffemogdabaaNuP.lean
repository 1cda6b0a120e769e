/- Nu, part P: an operation does what is told, all of them. -/
import Derived.Test.YtjilffemogdabaaNuO
namespace Go.Nu
set_option linter.unusedSimpArgs false
set_option linter.unnecessarySimpa false
set_option linter.unusedVariables false
set_option linter.unusedSectionVars false

theorem run_v {P : Program} {s : Sem Value} {w w' : World} {v : Value} (h : s.run P w = .ok v w') : (do pure (Next.value (← s)) : Sem Next).run P w = .ok (.value v) w' := by
  simp only [Sem.run_bind, h, Result.andThen_ok, Sem.run_pure]
theorem run_u {P : Program} {s : Sem Unit} {w w' : World} (h : s.run P w = .ok () w') : (do s; pure Next.skip : Sem Next).run P w = .ok .skip w' := by
  simp only [Sem.run_bind, h, Result.andThen_ok, Sem.run_pure]

theorem pairs_rel {S : Nat → Prop} {w : World} {ρ : Rho} {ev : Operand → AV} {a : Act} (he : ∀ x, L2 S w ρ (ev x) (a.eval x)) : ∀ (ps : List (Nat × Operand)), (∀ p ∈ ps, (ev p.2).isDef = true) →
    All2 (fun p q => p.1 = q.1 ∧ p.2 ≠ .undef ∧ L1 S w ρ p.2 q.2) (ps.map fun p => (p.1, ev p.2)) (ps.map fun p => (p.1, a.eval p.2))
  | [], _ => trivial
  | p :: ps, h => ⟨⟨rfl, ((he p.2).def (h p (by simp))).2, ((he p.2).def (h p (by simp))).1⟩, pairs_rel he ps fun q hq => h q (by simp [hq])⟩

theorem fillA_def {Γ : Tys} {d : TypeDesc} : ∀ {ps : List (Nat × AV)} {cs cs' : List AV}, fillA Γ d cs ps = some cs' → ∀ p ∈ ps, p.2.isDef = true
  | [], _, _, _, p, hp => by simp at hp
  | (j, v) :: ps, cs, cs', h, p, hp => by
    simp only [fillA] at h
    split at h
    · split at h
      · rename_i h1 _
        simp only [Bool.and_eq_true] at h1
        rcases List.mem_cons.1 hp with rfl | hp
        · exact h1.2
        · exact fillA_def h p hp
      · cases h
    · cases h

theorem elems_def {h : Store} {d : Kd} : ∀ {ps : List (Nat × AV)} {n : Nat} {l : List d.T}, elems h d n ps = some l → ∀ p ∈ ps, p.2.isDef = true
  | [], _, _, _, p, hp => by simp at hp
  | (j, v) :: ps, n, l, e, p, hp => by
    simp only [elems] at e
    split at e
    · rename_i h1
      simp only [Bool.and_eq_true] at h1
      simp only [Option.bind_eq_some_iff] at e
      obtain ⟨x, hx, xs, hxs, _⟩ := e
      rcases List.mem_cons.1 hp with rfl | hp
      · exact h1.2
      · exact elems_def hxs p hp
    · cases e

theorem evs_rel {S : Nat → Prop} {w : World} {ρ : Rho} {ev : Operand → AV} {a : Act} (he : ∀ x, L2 S w ρ (ev x) (a.eval x)) : ∀ (xs : List Operand), (xs.map ev).all AV.isDef = true → All2 (L1 S w ρ) (xs.map ev) (xs.map a.eval)
  | [], _ => trivial
  | x :: xs, h => by
    simp only [List.map_cons, List.all_cons, Bool.and_eq_true] at h
    exact ⟨((he x).def h.1).1, evs_rel he xs h.2⟩

theorem evs_rel2 {S : Nat → Prop} {w : World} {ρ : Rho} {ev : Operand → AV} {a : Act} (he : ∀ x, L2 S w ρ (ev x) (a.eval x)) : ∀ (xs : List Operand), All2 (L2 S w ρ) (xs.map ev) (xs.map a.eval)
  | [] => trivial
  | x :: xs => ⟨he x, evs_rel2 he xs⟩

section
variable {P : Program} {Γ : Tys} (hΓ : Tys.ok P Γ) {Φ : Ctrs} (hΦ : ∀ f c, Φ f = some c → c.ok P f) {S : Nat → Prop} {w : World} {ρ : Rho} {h : Store} {b : Nat}
include hΓ

theorem builtin_ok {bi : Builtin} {tys : List TypeId} {ty : TypeId} {cs : Array Bool} {vs : List AV} {us : List Value} {r : Res} (H : HRel S w ρ h) (hb : ρ b = none)
    (hv : All2 (L1 S w ρ) vs us) (hr : (builtinA Γ bi tys vs h b).run some = some r) : ∃ v w', (builtin bi tys.toArray ty cs us.toArray).run P w = .ok (.value v) w' ∧ Post S w ρ h b r v w' := by
  have h2 : All2 (L2 S w ρ) vs us := hv.imp fun _ _ h => h.two
  unfold builtinA at hr
  split at hr
  · rename_i v
    match us, hv with
    | [u], hv =>
      split at hr
      case h_2 => cases hr
      rename_i t _
      split at hr
      case h_2 => cases hr
      rename_i j n hj hn
      split at hr
      case h_2 => cases hr
      rename_i hl
      simp only [Tree.run, Option.some.injEq] at hr
      subst hr
      obtain ⟨x, h3, h4⟩ := len_ok hΓ (ty := ty) (b := b) hj H hv.1 hn hl
      refine ⟨x, w, ?_, h4⟩
      have h5 : ∀ (l : List TypeId), (Builtin.len_ (t :: l).toArray ty [u].toArray).run P w = .ok x w := by
        intro l
        rw [← h3]
        rfl
      exact run_v (h5 _)
  · rename_i n
    match us, hv with
    | [su, xu], hv =>
      split at hr
      case h_2 => cases hr
      rename_i t u
      split at hr
      case h_2 => cases hr
      rename_i j k hj hk
      split at hr
      case h_2 => cases hr
      rename_i e kk hje hke
      split at hr
      case h_2 => cases hr
      rename_i i he
      split at hr
      case h_2 => cases hr
      rename_i d hd hby
      simp only [Tree.br_some, run_ret, run_fail, Option.some.injEq, decide_eq_true_eq, and_false, or_false, reduceCtorEq] at hr
      obtain ⟨h0, hroom, rfl⟩ := hr
      have e1 : su = .slice none 0 0 := hv.1
      have e2 : xu = .int .i64 n := hv.2.1
      subst e1; subst e2
      obtain ⟨v, w', h3, h4⟩ := append_zeros_ok hΓ (ty := ty) hj hk hje he hke hd (Nat.le_of_ble_eq_true hby) H hb h0 hroom
      exact ⟨v, w', run_v h3, h4⟩
  · rename_i s x _
    match us, hv with
    | [su, xu], hv =>
      split at hr
      case h_2 => cases hr
      rename_i t u
      split at hr
      case h_2 => cases hr
      rename_i j k hj hk
      split at hr
      case h_2 => cases hr
      rename_i e hje
      split at hr
      case h_2 => cases hr
      rename_i i he hat
      obtain ⟨v, w', h3, h4⟩ := app_ok hΓ (ty := ty) (b := b) hj hk hje he hat H hb hv.1 hv.2.1 hr
      exact ⟨v, w', run_v h3, h4⟩
  · match us, hv with
    | [u], hv =>
      split at hr
      case h_2 => cases hr
      rename_i t tl
      split at hr
      case h_2 => cases hr
      rename_i j hj
      split at hr
      case h_2 => cases hr
      rename_i e hje
      simp only [Tree.run, Option.some.injEq] at hr
      subst hr
      have hu : u = .slice none 0 0 := hv.1
      subst hu
      have hut := (hΓ t j hj).und
      rw [hje] at hut
      refine ⟨.int .i64 0, w, run_v ?_, Post.same H rfl⟩
      show (Builtin.cap_ (t :: tl).toArray ty #[.slice none 0 0]).run P w = _
      simp [Builtin.cap_, run_underlying hut, goInt]
  · rename_i v vs
    match us, h2 with
    | u :: us, h2 =>
      obtain ⟨x, h3, h4⟩ := minmax_ok hΓ (g := Builtin.min2) (b := b) (fun hf ha hc => min_ok hΓ hf ha hc) hr h2.1 h2.2 H
      refine ⟨x, w, run_v ?_, h4⟩
      simp only [Builtin.min_]
      exact h3
  · rename_i v vs
    match us, h2 with
    | u :: us, h2 =>
      obtain ⟨x, h3, h4⟩ := minmax_ok hΓ (g := Builtin.max2) (b := b) (fun hf ha hc => max_ok hΓ hf ha hc) hr h2.1 h2.2 H
      refine ⟨x, w, run_v ?_, h4⟩
      simp only [Builtin.max_]
      exact h3
  · cases hr

theorem bnd_rel {ev : Operand → AV} {a : Act} (he : ∀ x, L2 S w ρ (ev x) (a.eval x)) (x : Option Operand) : BndRel (x.map ev) (x.map a.eval) := by
  cases x with
  | none => trivial
  | some x =>
    intro k n e
    have := he x
    rw [e] at this
    exact this

theorem leaves_rel {ev : Operand → AV} {a : Act} (he : ∀ x, L2 S w ρ (ev x) (a.eval x)) : ∀ (xs : List Operand), (xs.map ev).all AV.isLeaf = true → All2 (L0 S w ρ) (xs.map ev) (xs.map a.eval)
  | [], _ => trivial
  | x :: xs, h => by
    simp only [List.map_cons, List.all_cons, Bool.and_eq_true] at h
    refine ⟨?_, leaves_rel he xs h.2⟩
    have := he x
    cases hx : ev x <;> rw [hx] at h this <;> first | (cases h.1; done) | exact this

include hΦ
theorem callFunc_run {f : FuncId} {c : Ctr} (hc : Φ f = some c) (us : Array Value) : (callFunc f us).run P w = .ok (.enter f us) w := by
  obtain ⟨fn, h1, h2, h3⟩ := (hΦ f c hc).code
  simp only [callFunc, Sem.run_bind, run_program, Result.andThen_ok, h1, h2, h3, Bool.false_eq_true, if_false, Sem.run_pure, Sem.run_ite]

theorem callA_some {f : FuncId} {vs : List AV} {r : Res} (hr : (callA Φ f vs h b).run some = some r) : ∃ c, Φ f = some c := by
  unfold callA at hr
  split at hr
  · exact ⟨_, by assumption⟩
  · cases hr

set_option maxHeartbeats 4000000 in
theorem opP_ok {o : Oper} {ev : Operand → AV} {r : Res} (hr : (opP Γ Φ o.op ev h b).run some = some r) (H : HRel S w ρ h) {a : Act} (he : ∀ x, L2 S w ρ (ev x) (a.eval x))
    (hb : ∀ id, b ≤ id → id < b + 64 → ρ id = none) {next : Act → World → Prop} {Q : Exit → Act → World → Prop} (hn : ∀ v w', Post S w ρ h b r v w' → next (a.put o.dst v) w') : o.wp P a w next Q := by
  obtain ⟨dst, op, type, pos, after, guard⟩ := o
  have hb0 : ρ b = none := hb b (Nat.le_refl _) (by omega)
  have value : ∀ {s : Sem Value}, (execOp a.eval ⟨dst, op, type, pos, after, guard⟩ = (do pure (Next.value (← s)) : Sem Next)) → (∃ v w', s.run P w = .ok v w' ∧ Post S w ρ h b r v w') → Oper.wp P ⟨dst, op, type, pos, after, guard⟩ a w next Q := by
    rintro s e ⟨v, w', h1, h2⟩
    exact wp_value (by rw [e]; exact run_v h1) (hn v w' h2)
  have pure1 : ∀ {s : Sem Value}, (execOp a.eval ⟨dst, op, type, pos, after, guard⟩ = (do pure (Next.value (← s)) : Sem Next)) → (∃ v, s.run P w = .ok v w ∧ Post S w ρ h b r v w) → Oper.wp P ⟨dst, op, type, pos, after, guard⟩ a w next Q := by
    rintro s e ⟨v, h1, h2⟩
    exact value e ⟨v, w, h1, h2⟩
  cases op with
  | move x =>
    simp only [opP, Tree.run, Option.some.injEq] at hr
    subst hr
    exact wp_value (v := a.eval x) (w' := w) rfl (hn _ _ (Post.same H (he x)))
  | assign x =>
    simp only [opP, Tree.run, Option.some.injEq] at hr
    subst hr
    exact wp_value (v := a.eval x) (w' := w) rfl (hn _ _ (Post.same H (he x)))
  | pick c x y =>
    simp only [opP] at hr
    split at hr
    case h_2 => cases hr
    rename_i t hc
    have hcv := he c
    rw [hc] at hcv
    simp only [L2, L1, L0] at hcv
    rcases Tree.br_some.1 hr with ⟨ht, hr⟩ | ⟨ht, hr⟩
    · simp only [Tree.run, Option.some.injEq] at hr
      subst hr; subst ht
      exact wp_value (v := a.eval x) (w' := w) (by simp only [execOp, hcv, asBool, Sem.run_bind, Sem.run_pure, Result.andThen_ok, if_true]) (hn _ _ (Post.same H (he x)))
    · simp only [Tree.run, Option.some.injEq] at hr
      subst hr; subst ht
      exact wp_value (v := a.eval y) (w' := w) (by simp only [execOp, hcv, asBool, Sem.run_bind, Sem.run_pure, Result.andThen_ok, Bool.false_eq_true, if_false]) (hn _ _ (Post.same H (he y)))
  | alloc e =>
    simp only [opP] at hr
    split at hr
    case h_2 => cases hr
    rename_i i hi
    simp only [Tree.run, Option.some.injEq] at hr
    subst hr
    refine value (s := Instr.alloc e true (.tuple #[])) rfl ⟨.pointer (some ⟨w.heap.size, 0, none⟩), w.alloc (.cells i.zero.cells e), ?_, ?_⟩
    · simp only [Instr.alloc, Sem.run_bind, run_zv hΓ hi, Result.andThen_ok, newVar, newRow, run_newObj, Sem.run_pure]
      rfl
    · have hbr : BRel S (w.alloc (.cells i.zero.cells e)) (ρ.put b (.at w.heap.size 0 0)) b (.box (zeroLeaves i)) := ⟨w.heap.size, 0, 0, _, e, Rho.put_same _ _ _, alloc_get _ _, zeroLeaves_rel _ _ _ i⟩
      obtain ⟨E, K⟩ := new_blk H hb0 hbr
      exact ⟨S, _, E, K, ⟨w.heap.size, 0, 0, Rho.put_same _ _ _, by simp, .inl rfl⟩, put_range hΓ⟩
  | box e x =>
    simp only [opP] at hr
    split at hr
    case h_2 => cases hr
    rename_i hd
    simp only [Tree.run, Option.some.injEq] at hr
    subst hr
    obtain ⟨h1, h2⟩ := (he x).def hd
    have hl := h1.leaves h2
    refine value (s := Instr.box e (a.eval x)) rfl ⟨.pointer (some ⟨w.heap.size, 0, none⟩), w.alloc (.cells (a.eval x).cells e), ?_, ?_⟩
    · simp only [Instr.box, Sem.run_bind, Result.andThen_ok, newVar, newRow, run_newObj, Sem.run_pure]
      rfl
    · have hbr : BRel S (w.alloc (.cells (a.eval x).cells e)) (ρ.put b (.at w.heap.size 0 0)) b (.box (leavesOf (ev x))) :=
        ⟨w.heap.size, 0, 0, _, e, Rho.put_same _ _ _, alloc_get _ _, hl.imp fun _ _ hh => hh.mono (fun _ hh => hh) (fun bb hbb => by
          have := H.inS bb hbb
          show (w.heap.push _)[bb]? = _
          rw [Array.getElem?_push, if_neg (by omega)]) (Rho.put_le hb0)⟩
      obtain ⟨E, K⟩ := new_blk H hb0 hbr
      exact ⟨S, _, E, K, ⟨w.heap.size, 0, 0, Rho.put_same _ _ _, by simp, .inl rfl⟩, put_range hΓ⟩
  | build t ps =>
    simp only [opP] at hr
    split at hr
    case h_2 => cases hr
    rename_i i hi
    split at hr
    case h_2 => cases hr
    rename_i fs hd
    split at hr
    case h_2 => cases hr
    rename_i hall
    split at hr
    case h_2 => cases hr
    rename_i cs hcs
    simp only [Tree.run, Option.some.injEq] at hr
    subst hr
    have hp := pairs_rel he ps.toList (fun p hp => fillA_def hcs (p.1, ev p.2) (List.mem_map.2 ⟨p, hp, rfl⟩))
    obtain ⟨vs, h1, h2⟩ := build_ok hΓ hi hd hall hcs (hp.imp fun _ _ hh => ⟨hh.1, hh.2.2⟩)
    refine pure1 (s := Instr.build t (ps.map fun p => (p.1, a.eval p.2))) rfl ⟨.agg vs, ?_, Post.same H ⟨vs, rfl, h2⟩⟩
    rw [← h1]
    congr 2
    apply Array.ext'
    simp
  | buildSlice t len ps =>
    simp only [opP] at hr
    split at hr
    case h_2 => cases hr
    rename_i j hj
    split at hr
    case h_2 => cases hr
    rename_i e hje
    split at hr
    case h_2 => cases hr
    rename_i i hi
    split at hr
    case h_2 => cases hr
    rename_i d hd
    split at hr
    case h_2 => cases hr
    rename_i h1 h2
    split at hr
    case h_2 => cases hr
    rename_i l hl
    simp only [Tree.run, Option.some.injEq] at hr
    subst hr
    have h1 := Nat.eq_of_beq_eq_true h1
    have h2 := Nat.le_of_ble_eq_true h2
    have hp := pairs_rel he ps.toList (fun p hp => elems_def hl (p.1, ev p.2) (List.mem_map.2 ⟨p, hp, rfl⟩))
    obtain ⟨v, w', h3, h4⟩ := buildSlice_ok hΓ (b := b) (len := len) hj hje hi hd H hb0 (by simp; exact h1) h2 hl hp
    refine value (s := Instr.buildSlice t len (ps.map fun p => (p.1, a.eval p.2))) rfl ⟨v, w', ?_, ?_⟩
    · rw [← h3]
      congr 2
      apply Array.ext'
      simp
    · simpa [List.map_map, Function.comp_def] using h4
  | load t x =>
    simp only [opP] at hr
    split at hr
    case h_2 => cases hr
    rename_i i hi
    have hx1 : L1 S w ρ (ev x) (a.eval x) := (he x).one (fun vs e => by rw [e] at hr; cases hr)
    exact pure1 (s := Instr.loadAt t (a.eval x)) rfl (load_ok hΓ hi H hx1 hr)
  | store t x y =>
    simp only [opP] at hr
    split at hr
    case h_2 => cases hr
    rename_i i hi
    have hx1 : L1 S w ρ (ev x) (a.eval x) := (he x).one (fun vs e => by rw [e] at hr; unfold storeF at hr; split at hr <;> cases hr)
    have hy1 : L1 S w ρ (ev y) (a.eval y) := by
      refine (he y).one (fun vs e => ?_)
      rw [e] at hr
      cases hx : ev x <;> rw [hx] at hr <;> first | (cases hr; done) | skip
      simp only [storeF, ids1, ids0, List.isEmpty_nil, storeA, AV.isDef, Bool.and_false, Bool.false_and] at hr
      cases hr
    obtain ⟨w', h1, h2, h3⟩ := storeF_ok hΓ (b := b) hi H hx1 hy1 hr
    exact wp_skipped (w' := w') (run_u h1) (hn _ _ (h3 _))
  | nilCheck x =>
    simp only [opP] at hr
    have hx := he x
    split at hr
    · rename_i id sz i c hc
      simp only [Tree.run, Option.some.injEq] at hr
      subst hr
      rw [hc] at hx
      obtain ⟨g, len, cap, h1, h2, h3⟩ := hx
      exact wp_value (v := a.eval x) (w' := w) (by simp only [execOp, h2, Sem.run_pure]) (hn _ _ (Post.same H ⟨g, len, cap, h1, h2, h3⟩))
    · rename_i d y c hc
      simp only [Tree.run, Option.some.injEq] at hr
      subst hr
      rw [hc] at hx
      obtain ⟨ad, cs, h1, h2⟩ := hx
      exact wp_value (v := a.eval x) (w' := w) (by simp only [execOp, h1, Sem.run_pure]) (hn _ _ (Post.same H ⟨ad, cs, h1, h2⟩))
    · cases hr
  | binOp op t x y yt =>
    simp only [opP] at hr
    split at hr
    case h_2 => cases hr
    rename_i hbt
    split at hr
    · rename_i hag
      have agg : ∀ b, eqA Γ 16 t (ev x) (ev y) = some b → (do eqGuard .eql t x y (a.eval x) (a.eval y); Go.binOp .eql t (a.eval x) (a.eval y) : Sem Value).run P w = .ok (.bool b) w ∧ (do eqGuard .neq t x y (a.eval x) (a.eval y); Go.binOp .neq t (a.eval x) (a.eval y) : Sem Value).run P w = .ok (.bool (!b)) w := by
        intro b hb
        obtain ⟨i, cs, ds, hi, hq, e1, e2⟩ := eqA_eq hΓ hag hb
        refine structEq_ok hΓ hag hb ((he x).one (fun vs e => by rw [e] at e1; cases e1)) ((he y).one (fun vs e => by rw [e] at e2; cases e2))
      split at hr
      · rename_i b hb
        simp only [Tree.run, Option.some.injEq] at hr
        subst hr
        exact pure1 (s := do eqGuard .eql t x y (a.eval x) (a.eval y); Go.binOp .eql t (a.eval x) (a.eval y)) rfl ⟨_, (agg b hb).1, Post.same H rfl⟩
      · rename_i b hb
        simp only [Tree.run, Option.some.injEq] at hr
        subst hr
        exact pure1 (s := do eqGuard .neq t x y (a.eval x) (a.eval y); Go.binOp .neq t (a.eval x) (a.eval y)) rfl ⟨_, (agg b hb).2, Post.same H rfl⟩
      · cases hr
    obtain ⟨v, h1, h2⟩ := Tree.bind_some hr
    simp only [Tree.run, Option.some.injEq] at h2
    subst h2
    have hx1 : L1 S w ρ (ev x) (a.eval x) := (he x).one (fun vs e => by rw [e] at h1; cases h1)
    have hy1 : L1 S w ρ (ev y) (a.eval y) := by
      refine (he y).one (fun vs e => ?_)
      rw [e] at h1
      cases hx : ev x <;> rw [hx] at h1 <;> cases h1
    obtain ⟨u, h3, h4⟩ := binOp_ok (xo := x) (yo := y) (t := t) (by
      intro p q e1 e2
      rw [e1] at hbt
      simp only [boolTy] at hbt
      split at hbt
      · rename_i i hi
        split at hbt
        · rename_i hd
          have := (hΓ t i hi).und
          rw [hd] at this
          exact this
        · cases hbt
      · cases hbt) hx1 hy1 h1
    exact pure1 (s := do eqGuard op t x y (a.eval x) (a.eval y); Go.binOp op t (a.eval x) (a.eval y)) rfl ⟨u, h3, Post.same H (h4.one.two)⟩
  | unOp op t x =>
    simp only [opP] at hr
    obtain ⟨v, h1, h2⟩ := Tree.bind_some hr
    simp only [Tree.run, Option.some.injEq] at h2
    subst h2
    have hx1 : L1 S w ρ (ev x) (a.eval x) := (he x).one (fun vs e => by rw [e] at h1; cases h1)
    obtain ⟨u, h3, h4⟩ := unOp_ok hx1 h1
    exact pure1 (s := Op.unary op (a.eval x)) rfl ⟨u, h3, Post.same H (h4.one.two)⟩
  | convert s d x =>
    simp only [opP] at hr
    split at hr
    case h_2 => cases hr
    rename_i i j hi hj
    exact value (s := convert s d (a.eval x)) rfl (conv_ok hΓ hi hj H (he x) hr)
  | makeFunc fn first caps =>
    simp only [opP] at hr
    split at hr
    case h_2 => cases hr
    rename_i f hfirst hleaf
    simp only [Tree.run, Option.some.injEq] at hr
    subst hr
    have hl := leaves_rel hΓ he caps.toList hleaf
    have hf : first = #[] := by
      apply Array.ext'
      simpa using hfirst
    refine pure1 (s := Instr.makeFunc (.func f) (first.map a.eval) (caps.map a.eval)) rfl ⟨.func (.func f) #[] (caps.map a.eval), ?_, Post.same H ⟨caps.map a.eval, rfl, by simpa using hl⟩⟩
    rw [hf]
    simp only [Instr.makeFunc, Sem.run_pure, Array.map_empty]
  | makeSlice t n c =>
    simp only [opP] at hr
    split at hr
    case h_2 => cases hr
    rename_i j hj
    split at hr
    case h_2 => cases hr
    rename_i e hje
    split at hr
    case h_2 => cases hr
    rename_i i hi
    split at hr
    case h_2 => cases hr
    rename_i d n' c' hd hby hnn hcc
    rcases Tree.br_some.1 hr with ⟨c0, hr⟩ | ⟨_, hr⟩
    case inr => cases hr
    rcases Tree.br_some.1 hr with ⟨c1, hr⟩ | ⟨_, hr⟩
    case inr => cases hr
    rcases Tree.br_some.1 hr with ⟨c2, hr⟩ | ⟨_, hr⟩
    case inr => cases hr
    simp only [Tree.run, Option.some.injEq] at hr
    subst hr
    have hnv := he n
    have hcv := he c
    rw [hnn] at hnv
    rw [hcc] at hcv
    simp only [L2, L1, L0] at hnv hcv
    refine value (s := Instr.makeSlice t (a.eval n) (a.eval c)) rfl ?_
    rw [hnv, hcv]
    exact make_ok hΓ hj hje hi hd (Nat.le_of_ble_eq_true hby) H hb0 (of_decide_eq_true c0) (of_decide_eq_true c1) (of_decide_eq_true c2)
  | slice t x lo hi mx =>
    cases mx with
    | some m => simp only [opP] at hr; cases hr
    | none =>
      simp only [opP] at hr
      split at hr
      case h_2 => cases hr
      rename_i j _ hj
      split at hr
      · rename_i hjd
        split at hr
        case h_2 => cases hr
        rename_i s hs
        have hx := he x
        rw [hs] at hx
        simp only [L2, L1, L0] at hx
        refine pure1 (s := Instr.sliceAt t (a.eval x) (lo.map a.eval) (hi.map a.eval) none) rfl ?_
        rw [hx]
        exact slice_str_ok hΓ hj hjd H (bnd_rel hΓ he lo) (bnd_rel hΓ he hi) hr
      · rename_i e hjd
        split at hr
        · cases hr
        · rename_i k v hk hns
          have hx1 : L1 S w ρ (ev x) (a.eval x) := (he x).one (fun vs e => by rw [e] at hr; cases hr)
          exact pure1 (s := Instr.sliceAt t (a.eval x) (lo.map a.eval) (hi.map a.eval) none) rfl (slice_sl_ok hΓ hj hjd hk H (fun s e => hns s e) hx1 (bnd_rel hΓ he lo) (bnd_rel hΓ he hi) hr)
        · cases hr
      · cases hr
  | fieldAddr t x f =>
    simp only [opP] at hr
    split at hr
    case h_2 => cases hr
    rename_i i hi
    split at hr
    case h_2 => cases hr
    rename_i off j hp
    split at hr
    · rename_i id sz n c h0 hx
      simp only [Tree.run, Option.some.injEq] at hr
      subst hr
      have hx1 : L1 S w ρ (ev x) (a.eval x) := (he x).one (fun vs e => by rw [e] at hx; cases hx)
      have h0' : j.size ≠ 0 := fun e => by rw [e] at h0; cases h0
      exact pure1 (s := Instr.fieldAt t (a.eval x) f) rfl ((fieldAddr_ok hΓ hi hp h0' H hx1).1 id sz n c hx)
    · rename_i d y c h0 hx
      simp only [Tree.run, Option.some.injEq] at hr
      subst hr
      have hx1 : L1 S w ρ (ev x) (a.eval x) := (he x).one (fun vs e => by rw [e] at hx; cases hx)
      have h0' : j.size ≠ 0 := fun e => by rw [e] at h0; cases h0
      exact pure1 (s := Instr.fieldAt t (a.eval x) f) rfl ((fieldAddr_ok hΓ hi hp h0' H hx1).2 d y c hx)
    · cases hr
  | field t x f =>
    simp only [opP] at hr
    split at hr
    case h_2 => cases hr
    rename_i i hi
    split at hr
    case h_2 => cases hr
    rename_i off j cs hp hx
    split at hr
    case h_2 => cases hr
    rename_i hle
    have hx1 : L1 S w ρ (ev x) (a.eval x) := (he x).one (fun vs e => by rw [e] at hx; cases hx)
    rw [hx] at hx1
    exact pure1 (s := Instr.field t (a.eval x) f) rfl (field_ok hΓ hi hp H hx1 (Nat.le_of_ble_eq_true hle) hr)
  | indexAddr t x y =>
    simp only [opP] at hr
    split at hr
    case h_2 => cases hr
    rename_i j hj
    split at hr
    case h_2 => cases hr
    rename_i e hje
    split at hr
    case h_2 => cases hr
    rename_i k hk
    have hx1 : L1 S w ρ (ev x) (a.eval x) := (he x).one (fun vs e => by rw [e] at hr; cases hr)
    have hy1 : L1 S w ρ (ev y) (a.eval y) := by
      refine (he y).one (fun vs e => ?_)
      rw [e] at hr
      cases hx : ev x <;> rw [hx] at hr <;> cases hr
    exact pure1 (s := Instr.indexAt t (a.eval x) (a.eval y)) rfl (indexAddr_ok hΓ hj hje hk H hx1 hy1 hr)
  | index t x y =>
    simp only [opP] at hr
    split at hr
    case h_2 => cases hr
    rename_i j hj
    split at hr
    case h_2 => cases hr
    rename_i hjd
    split at hr
    case h_2 => cases hr
    rename_i s ik n hx hy
    rcases Tree.br_some.1 hr with ⟨c0, hr⟩ | ⟨_, hr⟩
    case inr => cases hr
    rcases Tree.br_some.1 hr with ⟨c1, hr⟩ | ⟨_, hr⟩
    case inr => cases hr
    simp only [Tree.run, Option.some.injEq] at hr
    subst hr
    have hxv := he x
    have hyv := he y
    rw [hx] at hxv
    rw [hy] at hyv
    simp only [L2, L1, L0] at hxv hyv
    refine pure1 (s := Instr.index t (a.eval x) (a.eval y)) rfl ?_
    rw [hxv, hyv]
    exact index_ok hΓ hj hjd H (of_decide_eq_true c0) (of_decide_eq_true c1)
  | extract x j =>
    simp only [opP] at hr
    split at hr
    case h_2 => cases hr
    rename_i vs hx
    split at hr
    case h_2 => cases hr
    rename_i v hv
    simp only [Tree.run, Option.some.injEq] at hr
    subst hr
    have hxv := he x
    rw [hx] at hxv
    obtain ⟨us, hu, hl⟩ := hxv
    obtain ⟨u, hu2, hr2⟩ := hl.get hv
    refine pure1 (s := Instr.extract (a.eval x) j) rfl ⟨u, ?_, Post.same H hr2.two⟩
    rw [hu]
    have : us[j]? = some u := by simpa using hu2
    simp only [Instr.extract, this, Sem.run_pure]
  | call c =>
    simp only [opP] at hr
    split at hr
    case h_2 => cases hr
    rename_i hdef
    have hargs := evs_rel he c.args.toList hdef
    have hmap : (c.args.toList.map a.eval).toArray = c.args.map a.eval := by apply Array.ext'; simp
    split at hr
    · rename_i f hcal
      obtain ⟨k, hk⟩ := callA_some hΓ hΦ hr
      have hrun := callFunc_run hΓ hΦ (w := w) hk (c.args.map a.eval)
      refine wp_calls (f := f) (us := c.args.map a.eval) ?_ ?_
      · have e1 : a.eval (.func f) = .func (.func f) #[] #[] := rfl
        simp only [execOp, resolve, hcal, e1, Deferred.ofValue, Sem.run_bind, Sem.run_pure, Result.andThen_ok, invoke, Array.empty_append, Array.append_empty, hrun]
      · have := call_ok hΦ hr H hargs hb
        rw [hmap] at this
        refine this.mono ?_
        rintro e w' ⟨v, he', hp⟩
        exact ⟨v, he', hn v w' hp⟩
    · rename_i x hnf hcal
      split at hr
      case h_2 => cases hr
      rename_i f cs hx
      obtain ⟨k, hk⟩ := callA_some hΓ hΦ hr
      have hxv := he x
      rw [hx] at hxv
      obtain ⟨vs, hv1, hv2⟩ := hxv
      have hrun := callFunc_run hΓ hΦ (w := w) hk (c.args.map a.eval ++ vs)
      refine wp_calls (f := f) (us := c.args.map a.eval ++ vs) ?_ ?_
      · simp only [execOp, resolve, hcal, hv1, Deferred.ofValue, Sem.run_bind, Sem.run_pure, Result.andThen_ok, invoke, Array.empty_append, hrun]
      · have := call_ok hΦ hr H (hargs.append (hv2.imp fun _ _ h => h.one)) hb
        have e2 : (c.args.toList.map a.eval ++ vs.toList).toArray = c.args.map a.eval ++ vs := by apply Array.ext'; simp
        rw [e2] at this
        refine this.mono ?_
        rintro e w' ⟨v, he', hp⟩
        exact ⟨v, he', hn v w' hp⟩
    · rename_i bi hcal
      obtain ⟨v, w', h3, h4⟩ := builtin_ok hΓ (ty := type) (cs := c.args.map fun x => match x with | .const _ => true | _ => false) H hb0 hargs hr
      refine wp_value (v := v) (w' := w') ?_ (hn v w' h4)
      rw [hmap] at h3
      have e3 : c.argTypes.toList.toArray = c.argTypes := by simp
      rw [e3] at h3
      simp only [execOp, resolve, hcal, Sem.run_bind, Sem.run_pure, Result.andThen_ok, invoke]
      exact h3
    · cases hr
  | _ => simp only [opP] at hr; cases hr

end
end Go.Nu

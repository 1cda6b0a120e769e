/- Nu, part H: addresses, cuts, lengths, arithmetic. -/
import Derived.Test.YtjilffemogdabaaNuG
namespace Go.Nu
set_option linter.unusedSimpArgs false
set_option linter.unnecessarySimpa false
set_option linter.unusedVariables false

section
variable {P : Program} {Γ : Tys} (hΓ : Tys.ok P Γ) {S : Nat → Prop} {w : World} {ρ : Rho} {h : Store} {b : Nat}
include hΓ

theorem run_fieldPlace {fs : List Field} {t : TypeId} {i j : TI} {f : Field} (hf : Γ.get f.type = some j) (h0 : j.size ≠ 0) (a : Addr) (w : World) : (fieldPlace a f).run P w = .ok (a.add f.offset) w := by
  simp only [fieldPlace, Sem.run_bind, run_sz hΓ hf, Result.andThen_ok, h0, if_false, Sem.run_pure, Sem.run_ite]

omit hΓ in
theorem place_spec {d : TypeDesc} {k off : Nat} {j : TI} (hp : place Γ d k = some (off, j)) : ∃ fs f, d = .struct fs ∧ fs[k]? = some f ∧ Γ.get f.type = some j ∧ f.offset = off := by
  cases d with
  | struct fs =>
    simp only [place] at hp
    split at hp
    · rename_i f hfk
      split at hp
      · rename_i j' hj
        cases hp
        exact ⟨fs, f, rfl, by simpa using hfk, hj, rfl⟩
      · cases hp
    · cases hp
  | _ => simp [place] at hp

theorem field_ok {t : TypeId} {i : TI} (ht : Γ.get t = some i) {k off : Nat} {j : TI} (hp : place Γ i.desc k = some (off, j)) {cs : List AV} {x : Value} {r : Res} (H : HRel S w ρ h)
    (hx : L1 S w ρ (.agg cs) x) (hle : off + j.size ≤ cs.length) (hr : ((shut j.isAgg (part cs off j.size)).bind fun v => .ret (v, [])).run some = some r) :
    ∃ v, (Instr.field t x k).run P w = .ok v w ∧ Post S w ρ h b r v w := by
  obtain ⟨fs, f, hd, hf, hj, ho⟩ := place_spec hp
  obtain ⟨vs, rfl, hv⟩ := hx
  obtain ⟨v, h1, rfl⟩ := shut_ret hr
  have hvl : cs.length = vs.size := by rw [hv.length, Array.length_toList]
  have hpt := hv.part off j.size
  have hA := run_agg hΓ hj w
  have hS := run_sz hΓ hj w
  have hU := run_und hΓ ht w
  cases hb : j.isAgg with
  | true =>
    rw [hb] at h1 hA
    simp only [shut, Tree.run, Option.some.injEq] at h1
    subst h1
    refine ⟨.agg (vs.extract off (off + j.size)), ?_, Post.same H ⟨_, rfl, ?_⟩⟩
    · simp only [Instr.field, Sem.run_bind, hU, Result.andThen_ok, hd, hf, asAgg, part, hA, hS, ho, Sem.run_pure, if_true, Go.part]
    · have e : (vs.extract off (off + j.size)).toList = part vs.toList off j.size := by
        rw [Array.toList_extract]
        simp [List.extract, part]
      rw [e]
      exact hpt
  | false =>
    rw [hb] at h1 hA
    match hpc : part cs off j.size, h1 with
    | [c0], h1 =>
      simp only [shut, Tree.run, Option.some.injEq] at h1
      subst h1
      rw [hpc] at hpt
      have hl := hpt.length
      have hone : part vs.toList off j.size = [(part vs.toList off j.size)[0]'(by rw [← hl]; simp)] := by
        match hq : part vs.toList off j.size, hl with
        | [q], _ => rfl
      have hsz : j.size = 1 := by
        have : (part cs off j.size).length = j.size := part_length _ _ _ hle
        rw [hpc] at this
        simpa using this.symm
      have hlt : off < vs.size := by omega
      have hq : part vs.toList off j.size = [vs[off]] := by
        rw [hsz]
        simp only [part]
        apply List.ext_getElem?
        intro m
        simp only [List.getElem?_take, List.getElem?_drop]
        cases m with
        | zero => simp [hlt]
        | succ m => simp
      rw [hq] at hpt
      refine ⟨vs[off], ?_, Post.same H (L1.two (L0.one hpt.1))⟩
      simp only [Instr.field, Sem.run_bind, hU, Result.andThen_ok, hd, hf, asAgg, Go.part, hA, ho, Sem.run_pure, Bool.false_eq_true, if_false, Array.getElem?_eq_getElem hlt]

theorem fieldAddr_ok {t : TypeId} {i : TI} (ht : Γ.get t = some i) {k off : Nat} {j : TI} (hp : place Γ i.desc k = some (off, j)) (h0 : j.size ≠ 0) {a : AV} {p : Value} (H : HRel S w ρ h) (ha : L1 S w ρ a p) :
    (∀ id sz n c, a = .ptr id sz n c → ∃ v, (Instr.fieldAt t p k).run P w = .ok v w ∧ Post S w ρ h b (.ptr id sz n (c + off), []) v w) ∧
    (∀ d y c, a = .rptr d y c → ∃ v, (Instr.fieldAt t p k).run P w = .ok v w ∧ Post S w ρ h b (.rptr d y (c + off), []) v w) := by
  obtain ⟨fs, f, hd, hf, hj, ho⟩ := place_spec hp
  have hU := run_und hΓ ht w
  have run : ∀ ad : Addr, p = .pointer (some ad) → (Instr.fieldAt t p k).run P w = .ok (.pointer (some (ad.add off))) w := by
    intro ad hp
    subst hp
    simp only [Instr.fieldAt, Sem.run_bind, hU, Result.andThen_ok, hd, hf, Instr.sureAddr, Sem.run_pure, run_fieldPlace hΓ (fs := []) (t := t) (i := i) (j := j) hj h0, ho]
  refine ⟨fun id sz n c e => ?_, fun d y c e => ?_⟩
  · subst e
    obtain ⟨g, len, cap, h1, h2, h3⟩ := ha
    refine ⟨_, run _ h2, Post.same H ⟨g, len, cap, h1, ?_, h3⟩⟩
    rw [add_plus _ rfl]
    simp [plus, Nat.add_assoc]
  · subst e
    obtain ⟨ad, cs, h1, h2⟩ := ha
    refine ⟨_, run _ h1, Post.same H ⟨ad, cs, ?_, h2⟩⟩
    rw [add_plus _ rfl, plus_plus]

theorem indexAddr_ok {t e : TypeId} {j k : TI} (ht : Γ.get t = some j) (hj : j.desc = .slice e) (he : Γ.get e = some k) {a x : AV} {p u : Value} {r : Res} (H : HRel S w ρ h)
    (ha : L1 S w ρ a p) (hx : L1 S w ρ x u) (hr : (indexAddrA k.size h a x).run some = some r) : ∃ v, (Instr.indexAt t p u).run P w = .ok v w ∧ Post S w ρ h b r v w := by
  have hU := run_und hΓ ht w
  have hS := run_sz hΓ he w
  have run : ∀ (ik : IntKind) (n : Int) (ad : Addr) (len cap : Nat), u = .int ik n → p = .slice (some ad) len cap → ad.spot = none → 0 ≤ n → n < len →
      (Instr.indexAt t p u).run P w = .ok (.pointer (some (plus ad (n.toNat * k.size)))) w := by
    intro ik n ad len cap hu hp hs h0 h1
    subst hu; subst hp
    have hc : (0 ≤ n ∧ n < (len : Int)) := ⟨h0, h1⟩
    simp only [Instr.indexAt, asIntOf, Sem.run_bind, Sem.run_pure, hU, Result.andThen_ok, hj, hS, if_pos hc, add_plus ad hs]
  cases x with
  | int ik n =>
    simp only [L1, L0] at hx
    cases a with
    | rsl d l =>
      simp only [indexAddrA] at hr
      split at hr
      case h_2 => simp [Tree.run] at hr
      rename_i hsz
      have hsz := Nat.eq_of_beq_eq_true hsz
      rcases Tree.br_some.1 hr with ⟨c0, hr⟩ | ⟨_, hr⟩
      · rcases Tree.br_some.1 hr with ⟨c1, hr⟩ | ⟨_, hr⟩
        · simp only [Tree.run, Option.some.injEq] at hr
          subst hr
          have c0 := of_decide_eq_true c0
          have c1 := of_decide_eq_true c1
          obtain ⟨A, cap, e1, e2, e3⟩ := ha
          cases e1
          have hn : n.toNat < l.length := by omega
          rcases e3 with rfl | ⟨ad, rfl, f2, f3, f4⟩
          · simp at hn
          · obtain ⟨es, g1, g2⟩ := f4 n.toNat hn
            refine ⟨_, run ik n ad _ _ hx rfl f2 c0 c1, Post.same H ⟨plus ad (n.toNat * d.sz), es, ?_, rfl, f3, g1, ?_⟩⟩
            · rw [plus_plus, hsz]; simp
            · rw [rd_get hn]; exact g2
        · simp [Tree.run] at hr
      · simp [Tree.run] at hr
    | osl id =>
      simp only [indexAddrA] at hr
      split at hr
      case h_2 => simp [Tree.run] at hr
      rename_i d l hg
      split at hr
      case h_2 => simp [Tree.run] at hr
      rename_i hsz
      have hsz := Nat.eq_of_beq_eq_true hsz
      rcases Tree.br_some.1 hr with ⟨c0, hr⟩ | ⟨_, hr⟩
      · rcases Tree.br_some.1 hr with ⟨c1, hr⟩ | ⟨_, hr⟩
        · simp only [Tree.run, Option.some.injEq] at hr
          subst hr
          have c0 := of_decide_eq_true c0
          have c1 := of_decide_eq_true c1
          obtain ⟨o, ho, hp⟩ := ha
          rcases arr_at H hg with ⟨e1, rfl⟩ | ⟨g, cap, vs, ty, e1, e2, e3, e4, e5, _⟩
          · simp at c1; omega
          · rw [ho] at e1
            cases e1
            refine ⟨_, run ik n ⟨g, 0, none⟩ _ _ hx hp rfl c0 c1, Post.same H ⟨g, l.length, cap, ho, ?_, .inr (by omega)⟩⟩
            simp [plus, hsz]
        · simp [Tree.run] at hr
      · simp [Tree.run] at hr
    | vsl id sz lo m =>
      simp only [indexAddrA] at hr
      split at hr
      case h_2 => simp [Tree.run] at hr
      rename_i hsz
      have hsz := Nat.eq_of_beq_eq_true hsz
      rcases Tree.br_some.1 hr with ⟨c0, hr⟩ | ⟨_, hr⟩
      · rcases Tree.br_some.1 hr with ⟨c1, hr⟩ | ⟨_, hr⟩
        · simp only [Tree.run, Option.some.injEq] at hr
          subst hr
          have c0 := of_decide_eq_true c0
          have c1 := of_decide_eq_true c1
          obtain ⟨o, ho, hp, hle⟩ := ha
          cases o with
          | nil => simp only [Loc.len] at hle; omega
          | «at» g len cap =>
            obtain ⟨bb, cc, rfl, _, _, hbb⟩ := hp
            simp only [Loc.len] at hle
            refine ⟨_, run ik n ⟨g, bb, none⟩ _ _ hx rfl rfl c0 c1, Post.same H ⟨g, len, cap, ho, ?_, .inr (by omega)⟩⟩
            rw [hbb (by omega)]
            simp [plus, hsz, Nat.add_mul]
        · simp [Tree.run] at hr
      · simp [Tree.run] at hr
    | _ => simp [indexAddrA, Tree.run] at hr
  | _ => cases a <;> simp [indexAddrA, Tree.run] at hr

end
end Go.Nu

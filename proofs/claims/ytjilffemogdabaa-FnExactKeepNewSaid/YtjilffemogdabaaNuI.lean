/- Nu, part I: cuts, lengths, arithmetic, conversions. -/
import Derived.Test.YtjilffemogdabaaNuH
import Derived.Laws.MakeOwn
namespace Go.Nu
set_option linter.unusedSimpArgs false
set_option linter.unnecessarySimpa false
set_option linter.unusedVariables false
set_option linter.unusedSectionVars false

section
variable {P : Program} {Γ : Tys} (hΓ : Tys.ok P Γ) {S : Nat → Prop} {w : World} {ρ : Rho} {h : Store} {b : Nat}

/-- A bound, given or not, as the machine has it. -/
def BndRel : Option AV → Option Value → Prop
  | none, none => True
  | some a, some v => ∀ k n, a = .int k n → v = .int k n
  | _, _ => False

theorem bounds_run {isSlice : Bool} {len cap : Nat} {lo hi : Option AV} {vl vh : Option Value} {l u : Int} {dh : Int} (hl : BndRel lo vl) (hh : BndRel hi vh) (el : bnd lo 0 = some l) (eh : bnd hi dh = some u)
    (hd : dh = len) (h0 : 0 ≤ l) (h1 : l ≤ u) (h2 : u ≤ cap) : (Instr.sliceBounds isSlice len cap vl vh none).run P w = .ok (l.toNat, u.toNat, cap) w := by
  have eu : (u.toNat : Int) = u := Int.toNat_of_nonneg (by omega)
  cases lo with
  | none =>
    cases vl with
    | some v => exact hl.elim
    | none =>
      simp only [bnd, Option.some.injEq] at el
      subst el
      cases hi with
      | none =>
        cases vh with
        | some v => exact hh.elim
        | none =>
          simp only [bnd, Option.some.injEq] at eh
          subst eh
          subst hd
          simp [Instr.sliceBounds]
      | some a =>
        cases vh with
        | none => exact hh.elim
        | some v =>
          cases a with
          | int k n =>
            simp only [bnd, Option.some.injEq] at eh
            subst eh
            have := hh k n rfl
            subst this
            simp [Instr.sliceBounds, run_sliceBound w k n cap _ (by omega) h2]
          | _ => simp [bnd] at eh
  | some a =>
    cases vl with
    | none => exact hl.elim
    | some v =>
      cases a with
      | int k n =>
        simp only [bnd, Option.some.injEq] at el
        subst el
        have := hl k n rfl
        subst this
        cases hi with
        | none =>
          cases vh with
          | some v => exact hh.elim
          | none =>
            simp only [bnd, Option.some.injEq] at eh
            subst eh
            subst hd
            simp [Instr.sliceBounds, run_sliceBound w k n len _ h0 h1]
        | some a' =>
          cases vh with
          | none => exact hh.elim
          | some v' =>
            cases a' with
            | int k' n' =>
              simp only [bnd, Option.some.injEq] at eh
              subst eh
              have := hh k' n' rfl
              subst this
              simp [Instr.sliceBounds, run_sliceBound w k' n' cap _ (by omega) h2, run_sliceBound w k n n'.toNat _ h0 (by omega)]
            | _ => simp [bnd] at eh
      | _ => simp [bnd] at el

include hΓ
theorem run_slice_sl {t e : TypeId} {j k : TI} (ht : Γ.get t = some j) (hj : j.desc = .slice e) (he : Γ.get e = some k) {A : Option Addr} {len cap : Nat} {lo hi : Option AV} {vl vh : Option Value} {l u dh : Int}
    (hl : BndRel lo vl) (hh : BndRel hi vh) (el : bnd lo 0 = some l) (eh : bnd hi dh = some u) (hd : dh = len) (h0 : 0 ≤ l) (h1 : l ≤ u) (h2 : u ≤ cap) :
    (Instr.sliceAt t (.slice A len cap) vl vh none).run P w = .ok (.slice (if cap = l.toNat then A else A.map (·.add (l.toNat * k.size))) (u.toNat - l.toNat) (cap - l.toNat)) w := by
  have hU := run_und hΓ ht w
  have hS := run_sz hΓ he w
  have hB := bounds_run (P := P) (w := w) (isSlice := true) hl hh el eh hd h0 h1 h2
  simp only [Instr.sliceAt, Sem.run_bind, hU, Result.andThen_ok, hj, Instr.slice, hB, hS, Sem.run_pure]

theorem slice_sl_ok {t e : TypeId} {j k : TI} (ht : Γ.get t = some j) (hj : j.desc = .slice e) (he : Γ.get e = some k) {a : AV} {p : Value} {lo hi : Option AV} {vl vh : Option Value} {r : Res} (H : HRel S w ρ h)
    (hns : ∀ s, a ≠ .str s) (ha : L1 S w ρ a p) (hl : BndRel lo vl) (hh : BndRel hi vh) (hr : (sliceA k.size h a lo hi).run some = some r) : ∃ v, (Instr.sliceAt t p vl vh none).run P w = .ok v w ∧ Post S w ρ h b r v w := by
  cases a with
  | str s => exact absurd rfl (hns s)
  | rsl d xs =>
    simp only [sliceA] at hr
    split at hr
    case h_2 => simp [Tree.run] at hr
    rename_i l u el eu hsz
    have hsz := Nat.eq_of_beq_eq_true hsz
    rcases Tree.br_some.1 hr with ⟨c0, hr⟩ | ⟨_, hr⟩
    case inr => simp [Tree.run] at hr
    rcases Tree.br_some.1 hr with ⟨c1, hr⟩ | ⟨_, hr⟩
    case inr => simp [Tree.run] at hr
    rcases Tree.br_some.1 hr with ⟨c2, hr⟩ | ⟨_, hr⟩
    case inr => simp [Tree.run] at hr
    simp only [Tree.run, Option.some.injEq] at hr
    subst hr
    have c0 := of_decide_eq_true c0
    have c1 := of_decide_eq_true c1
    have c2 := of_decide_eq_true c2
    obtain ⟨A, cap, e1, e2, e3⟩ := ha
    cases e1
    refine ⟨_, run_slice_sl hΓ ht hj he hl hh el eu rfl c0 c1 (by omega), Post.same H ?_⟩
    have hpl : (part xs l.toNat (u.toNat - l.toNat)).length = u.toNat - l.toNat := part_length _ _ _ (by omega)
    refine ⟨_, _, by rw [hpl], by rw [hpl]; omega, ?_⟩
    by_cases hz : part xs l.toNat (u.toNat - l.toNat) = []
    · exact .inl hz
    · right
      have hpos : 0 < u.toNat - l.toNat := by
        rw [← hpl]
        exact List.length_pos_iff.2 hz
      rcases e3 with rfl | ⟨ad, rfl, f2, f3, f4⟩
      · simp at c2; omega
      · rw [if_neg (by omega)]
        refine ⟨plus ad (l.toNat * k.size), by simp [add_plus ad f2], rfl, f3, fun i hi => ?_⟩
        rw [hpl] at hi
        obtain ⟨es, g1, g2⟩ := f4 (l.toNat + i) (by omega)
        refine ⟨es, ?_, ?_⟩
        · rw [plus_plus, hsz, ← Nat.add_mul]; exact g1
        · have e : (part xs l.toNat (u.toNat - l.toNat))[i]'(by rw [hpl]; exact hi) = xs[l.toNat + i] := by simp [part]
          rw [e]; exact g2
  | nils =>
    simp only [sliceA] at hr
    split at hr
    case h_2 => simp [Tree.run] at hr
    rename_i l u el eu
    rcases Tree.br_some.1 hr with ⟨c0, hr⟩ | ⟨_, hr⟩
    case inr => simp [Tree.run] at hr
    rcases Tree.br_some.1 hr with ⟨c1, hr⟩ | ⟨_, hr⟩
    case inr => simp [Tree.run] at hr
    simp only [Tree.run, Option.some.injEq] at hr
    subst hr
    have c0 := of_decide_eq_true c0
    have c1 := of_decide_eq_true c1
    subst c0; subst c1
    simp only [L1, L0] at ha
    subst ha
    refine ⟨_, run_slice_sl hΓ ht hj he hl hh el eu rfl (Int.le_refl _) (Int.le_refl _) (Int.le_refl _), Post.same H ?_⟩
    rfl
  | osl id =>
    simp only [sliceA] at hr
    split at hr
    case h_2 => simp [Tree.run] at hr
    rename_i d xs hg
    split at hr
    case h_2 => simp [Tree.run] at hr
    rename_i l u el eu hsz
    have hsz := Nat.eq_of_beq_eq_true hsz
    rcases Tree.br_some.1 hr with ⟨c0, hr⟩ | ⟨_, hr⟩
    case inr => simp [Tree.run] at hr
    rcases Tree.br_some.1 hr with ⟨c1, hr⟩ | ⟨_, hr⟩
    case inr => simp [Tree.run] at hr
    rcases Tree.br_some.1 hr with ⟨c2, hr⟩ | ⟨_, hr⟩
    case inr => simp [Tree.run] at hr
    simp only [Tree.run, Option.some.injEq] at hr
    subst hr
    have c0 := of_decide_eq_true c0
    have c1 := of_decide_eq_true c1
    have c2 := of_decide_eq_true c2
    obtain ⟨o, ho, rfl⟩ := ha
    rcases arr_at H hg with ⟨e1, rfl⟩ | ⟨g, cap, vs, ty, e1, e2, e3, e4, e5, _⟩
    · rw [ho] at e1
      cases e1
      simp only [List.length_nil] at c2 eu
      have hl0 : l = 0 := by omega
      have hu0 : u = 0 := by omega
      subst hl0; subst hu0
      refine ⟨_, run_slice_sl hΓ ht hj he hl hh el eu rfl (Int.le_refl _) (Int.le_refl _) (Int.le_refl _), Post.same H ⟨.nil, ho, rfl, Nat.le_refl _⟩⟩
    · rw [ho] at e1
      cases e1
      refine ⟨_, run_slice_sl hΓ ht hj he hl hh el eu rfl c0 c1 (by omega), Post.same H ⟨_, ho, ?_, ?_⟩⟩
      · simp only [Loc.isSub]
        by_cases hc : cap = l.toNat
        · rw [if_pos hc]
          exact ⟨0, _, rfl, by omega, fun hz => ⟨rfl, by omega⟩, fun hz => absurd (show u.toNat - l.toNat = 0 by omega) hz⟩
        · rw [if_neg hc]
          refine ⟨l.toNat * k.size, cap - l.toNat, by simp [add_plus, plus], by omega, fun hz => ⟨by rw [hz]; simp, by omega⟩, fun _ => by rw [hsz]⟩
      · simp only [Loc.len]; omega
  | vsl id sz a n =>
    simp only [sliceA] at hr
    split at hr
    case h_2 => simp [Tree.run] at hr
    rename_i l u el eu hsz
    have hsz := Nat.eq_of_beq_eq_true hsz
    rcases Tree.br_some.1 hr with ⟨c0, hr⟩ | ⟨_, hr⟩
    case inr => simp [Tree.run] at hr
    rcases Tree.br_some.1 hr with ⟨c1, hr⟩ | ⟨_, hr⟩
    case inr => simp [Tree.run] at hr
    rcases Tree.br_some.1 hr with ⟨c2, hr⟩ | ⟨_, hr⟩
    case inr => simp [Tree.run] at hr
    simp only [Tree.run, Option.some.injEq] at hr
    subst hr
    have c0 := of_decide_eq_true c0
    have c1 := of_decide_eq_true c1
    have c2 := of_decide_eq_true c2
    obtain ⟨o, ho, hp, hle⟩ := ha
    cases o with
    | nil =>
      simp only [Loc.isSub] at hp
      simp only [Loc.len] at hle
      subst hp
      have hn : n = 0 := by omega
      subst hn
      have hl0 : l = 0 := by omega
      have hu0 : u = 0 := by omega
      subst hl0; subst hu0
      refine ⟨_, run_slice_sl hΓ ht hj he hl hh el eu rfl (Int.le_refl _) (Int.le_refl _) (Int.le_refl _), Post.same H ⟨.nil, ho, rfl, ?_⟩⟩
      simp [Loc.len]; omega
    | «at» g len cap =>
      obtain ⟨bb, cc, rfl, hnc, hz0, hbb⟩ := hp
      simp only [Loc.len] at hle
      refine ⟨_, run_slice_sl hΓ ht hj he hl hh el eu rfl c0 c1 (by omega), Post.same H ⟨_, ho, ?_, ?_⟩⟩
      · simp only [Loc.isSub]
        by_cases hc : cc = l.toNat
        · rw [if_pos hc]
          exact ⟨bb, _, rfl, by omega, fun hz => ⟨(hz0 (by omega)).1, by have := (hz0 (by omega)).2; omega⟩, fun hz => absurd (show u.toNat - l.toNat = 0 by omega) hz⟩
        · rw [if_neg hc]
          refine ⟨bb + l.toNat * k.size, cc - l.toNat, by simp [add_plus, plus], by omega, fun hz => ?_, fun hne => ?_⟩
          · obtain ⟨z1, z2⟩ := hz0 (by omega)
            have : l.toNat = 0 := by omega
            rw [this, z1, z2]; simp
          · rw [hbb (by omega), hsz, Nat.add_mul]
      · simp only [Loc.len]; omega
  | _ => simp [sliceA, Tree.run] at hr

theorem slice_str_ok {t : TypeId} {j : TI} (ht : Γ.get t = some j) (hj : j.desc = .string) {s : ByteArray} {lo hi : Option AV} {vl vh : Option Value} {r : Res} (H : HRel S w ρ h)
    (hl : BndRel lo vl) (hh : BndRel hi vh) {n : Nat} (hr : (sliceA n h (.str s) lo hi).run some = some r) : ∃ v, (Instr.sliceAt t (.string s) vl vh none).run P w = .ok v w ∧ Post S w ρ h b r v w := by
  simp only [sliceA] at hr
  split at hr
  case h_2 => simp [Tree.run] at hr
  rename_i l u el eu
  rcases Tree.br_some.1 hr with ⟨c0, hr⟩ | ⟨_, hr⟩
  case inr => simp [Tree.run] at hr
  rcases Tree.br_some.1 hr with ⟨c1, hr⟩ | ⟨_, hr⟩
  case inr => simp [Tree.run] at hr
  rcases Tree.br_some.1 hr with ⟨c2, hr⟩ | ⟨_, hr⟩
  case inr => simp [Tree.run] at hr
  simp only [Tree.run, Option.some.injEq] at hr
  subst hr
  have c0 := of_decide_eq_true c0
  have c1 := of_decide_eq_true c1
  have c2 := of_decide_eq_true c2
  have hU := run_und hΓ ht w
  have hB := bounds_run (P := P) (w := w) (isSlice := false) (cap := s.size) hl hh el eu rfl c0 c1 c2
  refine ⟨.string (s.extract l.toNat u.toNat), ?_, Post.same H rfl⟩
  simp only [Instr.sliceAt, Sem.run_bind, hU, Result.andThen_ok, hj, Instr.slice, Option.isSome_none, Bool.false_eq_true, if_false, hB, Sem.run_pure, Sem.run_ite]

theorem index_ok {t : TypeId} {j : TI} (ht : Γ.get t = some j) (hj : j.desc = .string) {s : ByteArray} {ik : IntKind} {n : Int} (H : HRel S w ρ h) (h0 : 0 ≤ n) (h1 : n < s.size) :
    ∃ v, (Instr.index t (.string s) (.int ik n)).run P w = .ok v w ∧ Post S w ρ h b (.int .u8 (bt s n), []) v w := by
  have hu := (hΓ t j ht).und
  rw [hj] at hu
  have := run_index_string (P := P) w t s ik n hu
  rw [dif_pos ⟨h0, h1⟩] at this
  refine ⟨_, this, Post.same H ?_⟩
  show Value.int _ _ = Value.int _ _
  congr 1
  have hlt : n.toNat < s.data.toList.length := by rw [Array.length_toList]; show n.toNat < s.size; omega
  simp only [bt, List.getD_eq_getElem?_getD, List.getElem?_eq_getElem hlt, Option.getD_some]
  rfl

theorem len_ok {t ty : TypeId} {j : TI} (ht : Γ.get t = some j) {a : AV} {u : Value} {n : Int} (H : HRel S w ρ h) (ha : L1 S w ρ a u) (hn : lenA h a = some n) (hl : lenTy j.desc a = true) :
    ∃ v, (Builtin.len_ #[t] ty #[u]).run P w = .ok v w ∧ Post S w ρ h b (.int .i64 n, []) v w := by
  have hU := run_und hΓ ht w
  have fin : (Builtin.len_ #[t] ty #[u]).run P w = .ok (.int .i64 n) w → ∃ v, (Builtin.len_ #[t] ty #[u]).run P w = .ok v w ∧ Post S w ρ h b (.int .i64 n, []) v w := fun hh => ⟨_, hh, Post.same H rfl⟩
  apply fin
  cases hd : j.desc with
  | string =>
    rw [hd] at hl hU
    cases a with
    | str s =>
      simp only [L1, L0] at ha
      subst ha
      simp only [lenA, Option.some.injEq] at hn
      subst hn
      simp [Builtin.len_, hU, goInt]
    | _ => cases hl
  | slice e =>
    rw [hd] at hl hU
    cases a with
    | rsl d l =>
      obtain ⟨A, c, e1, _⟩ := ha
      cases e1
      simp only [lenA, Option.some.injEq] at hn
      subst hn
      simp [Builtin.len_, hU, goInt]
    | nils =>
      simp only [L1, L0] at ha
      subst ha
      simp only [lenA, Option.some.injEq] at hn
      subst hn
      simp [Builtin.len_, hU, goInt]
    | osl id =>
      obtain ⟨o, ho, rfl⟩ := ha
      simp only [lenA] at hn
      split at hn
      · rename_i d l hg
        simp only [Option.some.injEq] at hn
        subst hn
        rcases arr_at H hg with ⟨e1, rfl⟩ | ⟨g, cap, vs, ty', e1, _⟩
        · rw [ho] at e1; cases e1
          simp [Builtin.len_, hU, goInt, Loc.slice]
        · rw [ho] at e1; cases e1
          simp [Builtin.len_, hU, goInt, Loc.slice]
      · cases hn
    | vsl id sz lo m =>
      obtain ⟨o, ho, hp, hle⟩ := ha
      simp only [lenA, Option.some.injEq] at hn
      subst hn
      cases o with
      | nil =>
        simp only [Loc.isSub] at hp
        simp only [Loc.len] at hle
        subst hp
        have : m = 0 := by omega
        subst this
        simp [Builtin.len_, hU, goInt]
      | «at» g len cap =>
        obtain ⟨bb, cc, rfl, _⟩ := hp
        simp [Builtin.len_, hU, goInt]
    | _ => first | (cases hl; done) | (simp [lenA] at hn)
  | _ => rw [hd] at hl; cases a <;> cases hl

end
end Go.Nu

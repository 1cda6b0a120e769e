/- Nu, part O: an operation does what is told. -/
import Derived.Test.YtjilffemogdabaaNuN
namespace Go.Nu
set_option linter.unusedSimpArgs false
set_option linter.unnecessarySimpa false
set_option linter.unusedVariables false
set_option linter.unusedSectionVars false

theorem L2.one {S : Nat → Prop} {w : World} {ρ : Rho} {a : AV} {v : Value} (h : L2 S w ρ a v) (ht : ∀ vs, a ≠ .tup vs) : L1 S w ρ a v := by
  cases a with
  | tup vs => exact absurd rfl (ht vs)
  | _ => exact h

theorem L2.def {S : Nat → Prop} {w : World} {ρ : Rho} {a : AV} {v : Value} (h : L2 S w ρ a v) (hd : a.isDef = true) : L1 S w ρ a v ∧ a ≠ .undef := by
  cases a <;> first | (cases hd; done) | exact ⟨h, by simp⟩

theorem All2.map_ev {S : Nat → Prop} {w : World} {ρ : Rho} {ev : Operand → AV} {a : Act} (he : ∀ x, L2 S w ρ (ev x) (a.eval x)) : ∀ (xs : List Operand), (∀ x ∈ xs, ∀ vs, ev x ≠ .tup vs) → All2 (L1 S w ρ) (xs.map ev) (xs.map a.eval)
  | [], _ => trivial
  | x :: xs, h => ⟨(he x).one (h x (by simp)), All2.map_ev he xs fun y hy => h y (by simp [hy])⟩

/-- One value. -/
theorem wp_value {P : Program} {o : Oper} {a : Act} {w w' : World} {v : Value} {next : Act → World → Prop} {Q : Exit → Act → World → Prop} (h : (execOp a.eval o).run P w = .ok (.value v) w') (hn : next (a.put o.dst v) w') : o.wp P a w next Q := by
  unfold Oper.wp
  rw [h]
  exact hn
theorem wp_skipped {P : Program} {o : Oper} {a : Act} {w w' : World} {next : Act → World → Prop} {Q : Exit → Act → World → Prop} (h : (execOp a.eval o).run P w = .ok .skip w') (hn : next (a.put o.dst undef) w') : o.wp P a w next Q := by
  unfold Oper.wp
  rw [h]
  exact hn
theorem wp_calls {P : Program} {o : Oper} {a : Act} {w : World} {f : FuncId} {us : Array Value} {next : Act → World → Prop} {Q : Exit → Act → World → Prop} (h : (execOp a.eval o).run P w = .ok (.enter f us) w)
    (hn : Calls P f us w fun e w' => ∃ v, e = .returned v ∧ next (a.put o.dst v) w') : o.wp P a w next Q := by
  unfold Oper.wp
  rw [h]
  refine hn.mono ?_
  rintro e w' ⟨v, rfl, h⟩
  exact h

section
variable {P : Program} {Γ : Tys} (hΓ : Tys.ok P Γ) {S : Nat → Prop} {w : World} {ρ : Rho} {h : Store} {b : Nat}
include hΓ

theorem elInt_spec {d : TypeDesc} {k : IntKind} (hk : elInt Γ d = some k) : ∃ e i, d = .slice e ∧ Γ.get e = some i ∧ i.desc = .int k := by
  cases d with
  | slice e =>
    simp only [elInt] at hk
    split at hk
    · rename_i i hi
      split at hk
      · rename_i k' hd
        cases hk
        exact ⟨e, i, rfl, hi, hd⟩
      · cases hk
    · cases hk
  | _ => cases hk

theorem toList_foldl (ns : List Int) : ∀ (acc : ByteArray), (ns.foldl (fun r n => r.push (UInt8.ofNat n.toNat)) acc).data.toList = acc.data.toList ++ ns.map (fun n => UInt8.ofNat n.toNat) := by
  induction ns with
  | nil => intro acc; simp
  | cons n ns ih => intro acc; rw [List.foldl_cons, ih]; simp

omit hΓ in
theorem rdSl_L0 {d : Kd} {v : AV} {l : List d.T} {x : Value} (hl : rdSl h d v = some l) (ha : L2 S w ρ v x) : L0 S w ρ v x := by
  cases v with
  | agg cs => cases hl
  | clo f cs => cases hl
  | tup vs => cases hl
  | _ => exact ha

theorem conv_ok {s d : TypeId} {i j : TI} (hs : Γ.get s = some i) (hd : Γ.get d = some j) {a : AV} {x : Value} {r : Res} (H : HRel S w ρ h) (ha : L2 S w ρ a x)
    (hr : (convA i.desc j.desc (elInt Γ i.desc) a h).run some = some r) : ∃ v w', (convert s d x).run P w = .ok v w' ∧ Post S w ρ h b r v w' := by
  have hU := run_und hΓ hs w
  have hV := run_und hΓ hd w
  unfold convA at hr
  split at hr
  · rename_i k k' n hk
    simp only [Tree.run, Option.some.injEq] at hr
    subst hr
    simp only [L2, L1, L0] at ha
    subst ha
    refine ⟨_, w, ?_, Post.same H rfl⟩
    rw [hk] at hV
    simp only [convert, Sem.run_bind, hU, hV, Result.andThen_ok, Conv.intToInt, Sem.run_pure]
  · rename_i k n hk
    simp only [Tree.run, Option.some.injEq] at hr
    subst hr
    simp only [L2, L1, L0] at ha
    subst ha
    refine ⟨_, w, ?_, Post.same H rfl⟩
    rw [hk] at hV
    simp only [convert, Sem.run_bind, hU, hV, Result.andThen_ok, Conv.intToString, Sem.run_pure]
  · rename_i n hk
    simp only [Tree.run, Option.some.injEq] at hr
    subst hr
    simp only [L2, L1, L0] at ha
    subst ha
    refine ⟨_, w, ?_, Post.same H rfl⟩
    rw [hk] at hV
    simp only [convert, Sem.run_bind, hU, hV, Result.andThen_ok, Sem.run_pure]
  · rename_i hk v1 v2
    split at hr
    case h_2 => cases hr
    rename_i e hsd heI
    split at hr
    case h_2 => cases hr
    rename_i l hl
    simp only [Tree.run, Option.some.injEq] at hr
    subst hr
    obtain ⟨e', i', e1, e2, e3⟩ := elInt_spec hΓ heI
    rw [hsd] at e1
    cases e1
    have hW := run_und hΓ e2 w
    rw [e3] at hW
    rw [hk] at hV
    have hl0 := rdSl_L0 hl ha
    obtain ⟨news, n1, n2, n3, n4, n5⟩ := rdSl_src (P := P) H hl hl0
    have hnews : news = l.map (Value.int .u8) := by
      apply List.ext_getElem?
      intro q
      by_cases hq : q < l.length
      · have := n5 q hq
        simp only [Kd.sz, Nat.mul_one, Rep] at this
        have h0 : (part news q 1)[0]? = some (.int .u8 l[q]) := by rw [this]; rfl
        simp only [part, List.getElem?_take, List.getElem?_drop] at h0
        simp at h0
        rw [h0]
        simp [hq]
      · have n1' : news.length = l.length := by rw [n1]; show l.length * 1 = _; omega
        rw [List.getElem?_eq_none (by omega), List.getElem?_eq_none (by simp; omega)]
    obtain ⟨A, len, cap, rfl⟩ : ∃ A len cap, x = .slice A len cap := by
      have hrep := rdSl_rep H hl hl0
      obtain ⟨A, c, e1, _⟩ := hrep
      cases e1
      exact ⟨_, _, _, rfl⟩
    have hlen : len = l.length := by
      have := n3 w
      simp only [Builtin.lenOf, Sem.run_pure] at this
      cases this
      rfl
    refine ⟨.string (bytesStr l), w, ?_, Post.same H rfl⟩
    have hconv : (convert s d (.slice A len cap)).run P w = (Conv.bytesToString (.slice A len cap)).run P w := by
      have h1 := (hΓ s i hs).und
      have h2 := (hΓ d j hd).und
      have h3 := (hΓ _ i' e2).und
      rw [hsd] at h1
      rw [hk] at h2
      rw [e3] at h3
      exact run_convert_bytes_string w s d _ A len cap h1 h3 h2
    rw [hconv]
    cases A with
    | none =>
      have := n2 w rfl
      simp only [Builtin.firstCells, Sem.run_pure] at this
      have hn0 : news.length = 0 := by
        injection this with h1 _
        rw [← List.size_toArray, ← h1]
        rfl
      have hl1 : l = [] := by
        rw [n1] at hn0
        have : l.length * 1 = 0 := hn0
        exact List.eq_nil_of_length_eq_zero (by omega)
      subst hl1
      rfl
    | some ad =>
      have := n2 w rfl
      simp only [Builtin.firstCells, Kd.sz, Nat.mul_one] at this
      rw [hnews, ← hlen] at this
      rw [run_bytesToString w ad len cap l this]
      congr 2
      apply ByteArray.ext
      apply Array.ext'
      rw [toList_foldl hΓ]
      exact List.nil_append _
  · cases hr

theorem minmax_ok {f : AV → AV → Option AV} {g : Value → Value → Sem Value} (hf : ∀ {a c v : AV} {x y : Value}, f a c = some v → L2 S w ρ a x → L2 S w ρ c y → ∃ u, (g x y).run P w = .ok u w ∧ L2 S w ρ v u) :
    ∀ {xs : List AV} {us : List Value} {a : AV} {x : Value} {r : Res}, (foldA f a xs).run some = some r → L2 S w ρ a x → All2 (L2 S w ρ) xs us → HRel S w ρ h → ∃ v, (us.foldlM g x).run P w = .ok v w ∧ Post S w ρ h b r v w
  | [], [], a, x, r, hr, ha, _, H => by
    simp only [foldA, Tree.run, Option.some.injEq] at hr
    subst hr
    exact ⟨x, by simp, Post.same H ha⟩
  | c :: xs, u :: us, a, x, r, hr, ha, hx, H => by
    simp only [foldA] at hr
    split at hr
    case h_2 => cases hr
    rename_i y hy
    obtain ⟨z, h1, h2⟩ := hf hy ha hx.1
    obtain ⟨v, h3, h4⟩ := minmax_ok hf hr h2 hx.2 H
    refine ⟨v, ?_, h4⟩
    rw [List.foldlM_cons, Sem.run_bind, h1]
    exact h3
  | [], _ :: _, _, _, _, _, _, hx, _ => hx.elim
  | _ :: _, [], _, _, _, _, _, hx, _ => hx.elim

theorem min_ok {a c v : AV} {x y : Value} (hv : minA a c = some v) (ha : L2 S w ρ a x) (hc : L2 S w ρ c y) : ∃ u, (Builtin.min2 x y).run P w = .ok u w ∧ L2 S w ρ v u := by
  cases a <;> cases c <;> first | (cases hv; done) | skip
  rename_i k m k' n
  simp only [minA] at hv
  split at hv
  case isFalse => cases hv
  rename_i hk
  cases hv
  simp only [L2, L1, L0] at ha hc
  subst ha; subst hc; subst hk
  exact ⟨_, rfl, rfl⟩
theorem max_ok {a c v : AV} {x y : Value} (hv : maxA a c = some v) (ha : L2 S w ρ a x) (hc : L2 S w ρ c y) : ∃ u, (Builtin.max2 x y).run P w = .ok u w ∧ L2 S w ρ v u := by
  cases a <;> cases c <;> first | (cases hv; done) | skip
  rename_i k m k' n
  simp only [maxA] at hv
  split at hv
  case isFalse => cases hv
  rename_i hk
  cases hv
  simp only [L2, L1, L0] at ha hc
  subst ha; subst hc; subst hk
  exact ⟨_, rfl, rfl⟩

theorem app_ok {t u e ty : TypeId} {j k i : TI} (ht : Γ.get t = some j) (hu : Γ.get u = some k) (hj : j.desc = .slice e) (he : Γ.get e = some i) {s x : AV} (hk : appTy k.desc x = true) {sv xv : Value} {r : Res}
    (H : HRel S w ρ h) (hb : ρ b = none) (hs : L1 S w ρ s sv) (hx : L1 S w ρ x xv) (hr : (appA i s x h b).run some = some r) :
    ∃ v w', (Builtin.append_ #[t, u] ty #[sv, xv]).run P w = .ok v w' ∧ Post S w ρ h b r v w' := by
  unfold appA at hr
  split at hr
  case h_2 => cases hr
  rename_i d hd
  have hd' : 1 ≤ i.bytes ∧ i.kd = some d := by
    split at hd
    · rename_i h1; exact ⟨Nat.le_of_ble_eq_true h1, hd⟩
    · cases hd
  obtain ⟨hby, hd⟩ := hd'
  split at hr
  case h_2 => cases hr
  rename_i l m hl hm
  rcases Tree.br_some.1 hr with ⟨c0, hr⟩ | ⟨_, hr⟩
  case inr => cases hr
  have c0 := of_decide_eq_true c0
  simp only [Tree.run, Option.some.injEq] at hr
  subst hr
  have hkd : k.desc = .string ∨ ∃ e', k.desc = .slice e' := by
    cases hkk : k.desc with
    | string => exact .inl rfl
    | slice e' => exact .inr ⟨e', rfl⟩
    | _ => rw [hkk] at hk; cases x <;> cases hk
  have hdefx : ∀ {a' : AV}, x = a' → (∃ q, rdSl h d a' = some q) → L0 S w ρ a' xv := by
    rintro a' rfl ⟨q, hq⟩
    cases x with
    | agg cs => cases hq
    | clo f cs => cases hq
    | tup vs => cases hq
    | _ => exact hx
  have hsrc : Src P S w d m xv := by
    split at hm
    · rename_i y
      split at hm
      · rename_i hdd
        subst hdd
        cases hm
        simp only [L1, L0] at hx
        subst hx
        exact src_str _ _ _ _
      · cases hm
    · exact rdSl_src H hm (hdefx rfl ⟨_, hm⟩)
  cases s with
  | nils =>
    simp only [appL, Option.some.injEq] at hl
    subst hl
    simp only [L1, L0] at hs
    subst hs
    simp only [List.nil_append]
    exact append_nil_ok hΓ ht hu hj he hkd hd hby H hb hsrc (by simpa using c0)
  | osl id =>
    simp only [appL] at hl
    split at hl
    case h_2 => cases hl
    rename_i d' l' hg
    rw [Option.map_eq_some_iff] at hl
    obtain ⟨l1, hc, rfl⟩ := hl
    obtain ⟨rfl, rfl⟩ := cast_some hc
    obtain ⟨o, ho, rfl⟩ := hs
    rcases arr_at H hg with ⟨e1, e2⟩ | ⟨g, cap, vs, ty', e1, _⟩
    · rw [ho] at e1
      cases e1
      subst e2
      simp only [List.nil_append]
      obtain ⟨E1, K1⟩ := kill_blk H id
      obtain ⟨v, w', h1, S', ρ', E, K, L, R⟩ := append_nil_ok hΓ (ty := ty) (b := b) ht hu hj he hkd hd hby K1 hb hsrc (by simpa using c0)
      exact ⟨v, w', h1, S', ρ', E1.trans E, K, L, R⟩
    · rw [ho] at e1
      cases e1
      have := append_own_ok hΓ (ty := ty) (b := b) ht hu hj he hkd hd hby H hb hsrc hg ho (Nat.le_refl _) c0
      rw [List.take_length] at this
      exact this
  | vsl id sz lo n =>
    cases lo with
    | succ lo => cases hl
    | zero =>
      simp only [appL] at hl
      split at hl
      case h_2 => cases hl
      rename_i d' l' hg
      rw [Option.map_eq_some_iff] at hl
      obtain ⟨l1, hc, rfl⟩ := hl
      obtain ⟨rfl, rfl⟩ := cast_some hc
      obtain ⟨o, ho, hp, hle⟩ := hs
      rcases arr_at H hg with ⟨e1, e2⟩ | ⟨g, cap, vs, ty', e1, _⟩
      · rw [ho] at e1
        cases e1
        subst e2
        simp only [Loc.isSub] at hp
        subst hp
        simp only [List.take_nil, List.nil_append]
        obtain ⟨E1, K1⟩ := kill_blk H id
        obtain ⟨v, w', h1, S', ρ', E, K, L, R⟩ := append_nil_ok hΓ (ty := ty) (b := b) ht hu hj he hkd hd hby K1 hb hsrc (by simpa using c0)
        exact ⟨v, w', h1, S', ρ', E1.trans E, K, L, R⟩
      · rw [ho] at e1
        cases e1
        obtain ⟨bb, cc, rfl, h1, h2, h3⟩ := hp
        obtain ⟨rfl, rfl⟩ := h2 rfl
        simp only [Loc.len, Nat.zero_add] at hle
        exact append_own_ok hΓ (ty := ty) (b := b) ht hu hj he hkd hd hby H hb hsrc hg ho hle (by
          have : (l1.take n).length = n := by simp; omega
          rw [this] at c0
          exact c0)
  | _ => cases hl

end
end Go.Nu

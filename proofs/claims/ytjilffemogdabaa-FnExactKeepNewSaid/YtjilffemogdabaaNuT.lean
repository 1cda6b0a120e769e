/- Nu, part T: a region that draws its order. -/
import Derived.Test.YtjilffemogdabaaNuS
namespace Go.Nu
set_option linter.unusedSimpArgs false
set_option linter.unnecessarySimpa false
set_option linter.unusedVariables false
set_option linter.unusedSectionVars false

theorem told_get {σ : Store} {t : Nat} {c : Bool} (ht : tmpAV σ t = .bool c) : ∀ k, Store.get ((t, .av (.bool c)) :: σ) k = σ.get k := by
  intro k
  have hlt : t < idBase := by
    rcases Nat.lt_or_ge t idBase with h | h
    · exact h
    · rw [tmpAV_ge h] at ht; cases ht
  have hg : σ.get t = .av (.bool c) := by
    rw [tmpAV_lt hlt] at ht
    split at ht
    · rename_i v hv; rw [hv, ht]
    · cases ht
  by_cases hk : k = t
  · subst hk; rw [get_cons_same, hg]
  · rw [get_cons_ne _ _ hk]

theorem flatMap_congr' {α β : Type} {f g : α → List β} : ∀ {l : List α}, (∀ x ∈ l, f x = g x) → l.flatMap f = l.flatMap g
  | [], _ => rfl
  | x :: xs, h => by rw [List.flatMap_cons, List.flatMap_cons, h x (by simp), flatMap_congr' fun y hy => h y (by simp [hy])]

theorem tmpAV_at {σ σ' : Store} {t : Nat} (h : σ'.get t = σ.get t) : tmpAV σ' t = tmpAV σ t := by simp only [tmpAV, h]

/-- What an operation looks at tells what it looks at. -/
theorem foot_at {σ σ' : Store} {o : Op} (h : ∀ k ∈ foot σ o, σ'.get k = σ.get k) : foot σ' o = foot σ o := by
  have h1 : foot1 σ' (opTmps o) = foot1 σ (opTmps o) := flatMap_congr' fun t ht => by rw [tmpAV_at (h t (List.mem_append_left _ ht))]
  unfold foot
  rw [h1]
  congr 2
  exact flatMap_congr' fun id hid => by rw [h id (List.mem_append_right _ (List.mem_append_left _ hid))]

theorem snip_at {σ σ' : Store} : ∀ {ks : List Nat}, (∀ k ∈ ks, σ'.get k = σ.get k) → snip σ' ks = snip σ ks
  | [], _ => rfl
  | k :: ks, h => by
    show (k, σ'.get k) :: snip σ' ks = (k, σ.get k) :: snip σ ks
    rw [h k (by simp), snip_at fun j hj => h j (by simp [hj])]

theorem snip_get (σ : Store) : ∀ (ks : List Nat) (k : Nat), (snip σ ks).get k = σ.get k ∨ (snip σ ks).get k = .none
  | [], _ => .inr rfl
  | x :: ks, k => by
    show Store.get ((x, σ.get x) :: snip σ ks) k = _ ∨ Store.get ((x, σ.get x) :: snip σ ks) k = _
    by_cases hk : k = x
    · subst hk; rw [get_cons_same]; exact .inl rfl
    · rw [get_cons_ne _ _ hk]; exact snip_get σ ks k

section
variable (Γ : Tys) (Φ : Ctrs) (n : Nat)

/-- What an operation did at a store. -/
def DidOK (ops : List Oper) (o : Oper) (σ : Store) (b : Nat) (d : Did) : Prop :=
  dstOk n o.dst = true ∧
  ((((o.guard = none) ∨ ∃ j want tt, o.guard = some (j, want) ∧ guardTmp ops j = some tt ∧ tmpAV σ tt = .bool want) ∧
      ∃ r, (opP Γ Φ o.op (evS (snip σ (foot σ o.op))) (snip σ (foot σ o.op)) b).run some = some r ∧ idsOk r.2 = true ∧ d = ⟨gTmps ops o ++ foot σ o.op, putS r.2 o.dst r.1⟩) ∨
   ((∃ j want tt, o.guard = some (j, want) ∧ guardTmp ops j = some tt ∧ (tmpAV σ tt = .bool (!want) ∨ tmpAV σ tt = .tup [])) ∧ d = ⟨gTmps ops o, putS [] o.dst (.tup [])⟩))

theorem DidOK.at {ops : List Oper} {o : Oper} {σ σ' : Store} {b : Nat} {d : Did} (h : DidOK Γ Φ n ops o σ b d) (e : ∀ k ∈ d.at_, σ'.get k = σ.get k) : DidOK Γ Φ n ops o σ' b d := by
  obtain ⟨h1, h2⟩ := h
  have hg : ∀ {j : Nat} {want : Bool} {tt : Nat}, o.guard = some (j, want) → guardTmp ops j = some tt → tt ∈ gTmps ops o := by
    intro j want tt hg ht
    unfold gTmps
    rw [hg]
    simp only [ht, List.mem_singleton]
  refine ⟨h1, ?_⟩
  rcases h2 with ⟨hw, r, h3, h4, rfl⟩ | ⟨⟨j, want, tt, h3, h4, h5⟩, rfl⟩
  · have hf : ∀ k ∈ foot σ o.op, σ'.get k = σ.get k := fun k hk => e k (List.mem_append_right _ hk)
    have e1 := foot_at hf
    have e2 := snip_at hf
    refine .inl ⟨?_, r, ?_, h4, by rw [e1]⟩
    · rcases hw with hw | ⟨j, want, tt, k1, k2, k3⟩
      · exact .inl hw
      · exact .inr ⟨j, want, tt, k1, k2, by rw [tmpAV_at (e tt (List.mem_append_left _ (hg k1 k2)))]; exact k3⟩
    · rw [e1, e2]; exact h3
  · exact .inr ⟨⟨j, want, tt, h3, h4, by rw [tmpAV_at (e tt (hg h3 h4))]; exact h5⟩, rfl⟩

theorem stepD_direct {ops : List Oper} {o : Oper} {σ : Store} {b : Nat} {R : Type} {K : Did → Store → Option R} {r : R} (h : stepD Γ Φ n ops o σ b K = some r) :
    ∃ d σ', DidOK Γ Φ n ops o σ b d ∧ (∀ k, σ'.get k = Store.get (d.ws ++ σ) k) ∧ K d σ' = some r := by
  unfold stepD at h
  split at h
  case h_2 => cases h
  rename_i hd
  have happ : ∀ (ws : Store) {σ1 : Store}, (∀ k, σ1.get k = σ.get k) → ∀ k, Store.get (ws ++ σ1) k = Store.get (ws ++ σ) k := by
    intro ws σ1 e k
    rw [get_append, get_append, e]
  have run : ∀ {σ1 : Store}, (∀ k, σ1.get k = σ.get k) → ((o.guard = none) ∨ ∃ j want tt, o.guard = some (j, want) ∧ guardTmp ops j = some tt ∧ tmpAV σ tt = .bool want) →
      ((opP Γ Φ o.op (evS (snip σ1 (foot σ1 o.op))) (snip σ1 (foot σ1 o.op)) b).run fun r => match idsOk r.2 with
      | true => K ⟨gTmps ops o ++ foot σ1 o.op, putS r.2 o.dst r.1⟩ (putS r.2 o.dst r.1 ++ σ1)
      | false => none) = some r → ∃ d σ', DidOK Γ Φ n ops o σ b d ∧ (∀ k, σ'.get k = Store.get (d.ws ++ σ) k) ∧ K d σ' = some r := by
    intro σ1 e hw h
    obtain ⟨r1, h1, h2⟩ := Tree.run_some h
    split at h2
    case h_2 => cases h2
    rename_i hi
    have e1 : foot σ1 o.op = foot σ o.op := foot_at fun k _ => e k
    have e2 : snip σ1 (foot σ o.op) = snip σ (foot σ o.op) := snip_at fun k _ => e k
    rw [e1] at h2
    rw [e1, e2] at h1
    exact ⟨_, _, ⟨hd, .inl ⟨hw, r1, h1, hi, rfl⟩⟩, happ _ e, h2⟩
  have skip : ∀ {σ1 : Store}, (∀ k, σ1.get k = σ.get k) → (∃ j want tt, o.guard = some (j, want) ∧ guardTmp ops j = some tt ∧ (tmpAV σ tt = .bool (!want) ∨ tmpAV σ tt = .tup [])) →
      K ⟨gTmps ops o, putS [] o.dst (.tup [])⟩ (putS [] o.dst (.tup []) ++ σ1) = some r → ∃ d σ', DidOK Γ Φ n ops o σ b d ∧ (∀ k, σ'.get k = Store.get (d.ws ++ σ) k) ∧ K d σ' = some r := by
    intro σ1 e hw h
    exact ⟨_, _, ⟨hd, .inr ⟨hw, rfl⟩⟩, happ _ e, h⟩
  unfold stepW at h
  split at h
  · rename_i hg
    exact run (fun _ => rfl) (.inl hg) h
  · rename_i j want hg
    split at h
    case h_2 => cases h
    rename_i tt htt
    split at h
    · rename_i c hc
      cases c with
      | true => exact run (told_get hc) (.inr ⟨j, true, tt, hg, htt, hc⟩) h
      | false => exact skip (told_get hc) ⟨j, true, tt, hg, htt, .inl hc⟩ h
    · rename_i c hc
      cases c with
      | true => exact skip (told_get hc) ⟨j, false, tt, hg, htt, .inl hc⟩ h
      | false => exact run (told_get hc) (.inr ⟨j, false, tt, hg, htt, hc⟩) h
    · rename_i hc
      exact skip (fun _ => rfl) ⟨j, _, tt, hg, htt, .inr hc⟩ h
    · cases h

end

/-- The store behind those operations that L tells, in the order of the text. -/
def mix (L : Nat → Bool) : List Did → Nat → Store → Store
  | [], _, σ => σ
  | d :: ds, i, σ => mix L ds (i + 1) (if L i then d.ws ++ σ else σ)

theorem any_iff {ws : Store} {k : Nat} : ws.any (fun p => Nat.beq p.1 k) = true ↔ k ∈ keys ws := by
  constructor
  · intro h
    obtain ⟨p, hp, hb⟩ := List.any_eq_true.1 h
    rw [← Nat.eq_of_beq_eq_true hb]
    exact List.mem_map.2 ⟨p, hp, rfl⟩
  · intro h; exact any_key h

theorem get_in {ws σ : Store} {k : Nat} (h : k ∈ keys ws) : Store.get (ws ++ σ) k = ws.get k := by rw [get_append, any_iff.2 h]
theorem get_out {ws σ : Store} {k : Nat} (h : k ∉ keys ws) : Store.get (ws ++ σ) k = σ.get k := by
  have : ws.any (fun p => Nat.beq p.1 k) = false := by
    cases hb : ws.any (fun p => Nat.beq p.1 k)
    · rfl
    · exact absurd (any_iff.1 hb) h
  rw [get_append, this]

theorem mix_agree {L L' : Nat → Bool} {k : Nat} : ∀ (ds : List Did) (i : Nat) {σ σ' : Store}, (∀ j d, ds[j]? = some d → k ∈ keys d.ws → L (i + j) = L' (i + j)) → σ.get k = σ'.get k → (mix L ds i σ).get k = (mix L' ds i σ').get k
  | [], _, _, _, _, h => h
  | d :: ds, i, σ, σ', hL, h => by
    refine mix_agree ds (i + 1) (fun j d' hj hk => ?_) ?_
    · have := hL (j + 1) d' (by simpa using hj) hk
      rw [show i + 1 + j = i + (j + 1) by omega]; exact this
    · by_cases hk : k ∈ keys d.ws
      · have := hL 0 d rfl hk
        simp only [Nat.add_zero] at this
        rw [this]
        split
        · rw [get_in hk, get_in hk]
        · exact h
      · have hl : Store.get (if L i then d.ws ++ σ else σ) k = σ.get k := by split <;> first | exact get_out hk | rfl
        have hr : Store.get (if L' i then d.ws ++ σ' else σ') k = σ'.get k := by split <;> first | exact get_out hk | rfl
        rw [hl, hr, h]

theorem mix_skip {L : Nat → Bool} {k : Nat} : ∀ (ds : List Did) (i : Nat) {σ : Store}, (∀ j d, ds[j]? = some d → L (i + j) = true → k ∉ keys d.ws) → (mix L ds i σ).get k = σ.get k
  | [], _, _, _ => rfl
  | d :: ds, i, σ, h => by
    rw [mix, mix_skip ds (i + 1) (fun j d' hj hl => h (j + 1) d' (by simpa using hj) (by rw [show i + (j + 1) = i + 1 + j by omega]; exact hl))]
    split
    · rename_i hl
      exact get_out (h 0 d rfl hl)
    · rfl

theorem mix_last {L : Nat → Bool} {k : Nat} : ∀ (ds : List Did) (i : Nat) {σ : Store} {m : Nat} {d : Did}, ds[m]? = some d → L (i + m) = true → k ∈ keys d.ws → (∀ j d', ds[j]? = some d' → m < j → L (i + j) = true → k ∉ keys d'.ws) →
    (mix L ds i σ).get k = d.ws.get k
  | [], _, _, m, d, h, _, _, _ => by simp at h
  | d0 :: ds, i, σ, 0, d, h, hl, hk, hn => by
    simp at h
    subst h
    rw [mix, mix_skip ds (i + 1) (fun j d' hj hl' => hn (j + 1) d' (by simpa using hj) (by omega) (by rw [show i + (j + 1) = i + 1 + j by omega]; exact hl'))]
    simp only [Nat.add_zero] at hl
    rw [if_pos hl, get_in hk]
  | d0 :: ds, i, σ, m + 1, d, h, hl, hk, hn => by
    rw [mix]
    exact mix_last ds (i + 1) (by simpa using h) (by rw [show i + 1 + m = i + (m + 1) by omega]; exact hl) hk (fun j d' hj hm hl' => hn (j + 1) d' (by simpa using hj) (by omega) (by rw [show i + (j + 1) = i + 1 + j by omega]; exact hl'))

section
variable {Γ : Tys} {Φ : Ctrs} {n : Nat}

theorem regionD_direct {ops : List Oper} : ∀ (l : List Oper) {σ : Store} {t : Nat} {ds : List Did} {R : Type} {K : List Did → Store → Nat → Option R} {r : R}, regionD Γ Φ n ops l σ t ds K = some r →
    ∃ dl σ', dl.length = l.length ∧ (∀ i o, l[i]? = some o → ∃ d, dl[i]? = some d ∧ DidOK Γ Φ n ops o (mix (fun j => decide (j < i)) dl 0 σ) (t + 64 * i) d) ∧
      (∀ k, σ'.get k = (mix (fun _ => true) dl 0 σ).get k) ∧ K (ds ++ dl) σ' (t + 64 * l.length) = some r
  | [], σ, t, ds, R, K, r, h => ⟨[], σ, rfl, fun i o hi => by simp at hi, fun k => rfl, by simp only [regionD] at h; simpa using h⟩
  | o :: l, σ, t, ds, R, K, r, h => by
    simp only [regionD] at h
    obtain ⟨d, σ1, h1, h2, h3⟩ := stepD_direct Γ Φ n h
    obtain ⟨dl, σ', k1, k2, k3, k4⟩ := regionD_direct l h3
    have hσ : ∀ k, (mix (fun _ => true) (d :: dl) 0 σ).get k = (mix (fun _ => true) dl 0 σ1).get k := by
      intro k
      have : ∀ (L : Nat → Bool) (ds : List Did) (i j : Nat) (σ : Store), (∀ m, L (i + m) = true) → mix L ds i σ = mix (fun _ => true) ds j σ := by
        intro L ds
        induction ds with
        | nil => intros; rfl
        | cons x xs ih =>
          intro i j σ hL
          rw [mix, mix, ih (i + 1) (j + 1) _ (fun m => by rw [show i + 1 + m = i + (m + 1) by omega]; exact hL _)]
          have := hL 0
          simp only [Nat.add_zero] at this
          rw [this]
      rw [mix, if_pos rfl, this _ dl 1 0 _ (fun _ => rfl)]
      exact mix_agree dl 0 (fun _ _ _ _ => rfl) (h2 k).symm
    refine ⟨d :: dl, σ', by simp [k1], fun i o' hi => ?_, fun k => (k3 k).trans (hσ k).symm, ?_⟩
    · cases i with
      | zero =>
        simp at hi
        subst hi
        refine ⟨d, rfl, ?_⟩
        have e : mix (fun j => decide (j < 0)) (d :: dl) 0 σ = σ := by
          have : ∀ (ds : List Did) (i : Nat) (σ : Store), mix (fun j => decide (j < 0)) ds i σ = σ := by
            intro ds
            induction ds with
            | nil => intros; rfl
            | cons x xs ih => intro i σ; rw [mix, if_neg (by simp), ih]
          exact this _ _ _
        rw [e]
        simpa using h1
      | succ i =>
        obtain ⟨d', e1, e2⟩ := k2 i o' (by simpa using hi)
        refine ⟨d', by simpa using e1, ?_⟩
        rw [show t + 64 * (i + 1) = t + 64 + 64 * i by omega]
        refine e2.at Γ Φ n fun k _ => ?_
        have hshift : ∀ (ds : List Did) (s : Nat) (σ : Store), mix (fun j => decide (j < i + 1)) ds (s + 1) σ = mix (fun j => decide (j < i)) ds s σ := by
          intro ds
          induction ds with
          | nil => intros; rfl
          | cons x xs ih =>
            intro s σ
            rw [mix, mix, ih (s + 1)]
            congr 1
            simp
        rw [mix, if_pos (by simp), hshift]
        exact mix_agree dl 0 (fun _ _ _ _ => rfl) (h2 k).symm
    · rw [List.append_assoc] at k4
      rw [List.length_cons, show t + 64 * (l.length + 1) = t + 64 + 64 * l.length by omega]
      exact k4

end
end Go.Nu

/- Nu, part U: whatever order is drawn. -/
import Derived.Test.YtjilffemogdabaaNuT
namespace Go.Nu
set_option linter.unusedSimpArgs false
set_option linter.unnecessarySimpa false
set_option linter.unusedVariables false
set_option linter.unusedSectionVars false

/-! ### Which comes before which -/
theorem fold_bits (acc : List Nat) : ∀ (es : List Edge) (s i : Nat), (es.foldl (fun s e => if Region.binds .any e then s ||| 2 ^ e.on ||| acc.getD e.on 0 else s) s).testBit i = true →
    s.testBit i = true ∨ ∃ e ∈ es, Region.binds .any e = true ∧ (i = e.on ∨ (acc.getD e.on 0).testBit i = true)
  | [], s, i, h => .inl h
  | e :: es, s, i, h => by
    rw [List.foldl_cons] at h
    rcases fold_bits acc es _ i h with h1 | ⟨e', he', h2⟩
    · split at h1
      · rename_i hb
        rw [Nat.testBit_or, Nat.testBit_or, Bool.or_eq_true, Bool.or_eq_true] at h1
        rcases h1 with (h1 | h1) | h1
        · exact .inl h1
        · rw [Nat.testBit_two_pow] at h1
          exact .inr ⟨e, by simp, hb, .inl (of_decide_eq_true h1).symm⟩
        · exact .inr ⟨e, by simp, hb, .inr h1⟩
      · exact .inl h1
    · exact .inr ⟨e', by simp [he'], h2⟩

theorem befs_prefix : ∀ (l : List Oper) (acc : List Nat), ∃ r, befs l acc = acc ++ r ∧ r.length = l.length
  | [], acc => ⟨[], by simp [befs], rfl⟩
  | o :: l, acc => by
    obtain ⟨r, h1, h2⟩ := befs_prefix l (acc ++ [o.after.toList.foldl (fun s e => if Region.binds .any e then s ||| 2 ^ e.on ||| acc.getD e.on 0 else s) 0])
    exact ⟨_ :: r, by rw [befs, h1, List.append_assoc]; rfl, by simp [h2]⟩

theorem getD_prefix {acc r : List Nat} {i : Nat} (h : i < acc.length) : (acc ++ r).getD i 0 = acc.getD i 0 := by
  simp only [List.getD_eq_getElem?_getD, List.getElem?_append_left h]

/-- A bit tells of an edge, or of a bit one edge on. -/
theorem befs_bit : ∀ (l : List Oper) (acc : List Nat) (j : Nat) (o : Oper), edgesOk l acc.length = true → l[j]? = some o → ∀ i, ((befs l acc).getD (acc.length + j) 0).testBit i = true →
    ∃ e ∈ o.after.toList, Region.binds .any e = true ∧ e.on < acc.length + j ∧ (i = e.on ∨ ((befs l acc).getD e.on 0).testBit i = true)
  | [], _, _, _, _, h, _, _ => by simp at h
  | o0 :: l, acc, j, o, he, hj, i, hi => by
    simp only [edgesOk, Bool.and_eq_true] at he
    obtain ⟨r, hr, _⟩ := befs_prefix l (acc ++ [o0.after.toList.foldl (fun s e => if Region.binds .any e then s ||| 2 ^ e.on ||| acc.getD e.on 0 else s) 0])
    cases j with
    | zero =>
      simp at hj
      subst hj
      rw [befs, hr, Nat.add_zero] at hi
      have : ((acc ++ [o0.after.toList.foldl (fun s e => if Region.binds .any e then s ||| 2 ^ e.on ||| acc.getD e.on 0 else s) 0]) ++ r).getD acc.length 0 =
          o0.after.toList.foldl (fun s e => if Region.binds .any e then s ||| 2 ^ e.on ||| acc.getD e.on 0 else s) 0 := by
        simp [List.getD_eq_getElem?_getD]
      rw [this] at hi
      rcases fold_bits acc _ 0 i hi with h1 | ⟨e, h1, h2, h3⟩
      · simp at h1
      · have hlt : e.on < acc.length := by
          have := List.all_eq_true.1 he.1 e h1
          rw [h2] at this
          simpa [Nat.blt_eq] using this
        refine ⟨e, h1, h2, by omega, h3.imp (fun x => x) fun h4 => ?_⟩
        rw [befs, hr, List.append_assoc, getD_prefix hlt]
        exact h4
    | succ j =>
      have he2 : edgesOk l (acc ++ [o0.after.toList.foldl (fun s e => if Region.binds .any e then s ||| 2 ^ e.on ||| acc.getD e.on 0 else s) 0]).length = true := by simpa using he.2
      have := befs_bit l _ j o he2 (by simpa using hj) i (by
        rw [befs] at hi
        have e : (acc ++ [o0.after.toList.foldl (fun s e => if Region.binds .any e then s ||| 2 ^ e.on ||| acc.getD e.on 0 else s) 0]).length + j = acc.length + (j + 1) := by simp; omega
        rw [e]; exact hi)
      obtain ⟨e, h1, h2, h3, h4⟩ := this
      exact ⟨e, h1, h2, by simp at h3; omega, by rw [befs]; exact h4⟩

theorem bef_closed {ops : List Oper} (he : edgesOk ops 0 = true) {L : Nat → Bool} (hL : ∀ j o, ops[j]? = some o → L j = true → ∀ e ∈ o.after.toList, Region.binds .any e = true → L e.on = true) :
    ∀ (j : Nat) (o : Oper), ops[j]? = some o → L j = true → ∀ i, ((befs ops []).getD j 0).testBit i = true → L i = true := by
  intro j
  induction j using Nat.strongRecOn with
  | _ j ih =>
    intro o ho hl i hi
    obtain ⟨e, h1, h2, h3, h4⟩ := befs_bit ops [] j o he ho i (by simpa using hi)
    have hLe := hL j o ho hl e h1 h2
    rcases h4 with rfl | h4
    · exact hLe
    · have hlt : e.on < ops.length := by
        have := (List.getElem?_eq_some_iff.1 ho).1
        simp at h3
        omega
      exact ih e.on (by simpa using h3) ops[e.on] (List.getElem?_eq_getElem hlt) hLe i h4

section
variable {n np : Nat} {S0 : Nat → Prop} {w0 : World} {ρ0 : Rho} {O0 : Nat → Prop}
variable {P : Program} {Γ : Tys} (hΓ : Tys.ok P Γ) {Φ : Ctrs} (hΦ : ∀ f c, Φ f = some c → c.ok P f) (hn : n ≤ idBase)
include hΓ hΦ hn

/-- One operation, at its turn. -/
theorem did_ok {ops : Array Oper} {i : Nat} {o : Oper} (ho : ops[i]? = some o) {F S : Nat → Prop} {w : World} {ρ : Rho} {σ : Store} {a : Act} {b : Nat} {d : Did} (R0 : Rel n np S0 w0 ρ0 O0 F S w ρ σ a)
    (hd : DidOK Γ Φ n ops.toList o σ b d) (hb : ∀ id, b ≤ id → id < b + 64 → F id) {next : Act → World → Prop} {Q : Exit → Act → World → Prop}
    (hk : ∀ S' w' ρ' a', Rel n np S0 w0 ρ0 O0 (fun id => F id ∧ ¬ (b ≤ id ∧ id < b + 64)) S' w' ρ' (d.ws ++ σ) a' → next a' w') : wpOp P ops Q i next a w := by
  obtain ⟨h1, h2⟩ := hd
  have hput : ∀ (ws : Store) (v : AV), putS ws o.dst v ++ σ = putS (ws ++ σ) o.dst v := by
    intro ws v
    cases o.dst <;> rfl
  unfold wpOp
  simp only [ho]
  rcases h2 with ⟨hw, r, h3, h4, rfl⟩ | ⟨⟨j, want, tt, h3, h4, h5⟩, rfl⟩
  · have hwant : Region.wanted o (yielded ops a.tmps) = true := by
      rcases hw with hg | ⟨j, want, tt, k1, k2, k3⟩
      · unfold Region.wanted; rw [hg]
      · rw [wanted_told hΓ hΦ R0 k1 k2 k3]; simp
    rw [hwant, if_pos rfl]
    refine .inl (op_step hΓ hΦ hn R0 (fun k => snip_get σ _ k) h3 h4 h1 hb fun S' w' ρ' a' R2 => hk S' w' ρ' a' ?_)
    rw [hput]
    exact R2
  · have hwant : Region.wanted o (yielded ops a.tmps) = false := by
      rcases h5 with h5 | h5
      · rw [wanted_told hΓ hΦ R0 h3 h4 h5]; simp
      · exact wanted_skip hΓ hΦ R0 h3 h4 h5
    rw [hwant]
    refine hk S w ρ _ ?_
    rw [hput]
    exact (R0.put hn h1 (av := .tup []) (v := undef) ⟨#[], rfl, trivial⟩).fewer fun id h => h.1

theorem any_ok {ops : Array Oper} {t : Nat} {σ : Store} {dl : List Did} (hlen : dl.length = ops.size) (he : edgesOk ops.toList 0 = true) (hap : apartOk (befs ops.toList []) dl = true)
    (hdid : ∀ i o, ops[i]? = some o → ∃ d, dl[i]? = some d ∧ DidOK Γ Φ n ops.toList o (mix (fun j => decide (j < i)) dl 0 σ) (t + 64 * i) d) {Q : Exit → Act → World → Prop}
    (hk : ∀ S' w' ρ' a', Rel n np S0 w0 ρ0 O0 (fun id => t + 64 * ops.size ≤ id) S' w' ρ' (mix (fun _ => true) dl 0 σ) a' → Q .normal a' w') :
    ∀ (fuel : Nat) (listed : Array Bool) {S : Nat → Prop} {w : World} {ρ : Rho} {a : Act}, listed.size = ops.size → (List.range ops.size).countP (fun i => !listed.getD i true) ≤ fuel →
      (∀ j o, ops[j]? = some o → listed.getD j true = true → ∀ e ∈ o.after.toList, Region.binds .any e = true → listed.getD e.on true = true) →
      Rel n np S0 w0 ρ0 O0 (fun id => t + 64 * ops.size ≤ id ∨ ∃ j, j < ops.size ∧ listed.getD j true = false ∧ t + 64 * j ≤ id ∧ id < t + 64 * j + 64) S w ρ (mix (fun j => listed.getD j true) dl 0 σ) a →
      wpAny P .any ops Q fuel listed a w := by
  have hedge : ∀ i o, ops[i]? = some o → ∀ e ∈ o.after.toList, Region.binds .any e = true → e.on < i := by
    have : ∀ (l : List Oper) (s : Nat), edgesOk l s = true → ∀ i o, l[i]? = some o → ∀ e ∈ o.after.toList, Region.binds .any e = true → e.on < s + i := by
      intro l
      induction l with
      | nil => intro s _ i o h; simp at h
      | cons x xs ih =>
        intro s h i o hi e h1 h2
        simp only [edgesOk, Bool.and_eq_true] at h
        cases i with
        | zero =>
          simp at hi
          subst hi
          have := List.all_eq_true.1 h.1 e h1
          rw [h2] at this
          simpa [Nat.blt_eq] using this
        | succ i =>
          have := ih (s + 1) h.2 i o (by simpa using hi) e h1 h2
          omega
    intro i o hi e h1 h2
    have := this ops.toList 0 he i o (by rw [Array.getElem?_toList]; exact hi) e h1 h2
    omega
  -- all listed: the end
  have done : ∀ (listed : Array Bool) {S : Nat → Prop} {w : World} {ρ : Rho} {a : Act}, listed.size = ops.size → (∀ i, i < ops.size → listed.getD i true = true) →
      Rel n np S0 w0 ρ0 O0 (fun id => t + 64 * ops.size ≤ id ∨ ∃ j, j < ops.size ∧ listed.getD j true = false ∧ t + 64 * j ≤ id ∧ id < t + 64 * j + 64) S w ρ (mix (fun j => listed.getD j true) dl 0 σ) a → Q .normal a w := by
    intro listed S w ρ a hsz hall R
    refine hk S w ρ a ((R.fewer fun id h => .inl h).congr fun k => ?_)
    refine mix_agree dl 0 (fun j d hj _ => ?_) rfl
    rw [Nat.zero_add, hall j (by rw [← hlen]; exact (List.getElem?_eq_some_iff.1 hj).1)]
  -- something is ready while something is unlisted
  have ready : ∀ (listed : Array Bool), listed.size = ops.size → Region.ready .any ops listed = [] → ∀ i, i < ops.size → listed.getD i true = true := by
    intro listed hsz hr i
    induction i using Nat.strongRecOn with
    | _ i ih =>
      intro hi
      cases hli : listed.getD i true with
      | true => rfl
      | false =>
        exfalso
        have : i ∈ Region.ready .any ops listed := by
          unfold Region.ready
          refine List.mem_filter.2 ⟨List.mem_range.2 hi, ?_⟩
          have hoi : ops[i]? = some ops[i] := Array.getElem?_eq_getElem hi
          simp only [hli, Bool.not_false, Bool.true_and, hoi, Option.map_some, Option.getD_some]
          rw [← Array.all_toList, List.all_eq_true]
          intro e h1
          cases hb : Region.binds .any e with
          | false => rfl
          | true =>
            have hlt := hedge i _ hoi e h1 hb
            have h2 := ih e.on hlt (by omega)
            have : listed.getD e.on false = true := by
              simp only [Array.getD_eq_getD_getElem?] at h2 ⊢
              rw [Array.getElem?_eq_getElem (by omega)] at h2 ⊢
              exact h2
            simp [this]
        rw [hr] at this
        cases this
  intro fuel
  induction fuel with
  | zero =>
    intro listed S w ρ a hsz hcnt hcl R
    have hall : ∀ i, i < ops.size → listed.getD i true = true := by
      intro i hi
      have := List.countP_eq_zero.1 (Nat.le_zero.1 hcnt) i (List.mem_range.2 hi)
      simpa using this
    refine ⟨?_, done listed hsz hall R⟩
    cases hr : Region.ready .any ops listed with
    | nil => rfl
    | cons i r =>
      have hi : i ∈ Region.ready .any ops listed := by rw [hr]; simp
      unfold Region.ready at hi
      obtain ⟨h1, h2⟩ := List.mem_filter.1 hi
      rw [hall i (List.mem_range.1 h1)] at h2
      simp at h2
  | succ fuel ih =>
    intro listed S w ρ a hsz hcnt hcl R
    refine ⟨fun hr => done listed hsz (ready listed hsz hr) R, fun i hi => ?_⟩
    unfold Region.ready at hi
    obtain ⟨h1, h2⟩ := List.mem_filter.1 hi
    have hin := List.mem_range.1 h1
    have hoi : ops[i]? = some ops[i] := Array.getElem?_eq_getElem hin
    simp only [hoi, Option.map_some, Option.getD_some, Bool.and_eq_true, Bool.not_eq_true'] at h2
    obtain ⟨hli, hedg⟩ := h2
    obtain ⟨d, hdi, hdok⟩ := hdid i _ hoi
    -- the edges of i are listed
    have hei : ∀ e ∈ ops[i].after.toList, Region.binds .any e = true → listed.getD e.on true = true := by
      intro e h3 h4
      rw [← Array.all_toList, List.all_eq_true] at hedg
      have := hedg e h3
      rw [h4] at this
      simp only [Bool.not_true, Bool.false_or] at this
      simp only [Array.getD_eq_getD_getElem?] at this ⊢
      cases hq : listed[e.on]? with
      | none => rfl
      | some q => rw [hq] at this; exact this
    -- two that share something are ordered
    have hpair : ∀ j dj, dl[j]? = some dj → j ≠ i → freeOf d dj = true ∨ freeOf dj d = true ∨ (j < i ∧ listed.getD j true = true) ∨ (i < j ∧ listed.getD j true = false) := by
      intro j dj hj hne
      have hjn : j < ops.size := by rw [← hlen]; exact (List.getElem?_eq_some_iff.1 hj).1
      have hoj : ops[j]? = some ops[j] := Array.getElem?_eq_getElem hjn
      have hmem : ∀ {q : Nat} {dq : Did}, dl[q]? = some dq → (dq, q) ∈ dl.zipIdx := fun {q dq} hq => List.mem_zipIdx_iff_getElem?.2 hq
      have hall := List.all_eq_true.1 hap
      rcases Nat.lt_or_gt_of_ne hne with hlt | hgt
      · have := List.all_eq_true.1 (hall _ (hmem hj)) _ (hmem hdi)
        simp only [show Nat.blt j i = true from by rw [Nat.blt_eq]; exact hlt, Bool.not_true, Bool.false_or, Bool.or_eq_true] at this
        rcases this with h3 | h3
        · refine .inr (.inr (.inl ⟨hlt, ?_⟩))
          -- j comes before i: listed
          obtain ⟨e, e1, e2, e3, e4⟩ := befs_bit ops.toList [] i _ he (by rw [Array.getElem?_toList]; exact hoi) j (by simpa using h3)
          rcases e4 with rfl | e4
          · exact hei e e1 e2
          · have hen : e.on < ops.size := by simp at e3; omega
            refine bef_closed he (L := fun j => listed.getD j true) (fun q o hq hl e' h5 h6 => hcl q o (by rw [← Array.getElem?_toList]; exact hq) hl e' h5 h6) e.on ops[e.on] (by rw [Array.getElem?_toList]; exact Array.getElem?_eq_getElem hen) (hei e e1 e2) j e4
        · exact .inr (.inl h3)
      · have := List.all_eq_true.1 (hall _ (hmem hdi)) _ (hmem hj)
        simp only [show Nat.blt i j = true from by rw [Nat.blt_eq]; exact hgt, Bool.not_true, Bool.false_or, Bool.or_eq_true] at this
        rcases this with h3 | h3
        · refine .inr (.inr (.inr ⟨hgt, ?_⟩))
          cases hlj : listed.getD j true with
          | false => rfl
          | true =>
            have := bef_closed he (L := fun j => listed.getD j true) (fun q o hq hl e' h5 h6 => hcl q o (by rw [← Array.getElem?_toList]; exact hq) hl e' h5 h6) j ops[j] (by rw [Array.getElem?_toList]; exact hoj) hlj i h3
            rw [hli] at this
            cases this
        · exact .inl h3
    have hdisj : ∀ {xs ys : List Nat} {k : Nat}, disj xs ys = true → k ∈ xs → k ∉ ys := by
      intro xs ys k h h3 h4
      have := List.all_eq_true.1 (List.all_eq_true.1 h k h3) k h4
      simp at this
    -- at its turn it sees what it saw in the order of the text
    have hsee : DidOK Γ Φ n ops.toList ops[i] (mix (fun j => listed.getD j true) dl 0 σ) (t + 64 * i) d := by
      refine hdok.at Γ Φ n fun k hka => ?_
      refine mix_agree dl 0 (fun j dj hj hkj => ?_) rfl
      rw [Nat.zero_add]
      by_cases hji : j = i
      · subst hji; rw [hli]; simp
      · rcases hpair j dj hj hji with h3 | h3 | ⟨h3, h4⟩ | ⟨h3, h4⟩
        · simp only [freeOf, Bool.and_eq_true] at h3
          exact absurd hka (hdisj h3.1.2 hkj)
        · simp only [freeOf, Bool.and_eq_true] at h3
          exact absurd hka (hdisj h3.1.1 hkj)
        · rw [h4]; simp [h3]
        · rw [h4]; simp; omega
    refine did_ok hΓ hΦ hn hoi R hsee (fun id h3 h4 => .inr ⟨i, hin, hli, h3, h4⟩) fun S' w' ρ' a' R' => ?_
    have hset : ∀ j, (listed.setIfInBounds i true).getD j true = if j = i then true else listed.getD j true := by
      intro j
      by_cases hji : j = i
      · subst hji
        rw [if_pos rfl]
        simp [Array.getD_eq_getD_getElem?, Array.getElem?_setIfInBounds, hsz, hin]
      · rw [if_neg hji]
        simp only [Array.getD_eq_getD_getElem?]
        rw [Array.getElem?_setIfInBounds_ne (Ne.symm hji)]
    refine ih (listed.setIfInBounds i true) (S := S') (w := w') (ρ := ρ') (a := a') (by simp [hsz]) ?_ ?_ ?_
    · -- one fewer is unlisted
      have hlt : (List.range ops.size).countP (fun j => !(listed.setIfInBounds i true).getD j true) < (List.range ops.size).countP (fun j => !listed.getD j true) := by
        have key : ∀ (xs : List Nat), i ∈ xs → xs.countP (fun j => !(listed.setIfInBounds i true).getD j true) < xs.countP (fun j => !listed.getD j true) := by
          have le : ∀ (xs : List Nat), xs.countP (fun j => !(listed.setIfInBounds i true).getD j true) ≤ xs.countP (fun j => !listed.getD j true) := by
            intro xs
            refine List.countP_mono_left fun j _ hj => ?_
            rw [hset] at hj
            split at hj
            · simp at hj
            · exact hj
          intro xs
          induction xs with
          | nil => intro h; simp at h
          | cons x xs ihx =>
            intro h
            rw [List.countP_cons, List.countP_cons]
            by_cases hx : x = i
            · subst hx
              have h5 := le xs
              have h6 : (!(listed.setIfInBounds x true).getD x true) = false := by rw [hset]; simp
              rw [h6, hli]
              simp only [Bool.not_false, Bool.false_eq_true, if_true, if_false]
              omega
            · have h5 := ihx (by rcases List.mem_cons.1 h with rfl | h; exact absurd rfl hx; exact h)
              have h6 : (listed.setIfInBounds i true).getD x true = listed.getD x true := by rw [hset, if_neg hx]
              rw [h6]
              omega
        exact key _ h1
      omega
    · intro j o hj hl e h3 h4
      rw [hset] at hl ⊢
      split
      · rfl
      · split at hl
        · rename_i hji
          subst hji
          rw [hoi] at hj
          cases hj
          exact hei e h3 h4
        · exact hcl j o hj hl e h3 h4
    · refine (R'.fewer fun id h3 => ?_).congr fun k => ?_
      · rcases h3 with h3 | ⟨j, h3, h4, h5, h6⟩
        · exact ⟨.inl h3, by omega⟩
        · rw [hset] at h4
          split at h4
          · cases h4
          · rename_i hji
            refine ⟨.inr ⟨j, h3, h4, h5, h6⟩, ?_⟩
            rcases Nat.lt_or_gt_of_ne hji with h7 | h7 <;> omega
      · by_cases hkd : k ∈ keys d.ws
        · rw [get_in hkd]
          refine mix_last dl 0 hdi (by rw [Nat.zero_add, hset, if_pos rfl]) hkd fun j dj hj hij hlj hkj => ?_
          rw [Nat.zero_add, hset, if_neg (by omega)] at hlj
          rcases hpair j dj hj (by omega) with h3 | h3 | ⟨h3, _⟩ | ⟨_, h3⟩
          · simp only [freeOf, Bool.and_eq_true] at h3
            exact hdisj h3.2 hkd hkj
          · simp only [freeOf, Bool.and_eq_true] at h3
            exact hdisj h3.2 hkj hkd
          · omega
          · rw [hlj] at h3; cases h3
        · rw [get_out hkd]
          refine mix_agree dl 0 (fun j dj hj hkj => ?_) rfl
          rw [Nat.zero_add, hset, if_neg]
          rintro rfl
          rw [hdi] at hj
          cases hj
          exact hkd hkj

end
end Go.Nu

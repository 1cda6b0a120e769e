/- Nu, part Zb: a function's contract out of its run. -/
import Derived.Test.YtjilffemogdabaaNuZ
namespace Go.Nu
set_option linter.unusedSimpArgs false
set_option linter.unnecessarySimpa false
set_option linter.unusedVariables false
set_option linter.unusedSectionVars false

theorem inA_len : ∀ (ks : List PK) (x : ArgT ks) (ids : List Nat), (inA ks x ids).1.length = ks.length
  | [], _, _ => rfl
  | .v _ :: ks, x, ids => by simp [inA, inA_len ks]
  | .p _ :: ks, x, ids => by simp [inA, inA_len ks]
  | .m _ :: ks, x, ids => by simp [inA, inA_len ks]
  | .t _ :: ks, x, ids => by simp [inA, inA_len ks]
  | .f _ :: ks, x, ids => by simp [inA, inA_len ks]
  | .z :: ks, x, ids => by simp [inA, inA_len ks]
  | .c _ _ :: ks, x, ids => by simp [inA, inA_len ks]

theorem cellsA_box : ∀ {ks : List PK} {x : ArgT ks} {cs : List AV}, Cell.box cs ∈ cellsA ks x → ∃ d y, cs = lv d y
  | [], _, _, h => by cases h
  | .v _ :: ks, x, cs, h => cellsA_box (ks := ks) h
  | .p d :: ks, x, cs, h => by
    simp only [cellsA, List.mem_cons] at h
    rcases h with h | h
    · cases h; exact ⟨d, x.1, rfl⟩
    · exact cellsA_box (ks := ks) h
  | .f _ :: ks, x, cs, h => cellsA_box (ks := ks) h
  | .z :: ks, x, cs, h => cellsA_box (ks := ks) h
  | .c _ d :: ks, x, cs, h => by
    simp only [cellsA, List.mem_cons] at h
    rcases h with h | h
    · cases h; exact ⟨d, x.1, rfl⟩
    · exact cellsA_box (ks := ks) h
  | .t d :: ks, x, cs, h => by
    simp only [cellsA, List.mem_append] at h
    rcases h with h | h
    · exact (cellsM_nobox d x.1 cs h).elim
    · exact cellsA_box (ks := ks) h
  | .m d :: ks, x, cs, h => by
    simp only [cellsA, List.mem_append] at h
    rcases h with h | h
    · exact (cellsM_nobox d x.1 cs h).elim
    · exact cellsA_box (ks := ks) h

theorem zip_any : ∀ {ids : List Nat} {cs : List Cell} {i : Nat}, ids.length = cs.length → i ∈ ids → (ids.zip cs).any (fun p => Nat.beq p.1 i) = true
  | [], _, _, _, h => by cases h
  | _ :: _, [], _, h, _ => by simp at h
  | k :: ids, c :: cs, i, hl, h => by
    simp only [List.zip_cons_cons, List.any_cons, Bool.or_eq_true]
    simp only [List.mem_cons] at h
    rcases h with rfl | h
    · exact .inl (Nat.beq_refl _)
    · exact .inr (zip_any (by simpa using hl) h)

theorem flat_idx {α β : Type} {f : α → List β} : ∀ {l : List α} {j j' : Nat} {a a' : α} {x : β}, (l.flatMap f).Nodup → l[j]? = some a → l[j']? = some a' → x ∈ f a → x ∈ f a' → j = j'
  | [], j, _, _, _, _, _, h, _, _, _ => by simp at h
  | b :: l, 0, 0, _, _, _, _, _, _, _, _ => rfl
  | b :: l, 0, j' + 1, a, a', x, hn, h1, h2, h3, h4 => by
    simp only [List.flatMap_cons, List.nodup_append] at hn
    simp at h1 h2
    subst h1
    exact absurd rfl (hn.2.2 x h3 x (List.mem_flatMap.2 ⟨a', List.mem_of_getElem? h2, h4⟩))
  | b :: l, j + 1, 0, a, a', x, hn, h1, h2, h3, h4 => by
    simp only [List.flatMap_cons, List.nodup_append] at hn
    simp at h1 h2
    subst h2
    exact absurd rfl (hn.2.2 x h4 x (List.mem_flatMap.2 ⟨a, List.mem_of_getElem? h1, h3⟩))
  | b :: l, j + 1, j' + 1, a, a', x, hn, h1, h2, h3, h4 => by
    simp only [List.flatMap_cons, List.nodup_append] at hn
    simp only [List.getElem?_cons_succ] at h1 h2
    rw [flat_idx hn.2.1 h1 h2 h3 h4]

theorem locOf_at {ρ : Rho} {s : Src0} {g l c : Nat} (h : locOf ρ s = some (.at g l c)) : ∃ id ∈ srcIds s, ∃ l', ρ id = some (.at g l' c) := by
  cases s with
  | nil => cases h
  | whole id => exact ⟨id, by simp [srcIds], l, h⟩
  | pre id n =>
    simp only [locOf, Option.map_eq_some_iff] at h
    obtain ⟨o, h1, h2⟩ := h
    cases o with
    | nil => cases h2
    | «at» g' l' c' => cases h2; exact ⟨id, by simp [srcIds], l', h1⟩

section
variable {P : Program} {Γ : Tys} (hΓ : Tys.ok P Γ) {S : Nat → Prop} {w : World} {ρ ρ0 : Rho} {pk : List PK} {rs : List RK} {ids : List Nat} {x : ArgT pk} {b : Nat} {F : ArgT pk → Option (ResT rs × UpdT pk)}
include hΓ

theorem final_ok {n : Nat} {fn : Func} {F1 S1 : Nat → Prop} {w1 : World} {ρ1 : Rho} {σ1 : Store} {a1 : Act} {r : ResT rs × UpdT pk}
    (hnd : ids.Nodup) (hfar : ∀ id ∈ ids, id < b ∨ b + 64 ≤ id) (hlen : ids.length = (pk.map PK.n).sum) (hrs : (rs.map RK.n).sum ≤ 64) (hfree : ∀ id, b ≤ id → id < b + 64 → ρ id = none)
    (hρ0 : ∀ (j i : Nat), ids[j]? = some i → ρ0 (idBase + j) = ρ i)
    (R1 : Rel n (pk.map PK.n).sum S w ρ0 (Own ρ (ids.zip (cellsA pk x))) F1 S1 w1 ρ1 σ1 a1) (hfin : finish Γ fn pk rs σ1 = some r) :
    ∃ v, (results fn a1.tmps).run P w1 = .ok v w1 ∧ Post S w ρ (ids.zip (cellsA pk x)) b (Ctr.out ⟨pk, rs, F⟩ r b ids) v w1 := by
  simp only [finish, Option.bind_eq_some_iff] at hfin
  obtain ⟨vs1, e1, hfin⟩ := hfin
  split at hfin
  case h_2 => cases hfin
  rename_i hdef
  simp only [Option.bind_eq_some_iff] at hfin
  obtain ⟨⟨xr, srcs⟩, e2, y, e3, h⟩ := hfin
  split at h
  case h_2 => cases h
  rename_i hdist
  cases h
  have hdist := distinct_nodup hdist
  simp only at hdist
  rw [List.nodup_append] at hdist
  obtain ⟨hds, _, hdx⟩ := hdist
  obtain ⟨us1, k1, k2⟩ := resAVs_run hΓ R1.h R1.tm e1 hdef
  obtain ⟨t1, t2, t3⟩ := takeR_rel R1.h e2 k2
  have tu := takeU_rel R1.h e3 (upFrom_length _ _)
  have hkp := fun j i c => keep_live (ks := pk) (ids := upFrom idBase (pk.map PK.n).sum) (y := y) j i c (upFrom_length _ _)
  generalize hm : (rs.map RK.n).sum = m at *
  generalize hN : (pk.map PK.n).sum = N at *
  refine ⟨one' us1, results_run k1, ?_⟩
  let ρ' : Rho := fun id => if b ≤ id ∧ id < b + 64 then (srcs[id - b]?).bind (locOf ρ1) else ρ id
  have hρ1 : ∀ (j : Nat) s, srcs[j]? = some s → ρ' (b + j) = locOf ρ1 s := by
    intro j s hs
    have hj := (List.getElem?_eq_some_iff.1 hs).1
    simp only [ρ']
    rw [if_pos (by omega), Nat.add_sub_cancel_left, hs]
    rfl
  have hρ2 : ∀ id, id ∈ ids → ρ' id = ρ id := by
    intro id hi
    have := hfar id hi
    simp only [ρ']
    rw [if_neg (by omega)]
  have hpin : ∀ (j i : Nat), ids[j]? = some i → ρ1 (idBase + j) = ρ i := by
    intro j i hi
    have hj := (List.getElem?_eq_some_iff.1 hi).1
    rw [R1.pin _ (by omega) (by omega), hρ0 j i hi]
  have hupd : ∀ (j i : Nat), ids[j]? = some i → (upFrom idBase N)[j]? = some (idBase + j) := fun j i hi => upFrom_get' _ _ _ (by have := (List.getElem?_eq_some_iff.1 hi).1; omega)
  obtain ⟨t4, t5⟩ := t3 ρ' b hρ1
  have hst : (Ctr.out ⟨pk, rs, F⟩ (xr, y) b ids).2 ++ ids.zip (cellsA pk x) = (upFrom b m ++ ids).zip (cellsR rs xr ++ cellsU pk y) ++ ids.zip (cellsA pk x) := by
    simp only [Ctr.out]
    rw [outR_zip, outU_zip pk y ids (by rw [hN]; exact hlen), hm, List.zip_append (by rw [upFrom_length, cellsR_length, hm])]
  have hcR : (cellsR rs xr).length = m := by rw [cellsR_length, hm]
  have hcU : (cellsU pk y).length = N := by rw [cellsU_length, hN]
  have hcA : (cellsA pk x).length = N := by rw [cellsA_length, hN]
  -- where a live id comes from
  have hlive : ∀ id, (Store.get ((upFrom b m ++ ids).zip (cellsR rs xr ++ cellsU pk y) ++ ids.zip (cellsA pk x)) id).live = true →
      (∃ (j : Nat), id = b + j ∧ j < m ∧ (cellsR rs xr)[j]? = some (Store.get ((upFrom b m ++ ids).zip (cellsR rs xr ++ cellsU pk y) ++ ids.zip (cellsA pk x)) id)) ∨
      (∃ (j : Nat), ids[j]? = some id ∧ (cellsU pk y)[j]? = some (Store.get ((upFrom b m ++ ids).zip (cellsR rs xr ++ cellsU pk y) ++ ids.zip (cellsA pk x)) id)) := by
    intro id hl
    rw [get_append] at hl ⊢
    split at hl
    · obtain ⟨j, h1, h2⟩ := zip_live hl
      by_cases hj : j < m
      · rw [List.getElem?_append_left (by rw [upFrom_length]; exact hj)] at h1
        rw [List.getElem?_append_left (by rw [hcR]; exact hj)] at h2
        exact .inl ⟨j, (upFrom_some h1).1, hj, h2⟩
      · rw [List.getElem?_append_right (by rw [upFrom_length]; omega), upFrom_length] at h1
        rw [List.getElem?_append_right (by rw [hcR]; omega), hcR] at h2
        exact .inr ⟨j - m, h1, h2⟩
    · rename_i hf
      exfalso
      obtain ⟨j, h1, h2⟩ := zip_live hl
      have := zip_any (ids := upFrom b m ++ ids) (cs := cellsR rs xr ++ cellsU pk y) (i := id) (by simp [upFrom_length, hcR, hcU, hlen]) (List.mem_append_right _ (List.mem_of_getElem? h1))
      rw [hf] at this
      cases this
  generalize hσ : (upFrom b m ++ ids).zip (cellsR rs xr ++ cellsU pk y) ++ ids.zip (cellsA pk x) = σ' at *
  -- its block
  have hsrc : ∀ id g l c, (Store.get σ' id).live = true → ρ' id = some (.at g l c) → ∃ sid l', (σ1.get sid).live = true ∧ ρ1 sid = some (.at g l' c) ∧
      ((∃ (j : Nat) (s : Src0), id = b + j ∧ j < m ∧ srcs[j]? = some s ∧ sid ∈ srcIds s) ∨ (∃ (j : Nat), ids[j]? = some id ∧ sid = idBase + j ∧ sid ∈ keepIds pk (upFrom idBase N))) := by
    intro id g l c hl hr
    rcases hlive id hl with ⟨j, rfl, hj, h2⟩ | ⟨j, h1, h2⟩
    · obtain ⟨s, hs⟩ : ∃ s, srcs[j]? = some s := ⟨srcs[j]'(by omega), List.getElem?_eq_getElem (by omega)⟩
      rw [hρ1 j s hs] at hr
      obtain ⟨sid, h3, l', h4⟩ := locOf_at hr
      exact ⟨sid, l', t2 s (List.mem_of_getElem? hs) sid h3, h4, .inl ⟨j, s, rfl, hj, hs, h3⟩⟩
    · have hj := (List.getElem?_eq_some_iff.1 h1).1
      rw [hρ2 id (List.mem_of_getElem? h1), ← hpin j id h1] at hr
      exact ⟨idBase + j, l, (tu j (idBase + j) _ (hupd j id h1) h2 hl).1, hr, .inr ⟨j, h1, rfl, hkp j _ _ (hupd j id h1) h2 hl⟩⟩
  have hown : ∀ bb, Own ρ' σ' bb → Own ρ1 σ1 bb := by
    rintro bb ⟨id, l, c, hl, hr⟩
    obtain ⟨sid, l', h1, h2, _⟩ := hsrc id bb l c hl hr
    exact ⟨sid, l', c, h1, h2⟩
  have hle : ρ.le ρ' := by
    intro id o ho
    simp only [ρ']
    by_cases hi : b ≤ id ∧ id < b + 64
    · rw [hfree id hi.1 hi.2] at ho; cases ho
    · rw [if_neg hi]; exact ho
  refine ⟨S1, ρ', ?_, ?_, ?_, ?_⟩
  · rw [hst]
    have f := R1.frame
    exact ⟨hle, f.sub, f.keep, f.grow, f.snew, fun bb hbb => f.onew bb (hown bb hbb), f.os, f.tape, f.output⟩
  · rw [hst]
    refine ⟨R1.h.inS, fun id => ?_, fun bb hb ho => R1.h.sep bb hb (hown bb ho), ?_⟩
    · cases hl : (Store.get σ' id).live with
      | false => generalize Store.get σ' id = c at *; cases c <;> first | trivial | cases hl
      | true =>
        rcases hlive id hl with ⟨j, rfl, hj, h2⟩ | ⟨j, h1, h2⟩
        · exact t5 j _ h2
        · exact (tu j (idBase + j) _ (hupd j id h1) h2 hl).2 ρ' id (by rw [hρ2 id (List.mem_of_getElem? h1), hpin j id h1])
    · intro i i' g l c l' c' hi hi' hr hr'
      obtain ⟨s1, l1, a1', a2, a3⟩ := hsrc i g l c hi hr
      obtain ⟨s2, l2, b1, b2, b3⟩ := hsrc i' g l' c' hi' hr'
      have hs := R1.h.inj s1 s2 g l1 c l2 c' a1' b1 a2 b2
      subst hs
      rcases a3 with ⟨j, s, rfl, _, p1, p2⟩ | ⟨j, p1, p2, p3⟩ <;> rcases b3 with ⟨j', s', rfl, _, q1, q2⟩ | ⟨j', q1, q2, q3⟩
      · rw [flat_idx hds p1 q1 p2 q2]
      · exact absurd rfl (hdx s1 (List.mem_flatMap.2 ⟨s, List.mem_of_getElem? p1, p2⟩) s1 q3)
      · exact absurd rfl (hdx s1 (List.mem_flatMap.2 ⟨s', List.mem_of_getElem? q1, q2⟩) s1 p3)
      · have : j = j' := by omega
        subst this
        rw [p1] at q1
        cases q1
        rfl
  · exact one_rel t4
  · intro id hne
    simp only [ρ'] at hne
    by_cases hi : b ≤ id ∧ id < b + 64
    · exact hi
    · rw [if_neg hi] at hne; exact absurd rfl hne

end

theorem fun_ok {P : Program} {Γ : Tys} {Φ : Ctrs} {Λ : LTab} (hΓ : Tys.ok P Γ) (hΦ : ∀ f c, Φ f = some c → c.ok P f) (hm : P.follows .mixedOrders = true)
    {f : FuncId} {fn : Func} {c : Code} (hf : P.funcs[f]? = some fn) (hb : fn.body = some c) (hname : (fn.name == "runtime.NumGoroutine") = false) {pk : List PK} {rs : List RK} (hΛ : ∀ c' ∈ loopsOf c, ∀ l, Λ (firstRegion c') = some l → l.ok Γ Φ fn.ntmps (pk.map PK.n).sum Λ c')
   
    (hnt : pk.length ≤ fn.ntmps) (hn : fn.ntmps ≤ idBase) (hrs : (rs.map RK.n).sum ≤ 64) {F : ArgT pk → Option (ResT rs × UpdT pk)} (hF : ∀ x r, F x = some r → arun Γ Φ Λ fn c pk rs x = some r) :
    Ctr.ok P f ⟨pk, rs, F⟩ := by
  refine ⟨⟨fn, hf, hname, by rw [hb]; rfl⟩, fun x r hx b ids hd hfar hlen => ?_⟩
  intro S w ρ us H hv hfree
  have hrun := hF x r hx
  simp only at hlen H hv x r
  have hnd := distinct_nodup hd
  rw [inA_zip pk x ids hlen] at H ⊢
  have hl0 : (upFrom idBase (pk.map PK.n).sum).length = (pk.map PK.n).sum := upFrom_length _ _
  let ρ0 : Rho := fun id => if idBase ≤ id ∧ id < idBase + (pk.map PK.n).sum then (ids[id - idBase]?).bind ρ else none
  have hρ0 : ∀ (j i : Nat), ids[j]? = some i → ρ0 (idBase + j) = ρ i := by
    intro j i hi
    have hj := (List.getElem?_eq_some_iff.1 hi).1
    simp only [ρ0]
    rw [if_pos (by omega), Nat.add_sub_cancel_left, hi]
    rfl
  have hsame : Same ρ ρ0 ids (upFrom idBase (pk.map PK.n).sum) := by
    refine ⟨by rw [hlen, hl0], fun j i i' h1 h2 => ?_⟩
    obtain ⟨rfl, _⟩ := upFrom_some h2
    exact (hρ0 j i h1).symm
  have hv0 := inA_ren pk x hlen hsame hv
  simp only [arun] at hrun
  rw [inA_zip pk x _ hl0] at hrun
  have hvl : (inA pk x (upFrom idBase (pk.map PK.n).sum)).1.length = pk.length := inA_len _ _ _
  generalize hvs : (inA pk x (upFrom idBase (pk.map PK.n).sum)).1 = vs at *
  have husl : us.length = pk.length := by rw [← hvl]; exact hv0.length.symm
  -- the store at the start
  have hget : ∀ id, Store.get (tmpsOf vs 0 ++ (upFrom idBase (pk.map PK.n).sum).zip (cellsA pk x)) id = match vs[id]? with
      | some v => .av v
      | none => Store.get ((upFrom idBase (pk.map PK.n).sum).zip (cellsA pk x)) id := by
    intro id
    rw [tmps_get, if_pos (Nat.zero_le _), Nat.sub_zero]
    cases vs[id]? <;> rfl
  have hub : ∀ d, d ∈ upFrom idBase (pk.map PK.n).sum → idBase ≤ d := fun d hm => by
    obtain ⟨j, hj⟩ := List.mem_iff_getElem?.1 hm
    have := upFrom_some hj; omega
  have hlive : ∀ id, (Store.get (tmpsOf vs 0 ++ (upFrom idBase (pk.map PK.n).sum).zip (cellsA pk x)) id).live = true → ∃ j i c, id = idBase + j ∧ ids[j]? = some i ∧ (cellsA pk x)[j]? = some c ∧
      Store.get (tmpsOf vs 0 ++ (upFrom idBase (pk.map PK.n).sum).zip (cellsA pk x)) id = c ∧ Store.get (ids.zip (cellsA pk x)) i = c := by
    intro id hl
    rw [hget] at hl ⊢
    split at hl
    · cases hl
    · obtain ⟨j, h1, h2⟩ := zip_live hl
      obtain ⟨rfl, hj⟩ := upFrom_some h1
      have hi : ids[j]? = some (ids[j]'(by omega)) := List.getElem?_eq_getElem (by omega)
      exact ⟨j, _, _, rfl, hi, h2, rfl, zip_at hnd hi h2⟩
  have hlive' : ∀ i, (Store.get (ids.zip (cellsA pk x)) i).live = true → ∃ j, ids[j]? = some i ∧ Store.get (tmpsOf vs 0 ++ (upFrom idBase (pk.map PK.n).sum).zip (cellsA pk x)) (idBase + j) = Store.get (ids.zip (cellsA pk x)) i := by
    intro i hl
    obtain ⟨j, h1, h2⟩ := zip_live hl
    refine ⟨j, h1, ?_⟩
    have hj := (List.getElem?_eq_some_iff.1 h1).1
    rw [hget, List.getElem?_eq_none (by omega)]
    exact zip_at (upFrom_nodup _ _) (upFrom_get' _ _ _ (by omega)) h2
  have hown : ∀ bb, Own ρ0 (tmpsOf vs 0 ++ (upFrom idBase (pk.map PK.n).sum).zip (cellsA pk x)) bb ↔ Own ρ (ids.zip (cellsA pk x)) bb := by
    intro bb
    constructor
    · rintro ⟨id, l, cc, hl, hr⟩
      obtain ⟨j, i, c', rfl, h1, h2, h3, h4⟩ := hlive id hl
      rw [hρ0 j i h1] at hr
      exact ⟨i, l, cc, by rw [h4, ← h3]; exact hl, hr⟩
    · rintro ⟨i, l, cc, hl, hr⟩
      obtain ⟨j, h1, h2⟩ := hlive' i hl
      exact ⟨idBase + j, l, cc, by rw [h2]; exact hl, by rw [hρ0 j i h1]; exact hr⟩
  have hlo : ∀ d, d < idBase → (Store.get (tmpsOf vs 0 ++ (upFrom idBase (pk.map PK.n).sum).zip (cellsA pk x)) d).live = false := by
    intro d hd
    cases hl : (Store.get (tmpsOf vs 0 ++ (upFrom idBase (pk.map PK.n).sum).zip (cellsA pk x)) d).live with
    | false => rfl
    | true => obtain ⟨j, _, _, rfl, _⟩ := hlive d hl; omega
  have H0 : HRel S w ρ0 (tmpsOf vs 0 ++ (upFrom idBase (pk.map PK.n).sum).zip (cellsA pk x)) := by
    refine ⟨H.inS, fun id => ?_, fun bb hb ho => H.sep bb hb ((hown bb).1 ho), ?_⟩
    · cases hl : (Store.get (tmpsOf vs 0 ++ (upFrom idBase (pk.map PK.n).sum).zip (cellsA pk x)) id).live with
      | false => generalize Store.get (tmpsOf vs 0 ++ (upFrom idBase (pk.map PK.n).sum).zip (cellsA pk x)) id = cc at *; cases cc <;> first | trivial | cases hl
      | true =>
        obtain ⟨j, i, c', rfl, h1, h2, h3, h4⟩ := hlive id hl
        have hb := H.blk i
        rw [h4] at hb
        rw [h3]
        refine hb.ren (hρ0 j i h1) fun cs hcs vs' hvs' => ?_
        subst hcs
        obtain ⟨d, y, rfl⟩ := cellsA_box (List.mem_of_getElem? h2)
        exact lv_any d y hvs'
    · intro id id' g l cc l' cc' hl hl' hr hr'
      obtain ⟨j, i, c', rfl, h1, h2, h3, h4⟩ := hlive id hl
      obtain ⟨j', i', c'', rfl, h1', h2', h3', h4'⟩ := hlive id' hl'
      rw [hρ0 j i h1] at hr
      rw [hρ0 j' i' h1'] at hr'
      have := H.inj i i' g l cc l' cc' (by rw [h4, ← h3]; exact hl) (by rw [h4', ← h3']; exact hl') hr hr'
      subst this
      rw [List.getElem?_eq_some_iff] at h1 h1'
      obtain ⟨p1, p2⟩ := h1
      obtain ⟨q1, q2⟩ := h1'
      have := (List.getElem_inj hnd).1 (p2.trans q2.symm)
      rw [this]
  generalize hσ0 : tmpsOf vs 0 ++ (upFrom idBase (pk.map PK.n).sum).zip (cellsA pk x) = σ0 at *
  have R0 : Rel fn.ntmps (pk.map PK.n).sum S w ρ0 (Own ρ (ids.zip (cellsA pk x))) (fun id => idBase + (pk.map PK.n).sum ≤ id) S w ρ0 σ0
      { tmps := us.toArray ++ Array.replicate (fn.ntmps - us.toArray.size) undef, defers := [] } := by
    refine ⟨H0, fun d => ?_, by simp; omega, rfl, fun id hi => ?_, fun id hi => hi, ?_, fun _ _ _ => rfl, hlo⟩
    · have hgd : ∀ {d : Nat} {u : Value}, us[d]? = some u → (us.toArray ++ Array.replicate (fn.ntmps - us.toArray.size) undef).getD d undef = u := by
        intro d u hu
        have hdl := (List.getElem?_eq_some_iff.1 hu).1
        rw [Array.getD_eq_getD_getElem?, Array.getElem?_append_left (by simpa using hdl)]
        simp [hu]
      have hgn : us.length ≤ d → (us.toArray ++ Array.replicate (fn.ntmps - us.toArray.size) undef).getD d undef = undef := by
        intro hdl
        rw [Array.getD_eq_getD_getElem?, Array.getElem?_append_right (by simpa using hdl)]
        simp only [Array.getElem?_replicate]
        split <;> rfl
      simp only [tmpAV]
      split
      · rename_i hlt
        have hlt : d < idBase := by simpa [Nat.blt_eq] using hlt
        rw [hget d]
        cases hd : vs[d]? with
        | some v =>
          obtain ⟨u, h1, h2⟩ := hv0.get hd
          simp only
          rw [hgd h1]
          exact h2.two
        | none =>
          simp only
          split
          · rename_i v hv
            exfalso
            have hz : Store.get ((upFrom idBase (pk.map PK.n).sum).zip (cellsA pk x)) d = .none := zip_out (fun hm => by have := hub d hm; omega) rfl
            rw [hz] at hv
            cases hv
          · trivial
      · trivial
    · simp only [ρ0]
      rw [if_neg (by omega)]
    · have : Own ρ0 σ0 = Own ρ (ids.zip (cellsA pk x)) := by funext bb; exact propext (hown bb)
      rw [this]
      exact ⟨fun _ h => h, fun _ _ _ => rfl, Nat.le_refl _, fun _ h => .inl h, fun _ h => .inr h, rfl, rfl, rfl⟩
  refine calls_of_wp hf hb (aexec_ok hΓ hΦ hn hm c hΛ R0 hrun fun e S1 w1 ρ1 σ1 t1 a1 R1 h1 => ?_)
  cases e with
  | exit id => cases h1
  | normal =>
    obtain ⟨v, h2, h3⟩ := final_ok (F := F) hΓ hnd hfar hlen hrs hfree hρ0 R1 h1
    exact ⟨R1.df, v, h2, v, rfl, h3⟩
  | ret =>
    obtain ⟨v, h2, h3⟩ := final_ok (F := F) hΓ hnd hfar hlen hrs hfree hρ0 R1 h1
    exact ⟨R1.df, v, h2, v, rfl, h3⟩

end Go.Nu

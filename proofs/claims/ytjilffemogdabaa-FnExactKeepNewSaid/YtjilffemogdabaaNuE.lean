/- Nu, part E: the operations' runs. -/
import Derived.Test.YtjilffemogdabaaNuD
import Derived.Laws.Slices
import Derived.Laws.Strings
import Derived.Laws.Strings2
import Derived.Laws.Concat
import Derived.Laws.BytesString
import Derived.Laws.Small
namespace Go.Nu

/-- What an operation leaves: a value, a world, and what is told of them. -/
def Post (S : Nat → Prop) (w : World) (ρ : Rho) (h : Store) (b : Nat) (r : Res) (v : Value) (w' : World) : Prop :=
  ∃ S' ρ', Ext S w ρ h S' w' ρ' (r.2 ++ h) ∧ HRel S' w' ρ' (r.2 ++ h) ∧ L2 S' w' ρ' r.1 v ∧ ∀ id, ρ' id ≠ ρ id → b ≤ id ∧ id < b + 64

theorem Post.same {S : Nat → Prop} {w : World} {ρ : Rho} {h : Store} {b : Nat} {av : AV} {v : Value} (H : HRel S w ρ h) (hv : L2 S w ρ av v) : Post S w ρ h b (av, []) v w :=
  ⟨S, ρ, Ext.refl _ _ _ _, H, hv, fun _ hne => absurd rfl hne⟩

section
variable {P : Program} {Γ : Tys} (hΓ : Tys.ok P Γ) {t : TypeId} {i : TI} (ht : Γ.get t = some i) (w : World)
include hΓ ht
theorem run_und : (underlying t).run P w = .ok i.desc w := run_underlying (hΓ t i ht).und w
theorem run_sz : (sizeOf t).run P w = .ok i.size w := by
  obtain ⟨j, h1, h2, _⟩ := (hΓ t i ht).info
  simp [sizeOf, typeInfo, h1, h2]
theorem run_zv : (zeroValue t).run P w = .ok i.zero w := by
  obtain ⟨j, h1, _, _, h4⟩ := (hΓ t i ht).info
  simp [zeroValue, typeInfo, h1, h4]
theorem run_agg : (isAgg t).run P w = .ok i.isAgg w := by
  have := run_und hΓ ht w
  simp only [isAgg, Sem.run_bind, this, Result.andThen_ok, TI.isAgg]
  cases i.desc <;> rfl
end

theorem cellsAt_add {w : World} {a : Addr} {cs : List Value} (ha : a.spot = none) (h : cellsAt w a cs) : ∀ j v, cs[j]? = some v → w.cell? (a.add j) = some v := by
  intro j v hj
  rw [add_plus a ha, h j (by
    rcases Nat.lt_or_ge j cs.length with h' | h'
    · exact h'
    · rw [List.getElem?_eq_none h'] at hj; cases hj), hj]

theorem run_loadVar {P : Program} {Γ : Tys} (hΓ : Tys.ok P Γ) {t : TypeId} {i : TI} (ht : Γ.get t = some i) {w : World} {a : Addr} {cs : List Value} (ha : a.spot = none)
    (hc : cellsAt w a cs) (hl : cs.length = i.size) {as : List AV} {S : Nat → Prop} {ρ : Rho} (hv : All2 (L0 S w ρ) as cs) {v : AV} (hs : (shut i.isAgg as).run some = some v) :
    ∃ u, (loadVar t a).run P w = .ok u w ∧ L2 S w ρ v u := by
  have hA := run_agg hΓ ht w
  have hS := run_sz hΓ ht w
  cases hb : i.isAgg with
  | true =>
    rw [hb] at hA hs
    simp only [shut, Tree.run, Option.some.injEq] at hs
    subst hs
    have hload := run_loadCells_list (P := P) w a cs (cellsAt_add ha hc)
    rw [hl] at hload
    refine ⟨.agg cs.toArray, ?_, ?_⟩
    · simp [loadVar, hA, hS, hload]
    · exact ⟨cs.toArray, rfl, by simpa using hv⟩
  | false =>
    rw [hb] at hA hs
    match as, cs, hv, hs, hl with
    | [a0], [c0], hv, hs, hl =>
      simp only [shut, Tree.run, Option.some.injEq] at hs
      subst hs
      have h0 := hc 0 (by simp)
      rw [plus_zero a ha] at h0
      refine ⟨c0, ?_, ?_⟩
      · simp [loadVar, hA, h0]
      · exact L1.two (L0.one hv.1)

theorem oneCell_of_L0 {S : Nat → Prop} {w : World} {ρ : Rho} {a : AV} {v : Value} (h : L0 S w ρ a v) (hu : a ≠ .undef) : v.oneCell' = true := by
  cases a with
  | undef => exact absurd rfl hu
  | rsl d l => obtain ⟨A, c, e, _⟩ := h; cases e; rfl
  | osl id => obtain ⟨o, _, rfl⟩ := h; cases o <;> rfl
  | vsl id sz lo n =>
    obtain ⟨o, _, h, _⟩ := h
    cases o with
    | nil => simp only [Loc.isSub] at h; subst h; rfl
    | «at» g len cap => obtain ⟨b, c, rfl, _⟩ := h; rfl
  | ptr id sz i c => obtain ⟨g, len, cap, _, rfl, _⟩ := h; rfl
  | rptr d x c => obtain ⟨ad, cs, rfl, _⟩ := h; rfl
  | bool b => simp only [L0] at h; subst h; rfl
  | int k n => simp only [L0] at h; subst h; rfl
  | str s => simp only [L0] at h; subst h; rfl
  | nils => simp only [L0] at h; subst h; rfl
  | nilp => simp only [L0] at h; subst h; rfl
  | agg cs => exact h.elim
  | tup cs => exact h.elim
  | clo f cs => exact h.elim

theorem L1.leaves {S : Nat → Prop} {w : World} {ρ : Rho} {a : AV} {v : Value} (h : L1 S w ρ a v) (hu : a ≠ .undef) :
    All2 (L0 S w ρ) (leavesOf a) v.cells.toList := by
  have one : ∀ {a : AV} {v : Value}, L0 S w ρ a v → a ≠ .undef → All2 (L0 S w ρ) [a] v.cells.toList := by
    intro a v h hu
    have hc := oneCell_of_L0 h hu
    have : v.cells = #[v] := by cases v <;> first | rfl | (simp [Value.oneCell'] at hc)
    rw [this]
    exact ⟨h, trivial⟩
  cases a with
  | agg cs => obtain ⟨vs, rfl, h⟩ := h; exact h
  | clo f cs => obtain ⟨vs, rfl, h⟩ := h; exact ⟨trivial, trivial⟩
  | tup vs => exact h.elim
  | undef => exact absurd rfl hu
  | _ => exact one h (by simp)

/-! ### Cells set in a row -/
def setR : List Value → Nat → List Value → List Value
  | vs, _, [] => vs
  | vs, c, u :: us => setR (vs.set c u) (c + 1) us

theorem setR_length : ∀ (us : List Value) (vs : List Value) (c : Nat), (setR vs c us).length = vs.length
  | [], _, _ => rfl
  | u :: us, vs, c => by simp [setR, setR_length us]

theorem setRange_rel {R : AV → Value → Prop} : ∀ {as ls : List AV} {vs us : List Value} (c : Nat), All2 R as vs → All2 R ls us → All2 R (setRange as c ls) (setR vs c us)
  | _, [], _, [], _, h, _ => h
  | _, _ :: _, _, _ :: _, c, h, k => setRange_rel (c + 1) (h.set c k.1) k.2
  | _, [], _, _ :: _, _, _, k => k.elim
  | _, _ :: _, _, [], _, _, k => k.elim

theorem fold_set (us : List Value) : ∀ (vs : Array Value) (off n : Nat), ((us.zipIdx n).foldl (fun cs (x : Value × Nat) => cs.setIfInBounds (off + x.2) x.1) vs).toList = setR vs.toList (off + n) us := by
  induction us with
  | nil => intro vs off n; rfl
  | cons u us ih =>
    intro vs off n
    simp only [List.zipIdx_cons, List.foldl_cons, ih, setR, Array.toList_setIfInBounds]
    rfl

theorem fill_step (vs us : Array Value) (off : Nat) : (us.zipIdx.foldl (fun cs (x : Value × Nat) => cs.setIfInBounds (off + x.2) x.1) vs).toList = setR vs.toList off us.toList := by
  rw [← Array.foldl_toList, Array.toList_zipIdx]
  have := fold_set us.toList vs off 0
  simpa using this

section
variable {S : Nat → Prop} {w : World} {ρ : Rho}
theorem fillA_rel {Γ : Tys} {d : TypeDesc} {pl : Nat → Option (Nat × Nat)} (hpl : ∀ j off i, place Γ d j = some (off, i) → pl j = some (off, i.size)) :
    ∀ {ps : List (Nat × AV)} {qs : List (Nat × Value)} {cs cs' : List AV} {vs : Array Value}, fillA Γ d cs ps = some cs' → All2 (L0 S w ρ) cs vs.toList →
      All2 (fun p q => p.1 = q.1 ∧ L1 S w ρ p.2 q.2) ps qs → ∃ vs', Instr.fill pl vs qs = some vs' ∧ All2 (L0 S w ρ) cs' vs'.toList
  | [], [], cs, cs', vs, h, hv, _ => by simp only [fillA, Option.some.injEq] at h; subst h; exact ⟨vs, rfl, hv⟩
  | [], _ :: _, _, _, _, _, _, k => k.elim
  | _ :: _, [], _, _, _, _, _, k => k.elim
  | (j, v) :: ps, (j', u) :: qs, cs, cs', vs, h, hv, k => by
    obtain ⟨⟨k1, k2⟩, k3⟩ := k
    simp only at k1 k2
    subst k1
    simp only [fillA] at h
    split at h
    · rename_i off i hp
      split at h
      · rename_i h1 h2
        simp only [Bool.and_eq_true] at h1
        have h1l := Nat.eq_of_beq_eq_true h1.1
        have h2 := Nat.le_of_ble_eq_true h2
        have hd : v ≠ .undef := by rintro rfl; cases h1.2
        have hl := k2.leaves hd
        have hlen := hl.length
        rw [h1l] at hlen
        have hvl := hv.length
        have hsz : u.cells.size = i.size := by rw [← Array.length_toList]; exact hlen.symm
        have hvl' : cs.length = vs.size := by rw [hvl, Array.length_toList]
        have hle : ¬ (off + u.cells.size > vs.size) := by
          rw [hsz]; omega
        have hnew := setRange_rel off hv hl
        rw [← fill_step] at hnew
        obtain ⟨vs', h3, h4⟩ := fillA_rel hpl h hnew k3
        refine ⟨vs', ?_, h4⟩
        simp only [Instr.fill, hpl j off i hp]
        rw [if_neg (by simp [hsz]; rw [hsz] at hle; omega)]
        exact h3
      · cases h
    · cases h
end

theorem run_places {P : Program} {Γ : Tys} (hΓ : Tys.ok P Γ) (w : World) : ∀ (fs : List Field), (fs.all fun f => (Γ.get f.type).isSome) = true →
    ∃ ps : List (Nat × Nat), (fs.mapM (m := Sem) fun (f : Field) => do pure (f.offset, ← sizeOf f.type)).run P w = .ok ps w ∧
      ∀ (j off : Nat) (i : TI), (∀ f : Field, fs[j]? = some f → (Γ.get f.type) = some i ∧ f.offset = off) → (∃ f : Field, fs[j]? = some f) → ps[j]? = some (off, i.size)
  | [], _ => ⟨[], by simp, fun j off i _ ⟨f, hf⟩ => by simp at hf⟩
  | f :: fs, h => by
    simp only [List.all_cons, Bool.and_eq_true] at h
    obtain ⟨ps, h1, h2⟩ := run_places hΓ w fs h.2
    obtain ⟨i0, hi0⟩ := Option.isSome_iff_exists.1 h.1
    refine ⟨(f.offset, i0.size) :: ps, ?_, ?_⟩
    · rw [List.mapM_cons]
      simp only [Sem.run_bind, run_sz hΓ hi0, Result.andThen_ok, Sem.run_pure, h1]
    · intro j off i ha he
      cases j with
      | zero =>
        obtain ⟨h3, h4⟩ := ha f rfl
        rw [hi0] at h3
        cases h3
        simp [h4]
      | succ j => simpa using h2 j off i (fun g hg => ha g (by simpa using hg)) (by obtain ⟨g, hg⟩ := he; exact ⟨g, by simpa using hg⟩)

theorem ofZero_rel (S : Nat → Prop) (w : World) (ρ : Rho) (v : Value) : L0 S w ρ (ofZero v) v := by
  unfold ofZero
  split <;> simp [L0]
theorem ofZeros_rel (S : Nat → Prop) (w : World) (ρ : Rho) : ∀ (vs : List Value), All2 (L0 S w ρ) (vs.map ofZero) vs
  | [] => trivial
  | v :: vs => ⟨ofZero_rel S w ρ v, ofZeros_rel S w ρ vs⟩

theorem zeroLeaves_rel (S : Nat → Prop) (w : World) (ρ : Rho) (i : TI) : All2 (L0 S w ρ) (zeroLeaves i) i.zero.cells.toList := ofZeros_rel S w ρ _

/-! ### build -/
theorem build_ok {P : Program} {Γ : Tys} (hΓ : Tys.ok P Γ) {t : TypeId} {i : TI} (ht : Γ.get t = some i) {fs : Array Field} (hd : i.desc = .struct fs)
    (hall : (fs.toList.all fun f => (Γ.get f.type).isSome) = true) {S : Nat → Prop} {w : World} {ρ : Rho} {ps : List (Nat × AV)} {qs : List (Nat × Value)} {cs : List AV}
    (hf : fillA Γ i.desc (zeroLeaves i) ps = some cs) (hp : All2 (fun p q => p.1 = q.1 ∧ L1 S w ρ p.2 q.2) ps qs) :
    ∃ vs : Array Value, (Instr.build t qs.toArray).run P w = .ok (.agg vs) w ∧ All2 (L0 S w ρ) cs vs.toList := by
  obtain ⟨pl, h1, h2⟩ := run_places hΓ w fs.toList hall
  have hpl : ∀ j off k, place Γ i.desc j = some (off, k) → (pl.toArray)[j]? = some (off, k.size) := by
    intro j off k hj
    rw [hd] at hj
    simp only [place] at hj
    split at hj
    · rename_i f hfj
      split at hj
      · rename_i k' hk
        cases hj
        have := h2 j f.offset k (fun g hg => by rw [hfj] at hg; cases hg; exact ⟨by assumption, rfl⟩) ⟨f, hfj⟩
        simpa using this
      · cases hj
    · cases hj
  obtain ⟨vs, h3, h4⟩ := fillA_rel (pl := fun j => pl.toArray[j]?) hpl hf (zeroLeaves_rel S w ρ i) hp
  refine ⟨vs, ?_, h4⟩
  have hmap : (fs.mapM (m := Sem) fun (f : Field) => do pure (f.offset, ← sizeOf f.type)).run P w = .ok pl.toArray w := by
    have : fs = fs.toList.toArray := by simp
    rw [this, List.mapM_toArray]
    simp only [Sem.run_map, h1, Result.andThen_ok]
  simp only [Instr.build, Sem.run_bind, run_zv hΓ ht, run_und hΓ ht, Result.andThen_ok, hd, hmap]
  rw [h3]
  rfl

end Go.Nu

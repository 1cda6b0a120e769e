/- Nu, part C: what the operations on abstract values say of the machine's: memory's laws first. -/
import Derived.Test.YtjilffemogdabaaNuB
import Derived.Laws.MakeOwn
namespace Go.Nu

/-- The blocks that an id's slice or box lies in. -/
def Blk (ρ : Rho) (h : Store) (id b : Nat) : Prop := (∃ d l, h.get id = .arr d l) ∧ ∃ len cap, ρ id = some (.at b len cap)
theorem Blk.live {ρ : Rho} {h : Store} {id b : Nat} (k : Blk ρ h id b) : (h.get id).live = true := by obtain ⟨⟨d, l, e⟩, _⟩ := k; rw [e]; rfl

def Rho.put (ρ : Rho) (id : Nat) (o : Loc) : Rho := fun j => if j = id then some o else ρ j
theorem Rho.put_le {ρ : Rho} {id : Nat} {o : Loc} (h : ρ id = none) : ρ.le (ρ.put id o) := by
  intro j o' e
  unfold Rho.put
  split
  · rename_i hj; rw [hj, h] at e; cases e
  · exact e
theorem Rho.put_same (ρ : Rho) (id : Nat) (o : Loc) : ρ.put id o id = some o := by simp [Rho.put]
theorem Rho.put_ne (ρ : Rho) {id j : Nat} (o : Loc) (h : j ≠ id) : ρ.put id o j = ρ j := by simp [Rho.put, h]

theorem get_cons_same (id : Nat) (c : Cell) (h : Store) : Store.get ((id, c) :: h) id = c := by simp [Store.get]
theorem get_cons_ne {id j : Nat} (c : Cell) (h : Store) (hne : j ≠ id) : Store.get ((id, c) :: h) j = h.get j := by
  have : Nat.beq id j = false := by
    cases hb : Nat.beq id j
    · rfl
    · exact absurd (Nat.eq_of_beq_eq_true hb).symm hne
  simp [Store.get, this]

theorem live_of_own {S : Nat → Prop} {w : World} {ρ : Rho} {h : Store} (H : HRel S w ρ h) {id : Nat} (hl : (h.get id).live = true) : ∃ o, ρ id = some o := by
  have := H.blk id
  cases hc : h.get id with
  | box cs => rw [hc] at this; obtain ⟨g, len, cap, _, _, h1, _⟩ := this; exact ⟨_, h1⟩
  | arr d l => rw [hc] at this; rcases this with ⟨h1, _⟩ | ⟨g, cap, _, _, h1, _⟩ <;> exact ⟨_, h1⟩
  | _ => rw [hc] at hl; cases hl

theorem own_lt {S : Nat → Prop} {w : World} {ρ : Rho} {h : Store} (H : HRel S w ρ h) {b : Nat} (ho : Own ρ h b) : b < w.heap.size := by
  obtain ⟨id, len, cap, hl, hr⟩ := ho
  have hb := H.blk id
  cases hc : h.get id with
  | box cs =>
    rw [hc] at hb; obtain ⟨g, _, _, vs, t, h1, h2, _⟩ := hb
    rw [hr] at h1; cases h1
    exact (Array.getElem?_eq_some_iff.1 h2).1
  | arr d l =>
    rw [hc] at hb
    rcases hb with ⟨h1, _⟩ | ⟨g, _, vs, t, h1, h2, _⟩
    · rw [hr] at h1; cases h1
    · rw [hr] at h1; cases h1
      exact (Array.getElem?_eq_some_iff.1 h2).1
  | _ => rw [hc] at hl; cases hl

/-! ### A new block -/
theorem new_blk {S : Nat → Prop} {w : World} {ρ : Rho} {h : Store} {id : Nat} {c : Cell} {len cap : Nat} {o : Obj} (H : HRel S w ρ h) (hid : ρ id = none)
    (hc : BRel S (w.alloc o) (ρ.put id (.at w.heap.size len cap)) id c) :
    Ext S w ρ h S (w.alloc o) (ρ.put id (.at w.heap.size len cap)) ((id, c) :: h) ∧ HRel S (w.alloc o) (ρ.put id (.at w.heap.size len cap)) ((id, c) :: h) := by
  have hle : ρ.le (ρ.put id (.at w.heap.size len cap)) := Rho.put_le hid
  have hsz : (w.alloc o).heap.size = w.heap.size + 1 := by show (w.heap.push o).size = _; simp
  have hold : ∀ b, b < w.heap.size → (w.alloc o).heap[b]? = w.heap[b]? := fun b hb => by
    show (w.heap.push o)[b]? = _
    rw [Array.getElem?_push, if_neg (by omega)]
  have hnl : ∀ j, (h.get j).live = true → j ≠ id := fun j hl e => by
    obtain ⟨o, ho⟩ := live_of_own H hl
    rw [e, hid] at ho; cases ho
  have hown : ∀ b, Own (ρ.put id (.at w.heap.size len cap)) ((id, c) :: h) b → b = w.heap.size ∨ Own ρ h b := by
    rintro b ⟨j, l1, c1, hl, hr⟩
    by_cases hj : j = id
    · subst hj
      rw [Rho.put_same] at hr
      cases hr
      exact .inl rfl
    · rw [Rho.put_ne _ _ hj] at hr
      rw [get_cons_ne _ _ hj] at hl
      exact .inr ⟨j, l1, c1, hl, hr⟩
  refine ⟨⟨hle, fun _ hb => hb, fun b hb _ => hold b hb, by omega, fun b hb => .inl hb, fun b hb => ?_, rfl, rfl, rfl⟩, ⟨fun b hb => by have := H.inS b hb; omega, fun j => ?_, fun b hb ho => ?_, ?_⟩⟩
  · rcases hown b hb with h1 | h1
    · exact .inl (by omega)
    · exact .inr h1
  · by_cases hj : j = id
    · subst hj; rw [get_cons_same]; exact hc
    · rw [get_cons_ne _ _ hj]
      refine BRel.move (fun _ hb => hb) (fun b hb => hold b (H.inS b hb)) hle (fun g l1 c1 hl hr => hold g ?_) (H.blk j)
      exact own_lt H ⟨j, l1, c1, hl, hr⟩
  · rcases hown b ho with h1 | h1
    · have := H.inS b hb; omega
    · exact H.sep b hb h1
  · intro i j g l1 c1 l2 c2 hi hj ri rj
    by_cases ei : i = id <;> by_cases ej : j = id
    · rw [ei, ej]
    · subst ei
      rw [Rho.put_same] at ri; cases ri
      rw [Rho.put_ne _ _ ej] at rj
      rw [get_cons_ne _ _ ej] at hj
      have := own_lt H ⟨j, l2, c2, hj, rj⟩
      omega
    · subst ej
      rw [Rho.put_same] at rj; cases rj
      rw [Rho.put_ne _ _ ei] at ri
      rw [get_cons_ne _ _ ei] at hi
      have := own_lt H ⟨i, l1, c1, hi, ri⟩
      omega
    · rw [Rho.put_ne _ _ ei] at ri
      rw [Rho.put_ne _ _ ej] at rj
      rw [get_cons_ne _ _ ei] at hi
      rw [get_cons_ne _ _ ej] at hj
      exact H.inj i j g l1 c1 l2 c2 hi hj ri rj

theorem alloc_get (w : World) (o : Obj) : (w.alloc o).heap[w.heap.size]? = some o := by
  show (w.heap.push o)[w.heap.size]? = _
  simp

/-! ### A block of one's own is changed -/
theorem chg_blk {S : Nat → Prop} {w w' : World} {ρ : Rho} {h : Store} {id g len cap : Nat} {c : Cell} (H : HRel S w ρ h) (hl : (h.get id).live = true) (hr : ρ id = some (.at g len cap))
    (hw : ∀ b, b ≠ g → w'.heap[b]? = w.heap[b]?) (hs : w'.heap.size = w.heap.size) (ho : w'.os = w.os) (ht : w'.tape = w.tape) (hp : w'.output = w.output)
    (hc : BRel S w' ρ id c) : Ext S w ρ h S w' ρ ((id, c) :: h) ∧ HRel S w' ρ ((id, c) :: h) := by
  have hown : ∀ b, Own ρ ((id, c) :: h) b → Own ρ h b := by
    rintro b ⟨j, l1, c1, hlj, hrj⟩
    by_cases hj : j = id
    · subst hj
      rw [hr] at hrj
      cases hrj
      exact ⟨j, len, cap, hl, hr⟩
    · rw [get_cons_ne _ _ hj] at hlj
      exact ⟨j, l1, c1, hlj, hrj⟩
  have hg : Own ρ h g := ⟨id, len, cap, hl, hr⟩
  refine ⟨⟨fun _ _ e => e, fun _ hb => hb, fun b _ hn => hw b (fun e => hn (e ▸ hg)), by omega, fun b hb => .inl hb, fun b hb => .inr (hown b hb), ho, ht, hp⟩,
    ⟨fun b hb => by rw [hs]; exact H.inS b hb, fun j => ?_, fun b hb h1 => H.sep b hb (hown b h1), ?_⟩⟩
  · by_cases hj : j = id
    · subst hj; rw [get_cons_same]; exact hc
    · rw [get_cons_ne _ _ hj]
      refine BRel.move (fun _ hb => hb) (fun b hb => hw b (fun e => H.sep b hb (e ▸ hg))) (fun _ _ e => e) (fun g1 l1 c1 hl1 hr1 => hw g1 (fun e => ?_)) (H.blk j)
      subst e
      exact hj (H.inj j id g1 l1 c1 len cap hl1 hl hr1 hr)
  · intro i j g1 l1 c1 l2 c2 hi hj ri rj
    refine H.inj i j g1 l1 c1 l2 c2 ?_ ?_ ri rj
    · by_cases e : i = id
      · rw [e]; exact hl
      · rwa [get_cons_ne _ _ e] at hi
    · by_cases e : j = id
      · rw [e]; exact hl
      · rwa [get_cons_ne _ _ e] at hj

/-! ### An id is given up -/
theorem kill_blk {S : Nat → Prop} {w : World} {ρ : Rho} {h : Store} (H : HRel S w ρ h) (id : Nat) :
    Ext S w ρ h S w ρ ((id, .dead) :: h) ∧ HRel S w ρ ((id, .dead) :: h) := by
  have hlive : ∀ j, (Store.get ((id, .dead) :: h) j).live = true → j ≠ id ∧ (h.get j).live = true := fun j hl => by
    by_cases hj : j = id
    · subst hj; rw [get_cons_same] at hl; cases hl
    · rw [get_cons_ne _ _ hj] at hl; exact ⟨hj, hl⟩
  have hown : ∀ b, Own ρ ((id, .dead) :: h) b → Own ρ h b := by
    rintro b ⟨j, l1, c1, hlj, hrj⟩
    exact ⟨j, l1, c1, (hlive j hlj).2, hrj⟩
  refine ⟨⟨fun _ _ e => e, fun _ hb => hb, fun b _ _ => rfl, Nat.le_refl _, fun b hb => .inl hb, fun b hb => .inr (hown b hb), rfl, rfl, rfl⟩,
    ⟨H.inS, fun j => ?_, fun b hb h1 => H.sep b hb (hown b h1), fun i j g1 l1 c1 l2 c2 hi hj ri rj => H.inj i j g1 l1 c1 l2 c2 (hlive i hi).2 (hlive j hj).2 ri rj⟩⟩
  by_cases hj : j = id
  · subst hj; rw [get_cons_same]; trivial
  · rw [get_cons_ne _ _ hj]; exact H.blk j

/-- Given up, and only read from then on. -/
theorem freeze_blk {S : Nat → Prop} {w : World} {ρ : Rho} {h : Store} (H : HRel S w ρ h) (id : Nat) :
    Ext S w ρ h (fun b => S b ∨ Blk ρ h id b) w ρ ((id, .dead) :: h) ∧ HRel (fun b => S b ∨ Blk ρ h id b) w ρ ((id, .dead) :: h) := by
  obtain ⟨E, K⟩ := kill_blk H id
  have hbo : ∀ b, Blk ρ h id b → Own ρ h b := fun b hk => by obtain ⟨_, len, cap, hr⟩ := (show _ from hk); exact ⟨_, len, cap, hk.live, hr⟩
  refine ⟨⟨E.rho, fun b hb => .inl hb, E.keep, E.grow, fun b hb => hb.imp (fun x => x) (fun h1 => .inr (hbo b h1)), E.onew, rfl, rfl, rfl⟩,
    ⟨fun b hb => hb.elim (H.inS b) (fun h1 => own_lt H (hbo b h1)), fun j => BRel.move (fun _ hb => .inl hb) (fun _ _ => rfl) (fun _ _ e => e) (fun _ _ _ _ _ => rfl) (K.blk j), fun b hb h1 => ?_, K.inj⟩⟩
  rcases hb with hb | hk
  · exact K.sep b hb h1
  · have hl := hk.live
    obtain ⟨_, len, cap, hr⟩ := hk
    obtain ⟨j, l1, c1, hlj, hrj⟩ := h1
    by_cases hj : j = id
    · subst hj; rw [get_cons_same] at hlj; cases hlj
    · rw [get_cons_ne _ _ hj] at hlj
      exact hj (H.inj j id b l1 c1 len cap hlj hl hrj hr)

/-! ### An id is given up; another one takes its block, changed -/
theorem take_blk {S : Nat → Prop} {w w' : World} {ρ : Rho} {h : Store} {id b g len cap len' : Nat} {c : Cell} (H : HRel S w ρ h) (hl : (h.get id).live = true) (hr : ρ id = some (.at g len cap)) (hb : ρ b = none)
    (hw : ∀ b, b ≠ g → w'.heap[b]? = w.heap[b]?) (hs : w'.heap.size = w.heap.size) (ho : w'.os = w.os) (ht : w'.tape = w.tape) (hp : w'.output = w.output)
    (hc : BRel S w' (ρ.put b (.at g len' cap)) b c) :
    Ext S w ρ h S w' (ρ.put b (.at g len' cap)) ((b, c) :: (id, .dead) :: h) ∧ HRel S w' (ρ.put b (.at g len' cap)) ((b, c) :: (id, .dead) :: h) := by
  have hg : Own ρ h g := ⟨id, len, cap, hl, hr⟩
  have hbi : b ≠ id := fun e => by rw [e, hr] at hb; cases hb
  have hget : ∀ j, (Store.get ((b, c) :: (id, .dead) :: h) j).live = true → j = b ∨ (j ≠ b ∧ j ≠ id ∧ (h.get j).live = true) := fun j hlj => by
    by_cases hj : j = b
    · exact .inl hj
    · rw [get_cons_ne _ _ hj] at hlj
      by_cases hi : j = id
      · subst hi; rw [get_cons_same] at hlj; cases hlj
      · rw [get_cons_ne _ _ hi] at hlj; exact .inr ⟨hj, hi, hlj⟩
  have hown : ∀ x, Own (ρ.put b (.at g len' cap)) ((b, c) :: (id, .dead) :: h) x → Own ρ h x := by
    rintro x ⟨j, l1, c1, hlj, hrj⟩
    rcases hget j hlj with rfl | ⟨h1, h2, h3⟩
    · rw [Rho.put_same] at hrj; cases hrj; exact hg
    · rw [Rho.put_ne _ _ h1] at hrj; exact ⟨j, l1, c1, h3, hrj⟩
  refine ⟨⟨Rho.put_le hb, fun _ hx => hx, fun x _ hn => hw x (fun e => hn (e ▸ hg)), by omega, fun x hx => .inl hx, fun x hx => .inr (hown x hx), ho, ht, hp⟩,
    ⟨fun x hx => by rw [hs]; exact H.inS x hx, fun j => ?_, fun x hx h1 => H.sep x hx (hown x h1), ?_⟩⟩
  · by_cases hj : j = b
    · subst hj; rw [get_cons_same]; exact hc
    · rw [get_cons_ne _ _ hj]
      by_cases hi : j = id
      · subst hi; rw [get_cons_same]; trivial
      · rw [get_cons_ne _ _ hi]
        refine BRel.move (fun _ hx => hx) (fun x hx => hw x (fun e => H.sep x hx (e ▸ hg))) (Rho.put_le hb) (fun g1 l1 c1 hl1 hr1 => hw g1 (fun e => ?_)) (H.blk j)
        subst e
        exact hi (H.inj j id g1 l1 c1 len cap hl1 hl hr1 hr)
  · intro i j g1 l1 c1 l2 c2 hi hj ri rj
    rcases hget i hi with e | ⟨a1, a2, a3⟩ <;> rcases hget j hj with e' | ⟨b1, b2, b3⟩
    · rw [e, e']
    · subst e
      rw [Rho.put_same] at ri; cases ri
      rw [Rho.put_ne _ _ b1] at rj
      exact absurd (H.inj j id _ l2 c2 len cap b3 hl rj hr) b2
    · subst e'
      rw [Rho.put_same] at rj; cases rj
      rw [Rho.put_ne _ _ a1] at ri
      exact absurd (H.inj i id _ l1 c1 len cap a3 hl ri hr) a2
    · rw [Rho.put_ne _ _ a1] at ri
      rw [Rho.put_ne _ _ b1] at rj
      exact H.inj i j g1 l1 c1 l2 c2 a3 b3 ri rj

/-- A draw turns nothing. -/
theorem Ext.drew {S S' : Nat → Prop} {w w' : World} {ρ ρ' : Rho} {σ σ' : Store} (h : Ext S w.drew ρ σ S' w' ρ' σ') : Ext S w ρ σ S' w' ρ' σ' :=
  ⟨h.rho, h.sub, h.keep, h.grow, h.snew, h.onew, h.os, h.tape, h.output⟩
theorem HRel.drew {S : Nat → Prop} {w : World} {ρ : Rho} {σ : Store} (h : HRel S w ρ σ) : HRel S w.drew ρ σ :=
  ⟨h.inS, fun id => BRel.move (w := w) (w' := w.drew) (fun _ hb => hb) (fun _ _ => rfl) (fun _ _ e => e) (fun _ _ _ _ _ => rfl) (h.blk id), h.sep, h.inj⟩

end Go.Nu

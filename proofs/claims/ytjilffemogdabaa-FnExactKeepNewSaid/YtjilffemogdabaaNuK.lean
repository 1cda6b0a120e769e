/- Nu, part K: make, append, conversions of bytes. -/
import Derived.Test.YtjilffemogdabaaNuJ
namespace Go.Nu
set_option linter.unusedSimpArgs false
set_option linter.unnecessarySimpa false
set_option linter.unusedVariables false
set_option linter.unusedSectionVars false

/-- A new block that is only read. -/
theorem new_read {S : Nat → Prop} {w w' : World} {ρ : Rho} {h : Store} (H : HRel S w ρ h) (hw : ∀ b, b < w.heap.size → w'.heap[b]? = w.heap[b]?) (hs : w'.heap.size = w.heap.size + 1)
    (ho : w'.os = w.os) (ht : w'.tape = w.tape) (hp : w'.output = w.output) :
    Ext S w ρ h (fun b => S b ∨ b = w.heap.size) w' ρ h ∧ HRel (fun b => S b ∨ b = w.heap.size) w' ρ h := by
  refine ⟨⟨fun _ _ e => e, fun _ hb => .inl hb, fun b hb _ => hw b hb, by omega, fun b hb => hb.elim .inl (fun e => .inr (.inl (by omega))), fun b hb => .inr hb, ho, ht, hp⟩,
    ⟨fun b hb => ?_, fun id => ?_, fun b hb h1 => ?_, H.inj⟩⟩
  · rcases hb with hb | rfl
    · have := H.inS b hb; omega
    · omega
  · exact BRel.move (fun _ hb => .inl hb) (fun b hb => hw b (H.inS b hb)) (fun _ _ e => e) (fun g l c hl hr => hw g (own_lt H ⟨id, l, c, hl, hr⟩)) (H.blk id)
  · rcases hb with hb | rfl
    · exact H.sep b hb h1
    · have := own_lt H h1; omega

theorem zc_length : ∀ d : Kd, d.zc.length = d.sz
  | .int _ => rfl
  | .bool => rfl
  | .str => rfl
  | .sl _ => rfl
  | .pr a b => by simp [Kd.zc, Kd.sz, zc_length a, zc_length b]

theorem zero_rep (S : Nat → Prop) (w : World) : ∀ d : Kd, Rep S w d d.zero d.zc
  | .int _ => rfl
  | .bool => rfl
  | .str => rfl
  | .sl _ => ⟨none, 0, rfl, Nat.le_refl _, .inl rfl⟩
  | .pr a b => ⟨a.zc, b.zc, rfl, zero_rep S w a, zero_rep S w b⟩

theorem part_made (z : Array Value) (m k : Nat) (hk : k < m) : part (madeCells z (m * z.size)).toList (k * z.size) z.size = z.toList := by
  apply List.ext_getElem?
  intro j
  simp only [part, madeCells, List.getElem?_take, List.getElem?_drop, Array.toList_map, Array.toList_range, List.getElem?_map]
  by_cases hj : j < z.size
  · have hb : (k + 1) * z.size ≤ m * z.size := Nat.mul_le_mul_right _ hk
    rw [Nat.add_mul, Nat.one_mul] at hb
    rw [if_pos hj, List.getElem?_range (by omega)]
    simp only [Option.map_some]
    have : (k * z.size + j) % z.size = j := by rw [Nat.mul_comm, Nat.mul_add_mod, Nat.mod_eq_of_lt hj]
    rw [this]
    simp [hj]
  · rw [if_neg hj]
    simp
    omega

section
variable {P : Program} {Γ : Tys} (hΓ : Tys.ok P Γ) {S : Nat → Prop} {w : World} {ρ : Rho} {h : Store} {b : Nat}
include hΓ

theorem make_ok {t e : TypeId} {j i : TI} {d : Kd} (ht : Γ.get t = some j) (hj : j.desc = .slice e) (he : Γ.get e = some i) (hd : i.kd = some d) (hby : 1 ≤ i.bytes) (H : HRel S w ρ h) (hb : ρ b = none) {n c : Int}
    (h0 : 0 ≤ n) (h1 : n ≤ c) (h2 : c * i.bytes ≤ room) :
    ∃ v w', (Instr.makeSlice t (.int .i64 n) (.int .i64 c)).run P w = .ok v w' ∧ Post S w ρ h b (.osl b, [(b, .arr d (List.replicate n.toNat d.zero))]) v w' := by
  obtain ⟨hsz, hzc⟩ := (hΓ e i he).kd d hd
  obtain ⟨ii, k1, k2, k3, k4⟩ := (hΓ e i he).info
  have hu := (hΓ t j ht).und
  rw [hj] at hu
  have hroom : room = 140737488355328 := rfl
  have hc63 : c ≤ 9223372036854775807 := by
    have : c * 1 ≤ c * i.bytes := Int.mul_le_mul_of_nonneg_left (by omega) (by omega)
    omega
  have hrun := run_make (P := P) w t e ii i.zero hu k1 k4 .i64 .i64 n c h0 h1 (by rw [k3, Int.mul_comm]; omega) hc63
  rw [k2] at hrun
  have hzl : i.zero.cells.size = i.size := by rw [← Array.length_toList, ← hzc, zc_length, hsz]
  have hbr : BRel S (w.alloc (.cells (madeCells i.zero.cells (c.toNat * i.size)) e)) (ρ.put b (.at w.heap.size n.toNat c.toNat)) b (.arr d (List.replicate n.toNat d.zero)) := by
    refine .inr ⟨w.heap.size, c.toNat, _, e, by rw [List.length_replicate]; exact Rho.put_same _ _ _, alloc_get _ _, by rw [List.length_replicate]; omega, by rw [size_madeCells, hsz], fun k hk => ?_⟩
    rw [List.length_replicate] at hk
    have e1 : (List.replicate n.toNat d.zero)[k]'(by rw [List.length_replicate]; exact hk) = d.zero := by simp
    rw [e1]
    have e2 := part_made i.zero.cells c.toNat k (by omega)
    rw [hzl] at e2
    show Rep _ _ d d.zero (part _ (k * d.sz) d.sz)
    rw [hsz, e2, ← hzc]
    exact zero_rep _ _ d
  obtain ⟨E, K⟩ := new_blk H hb hbr
  refine ⟨_, _, hrun, S, _, E, K, ⟨_, Rho.put_same _ _ _, rfl⟩, fun id hne => ?_⟩
  by_cases hid : id = b
  · subst hid; omega
  · rw [Rho.put_ne _ _ hid] at hne; exact absurd rfl hne

/-! ### append -/
omit hΓ in
theorem run_app_room {t u ty e : TypeId} {ii : TypeInfo} {du : TypeDesc} (ht : P.underlying t = some (.slice e)) (hu : P.underlying u = some du) (hdu : du = .string ∨ ∃ e', du = .slice e') (hi : P.info? e = some ii)
    {g sLen sCap n : Nat} {x : Value} {news : List Value} {w' : World} (hx : ∀ w, (Builtin.lenOf x).run P w = .ok n w) (hf : (Builtin.firstCells ii.size n x).run P w = .ok news.toArray w) (hroom : sLen + n ≤ sCap)
    (hst : (storeCells ⟨g, sLen * ii.size, none⟩ news).run P w = .ok () w') :
    (Builtin.append_ #[t, u] ty #[.slice (some ⟨g, 0, none⟩) sLen sCap, x]).run P w = .ok (.slice (some ⟨g, 0, none⟩) (sLen + n) sCap) w' := by
  have hadd : (⟨g, 0, none⟩ : Addr).add (sLen * ii.size) = ⟨g, sLen * ii.size, none⟩ := by rw [add_plus _ rfl]; simp [plus]
  rcases hdu with rfl | ⟨e', rfl⟩ <;> simp [Builtin.append_, run_underlying ht, run_underlying hu, sizeOf, typeInfo, hi, hx, hroom, hf, hadd, hst]

omit hΓ in
theorem run_app_none {t u ty e : TypeId} {ii : TypeInfo} {du : TypeDesc} (ht : P.underlying t = some (.slice e)) (hu : P.underlying u = some du) (hdu : du = .string ∨ ∃ e', du = .slice e') (hi : P.info? e = some ii)
    {x : Value} (hx : ∀ w, (Builtin.lenOf x).run P w = .ok 0 w) (hf : (Builtin.firstCells ii.size 0 x).run P w = .ok #[] w) :
    (Builtin.append_ #[t, u] ty #[.slice none 0 0, x]).run P w = .ok (.slice none 0 0) w := by
  rcases hdu with rfl | ⟨e', rfl⟩ <;> simp [Builtin.append_, run_underlying ht, run_underlying hu, sizeOf, typeInfo, hi, hx, hf]

omit hΓ in
theorem run_app_grow {t u ty e : TypeId} {ii : TypeInfo} {z : Value} {du : TypeDesc} (ht : P.underlying t = some (.slice e)) (hu : P.underlying u = some du) (hdu : du = .string ∨ ∃ e', du = .slice e') (hi : P.info? e = some ii) (hz : ii.zero = some z)
    {base : Option Addr} {sLen sCap n : Nat} {x : Value} {olds news : List Value} (hx : ∀ w, (Builtin.lenOf x).run P w = .ok n w) (hf : (Builtin.firstCells ii.size n x).run P w.drew = .ok news.toArray w.drew)
    (ho : (Builtin.firstCells ii.size sLen (.slice base sLen sCap)).run P w.drew = .ok olds.toArray w.drew) (hg : sCap < sLen + n) (h63 : ((sLen + n : Nat) : Int) ≤ 9223372036854775807) (hfit : Builtin.nextslicecap (sLen + n) sCap * ii.bytes ≤ 281474976710656) :
    (Builtin.append_ #[t, u] ty #[.slice base sLen sCap, x]).run P w = .ok (.slice (some ⟨w.heap.size, 0, none⟩) (sLen + n) (grownCap w (sLen + n) sCap e))
        (w.drew.alloc (.cells (olds.toArray ++ news.toArray ++ Builtin.zeroCells z.cells (grownCap w (sLen + n) sCap e - (sLen + n))) e)) := by
  have hn : ¬ (sLen + n ≤ sCap) := by omega
  have h63' : ¬ (9223372036854775807 < ((sLen : Int) + (n : Int))) := by omega
  have h48' : ¬ (281474976710656 < Builtin.nextslicecap (sLen + n) sCap * ii.bytes) := by omega
  rcases hdu with rfl | ⟨e', rfl⟩ <;>
    (simp [Builtin.append_, run_underlying ht, run_underlying hu, sizeOf, typeInfo, zeroValue, hi, hz, hx, hn, h63', h48', Question.forced, hf, ho, newRow, grownCap]
     congr 2
     apply Array.ext'
     simp [List.append_assoc])

end
end Go.Nu

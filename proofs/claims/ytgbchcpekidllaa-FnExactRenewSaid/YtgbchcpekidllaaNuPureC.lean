/- What 'Renew' answers, in plain Lean. -/
import Derived.Test.YtgbchcpekidllaaNuPureB
namespace Go.Nu
open Go.IntWalk
set_option linter.unusedVariables false
set_option linter.unusedSimpArgs false

noncomputable def mt (k : Int) : ByteArray := ((F81 (k, ())).map fun x => x.1).getD ByteArray.empty
theorem mt_eq (k : Int) (h0 : 0 ≤ k) (h1 : k ≤ 2251799813685248) : F81 (k, ()) = some (mt k, (), ()) := by
  obtain ⟨r, h⟩ := mt_some k h0 h1 (ByteArray.mk #[]) (ByteArray.mk #[(109 : UInt8)]) (ByteArray.mk #[(109 : UInt8), (48 : UInt8)]) rfl rfl
  have h' : F81 (k, ()) = some (r, (), ()) := h
  unfold mt
  rw [h']
  rfl
noncomputable def mkB (k : Int) : Lea := ((decide (Int.tmod k 3 = 0), k + 1, k + 2), mt (k + 3), k + 4, k + 5)

theorem markLea (l : List Lea) (k : Int) (hl : l.length ≤ 1048576) (hk : 0 < k) (hk' : k ≤ 1099511627776) : F55 (l, k, ()) = some (k + 6 * (l.length : Nat), mkL 6 mkB k l.length, (), ()) := by
  have h := mark_rounds (d := dL) (B := L55_2B) 6 mkB (by decide) (fun rec k i l h1 h2 h3 h4 h5 => by
    have w0 : IntKind.i64.wrap (i + 1) = i + 1 := i64_in _ (by omega)
    have w1 : IntKind.i64.wrap (k + 1) = k + 1 := i64_in _ (by omega)
    have w2 : IntKind.i64.wrap (k + 1 + 1) = k + 2 := by rw [i64_in _ (by omega)]; omega
    have w3 : IntKind.i64.wrap (k + 2 + 1) = k + 3 := by rw [i64_in _ (by omega)]; omega
    have w4 : IntKind.i64.wrap (k + 3 + 1) = k + 4 := by rw [i64_in _ (by omega)]; omega
    have w5 : IntKind.i64.wrap (k + 4 + 1) = k + 5 := by rw [i64_in _ (by omega)]; omega
    have w6 : IntKind.i64.wrap (k + 5 + 1) = k + 6 := by rw [i64_in _ (by omega)]; omega
    have hi : i.toNat < l.length := by omega
    simp only [L55_2B, h3, h4, w0, w1, w2, w3, w4, w5, w6, decide_true, cond_true, List.length_set, List.set_set, rd_set (d := dL) hi, mt_eq (k + 3) (by omega) (by omega), obind_some]
    rfl) (fun rec k l => by simp [L55_2B]) l k hl hk hk'
  simp only [F55, L55_2, h, obind_some]
theorem heldLea (n : Nat) (k : Int) (hl : n ≤ 1048576) (hk : 0 < k) (hk' : k ≤ 1099511627776) : F56 (mkL 6 mkB k n, k, ()) = some (k + 6 * (n : Nat), (), (), ()) := by
  have h := held_rounds (d := dL) (B := L56_2B) 6 mkB (by decide) (fun rec k i l h1 h2 h3 h4 h5 h6 => by
    have w0 : IntKind.i64.wrap (i + 1) = i + 1 := i64_in _ (by omega)
    have w1 : IntKind.i64.wrap (k + 1) = k + 1 := i64_in _ (by omega)
    have w2 : IntKind.i64.wrap (k + 1 + 1) = k + 2 := by rw [i64_in _ (by omega)]; omega
    have w3 : IntKind.i64.wrap (k + 2 + 1) = k + 3 := by rw [i64_in _ (by omega)]; omega
    have w4 : IntKind.i64.wrap (k + 3 + 1) = k + 4 := by rw [i64_in _ (by omega)]; omega
    have w5 : IntKind.i64.wrap (k + 4 + 1) = k + 5 := by rw [i64_in _ (by omega)]; omega
    have w6 : IntKind.i64.wrap (k + 5 + 1) = k + 6 := by rw [i64_in _ (by omega)]; omega
    simp only [L56_2B, h3, h4, h6, mkB, w0, w1, w2, w3, w4, w5, w6, decide_true, cond_true, cond_false, Bool.not_true, beq_self_eq_true, mt_eq (k + 3) (by omega) (by omega), obind_some, strEq]) (fun rec k l => by simp [L56_2B]) n k hl hk hk'
  simp only [F56, L56_2, h, obind_some]
theorem markBook (l : List Lea) (t n k : Int) (hl : l.length ≤ 1048576) (hk : 0 < k) (hk' : k ≤ 1099511627776) : ∃ z z', F21 ((l, t, n), k, ()) = some (k + 6 * (l.length : Nat), (mkL 6 mkB k l.length, z, z'), (), ()) := by
  simp only [F21, markLea l k hl hk hk', obind_some]
  exact ⟨_, _, rfl⟩
theorem heldBook (m : Nat) (t n k : Int) (hl : m ≤ 1048576) (hk : 0 < k) (hk' : k ≤ 1099511627776) : F22 ((mkL 6 mkB k m, t, n), k, ()) = some (k + 6 * (m : Nat), (), (), ()) := by
  have : ¬ k + 6 * (m : Nat) < 0 := by omega
  simp only [F22, heldLea m k hl hk hk', obind_some, this, decide_false, cond_false]

theorem cloneLea (a : List Lea) (h : a.length ≤ 4194304) : F80 (a, ()) = some (a, (), ()) := clone_gen a 56 (rooms h (by decide))
theorem copyI (a : List Lea) (t n : Int) (h : a.length ≤ 4194304) : F53 ((a, t, n), ()) = some ((a, t, n), (), ()) := by
  simp only [F53, cloneLea a h, obind_some]
theorem copyS (a : List Lea) (t n : Int) (h : a.length ≤ 4194304) : F52 ((a, t, n), ()) = some ((a, t, n), (), ()) := by
  have h2 : (0 + a.length) * 56 ≤ room := by simpa using rooms (k := 56) h (by decide)
  simp only [F52, List.length_nil, h2, decide_true, cond_true]

theorem renew_both (l : List Lea) (tok now : Int) (a : Adr) (t s : Int) (hl : l.length ≤ 1048576) (ho : ∀ x ∈ l, x.2.1.size ≤ 1048576) (hA : ∀ x ∈ l, AOk x.1) (haA : AOk a) :
    ∃ (r : List Lea) (p q c : Int), r.length ≤ 1048576 ∧ F20 ((l, tok, now), a, t, s, ()) = some (((r, p, q), c), (), (), (), (), ()) ∧ F19 ((l, tok, now), a, t, s, ()) = some (((r, p, q), c), (), (), (), (), ()) := by
  simp only [F20, F19, F54, copyI l tok now (by omega), copyS l tok now (by omega), bookOkI l tok now hl ho, bookOkS l tok now hl ho hA, addrI _ _ _, addrS _ _ _, fromI s _ _, fromS s _ _, obind_some]
  cases hb : bookOk l tok now with
  | false => exact ⟨_, _, _, _, hl, rfl, rfl⟩
  | true =>
    cases hb2 : addrB (a.1, a.2.1, a.2.2) with
    | false => exact ⟨_, _, _, _, hl, rfl, rfl⟩
    | true =>
      have hb3 : addrB a = true := hb2
      by_cases h1 : 1 ≤ s ∧ s ≤ 1000
      · by_cases h2 : IntKind.i64.wrap (now + s) ≤ 1000000000
        · have h2' : ¬ IntKind.i64.wrap (now + s) > 1000000000 := by omega
          obtain ⟨k, c, e1, e2, hk⟩ := held_both l tok now a t hl hb hb3 hA haA
          simp only [h1, h2, h2', e1, e2, obind_some, decide_true, decide_false, cond_true, cond_false, Bool.not_true, and_self]
          by_cases hc : c = 0
          · obtain ⟨k0, k1⟩ := hk hc
            simp only [hc, k0, k1, decide_true, cond_true]
            by_cases hu : (rd dL l k.toNat).2.2.2 < IntKind.i64.wrap (now + s)
            · have hu' : IntKind.i64.wrap (now + s) > (rd dL l k.toNat).2.2.2 := hu
              simp only [hu, hu', decide_true, cond_true, if_true]
              exact ⟨_, _, _, _, by rw [List.length_set]; exact hl, rfl, rfl⟩
            · have hu' : ¬ IntKind.i64.wrap (now + s) > (rd dL l k.toNat).2.2.2 := hu
              simp only [hu, hu', decide_false, cond_false, if_false, obind_some]
              have hset : l.set k.toNat ((rd dL l k.toNat).1, (rd dL l k.toNat).2.1, (rd dL l k.toNat).2.2.1, (rd dL l k.toNat).2.2.2) = l := by
                have hk' : k.toNat < l.length := by omega
                show l.set k.toNat (rd dL l k.toNat) = l
                rw [rd_lt (d := dL) hk']
                exact List.set_getElem_self hk'
              exact ⟨l, _, _, _, hl, by rw [hset], rfl⟩
          · simp only [hc, decide_false, cond_false]
            exact ⟨_, _, _, _, hl, rfl, rfl⟩
        · have h2' : IntKind.i64.wrap (now + s) > 1000000000 := by omega
          simp only [h1, h2, h2', obind_some, decide_true, decide_false, cond_true, cond_false, Bool.not_true, Bool.not_false]
          first | exact ⟨_, _, _, _, hl, rfl, rfl⟩ | exact ⟨_, _, _, _, hl, rfl⟩
      · simp only [h1, obind_some, decide_false, cond_true, cond_false, Bool.not_true, Bool.not_false]
        exact ⟨_, _, _, _, hl, rfl, rfl⟩

theorem FnExactRenew_pure : ∀ x, OkA [.pr (.sl dL) (.pr (.int .i64) (.int .i64)), dA, .int .i64, .int .i64] x → ∃ u, F5 x = some (true, u) := by
  rintro ⟨⟨a, t, n⟩, b, q, s, _⟩ ⟨⟨⟨h1, h2⟩, h3⟩, hb, _⟩
  obtain ⟨o1, o2⟩ := lea_ok h2
  have hbA : AOk b := ⟨int64_ok hb.2.1, int64_ok hb.2.2⟩
  simp only [F5]
  rcases szBook a t n h1 o1 with ⟨k, e, hk⟩ | ⟨k, e, hk, ha, hs⟩
  · simp [e, hk]
  · obtain ⟨r, p, w, c, hrl, e1, e2⟩ := renew_both a t n b q s ha hs o2 hbA
    have e3 : F17 ((b.1, b.2.1, b.2.2), ()) = some (b, (), ()) := rfl
    obtain ⟨z, z', hz⟩ := markBook a t n 1 ha (by decide) (by decide)
    obtain ⟨z2, z2', hz2⟩ := markBook r p w 1 hrl (by decide) (by decide)
    have hp : ¬ (1 : Int) + 6 * (a.length : Nat) < 0 := by omega
    have hp2 : ¬ (1 : Int) + 6 * (r.length : Nat) < 0 := by omega
    simp only [e, obind_some, hk, decide_false, cond_false, toBook a t n ha, e3, e1, e2, eqBook _ _ _ _ _ _ ha, eqBook _ _ _ _ _ _ hrl, hz, hz2, heldBook r.length _ _ 1 hrl (by decide) (by decide), hp, hp2, decide_true, Bool.not_true]
    first | exact ⟨((), (), (), (), ()), rfl⟩ | exact ⟨((), (), (), (), ()), by simp⟩

end Go.Nu

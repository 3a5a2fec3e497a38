import Derived.Test.YtpkkkeckefnmeaaL12b
namespace Go.Proofs.Ytpkkkeckefnmeaa
open Go Go.Vc
set_option linter.unusedSimpArgs false
set_option linter.unusedVariables false
set_option maxRecDepth 100000
set_option maxHeartbeats 4000000

/-- The queues while the exits before the new one, y, are still to be removed. -/
def AhInv (c : Nat) (y l0 l1 : List Int) : Prop := if c = 0 then l0 = y ++ [-77] else ∃ z, l1 = z ++ [-77] ∧ l0 ++ z = y
theorem ahInv_step {c : Nat} {w : Int} {y l0 l1 : List Int} (h : AhInv c (w :: y) l0 l1) : (l0 ++ l1).headD 0 = w ∧ 0 < (l0 ++ l1).length ∧ AhInv c y l0.tail (if l0 = [] then l1.tail else l1) := by
  unfold AhInv at *
  by_cases hc : c = 0
  · rw [if_pos hc] at h ⊢
    subst h; simp
  · rw [if_neg hc] at h ⊢
    obtain ⟨z, rfl, hz⟩ := h
    cases l0 with
    | nil =>
      simp at hz; subst hz
      simp
    | cons a r =>
      simp at hz
      obtain ⟨rfl, rfl⟩ := hz
      simp
theorem ahInv_last {c : Nat} (hc : c ≤ 1) {l0 l1 : List Int} (h : AhInv c [] l0 l1) : (l0 ++ l1).headD 0 = -77 ∧ 0 < (l0 ++ l1).length ∧ headC l0 l1 = c := by
  unfold AhInv at h
  split at h
  · rename_i e; subst h e; simp [headC]
  · obtain ⟨z, rfl, hz⟩ := h
    simp at hz
    obtain ⟨rfl, rfl⟩ := hz
    obtain rfl : c = 1 := by omega
    simp [headC]
theorem ahInv_start {c m : Nat} (hc : c ≤ 1) {l0 l1 : List Int} (hp : pushE m c l0 l1 = 0) : AhInv c (aheadL c l0 l1) (push0 m c l0 (-77)) (push1 m c l1 (-77)) := by
  rcases (show c = 0 ∨ c = 1 by omega) with rfl | rfl
  · simp [pushE] at hp
    have : [(-77 : Int)].take (m - l0.length) = [-77] := List.take_of_length_le (by simp; omega)
    simp [AhInv, aheadL, push0, this]
  · simp [pushE] at hp
    have : [(-77 : Int)].take (m - l1.length) = [-77] := List.take_of_length_le (by simp; omega)
    simp [AhInv, aheadL, push0, push1, this]
theorem pushE_free {c m : Nat} (hc : c ≤ 1) {l0 l1 : List Int} (h0 : l0.length ≤ m) (h1 : l1.length ≤ m) (hp : pushE m c l0 l1 ≠ 0) : push0 m c l0 (-77) = l0 ∧ push1 m c l1 (-77) = l1 ∧ freeL m c l0 l1 = 0 := by
  rcases (show c = 0 ∨ c = 1 by omega) with rfl | rfl
  · simp [pushE] at hp
    have : m - l0.length = 0 := by omega
    simp [push0, push1, freeL, this]
  · simp [pushE] at hp
    have : m - l1.length = 0 := by omega
    simp [push0, push1, freeL, this]

theorem law_Ahead {n : Nat} (hn : n ≤ 255) {ops : List OpT} {o : Option (Nat × Nat)} (ho : RaOK ops.length o) {b : Nat} (hb : b ≤ 255) : Ctr Try.prog F_egresslaw12_LanesAhead [.v (.int .u8 n), raV 0 ops.length o, .v (.int .u8 b)] [raB (ops.flatMap opC) o] (fun s _ => s = bv true) := by
  refine in_egresslaw12_LanesAhead (by simp) ?_
  obtain ⟨m, hm⟩ : ∃ m, m = n + 1 := ⟨_, rfl⟩
  have e1 : (n : Int) + 1 = (m : Int) := by omega
  have hlen := raV_len (P := Try.prog) 0 ops.length slc_22 ho
  obtain ⟨c, tb, hc⟩ := tmod_nat b 2 (by decide)
  have wn : IntKind.i64.wrap (n : Int) = n := w64 (by omega)
  have wb : IntKind.i64.wrap (b : Int) = b := w64 (by omega)
  have wm : IntKind.i64.wrap (m : Int) = m := w64 (by omega)
  simp [mc_egresslaw12_LanesAhead, hlen, wn, e1, wm]
  refine Ctr.useEq (lanes_New (size := m) (by omega)) [] (by simp) ?_
  simp [laneSh, hlen]
  refine ⟨fun h => ?_, fun h => ?_⟩
  · refine Ctr.useEq law_alive [] (by simp) ?_
    simp
  refine ⟨{ p : Nat × List Int × List Int // p.1 ≤ ops.length ∧ p.2.1.length ≤ m ∧ p.2.2.length ≤ m }, fun p => ([(30, raV 0 ops.length o), (31, iv ops.length), (32, iv (p.1.1 : Nat)), (7, .ptr 1 0), (2, .v (.int .u8 b))], [raB (ops.flatMap opC) o] ++ lanesAt 1 m p.1.2.1 p.1.2.2), fun p => ops.length - p.1.1, ⟨⟨(0, [], []), by simp⟩, Le.by [0, 1, 2, 3] (by simp [lanesAt])⟩, fun p => ?_⟩
  obtain ⟨⟨i, l0, l1⟩, hi, h0, h1⟩ := p
  simp only at hi h0 h1
  simp [lanesAt]
  refine ⟨fun hlt => ?_, fun hge => ?_⟩
  · cases o with
    | none => have : ops.length = 0 := ho; omega
    | some p =>
      obtain ⟨off, cap⟩ := p
      obtain ⟨x, hx⟩ : ∃ x, ops[i]? = some x := ⟨_, List.getElem?_eq_getElem hlt⟩
      obtain ⟨bo, co, x⟩ := x
      have hr := ops_rd (off := off) hx
      have hw : IntKind.i64.wrap ((i : Int) + 1) = (i : Int) + 1 := w64 (by omega)
      cases bo with
      | false =>
        simp [hlt, hr, -rdN_ro]
        refine Ctr.useEq (lanes_Push (size := m) (l0 := l0) (l1 := l1) (c := co) (x := x) ⟨h0, h1⟩) [1, 2, 3] (by simp [laneSh]) ?_
        simp [laneSh, hw]
        exact ⟨i + 1, push0 m co l0 x, push1 m co l1 x, Le.by [0, 1, 2, 3] (by simp), ⟨by omega, push0_le h0, push1_le h1⟩, by omega⟩
      | true =>
        simp [hlt, hr, -rdN_ro]
        refine Ctr.useEq (lanes_Pop (size := m) (l0 := l0) (l1 := l1)) [1, 2, 3] (by simp [laneSh]) ?_
        simp [laneSh, hw]
        exact ⟨i + 1, l0.tail, if l0 = [] then l1.tail else l1, Le.by [0, 1, 2, 3] (by simp), ⟨by omega, tail_le h0, by split; exact tail_le h1; exact h1⟩, by omega⟩
  · simp [wb, tb]
    refine Ctr.use (lanes_Ahead (size := m) (l0 := l0) (l1 := l1) (c := c) (by omega)) [1, 2, 3] (by simp [laneSh]) fun s hc' _ ⟨ob, hob, e1, e2⟩ => ?_
    subst e1 e2
    simp [laneSh]
    refine Ctr.useEq (lanes_Push (size := m) (l0 := l0) (l1 := l1) (c := c) (x := -77) ⟨h0, h1⟩) [1, 2, 3] (by simp [laneSh]) ?_
    by_cases hp : pushE m c l0 l1 = 0
    · have hinv := ahInv_start (by omega) hp
      have hbl : (aheadL c l0 l1).length ≤ 8192 := by
        rcases (show c = 0 ∨ c = 1 by omega) with rfl | rfl <;> simp [aheadL] <;> omega
      rw [hp]
      generalize push0 m c l0 (-77) = k0 at *
      generalize push1 m c l1 (-77) = k1 at *
      generalize aheadL c l0 l1 = before at *
      have hsl : lenV Try.prog 34 (slV 4 before.length ob) = some (before.length : Int) := by
        cases ob with
        | none => have : before.length = 0 := hob; simp [this]
        | some cb => simp
      simp [laneSh, hsl]
      refine ⟨{ p : Nat × List Int × List Int // p.1 ≤ before.length ∧ AhInv c (before.drop p.1) p.2.1 p.2.2 }, fun p => ([(64, slV 4 before.length ob), (65, iv before.length), (66, iv (p.1.1 : Nat)), (7, .ptr 1 0), (10, iv c)], [.any] ++ lanesAt 1 m p.1.2.1 p.1.2.2 ++ [slB (ivs .i64 before) ty_int 1 ob]), fun p => before.length - p.1.1, ⟨⟨(0, k0, k1), by simpa using hinv⟩, Le.by [0, 1, 2, 3, 4] (by simp [lanesAt])⟩, fun p => ?_⟩
      obtain ⟨⟨j, q0, q1⟩, hj, hq⟩ := p
      simp only at hj hq
      simp [lanesAt]
      refine ⟨fun hjl => ?_, fun hjl => ?_⟩
      · cases ob with
        | none => have : before.length = 0 := hob; omega
        | some cb =>
          have hb1 : before[j]? = some before[j] := List.getElem?_eq_getElem hjl
          have hd : before.drop j = before[j] :: before.drop (j + 1) := List.drop_eq_getElem_cons hjl
          rw [hd] at hq
          obtain ⟨q1', q2', q3'⟩ := ahInv_step hq
          simp [hjl, hb1]
          refine Ctr.useEq (lanes_Pop (size := m) (l0 := q0) (l1 := q1)) [1, 2, 3] (by simp [laneSh]) ?_
          rw [q1', show decide (0 < (q0 ++ q1).length) = true from decide_eq_true q2']
          have hw : IntKind.i64.wrap ((j : Int) + 1) = (j : Int) + 1 := w64 (by omega)
          simp [laneSh, hw]
          exact ⟨j + 1, q0.tail, if q0 = [] then q1.tail else q1, Le.by [0, 1, 2, 3, 4] (by simp), ⟨by omega, q3'⟩, by omega⟩
      · obtain rfl : j = before.length := by omega
        rw [List.drop_length] at hq
        obtain ⟨q1', q2', q3'⟩ := ahInv_last (by omega) hq
        refine Ctr.useEq (lanes_Pop (size := m) (l0 := q0) (l1 := q1)) [1, 2, 3] (by simp [laneSh]) ?_
        rw [q1', q3', show decide (0 < (q0 ++ q1).length) = true from decide_eq_true q2']
        simp [laneSh]
        refine Ctr.useEq law_alive [] (by simp) ?_
        simp
    · obtain ⟨p1, p2, p3⟩ := pushE_free (by omega) h0 h1 hp
      rw [p1, p2]
      simp [laneSh, hp]
      refine Ctr.useEq law_alive [] (by simp) ?_
      simp
      refine Ctr.useEq (lanes_Free (size := m) (l0 := l0) (l1 := l1) (c := c) ⟨h0, h1⟩) [1, 2, 3] (by simp [laneSh]) ?_
      simp [laneSh, p3]
end Go.Proofs.Ytpkkkeckefnmeaa

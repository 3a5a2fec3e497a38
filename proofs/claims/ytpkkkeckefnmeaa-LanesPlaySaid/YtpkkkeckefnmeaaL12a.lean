import Derived.Test.YtpkkkeckefnmeaaJo
namespace Go.Proofs.Ytpkkkeckefnmeaa
open Go Go.Vc
set_option linter.unusedSimpArgs false
set_option linter.unusedVariables false
set_option maxRecDepth 100000
set_option maxHeartbeats 4000000

/-- The lanes' blocks when the first of them is named k. -/
def lanesAt (k size : Nat) (l0 l1 : List Int) : List Blk := [.row [.ptr (k + 1) 0, .ptr (k + 2) 0] 2 ty_lanes_Lanes, .res (ringR size l0), .res (ringR size l1)]

/-- What reading an operation of the slice gives. -/
theorem ops_rd {ops : List OpT} {off i : Nat} {x : OpT} (h : ops[i]? = some x) : (Blk.ro off (ops.flatMap opC)).rdN (off + i * 3) 3 = some [bv x.1, iv x.2.1, iv x.2.2] := by
  have hi := (List.getElem?_eq_some_iff.1 h).1
  have hl := flat_length opC 3 opC_len ops
  rw [rdN_ro, if_pos (by omega), show off + i * 3 - off = i * 3 by omega, flat_take opC 3 opC_len ops i x h]
  rfl

theorem push0_le {size : Nat} {c x : Int} {l : List Int} (h : l.length ≤ size) : (push0 size c l x).length ≤ size := by
  unfold push0; split
  · simp; omega
  · exact h
theorem push1_le {size : Nat} {c x : Int} {l : List Int} (h : l.length ≤ size) : (push1 size c l x).length ≤ size := by
  unfold push1; split
  · simp; omega
  · exact h
theorem tail_le {size : Nat} {l : List Int} (h : l.length ≤ size) : l.tail.length ≤ size := by simp; omega
theorem law_ForcedFirst {n : Nat} (hn : n ≤ 255) {ops : List OpT} {o : Option (Nat × Nat)} (ho : RaOK ops.length o) : Ctr Try.prog F_egresslaw12_LanesForcedFirst [.v (.int .u8 n), raV 0 ops.length o] [raB (ops.flatMap opC) o] (fun s _ => s = bv true) := by
  refine in_egresslaw12_LanesForcedFirst (by simp) ?_
  obtain ⟨m, hm⟩ : ∃ m, m = n + 1 := ⟨_, rfl⟩
  have e1 : (n : Int) + 1 = (m : Int) := by omega
  have hlen := raV_len (P := Try.prog) 0 ops.length slc_22 ho
  simp (disch := first | omega | simp) [mc_egresslaw12_LanesForcedFirst, hlen, e1]
  refine Ctr.useEq (lanes_New (size := m) (by omega)) [] (by simp) ?_
  simp [laneSh, hlen]
  refine ⟨fun h => ?_, fun h => ?_⟩
  · refine Ctr.useEq law_alive [] (by simp) ?_
    simp
  refine ⟨{ p : Nat × List Int × List Int // p.1 ≤ ops.length ∧ p.2.1.length ≤ m ∧ p.2.2.length ≤ m }, fun p => ([(23, raV 0 ops.length o), (24, iv ops.length), (25, iv (p.1.1 : Nat)), (5, .ptr 1 0)], [raB (ops.flatMap opC) o] ++ lanesAt 1 m p.1.2.1 p.1.2.2), fun p => ops.length - p.1.1, ⟨⟨(0, [], []), by simp⟩, Le.by [0, 1, 2, 3] (by simp [lanesAt])⟩, fun p => ?_⟩
  obtain ⟨⟨i, l0, l1⟩, hi, h0, h1⟩ := p
  simp only at hi h0 h1
  simp [lanesAt]
  refine ⟨fun hlt => ?_, fun hge => ?_⟩
  · cases o with
    | none => have : ops.length = 0 := ho; omega
    | some p =>
      obtain ⟨off, cap⟩ := p
      have ex : ops[i]? = some ops[i] := List.getElem?_eq_getElem hlt
      obtain ⟨x, hx⟩ : ∃ x, ops[i]? = some x := ⟨_, ex⟩
      obtain ⟨b, c, x⟩ := x
      have hr := ops_rd (off := off) hx
      have hw : IntKind.i64.wrap ((i : Int) + 1) = (i : Int) + 1 := w64 (by omega)
      cases b with
      | false =>
        simp [hlt, hr, -rdN_ro]
        refine Ctr.useEq (lanes_Push (size := m) (l0 := l0) (l1 := l1) (c := c) (x := x) ⟨h0, h1⟩) [1, 2, 3] (by simp [laneSh]) ?_
        simp [laneSh, hw]
        exact ⟨i + 1, push0 m c l0 x, push1 m c l1 x, Le.by [0, 1, 2, 3] (by simp), ⟨by omega, push0_le h0, push1_le h1⟩, by omega⟩
      | true =>
        simp [hlt, hr, -rdN_ro]
        refine Ctr.useEq (lanes_Len (size := m) (l0 := l0) (l1 := l1) (c := 0)) [1, 2, 3] (by simp [laneSh]) ?_
        simp [laneSh]
        refine Ctr.useEq (lanes_Len (size := m) (l0 := l0) (l1 := l1) (c := 1)) [1, 2, 3] (by simp [laneSh]) ?_
        simp [laneSh]
        refine Ctr.useEq (lanes_Pop (size := m) (l0 := l0) (l1 := l1)) [1, 2, 3] (by simp [laneSh]) ?_
        match l0, l1 with
        | [], [] =>
          simp [laneSh, headC, hw]
          exact ⟨i + 1, [], [], Le.by [0, 1, 2, 3] (by simp), ⟨by omega, by simp, by simp⟩, by omega⟩
        | [], a :: r =>
          simp only [List.length_cons] at h1
          have hs : IntKind.i64.wrap ((r.length : Int) + 1) = (r.length : Int) + 1 := w64 (by omega)
          have hp : (0 : Int) < (r.length : Int) + 1 := by omega
          simp [laneSh, headC, hw, hs, hp]
          exact ⟨i + 1, [], r, Le.by [0, 1, 2, 3] (by simp), ⟨by omega, by simp, by omega⟩, by omega⟩
        | a :: r, l1 =>
          simp only [List.length_cons] at h0
          have hs : IntKind.i64.wrap ((r.length : Int) + 1 + l1.length) = (r.length : Int) + 1 + l1.length := w64 (by omega)
          have hp : (0 : Int) < (r.length : Int) + 1 := by omega
          have hp2 : (0 : Int) < (r.length : Int) + 1 + l1.length := by omega
          have hp3 : 0 < r.length + 1 + l1.length := by omega
          simp [laneSh, headC, hw, hs, hp, hp2, hp3]
          exact ⟨i + 1, r, l1, Le.by [0, 1, 2, 3] (by simp), ⟨by omega, by omega, h1⟩, by omega⟩
  · refine Ctr.useEq law_alive [] (by simp) ?_
    simp
end Go.Proofs.Ytpkkkeckefnmeaa

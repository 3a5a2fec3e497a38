import Derived.Test.YtpkkkeckefnmeaaL12b
namespace Go.Proofs.Ytpkkkeckefnmeaa
open Go Go.Vc
set_option linter.unusedSimpArgs false
set_option linter.unusedVariables false
set_option maxRecDepth 100000
set_option maxHeartbeats 4000000

/-- The queues, what was appended, what was removed. -/
structure OrdS (m : Nat) where
  l0 : List Int
  l1 : List Int
  a0 : List Int
  a1 : List Int
  b0 : List Int
  b1 : List Int
  o0 : Option Nat
  o1 : Option Nat
  p0 : Option Nat
  p1 : Option Nat
  h0 : l0.length ≤ m
  h1 : l1.length ≤ m
  e0 : a0 = b0 ++ l0
  e1 : a1 = b1 ++ l1
  s0 : SlOK a0.length o0
  s1 : SlOK a1.length o1
  q0 : SlOK b0.length p0
  q1 : SlOK b1.length p1
def OrdS.B {m : Nat} (s : OrdS m) (ra : Blk) : List Blk :=
  [ra] ++ lanesAt 1 m s.l0 s.l1 ++ [.row [slV 6 s.a0.length s.o0, slV 7 s.a1.length s.o1] 2 35, .row [slV 8 s.b0.length s.p0, slV 9 s.b1.length s.p1] 2 35,
    slB (ivs .i64 s.a0) ty_int 1 s.o0, slB (ivs .i64 s.a1) ty_int 1 s.o1, slB (ivs .i64 s.b0) ty_int 1 s.p0, slB (ivs .i64 s.b1) ty_int 1 s.p1]

theorem ent_more4 {hp : List Blk} : Ent hp (fun h => h = hp ++ [.any, .any, .any, .any]) :=
  ent_more.trans fun _ e => by subst e; exact ent_more.trans fun _ e => by subst e; exact ent_more.trans fun _ e => by subst e; exact ent_more.eq (by simp)

/-- A slice that is nil or a buffer of its own, as a slice that is read. -/
def toVw (l : List Int) : Option Nat → Vw
  | none => none
  | some c => some (l, 0, c, c * 1)
@[simp] theorem toVw_V (n len : Nat) (l : List Int) (o : Option Nat) : vwV n len (toVw l o) = slV n len o := by cases o <;> rfl
@[simp] theorem toVw_B (l : List Int) (o : Option Nat) : vwB (toVw l o) = slB (ivs .i64 l) ty_int 1 o := by cases o <;> rfl
theorem toVw_OK {l : List Int} {o : Option Nat} (h : SlOK l.length o) : VwOK l (toVw l o) := by
  cases o with
  | none => exact List.length_eq_zero_iff.1 h
  | some c => exact ⟨by simp, h, fun i _ => by simp⟩

theorem law_Order {n : Nat} (hn : n ≤ 255) {ops : List OpT} {o : Option (Nat × Nat)} (ho : RaOK ops.length o) : Ctr Try.prog F_egresslaw12_LanesOrder [.v (.int .u8 n), raV 0 ops.length o] [raB (ops.flatMap opC) o] (fun s _ => s = bv true) := by
  refine in_egresslaw12_LanesOrder (by simp) ?_
  obtain ⟨m, hm⟩ : ∃ m, m = n + 1 := ⟨_, rfl⟩
  have e1 : (n : Int) + 1 = (m : Int) := by omega
  have hlen := raV_len (P := Try.prog) 0 ops.length slc_22 ho
  simp (disch := first | omega | simp) [mc_egresslaw12_LanesOrder, hlen, e1]
  refine Ctr.useEq (lanes_New (size := m) (by omega)) [] (by simp) ?_
  simp [laneSh, hlen]
  refine ⟨fun h => ?_, fun h => ?_⟩
  · refine Ctr.useEq law_alive [] (by simp) ?_
    simp
  refine ⟨{ p : Nat × OrdS m // p.1 ≤ ops.length ∧ p.2.a0.length + p.2.a1.length ≤ p.1 }, fun p => ([(26, raV 0 ops.length o), (27, iv ops.length), (28, iv (p.1.1 : Nat)), (5, .ptr 1 0), (6, .ptr 4 0), (7, .ptr 5 0), (1, raV 0 ops.length o)], p.1.2.B (raB (ops.flatMap opC) o)), fun p => ops.length - p.1.1,
    ⟨⟨(0, ⟨[], [], [], [], [], [], none, none, none, none, by simp, by simp, rfl, rfl, rfl, rfl, rfl, rfl⟩), by simp⟩, Le.ent ent_more4 [0, 1, 2, 3, 4, 5, 6, 7, 8, 9] (by simp [lanesAt, OrdS.B])⟩, fun p => ?_⟩
  obtain ⟨⟨i, l0, l1, a0, a1, b0, b1, o0, o1, p0, p1, h0, h1, ea0, ea1, s0, s1, q0, q1⟩, hi, ha⟩ := p
  simp only at hi ha
  simp [OrdS.B, lanesAt]
  refine ⟨fun hlt => ?_, fun hge => ?_⟩
  · cases o with
    | none => have : ops.length = 0 := ho; omega
    | some p =>
      obtain ⟨off, cap⟩ := p
      obtain ⟨x, hx⟩ : ∃ x, ops[i]? = some x := ⟨_, List.getElem?_eq_getElem hlt⟩
      obtain ⟨bo, co, x⟩ := x
      have hr := ops_rd (off := off) hx
      have hw : IntKind.i64.wrap ((i : Int) + 1) = (i : Int) + 1 := w64 (by omega)
      have same : ∀ q0' q1' : Prop, True := fun _ _ => trivial
      cases bo with
      | false =>
        simp [hlt, hr, -rdN_ro]
        refine Ctr.useEq (lanes_Push (size := m) (l0 := l0) (l1 := l1) (c := co) (x := x) ⟨h0, h1⟩) [1, 2, 3] (by simp [laneSh]) ?_
        by_cases hc0 : co = 0
        · subst hc0
          by_cases hlm : l0.length < m
          · have ht : [x].take (m - l0.length) = [x] := List.take_of_length_le (by simp; omega)
            simp [laneSh, hw, pushE, push0, push1, hlm, ht]
            refine maskK.by [6] ?_
            simp
            refine apV_slV (cs := ivs .i64 a0) (l := [iv x]) (by simp) s0 (by simp) (by simp) (by simp) (by simp; omega) (by simp) fun c hc => ?_
            simp [hw]
            exact ⟨i + 1, ⟨l0 ++ [x], l1, a0 ++ [x], a1, b0, b1, some c, o1, p0, p1, by simp; omega, h1, by simp [ea0], ea1, by simpa using hc, s1, q0, q1⟩, Le.by [0, 1, 2, 3, 4, 5, 12, 7, 8, 9] (by simp), ⟨by omega, by simp; omega⟩, by omega⟩
          · have ht : m - l0.length = 0 := by omega
            simp [laneSh, hw, pushE, push0, push1, hlm, ht]
            exact ⟨i + 1, ⟨l0, l1, a0, a1, b0, b1, o0, o1, p0, p1, h0, h1, ea0, ea1, s0, s1, q0, q1⟩, Le.by [0, 1, 2, 3, 4, 5, 6, 7, 8, 9] (by simp), ⟨by omega, by dsimp only; omega⟩, by omega⟩
        by_cases hc1 : co = 1
        · subst hc1
          by_cases hlm : l1.length < m
          · have ht : [x].take (m - l1.length) = [x] := List.take_of_length_le (by simp; omega)
            simp [laneSh, hw, pushE, push0, push1, hlm, ht]
            refine maskK.by [7] ?_
            simp
            refine apV_slV (cs := ivs .i64 a1) (l := [iv x]) (by simp) s1 (by simp) (by simp) (by simp) (by simp; omega) (by simp) fun c hc => ?_
            simp [hw]
            exact ⟨i + 1, ⟨l0, l1 ++ [x], a0, a1 ++ [x], b0, b1, o0, some c, p0, p1, h0, by simp; omega, ea0, by simp [ea1], s0, by simpa using hc, q0, q1⟩, Le.by [0, 1, 2, 3, 4, 5, 6, 12, 8, 9] (by simp), ⟨by omega, by simp; omega⟩, by omega⟩
          · have ht : m - l1.length = 0 := by omega
            simp [laneSh, hw, pushE, push0, push1, hlm, ht]
            exact ⟨i + 1, ⟨l0, l1, a0, a1, b0, b1, o0, o1, p0, p1, h0, h1, ea0, ea1, s0, s1, q0, q1⟩, Le.by [0, 1, 2, 3, 4, 5, 6, 7, 8, 9] (by simp), ⟨by omega, by dsimp only; omega⟩, by omega⟩
        · simp [laneSh, hw, pushE, push0, push1, hc0, hc1]
          exact ⟨i + 1, ⟨l0, l1, a0, a1, b0, b1, o0, o1, p0, p1, h0, h1, ea0, ea1, s0, s1, q0, q1⟩, Le.by [0, 1, 2, 3, 4, 5, 6, 7, 8, 9] (by simp), ⟨by omega, by dsimp only; omega⟩, by omega⟩
      | true =>
        simp [hlt, hr, -rdN_ro]
        refine Ctr.useEq (lanes_Pop (size := m) (l0 := l0) (l1 := l1)) [1, 2, 3] (by simp [laneSh]) ?_
        have hb : b0.length + b1.length ≤ i := by
          have := congrArg List.length ea0; have := congrArg List.length ea1; simp at *; omega
        match l0, l1, h0, h1, ea0, ea1 with
        | [], [], h0, h1, ea0, ea1 => 
          simp [laneSh, headC, hw]
          exact ⟨i + 1, ⟨[], [], a0, a1, b0, b1, o0, o1, p0, p1, h0, h1, ea0, ea1, s0, s1, q0, q1⟩, Le.by [0, 1, 2, 3, 4, 5, 6, 7, 8, 9] (by simp), ⟨by omega, by dsimp only; omega⟩, by omega⟩
        | [], a :: r, h0, h1, ea0, ea1 =>
          simp [laneSh, headC, hw]
          refine apV_slV (cs := ivs .i64 b1) (l := [iv a]) (by simp) q1 (by simp) (by simp) (by simp) (by simp; omega) (by simp) fun c hc => ?_
          simp [hw]
          exact ⟨i + 1, ⟨[], r, a0, a1, b0, b1 ++ [a], o0, o1, p0, some c, h0, by simp at h1; omega, ea0, by simp [ea1], s0, s1, q0, by simpa using hc⟩, Le.by [0, 1, 2, 3, 4, 5, 6, 7, 8, 12] (by simp), ⟨by omega, by simp; omega⟩, by omega⟩
        | a :: r, l1, h0, h1, ea0, ea1 =>
          have hp3 : 0 < r.length + 1 + l1.length := by omega
          simp [laneSh, headC, hw, hp3]
          refine apV_slV (cs := ivs .i64 b0) (l := [iv a]) (by simp) q0 (by simp) (by simp) (by simp) (by simp; omega) (by simp) fun c hc => ?_
          simp [hw]
          exact ⟨i + 1, ⟨r, l1, a0, a1, b0 ++ [a], b1, o0, o1, some c, p1, by simp at h0; omega, h1, by simp [ea0], ea1, s0, s1, by simpa using hc, q1⟩, Le.by [0, 1, 2, 3, 4, 5, 6, 7, 12, 9] (by simp), ⟨by omega, by simp; omega⟩, by omega⟩
  · obtain rfl : i = ops.length := by omega
    have hl : a0.length + a1.length ≤ 100 := by omega
    simp [hlen]
    refine ⟨{ p : Nat × OrdS m // p.1 ≤ ops.length ∧ p.2.a0 = a0 ∧ p.2.a1 = a1 ∧ p.2.l0.length + p.2.l1.length + p.1 ≤ ops.length }, fun p => ([(87, iv ops.length), (88, iv (p.1.1 : Nat)), (5, .ptr 1 0), (6, .ptr 4 0), (7, .ptr 5 0)], p.1.2.B .any), fun p => ops.length - p.1.1,
      ⟨⟨(0, ⟨l0, l1, a0, a1, b0, b1, o0, o1, p0, p1, h0, h1, ea0, ea1, s0, s1, q0, q1⟩), ?_⟩, Le.by [0, 1, 2, 3, 4, 5, 6, 7, 8, 9] (by simp [lanesAt, OrdS.B])⟩, fun p => ?_⟩
    · have := congrArg List.length ea0; have := congrArg List.length ea1; simp at *; omega
    have hA : True := trivial
    clear s0 s1 q0 q1 h0 h1 ea0 ea1
    obtain ⟨⟨i, l0, l1, a0', a1', b0, b1, o0, o1, p0, p1, h0, h1, ea0, ea1, s0, s1, q0, q1⟩, hi, ra0, ra1, ha⟩ := p
    dsimp only at ra0 ra1
    subst ra0 ra1
    simp only at hi ha ea0 ea1
    simp [OrdS.B, lanesAt]
    refine ⟨fun hlt => ?_, fun hge => ?_⟩
    · simp [hlt]
      refine Ctr.useEq (lanes_Pop (size := m) (l0 := l0) (l1 := l1)) [1, 2, 3] (by simp [laneSh]) ?_
      have hw : IntKind.i64.wrap ((i : Int) + 1) = (i : Int) + 1 := w64 (by omega)
      have hb : b0.length + b1.length ≤ 100 := by
        have := congrArg List.length ea0; have := congrArg List.length ea1; simp at *; omega
      match l0, l1, h0, h1, ea0, ea1 with
      | [], [], h0, h1, ea0, ea1 => 
        simp [laneSh, headC, hw]
        exact ⟨i + 1, ⟨[], [], a0', a1', b0, b1, o0, o1, p0, p1, h0, h1, ea0, ea1, s0, s1, q0, q1⟩, Le.by [0, 1, 2, 3, 4, 5, 6, 7, 8, 9] (by simp), ⟨by omega, rfl, rfl, by simp; omega⟩, by omega⟩
      | [], a :: r, h0, h1, ea0, ea1 =>
        simp [laneSh, headC, hw]
        refine apV_slV (cs := ivs .i64 b1) (l := [iv a]) (by simp) q1 (by simp) (by simp) (by simp) (by simp; omega) (by simp) fun c hc => ?_
        simp [hw]
        exact ⟨i + 1, ⟨[], r, a0', a1', b0, b1 ++ [a], o0, o1, p0, some c, h0, by simp at h1; omega, ea0, by simp [ea1], s0, s1, q0, by simpa using hc⟩, Le.by [0, 1, 2, 3, 4, 5, 6, 7, 8, 11] (by simp), ⟨by omega, rfl, rfl, by simp at ha ⊢; omega⟩, by omega⟩
      | a :: r, l1, h0, h1, ea0, ea1 =>
        have hp3 : 0 < r.length + 1 + l1.length := by omega
        simp [laneSh, headC, hw, hp3]
        refine apV_slV (cs := ivs .i64 b0) (l := [iv a]) (by simp) q0 (by simp) (by simp) (by simp) (by simp; omega) (by simp) fun c hc => ?_
        simp [hw]
        exact ⟨i + 1, ⟨r, l1, a0', a1', b0 ++ [a], b1, o0, o1, some c, p1, by simp at h0; omega, h1, by simp [ea0], ea1, s0, s1, by simpa using hc, q1⟩, Le.by [0, 1, 2, 3, 4, 5, 6, 7, 11, 9] (by simp), ⟨by omega, rfl, rfl, by simp at ha ⊢; omega⟩, by omega⟩
    · obtain rfl : i = ops.length := by omega
      dsimp only at ha
      obtain rfl : l0 = [] := List.length_eq_zero_iff.1 (by omega)
      simp only [List.length_nil] at ha
      obtain rfl : l1 = [] := List.length_eq_zero_iff.1 (by omega)
      simp at ea0 ea1
      subst ea0 ea1
      refine Ctr.useEq law_alive [] (by simp) ?_
      simp
      refine Ctr.useEq (slices_Equal (la := a0') (lb := a0') (toVw a0' o0) (toVw a0' p0) (toVw_OK s0) (toVw_OK q0) (by omega)) [6, 8] (by simp) ?_
      simp
      refine Ctr.useEq (slices_Equal (la := a1') (lb := a1') (toVw a1' o1) (toVw a1' p1) (toVw_OK s1) (toVw_OK q1) (by omega)) [7, 9] (by simp) ?_
      simp
end Go.Proofs.Ytpkkkeckefnmeaa

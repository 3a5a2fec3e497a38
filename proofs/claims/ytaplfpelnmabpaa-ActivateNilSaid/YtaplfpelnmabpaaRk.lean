import Derived.Test.YtaplfpelnmabpaaRj
namespace Go.Proofs.Ytaplfpelnmabpaa
open Go Go.Vc
set_option linter.unusedSimpArgs false
set_option linter.unusedVariables false
set_option maxRecDepth 100000
set_option maxHeartbeats 4000000

theorem ring_Push {size : Nat} {l xs : List Int} {c m : Nat} (hl : l.length ≤ size) (hc : xs.length ≤ c) : Ctr Try.prog F_ring_Ring_int_Push [.ptr 0 0, .slc 1 0 xs.length c] [.res (ringR size l), .row (ivs .i64 xs) m ty_int]
    (fun s hp => s = iv (min xs.length (size - l.length) : Nat) ∧ hp = [.res (ringR size (l ++ xs.take (min xs.length (size - l.length)))), .row (ivs .i64 xs) m ty_int]) := by
  refine Ctr.fin (in_ring_Ring_int_Push (by simp) ?_)
  simp [mc_ring_Ring_int_Push]
  refine Ctr.useEq (ring_Free hl) [0] (by simp) ?_
  obtain ⟨k, hk⟩ : ∃ k, k = min xs.length (size - l.length) := ⟨_, rfl⟩
  have h1 : k ≤ c := by omega
  simp [← hk, h1]
  refine ⟨{ i : Nat // i ≤ k }, fun i => ([(0, .ptr 0 0), (5, iv k), (15, .slc 1 0 k c), (16, iv k), (17, iv (i.1 : Nat))], [.res (ringR size (l ++ xs.take i.1)), .row (ivs .i64 xs) m ty_int]), fun i => k - i.1, ⟨⟨0, by omega⟩, Le.by [0, 1] (by simp)⟩, fun i => ?_⟩
  obtain ⟨i, hi⟩ := i
  simp
  refine ⟨fun h => ?_, fun h => ?_⟩
  · have e1 : xs[i]? = some xs[i] := List.getElem?_eq_getElem (by omega)
    simp [h, e1]
    refine Ctr.use (ring_grow (size := size) (l := l ++ xs.take i) (by simp; omega)) [0] (by simp) fun s hc _ ⟨sl, f, hR, hlt2, e⟩ => ?_
    subst e
    obtain ⟨h3, h4, h5, h6, h7⟩ := id hR
    have h8 := List.length_take_of_le (i := i) (l := xs) (by omega)
    have h9 : (l ++ xs.take i).length = l.length + i := by simp; omega
    rw [h9] at hlt2
    simp [ringSh, h9]
    have e2 : ((f : Int) + ((l.length : Int) + i)).tmod sl.length = (((f + (l ++ xs.take i).length) % sl.length : Nat) : Int) := by rw [h9, Int.ofNat_tmod]; simp
    have h10 := Nat.mod_lt (f + (l ++ xs.take i).length) (show 0 < sl.length by omega)
    rw [w64 (n := (f : Int) + _) (by omega), w64 (n := (i : Int) + 1) (by omega), w64 (n := (l.length : Int) + i + 1) (by omega), e2]
    have e3 : l ++ xs.take i ++ [xs[i]] = l ++ xs.take (i + 1) := by rw [List.take_add_one, e1]; simp
    have h11 := ringOK_push xs[i] hR (by omega)
    rw [e3] at h11
    have h12 : (l ++ xs.take (i + 1)).length = l.length + i + 1 := by simp; omega
    refine ⟨fun e => by simp [e] at h5, by omega, by rw [Int.toNat_natCast]; omega, i + 1, Le.ent (ring_shut1 (l := l ++ xs.take (i + 1)) 0 2 _ f ?_ h11) [0, 1] (by simp), by omega, by omega⟩
    rw [h12, Int.toNat_natCast]
    simp
  · obtain rfl : i = k := by omega
    exact Fin.same (by simp) (by simp)

theorem ring_Pop {size : Nat} {l : List Int} : Ctr Try.prog F_ring_Ring_int_Pop [.ptr 0 0] [.res (ringR size l)] (fun s hp => s = .tup [iv (l.headD 0), bv (decide (0 < l.length))] ∧ hp = [.res (ringR size l.tail)]) := by
  refine Ctr.fin (in_ring_Ring_int_Pop (by simp) ?_)
  simp [mc_ring_Ring_int_Pop]
  refine Ctr.useOpen (ring_Peek (size := size) (l := l) (i := 0)) [0] (by simp) 0 (by simp; rfl) fun x hx => ?_
  match l, x, hx with
  | [], none, ⟨e, h⟩ =>
    simp [ringSh]
    exact Fin.by [_] [] (ring_shut0 0 (by simp) h) (by simp) (by simp)
  | [], some (s, f), h =>
    simp [ringSh]
    exact Fin.by [_] [.any] (ring_shut1 (l := []) 0 1 s f (by simp) h) (by simp) (by simp)
  | a :: l, none, ⟨e, h⟩ => simp at e
  | a :: l, some (s, f), h =>
    obtain ⟨h1, h2, h3, h4, h5⟩ := id h
    simp only [List.length_cons] at h4
    obtain ⟨h6, h7⟩ := ringOK_pop h
    have e2 : ((f : Int) + 1).tmod s.length = (((f + 1) % s.length : Nat) : Int) := by rw [Int.ofNat_tmod]; simp
    have h8 := Nat.mod_lt (f + 1) (show 0 < s.length by omega)
    simp (disch := first | omega | simp) [ringSh, w64, e2]
    refine ⟨h3, h3, fun e => by simp [e] at h3, ?_⟩
    exact Fin.by [_] [.any] (ring_shut1 (l := l) 0 1 (s.set f 0) ((f + 1) % s.length) (by simp) h6) (by simp) (by simp)
theorem ring_Pop0 : Ctr Try.prog F_ring_Ring_int_Pop [.v (.pointer none)] [] (fun s hp => s = .tup [iv 0, bv false] ∧ hp = []) := by
  refine in_ring_Ring_int_Pop (by simp) ?_
  simp [mc_ring_Ring_int_Pop]
  refine Ctr.useEq (ring_Peek0 (i := 0)) [] (by simp) ?_
  simp

theorem ring_All {size : Nat} {l : List Int} (hl : l.length ≤ 1048576) : Ctr Try.prog F_ring_Ring_int_All [.ptr 0 0] [.res (ringR size l)] (fun s hp => ∃ o, SlOK l.length o ∧ s = slV 1 l.length o ∧ hp = [.res (ringR size l), slB (ivs .i64 l) ty_int 1 o]) := by
  refine Ctr.fin (in_ring_Ring_int_All (by simp) ?_)
  simp [mc_ring_Ring_int_All]
  refine Ctr.useEq (ring_Len (size := size) (l := l)) [0] (by simp) ?_
  simp
  refine ⟨{ p : Nat × Option Nat // p.1 ≤ l.length ∧ SlOK p.1 p.2 }, fun p => ([(0, .ptr 0 0), (8, iv l.length), (3, slV 1 p.1.1 p.1.2), (9, iv (p.1.1 : Nat))], [.res (ringR size l), slB (ivs .i64 (l.take p.1.1)) ty_int 1 p.1.2]), fun p => l.length - p.1.1, ⟨⟨(0, none), by simp⟩, Le.ent ent_more [0, 1] (by simp)⟩, fun p => ?_⟩
  obtain ⟨⟨i, o⟩, hi, ho⟩ := p
  simp only at hi ho
  simp
  refine ⟨fun h => ?_, fun h => ?_⟩
  · simp [h]
    refine Ctr.useEq (ring_Peek (size := size) (l := l) (i := i)) [0] (by simp) ?_
    have e1 : l[i]? = some l[i] := List.getElem?_eq_getElem (by omega)
    cases o with
    | none =>
      simp at ho; subst ho
      simp (disch := first | omega | simp) [w64]
      exact fun c hc => ⟨1, some c, Le.by [0, 3] (by simp [List.take_one, List.head?_eq_getElem?, e1]), ⟨by omega, hc⟩, by omega⟩
    | some c =>
      simp at ho
      simp (disch := first | omega | simp) [w64]
      exact ⟨⟨by omega, by omega, by omega⟩, fun c hc => ⟨i + 1, some c, Le.by [0, 3] (by simp [List.take_take]), ⟨by omega, hc⟩, by omega⟩⟩
  · obtain rfl : i = l.length := by omega
    simp
    exact Fin.same (by simp) ⟨o, ho, rfl, rfl⟩
end Go.Proofs.Ytaplfpelnmabpaa

import Derived.Test.YtaplfpelnmabpaaGa
namespace Go.Proofs.Ytaplfpelnmabpaa
open Go Go.Vc
set_option linter.unusedSimpArgs false
set_option linter.unusedVariables false
set_option maxRecDepth 100000
set_option maxHeartbeats 4000000

theorem ring_PushS {size : Nat} {l xs : List Int} {B : Blk} {o : Option (Nat × Nat)} (hl : l.length ≤ size) (ho : SrcI .i64 xs B o) (hB : Plain B) : Ctr Try.prog F_ring_Ring_int_Push [.ptr 0 0, raV 1 xs.length o] [.res (ringR size l), B]
    (fun s hp => s = iv (min xs.length (size - l.length) : Nat) ∧ hp = [.res (ringR size (l ++ xs.take (min xs.length (size - l.length)))), B]) := by
  refine Ctr.fin (in_ring_Ring_int_Push (by simp) ?_)
  have hlx := srcI_len (t := ty_slice_int) (el := ty_int) (s := 1) ho 1 (by simp)
  simp only [ty_slice_int] at hlx
  simp [mc_ring_Ring_int_Push, hlx]
  refine Ctr.useEq (ring_Free hl) [0] (by simp) ?_
  match o, ho with
  | none, ⟨e0, eb⟩ =>
    subst e0 eb
    have hm0 : imin (0 : Int) ((size - l.length : Nat) : Int) = 0 := by rw [imin_eq]; omega
    simp [hm0]
    refine ⟨Unit, fun _ => ([(0, .ptr 0 0), (5, iv 0), (15, .v (.slice none 0 0)), (16, iv 0), (17, iv 0)], [.res (ringR size l), .any]), fun _ => 0, ⟨(), Le.by [0, 1] (by simp)⟩, fun _ => ?_⟩
    simp
    exact Fin.same (by simp [hB.1, hB.2]) (by simp)
  | some (off, c), ⟨hc, hR0⟩ =>
    obtain ⟨k, hk⟩ : ∃ k, k = min xs.length (size - l.length) := ⟨_, rfl⟩
    have h1 : k ≤ c := by omega
    simp [← hk, h1, hlx, hB.2]
    refine ⟨{ i : Nat // i ≤ k }, fun i => ([(0, .ptr 0 0), (5, iv k), (15, raV 1 k (some (off, c))), (16, iv k), (17, iv (i.1 : Nat))], [.res (ringR size (l ++ xs.take i.1)), B]), fun i => k - i.1, ⟨⟨0, by omega⟩, Le.by [0, 1] (by simp [hB.1, hB.2])⟩, fun i => ?_⟩
    obtain ⟨i, hi⟩ := i
    simp
    refine ⟨fun h => ?_, fun h => ?_⟩
    · have e1 : xs[i]? = some xs[i] := List.getElem?_eq_getElem (by omega)
      have hr := hR0 i (iv xs[i]) (by simp [e1])
      simp [h, hr]
      refine Ctr.use (ring_grow (size := size) (l := l ++ xs.take i) (by simp; omega)) [0] (by simp) fun s hc _ ⟨sl, f, hR, hlt2, e⟩ => ?_
      subst e
      obtain ⟨h3, h4, h5, h6, h7⟩ := id hR
      have h8 := List.length_take_of_le (i := i) (l := xs) (by omega)
      have h9 : (l ++ xs.take i).length = l.length + i := by simp; omega
      rw [h9] at hlt2
      simp [ringSh, h9]
      have e2 : ((f : Int) + ((l.length : Int) + i)).tmod sl.length = (((f + (l ++ xs.take i).length) % sl.length : Nat) : Int) := by rw [h9, Int.ofNat_tmod]; simp
      have h10 := Nat.mod_lt (f + (l ++ xs.take i).length) (show 0 < sl.length by omega)
      rw [w64 (n := (f : Int) + _) (by omega), w64 (n := (i : Int) + 1) (by omega), w64 (n := (l.length : Int) + i + 1) (by omega), e2]
      have e3 : l ++ xs.take i ++ [xs[i]] = l ++ xs.take (i + 1) := by rw [List.take_add_one, e1]; simp
      have h11 := ringOK_push xs[i] hR (by omega)
      rw [e3] at h11
      have h12 : (l ++ xs.take (i + 1)).length = l.length + i + 1 := by simp; omega
      refine ⟨fun e => by simp [e] at h5, by omega, by rw [Int.toNat_natCast]; omega, i + 1, Le.ent (ring_shut1 (l := l ++ xs.take (i + 1)) 0 2 _ f ?_ h11) [0, 1] (by simp [hB.1, hB.2]), by omega, by omega⟩
      rw [h12, Int.toNat_natCast]
      simp
    · obtain rfl : i = k := by omega
      exact Fin.same (by simp [hB.1, hB.2]) (by simp)

end Go.Proofs.Ytaplfpelnmabpaa

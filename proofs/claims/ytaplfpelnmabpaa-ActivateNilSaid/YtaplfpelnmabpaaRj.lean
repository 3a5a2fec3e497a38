import Derived.Test.YtaplfpelnmabpaaRi
namespace Go.Proofs.Ytaplfpelnmabpaa
open Go Go.Vc
set_option linter.unusedSimpArgs false
set_option linter.unusedVariables false
set_option maxRecDepth 100000

theorem modN {f i n : Nat} (hf : f < n) (hi : i ≤ n) : (f + i) % n = if f + i < n then f + i else f + i - n := by
  split
  · exact Nat.mod_eq_of_lt ‹_›
  · rw [Nat.mod_eq_sub_mod (by omega), Nat.mod_eq_of_lt (by omega)]

theorem ringOK_grow {size m : Nat} {l s : List Int} {f : Nat} (h : RingOK size l (some (s, f))) (hl : l.length = s.length) (hm : s.length < m) (hm2 : m ≤ size) : RingOK size l (some ((s.drop f ++ s.take f) ++ List.replicate (m - s.length) 0, 0)) := by
  obtain ⟨h1, h2, h3, h4, h5⟩ := h
  have hlen : ((s.drop f ++ s.take f) ++ List.replicate (m - s.length) 0).length = m := by simp; omega
  refine ⟨h1, by omega, by omega, by omega, fun i hi => ?_⟩
  rw [hlen, Nat.zero_add, Nat.mod_eq_of_lt (by omega), ← h5 i hi, modN h3 (by omega), List.getElem?_append_left (by simp; omega)]
  by_cases h : f + i < s.length
  · rw [if_pos h, List.getElem?_append_left (by simp; omega), List.getElem?_drop]
  · rw [if_neg h, List.getElem?_append_right (by simp; omega), List.getElem?_take, if_pos (by simp; omega)]
    congr 1
    simp; omega
theorem ringOK_push {size : Nat} {l s : List Int} {f : Nat} (x : Int) (h : RingOK size l (some (s, f))) (hl : l.length < s.length) : RingOK size (l ++ [x]) (some (s.set ((f + l.length) % s.length) x, f)) := by
  obtain ⟨h1, h2, h3, h4, h5⟩ := h
  refine ⟨h1, by simpa using h2, by simpa using h3, by simp; omega, fun i hi => ?_⟩
  simp only [List.length_append, List.length_cons, List.length_nil, List.length_set] at *
  rw [List.getElem?_set]
  by_cases e : i = l.length
  · subst e
    rw [if_pos rfl, if_pos (Nat.mod_lt _ (by omega))]; simp
  · rw [if_neg, h5 i (by omega), List.getElem?_append_left (by omega)]
    rw [modN h3 (by omega), modN h3 (by omega)]
    split <;> split <;> omega
theorem ringOK_pop {size : Nat} {a : Int} {l s : List Int} {f : Nat} (h : RingOK size (a :: l) (some (s, f))) : RingOK size l (some (s.set f 0, (f + 1) % s.length)) ∧ s[f]? = some a := by
  obtain ⟨h1, h2, h3, h4, h5⟩ := h
  simp only [List.length_cons] at *
  refine ⟨⟨h1, by simpa using h2, by simpa using Nat.mod_lt _ (by omega), by simp; omega, fun i hi => ?_⟩, ?_⟩
  · rw [List.length_set, List.getElem?_set, Nat.mod_add_mod, show f + 1 + i = f + (i + 1) by omega, if_neg, h5 (i + 1) (by omega)]
    · simp
    · rw [modN h3 (by omega)]; split <;> omega
  · have := h5 0 (by omega)
    rw [modN h3 (by omega)] at this
    simpa [h3] using this

theorem ring_grow {size : Nat} {l : List Int} (hl : l.length < size) : Ctr Try.prog F_ring_Ring_int_grow [.ptr 0 0] [.res (ringR size l)] (fun _ hp => ∃ s f, RingOK size l (some (s, f)) ∧ l.length < s.length ∧ hp = ringSh size l (some (s, f))) := by
  refine Ctr.fin (Ctr.open 0 rfl (by simp) fun x hx => in_ring_Ring_int_grow (by simp) ?_)
  match x, hx with
  | none, ⟨e, h⟩ =>
    subst e
    have h2 : imin size 1 = ((1 : Nat) : Int) := by rw [imin_eq]; omega
    simp (disch := first | omega | simp) [mc_ring_Ring_int_grow, ringSh, w64, h2]
    refine Fin.same (by simp) ⟨[0], 0, ⟨h, by simpa using h.1, by simp, by simp, by simp⟩, by simp, by simp⟩
  | some (s, f), h =>
    obtain ⟨h1, h2, h3, h4, h5⟩ := id h
    obtain ⟨m, hm, hm1, hm2⟩ : ∃ m : Nat, imin size (2 * (s.length : Int) + 1) = m ∧ m ≤ size ∧ (l.length < size → s.length = l.length → s.length < m) := by
      by_cases h : 2 * (s.length : Int) + 1 < size
      · exact ⟨2 * s.length + 1, by rw [imin_eq]; omega, by omega, by omega⟩
      · exact ⟨size, by rw [imin_eq]; omega, by omega, by omega⟩
    have h6 : ¬ s.length = f := by omega
    have h7 : f ≤ s.length := by omega
    by_cases h8 : l.length < s.length
    · simp [mc_ring_Ring_int_grow, ringSh, h8]
      exact Fin.same (by simp) ⟨s, f, h, h8, rfl⟩
    have h9 := hm2 hl (by omega)
    have e1 : ¬ m = s.length - f := by omega
    have e0 : min (s.length - f) m = s.length - f := by omega
    have e6 : s.length ≤ m + f := by omega
    have e7 : (m : Int) ≤ 140737488355328 ∧ 8 * (m : Int) ≤ 281474976710656 := by omega
    simp (disch := first | omega | simp) [mc_ring_Ring_int_grow, ringSh, w64, hm, h6, h7, h8, e0, e1, e6, e7]
    refine Fin.sel [0, 2] (.tup []) _ ⟨by simp, by simp, rfl, ?_⟩ ⟨_, 0, ringOK_grow h (by omega) h9 hm1, by simp; omega, rfl⟩
    have e2 : m = s.length - f + (min f s.length + (m - s.length)) := by omega
    have e4 : List.take (s.length - f) (List.drop f s) = List.drop f s := List.take_of_length_le (by simp)
    simp [e4, ← e2]
    rw [List.drop_append, List.drop_eq_nil_of_le (by simp)]
    simp
    omega
end Go.Proofs.Ytaplfpelnmabpaa

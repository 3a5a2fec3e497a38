import Derived.Test.YtaplfpelnmabpaaGe
namespace Go.Proofs.Ytaplfpelnmabpaa
open Go Go.Vc
set_option linter.unusedSimpArgs false
set_option linter.unusedVariables false
set_option maxRecDepth 100000
set_option maxHeartbeats 4000000

theorem ref14_Max : Ctr Try.prog F_egressref14_Max [] [] (fun s hp => s = uv 18446744073709551615 ∧ hp = []) := by
  refine in_egressref14_Max (by simp) ?_
  simp [mc_egressref14_Max]
  refine Ctr.useEq ref01_Max [] (by simp) ?_
  simp
/-- What is read of a slice's beginning. -/
theorem SrcI.take {k : IntKind} {l : List Int} {B : Blk} {off cap : Nat} (h : SrcI k l B (some (off, cap))) {n : Nat} (hn : n ≤ l.length) : SrcI k (l.take n) B (some (off, cap)) := by
  refine ⟨by rw [List.length_take]; have := h.1; omega, fun i x hx => ?_⟩
  refine h.2 i x ?_
  unfold ivs at hx ⊢
  rw [List.getElem?_map] at hx ⊢
  rw [List.getElem?_take] at hx
  split at hx
  · exact hx
  · cases hx
theorem psum_all {ws l : List Int} {n : Nat} (hn : n ≤ l.length) : psum ws l n = usum ((l.take n).map (ofW ws)) := rfl
theorem ref14_Step {l ws : List Int} {limit : Int} {ol o : Option (Nat × Nat)} {BL B : Blk} (hol : SrcI .i64 l BL ol) (hBL : Plain BL) (ho : SrcI .u64 ws B o) (hB : Plain B) (hw : UOK ws) (hl : l.length ≤ 1000000) (hlim : limit ≤ 18446744073709551615) :
    Ctr Try.prog F_egressref14_Step [raV 0 l.length ol, uv limit, raV 1 ws.length o] [BL, B] (fun s hp => ∃ n : Nat, IsAct ws limit l n ∧ s = iv n ∧ hp = [BL, B]) := by
  refine Ctr.fin (in_egressref14_Step (by simp) ?_)
  have hll := srcI_len (t := ty_slice_int) (el := ty_int) (s := 1) hol 0 (by simp)
  simp only [ty_slice_int] at hll
  simp [mc_egressref14_Step]
  refine ⟨{ i : Nat // i ≤ l.length ∧ ∀ j, j < i → j = 0 ∨ psum ws l (j + 1) ≤ limit }, fun i => ([(0, raV 0 l.length ol), (1, uv limit), (2, raV 1 ws.length o), (7, iv (i.1 : Nat))], [BL, B]), fun i => l.length - i.1, ⟨⟨0, by simp⟩, Le.by [0, 1] (by simp [hB.1, hB.2, hBL.1, hBL.2])⟩, fun i => ?_⟩
  obtain ⟨i, hi, hok⟩ := i
  simp [hll]
  refine ⟨fun hil => ?_, fun hge => ?_⟩
  · obtain ⟨x, hx⟩ : ∃ x, l[i]? = some x := ⟨_, List.getElem?_eq_getElem hil⟩
    obtain ⟨off, cap, hol0, hc, hR⟩ := hol.some_ne (fun e => by simp [e] at hil)
    subst hol0
    have hwi : IntKind.i64.wrap ((i : Int) + 1) = (i : Int) + 1 := w64 (by omega)
    have hc2 : i + 1 ≤ cap := by omega
    have hln : (l.take (i + 1)).length = i + 1 := by rw [List.length_take]; omega
    have hps : usum ((l.take (i + 1)).map (ofW ws)) = psum ws l (i + 1) := rfl
    have hp0 := psum_nonneg hw l (i + 1)
    simp [hil, hwi]
    refine ⟨by omega, ?_⟩
    refine Ctr.useEq (egressref13_Weight (ws := ws) (xs := l.take (i + 1)) (o := o) (ox := some (off, cap)) (B := B) (BX := BL) ho hB (hol.take (by omega)) hBL hw (by omega)) [1, 0] (by simp [hln, hB.1, hB.2, hBL.1, hBL.2]) ?_
    rw [addR_eq, hps]
    have next : (i = 0 ∨ psum ws l (i + 1) ≤ limit) → (i + 1 ≤ l.length ∧ ∀ j, j < i + 1 → j = 0 ∨ psum ws l (j + 1) ≤ limit) := fun h => ⟨by omega, fun j hj => by
      rcases Nat.lt_or_ge j i with h' | h'
      · exact hok j h'
      · obtain rfl : j = i := by omega
        exact h⟩
    by_cases h0 : i = 0
    · subst h0
      simp [hB.2, hBL.2, hwi]
      exact ⟨1, Le.by [0, 1] (by simp [hB.1, hB.2, hBL.1, hBL.2]), by simpa using next (.inl rfl), by omega⟩
    · have hi0 : 0 < i := by omega
      have hdone : ∀ hp', hp' = [BL, B] → limit < psum ws l (i + 1) → Vc.Fin 2 (fun s hp => ∃ n : Nat, IsAct ws limit l n ∧ s = iv n ∧ hp = [BL, B]) (iv i) hp' := fun hp' e h => by
        subst e
        exact Fin.cut 2 (Ent.refl _) (by simp [hB.1, hBL.1]) ⟨i, ⟨hi, hok, .inr ⟨hi0, h⟩⟩, by simp⟩
      by_cases hle : psum ws l (i + 1) ≤ limit
      · have hm : psum ws l (i + 1) ≤ 18446744073709551615 := by omega
        have hgt : (limit < psum ws l (i + 1)) = False := eq_false (by omega)
        simp [hB.2, hBL.2, hwi, hi0, hm, hgt]
        exact ⟨i + 1, Le.by [0, 1] (by simp [hB.1, hB.2, hBL.1, hBL.2]), next (.inr hle), by omega⟩
      · have hgt : limit < psum ws l (i + 1) := by omega
        by_cases hm : psum ws l (i + 1) ≤ 18446744073709551615
        · simp [hB.2, hBL.2, hi0, hm, hgt]
          exact hdone _ rfl hgt
        · simp [hB.2, hBL.2, hi0, hm]
          exact hdone _ rfl hgt
  · obtain rfl : i = l.length := by omega
    exact Fin.cut 2 (Ent.refl _) (by simp [hB.1, hBL.1]) ⟨l.length, ⟨hi, hok, .inl rfl⟩, by simp⟩
end Go.Proofs.Ytaplfpelnmabpaa

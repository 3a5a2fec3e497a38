import Derived.Test.YtaplfpelnmabpaaGj
namespace Go.Proofs.Ytaplfpelnmabpaa
open Go Go.Vc
set_option linter.unusedSimpArgs false
set_option linter.unusedVariables false
set_option maxRecDepth 100000
set_option maxHeartbeats 4000000

/-- ActivateWaits is true. -/
theorem law_Waits {l ws : List Int} {limit : Int} {ol o : Option (Nat × Nat)} {BL B : Blk} (hol : SrcI .i64 l BL ol) (hBL : Plain BL) (ho : SrcI .u64 ws B o) (hB : Plain B) (hw : UOK ws) (hlim : limit ≤ 18446744073709551615) :
    Ctr Try.prog F_egresslaw14_ActivateWaits [raV 0 l.length ol, uv limit, raV 1 ws.length o] [BL, B] (fun s _ => s = bv true) := by
  refine in_egresslaw14_ActivateWaits (by simp) ?_
  have hll := srcI_len (t := ty_slice_int) (el := ty_int) (s := 1) hol 0 (by simp)
  have hlw := srcI_len (t := ty_slice_uint64) (el := ty_uint64) (s := 1) ho 1 (by simp)
  simp only [ty_slice_int, ty_slice_uint64] at hll hlw
  by_cases hl : l.length ≤ 40
  · have hl2 : ¬ 40 < (l.length : Int) := by omega
    by_cases hq : ws.length ≤ 100
    · have hq2 : ¬ 100 < (ws.length : Int) := by omega
      by_cases hz : ws.length = 0
      · obtain rfl : ws = [] := List.length_eq_zero_iff.1 hz
        have hlw0 : lenV Try.prog 24 (raV 1 0 o) = some 0 := by simpa using hlw
        simp [mc_egresslaw14_ActivateWaits, hll, hlw0, hl2]
        refine Ctr.useEq law_alive [] (by simp) ?_
        simp
      · have hne : ws ≠ [] := fun e => hz (by rw [e]; rfl)
        obtain ⟨off, cap, e0, hc, hR⟩ := ho.some_ne hne
        subst e0
        obtain ⟨w, hwx⟩ : ∃ w, ws[0]? = some w := ⟨_, List.getElem?_eq_getElem (by omega)⟩
        have hr := hR 0 (uv w) (by unfold ivs; rw [List.getElem?_map, hwx]; rfl)
        rw [Nat.add_zero] at hr
        have hwt := hw w (List.mem_of_getElem? hwx)
        have hpos : 0 < ws.length := by omega
        simp [mc_egresslaw14_ActivateWaits, hll, hlw, hl2, hq2, hne]
        refine Ctr.useEq (law_queue hol hBL (by omega)) [0] (by simp [hBL.1, hBL.2]) ?_
        simp [hB.2, hBL.2, hr, hpos]
        refine Ctr.useEq law_alive [] (by simp) ?_
        simp
        refine Ctr.useEq (activate_Wait (size := max l.length 1) (l := l) (limit := limit) (weight := w) ho hB hw (by omega) hlim hwt) [2, 1] (by simp [hB.1, hB.2]) ?_
        simp [hB.2, hBL.2]
        refine Ctr.useEq (ref14_Wait (l := l) (limit := limit) (weight := w) hol hBL ho hB hw (by omega) hlim hwt) [0, 1] (by simp [hB.1, hB.2, hBL.1, hBL.2]) ?_
        simp [hB.2, hBL.2]
        refine Ctr.use (ring_All (size := max l.length 1) (l := l) (by omega)) [2] (by simp) fun s hc _ ⟨ob, hob, e1, e2⟩ => ?_
        subst e1 e2
        simp [hBL.2, hB.2]
        refine Ctr.useEq (slices_EqSame (l := l) (o := ofOwn ob) (o' := ol) (B := slB (ivs .i64 l) ty_int 1 ob) (B' := BL) (srcI_sl hob _) (plain_slB _ _ _ _ _) hol hBL (by omega)) [3, 0] (by simp [← slV_ra, hBL.1, hBL.2]) ?_
        simp
    · have hq2 : 100 < (ws.length : Int) := by omega
      simp [mc_egresslaw14_ActivateWaits, hll, hlw, hl2, hq2]
      refine Ctr.useEq law_alive [] (by simp) ?_
      simp
  · have hl2 : 40 < (l.length : Int) := by omega
    simp [mc_egresslaw14_ActivateWaits, hll, hlw, hl2]
    refine Ctr.useEq law_alive [] (by simp) ?_
    simp
end Go.Proofs.Ytaplfpelnmabpaa

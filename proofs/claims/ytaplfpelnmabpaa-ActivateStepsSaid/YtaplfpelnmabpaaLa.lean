import Derived.Test.YtaplfpelnmabpaaGj
namespace Go.Proofs.Ytaplfpelnmabpaa
open Go Go.Vc
set_option linter.unusedSimpArgs false
set_option linter.unusedVariables false
set_option maxRecDepth 100000
set_option maxHeartbeats 4000000

@[simp] theorem slB_e_lt (el : TypeId) (sz n : Nat) (o : Option Nat) : (slB [] el sz o).lt n ↔ True := by simp; exact slB_lt _ _ _ _ _ (by simp)
/-- ActivateSteps is true. -/
theorem law_Steps {l ws : List Int} {limit : Int} {ol o : Option (Nat × Nat)} {BL B : Blk} (hol : SrcI .i64 l BL ol) (hBL : Plain BL) (ho : SrcI .u64 ws B o) (hB : Plain B) (hw : UOK ws) (hlim : limit ≤ 18446744073709551615) :
    Ctr Try.prog F_egresslaw14_ActivateSteps [raV 0 l.length ol, uv limit, raV 1 ws.length o] [BL, B] (fun s _ => s = bv true) := by
  refine in_egresslaw14_ActivateSteps (by simp) ?_
  have hll := srcI_len (t := ty_slice_int) (el := ty_int) (s := 1) hol 0 (by simp)
  have hlw := srcI_len (t := ty_slice_uint64) (el := ty_uint64) (s := 1) ho 1 (by simp)
  simp only [ty_slice_int, ty_slice_uint64] at hll hlw
  by_cases hl : l.length ≤ 60
  · by_cases hq : ws.length ≤ 100
    · have hl2 : ¬ 60 < (l.length : Int) := by omega
      have hq2 : ¬ 100 < (ws.length : Int) := by omega
      simp [mc_egresslaw14_ActivateSteps, hll, hlw, hl2, hq2]
      refine Ctr.useEq (law_queue hol hBL (by omega)) [0] (by simp [hBL.1, hBL.2]) ?_
      simp [hB.2, hBL.2]
      refine Ctr.use (activate_Step (size := max l.length 1) (l := l) (limit := limit) ho hB hw (by omega) hlim) [2, 1] (by simp [hB.1, hB.2]) fun s hc _ ⟨n, hn, oa, hoa, e1, e2⟩ => ?_
      subst e1 e2
      simp [hB.2, hBL.2]
      refine Ctr.use (ref14_Step (l := l) (limit := limit) hol hBL ho hB hw (by omega) hlim) [0, 1] (by simp [hB.1, hB.2, hBL.1, hBL.2]) fun s hc _ ⟨m, hm, e1, e2⟩ => ?_
      obtain rfl := hn.uniq hm
      subst e1 e2
      simp [hB.2, hBL.2]
      refine maskK.by [] ?_
      simp
      refine Ctr.useEq law_alive [] (by simp) ?_
      have hnl := hn.le
      have hml : min n l.length = n := by omega
      have hmd : l.length - n ≤ 1048576 := by omega
      rcases ol with _ | ⟨off, cap⟩
      · obtain ⟨e0, eb⟩ := hol
        subst e0 eb
        obtain rfl : n = 0 := by simpa using hnl
        simp
        refine Ctr.useEq (slices_EqSame (l := []) (o := ofOwn oa) (o' := none) (B := slB (ivs .i64 []) ty_int 1 oa) (B' := .any) (srcI_sl (l := []) hoa _) (plain_slB _ _ _ _ _) ⟨rfl, rfl⟩ ⟨fun _ => trivial, fun _ => rfl⟩ (by simp)) [3, 0] (by simp [← slV_ra]) ?_
        simp
        refine Ctr.use (ring_All (size := 1) (l := []) (by simp)) [2] (by simp) fun s hc _ ⟨ob, hob, e1, e2⟩ => ?_
        subst e1 e2
        simp
        refine Ctr.useEq (slices_EqSame (l := []) (o := ofOwn ob) (o' := none) (B := slB (ivs .i64 []) ty_int 1 ob) (B' := .any) (srcI_sl (l := []) hob _) (plain_slB _ _ _ _ _) ⟨rfl, rfl⟩ ⟨fun _ => trivial, fun _ => rfl⟩ (by simp)) [4, 0] (by simp [← slV_ra]) ?_
        simp
      · have hc := hol.1
        have hc2 : n ≤ cap := by omega
        simp [hc2]
        refine Ctr.useEq (slices_EqSame (l := l.take n) (o := ofOwn oa) (o' := some (off, cap)) (B := slB (ivs .i64 (l.take n)) ty_int 1 oa) (B' := BL) (srcI_sl (by rw [List.length_take, hml]; exact hoa) _) (plain_slB _ _ _ _ _) (hol.take hnl) hBL (by rw [List.length_take]; omega)) [3, 0] (by simp [← slV_ra, hml, hBL.1, hBL.2]) ?_
        simp [hml, hBL.2, hc2, hc, hnl]
        refine Ctr.use (ring_All (size := max l.length 1) (l := l.drop n) (by rw [List.length_drop]; omega)) [2] (by simp) fun s hc _ ⟨ob, hob, e1, e2⟩ => ?_
        subst e1 e2
        simp [hc2, hBL.2, hc]
        rw [List.length_drop] at hob
        refine Ctr.useEq (slices_EqSame (l := l.drop n) (o := ofOwn ob) (o' := some ((if cap = n then off else off + n), cap - n)) (B := slB (ivs .i64 (l.drop n)) ty_int 1 ob) (B' := BL) (srcI_sl (by rw [List.length_drop]; exact hob) _) (plain_slB _ _ _ _ _) (hol.drop hnl) hBL (by rw [List.length_drop]; omega)) [4, 0] (by simp [← slV_ra, hBL.1, hBL.2]) ?_
        simp
    · have hl2 : ¬ 60 < (l.length : Int) := by omega
      have hq2 : 100 < (ws.length : Int) := by omega
      simp [mc_egresslaw14_ActivateSteps, hll, hlw, hl2, hq2]
      refine Ctr.useEq law_alive [] (by simp) ?_
      simp
  · have hl2 : 60 < (l.length : Int) := by omega
    simp [mc_egresslaw14_ActivateSteps, hll, hlw, hl2]
    refine Ctr.useEq law_alive [] (by simp) ?_
    simp
end Go.Proofs.Ytaplfpelnmabpaa

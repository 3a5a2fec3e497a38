import Derived.Test.YtaplfpelnmabpaaGj
namespace Go.Proofs.Ytaplfpelnmabpaa
open Go Go.Vc
set_option linter.unusedSimpArgs false
set_option linter.unusedVariables false
set_option maxRecDepth 100000
set_option maxHeartbeats 4000000

/-- ActivateDrains is true. -/
theorem law_Drains {l ms ws : List Int} {ol om o : Option (Nat × Nat)} {BL BM B : Blk} (hol : SrcI .i64 l BL ol) (hBL : Plain BL) (hom : SrcI .u64 ms BM om) (hBM : Plain BM) (hms : UOK ms) (ho : SrcI .u64 ws B o) (hB : Plain B) (hw : UOK ws) :
    Ctr Try.prog F_egresslaw14_ActivateDrains [raV 0 l.length ol, raV 1 ms.length om, raV 2 ws.length o] [BL, BM, B] (fun s _ => s = bv true) := by
  refine in_egresslaw14_ActivateDrains (by simp) ?_
  have hll := srcI_len (t := ty_slice_int) (el := ty_int) (s := 1) hol 0 (by simp)
  have hlm := srcI_len (t := ty_slice_uint64) (el := ty_uint64) (s := 1) hom 1 (by simp)
  have hlw := srcI_len (t := ty_slice_uint64) (el := ty_uint64) (s := 1) ho 2 (by simp)
  simp only [ty_slice_int, ty_slice_uint64] at hll hlw hlm
  by_cases hl : l.length ≤ 60
  · have hl2 : ¬ 60 < (l.length : Int) := by omega
    by_cases hqm : ms.length ≤ 100
    · have hqm2 : ¬ 100 < (ms.length : Int) := by omega
      by_cases hq : ws.length ≤ 100
      · have hq2 : ¬ 100 < (ws.length : Int) := by omega
        simp [mc_egresslaw14_ActivateDrains, hll, hlw, hlm, hl2, hq2, hqm2]
        refine Ctr.useEq (law_queue hol hBL (by omega)) [0] (by simp [hBL.1, hBL.2]) ?_
        simp [hB.2, hBL.2, hBM.2, hll]
        refine ⟨{ p : Nat × Nat × Option Nat // p.1 ≤ p.2.1 ∧ p.2.1 ≤ l.length ∧ SlOK p.2.1 p.2.2 }, fun p => ([(0, raV 0 l.length ol), (1, raV 1 ms.length om), (2, raV 2 ws.length o), (7, .ptr 3 0), (8, slV 4 p.1.2.1 p.1.2.2), (32, iv l.length), (33, iv (p.1.1 : Nat))], [BL, BM, B, .res (ringR (max l.length 1) (l.drop p.1.2.1)), slB (ivs .i64 (l.take p.1.2.1)) ty_int 1 p.1.2.2]), fun p => l.length - p.1.1,
          ⟨⟨(0, 0, none), by simp⟩, Le.ent ent_more [0, 1, 2, 3, 4] (by simp [hB.1, hB.2, hBL.1, hBL.2, hBM.1, hBM.2])⟩, fun p => ?_⟩
        obtain ⟨⟨i, j, oo⟩, hij, hj, hoo⟩ := p
        simp only at hij hj hoo
        simp
        refine ⟨fun hlt => ?_, fun hge => ?_⟩
        · have hwi : IntKind.i64.wrap ((i : Int) + 1) = (i : Int) + 1 := w64 (by omega)
          have hdl : (l.drop j).length = l.length - j := by simp
          have body : True := trivial
          by_cases him : i < ms.length
          · obtain ⟨off, cap, e0, hc, hR⟩ := hom.some_ne (fun e => by simp [e] at him)
            subst e0
            obtain ⟨lim, hlx⟩ : ∃ w, ms[i]? = some w := ⟨_, List.getElem?_eq_getElem him⟩
            have hr := hR i (uv lim) (by unfold ivs; rw [List.getElem?_map, hlx]; rfl)
            have hlim := (hms lim (List.mem_of_getElem? hlx)).2
            simp [hlt, hlm, him, hr]
            refine ⟨?_, fun h => by omega⟩
            refine Ctr.useEq (ring_Len (size := max l.length 1) (l := l.drop j)) [3] (by simp) ?_
            simp
            refine Ctr.use (activate_Step (size := max l.length 1) (l := l.drop j) (limit := lim) ho hB hw (by rw [hdl]; omega) hlim) [3, 2] (by simp [hB.1, hB.2]) fun s hc _ ⟨n, hn, ob, hob, e1, e2⟩ => ?_
            subst e1 e2
            have hnl := hn.le
            rw [hdl] at hnl
            have hst := hn.stop
            rw [hdl] at hst
            have hlb : lenV Try.prog 22 (slV 5 n ob) = some (n : Int) := by
              cases ob with
              | none => have h0 : n = 0 := hob; rw [h0]; simp
              | some _ => simp
            simp [hlb, hB.2, hBL.2, hBM.2]
            by_cases hz : l.length - j = 0
            · have hn0 : n = 0 := by omega
              subst hn0
              have hjl : j = l.length := by omega
              subst hjl
              simp
              refine Ctr.useEq (ring_Len (size := max l.length 1) (l := [])) [3] (by simp) ?_
              simp [hB.2, hBL.2, hBM.2]
              rcases oo with _ | co
              · have h0 : l.length = 0 := hoo
                rcases ob with _ | cb
                · simp [hwi]
                  exact ⟨i + 1, l.length, none, Le.by [0, 1, 2, 3, 4] (by simp [hB.1, hB.2, hBL.1, hBL.2, hBM.1, hBM.2]), by simp; omega, by omega⟩
                · simp [hwi]
                  exact ⟨i + 1, l.length, none, Le.by [0, 1, 2, 3, 4] (by simp [hB.1, hB.2, hBL.1, hBL.2, hBM.1, hBM.2]), by simp; omega, by omega⟩
              · have hoo' : l.length ≤ co := hoo
                rcases ob with _ | cb
                · simp [hwi]
                  exact ⟨hoo', i + 1, l.length, some co, Le.by [0, 1, 2, 3, 4] (by simp [hB.1, hB.2, hBL.1, hBL.2, hBM.1, hBM.2]), by simp; omega, by omega⟩
                · simp [hwi]
                  exact ⟨⟨hoo', by omega, by omega⟩, fun c hc' => ⟨i + 1, l.length, some c, Le.by [0, 1, 2, 3, 6] (by simp [hB.1, hB.2, hBL.1, hBL.2, hBM.1, hBM.2]), by simp; omega, by omega⟩⟩
            · have hz1 : 0 < l.length - j := by omega
              have hn0 : n ≠ 0 := by omega
              have hz2 : j < l.length := by omega
              simp [hz2, hn0]
              refine ⟨fun _ => ?_, fun h => by omega⟩
              refine Ctr.useEq (ring_Len (size := max l.length 1) (l := l.drop (j + n))) [3] (by simp) ?_
              have hsub : IntKind.i64.wrap (((l.length - j : Nat) : Int) - ((l.length - (j + n) : Nat) : Int)) = n := by rw [w64 (by omega)]; omega
              rcases ob with _ | cb
              · exact absurd hob hn0
              · simp [hsub, hB.2, hBL.2, hBM.2]
                have htk : l.take j ++ (l.drop j).take n = l.take (j + n) := List.take_add.symm
                refine apV_slV (cs := ivs .i64 (l.take j)) (l := ivs .i64 ((l.drop j).take n)) (by simp) hoo (by simp; omega) (by simp) hn0 (by simp; omega) (by simp; exact ⟨by omega, by rw [List.take_take, Nat.min_self]⟩) fun cd hcd => ?_
                simp [hwi]
                exact ⟨i + 1, j + n, some cd, Le.by [0, 1, 2, 3, 6] (by simp [hB.1, hB.2, hBL.1, hBL.2, hBM.1, hBM.2, htk]), ⟨by omega, by omega, by simpa using hcd⟩, by omega⟩
          · have him2 : ¬ ((i : Int) < ms.length) := by omega
            have hlim : (0 : Int) ≤ 18446744073709551615 := by omega
            simp [hlt, hlm, him, him2]
            intro _
            refine Ctr.useEq (ring_Len (size := max l.length 1) (l := l.drop j)) [3] (by simp) ?_
            simp
            refine Ctr.use (activate_Step (size := max l.length 1) (l := l.drop j) (limit := 0) ho hB hw (by rw [hdl]; omega) hlim) [3, 2] (by simp [hB.1, hB.2]) fun s hc _ ⟨n, hn, ob, hob, e1, e2⟩ => ?_
            subst e1 e2
            have hnl := hn.le
            rw [hdl] at hnl
            have hst := hn.stop
            rw [hdl] at hst
            have hlb : lenV Try.prog 22 (slV 5 n ob) = some (n : Int) := by
              cases ob with
              | none => have h0 : n = 0 := hob; rw [h0]; simp
              | some _ => simp
            simp [hlb, hB.2, hBL.2, hBM.2]
            by_cases hz : l.length - j = 0
            · have hn0 : n = 0 := by omega
              subst hn0
              have hjl : j = l.length := by omega
              subst hjl
              simp
              refine Ctr.useEq (ring_Len (size := max l.length 1) (l := [])) [3] (by simp) ?_
              simp [hB.2, hBL.2, hBM.2]
              rcases oo with _ | co
              · have h0 : l.length = 0 := hoo
                rcases ob with _ | cb
                · simp [hwi]
                  exact ⟨i + 1, l.length, none, Le.by [0, 1, 2, 3, 4] (by simp [hB.1, hB.2, hBL.1, hBL.2, hBM.1, hBM.2]), by simp; omega, by omega⟩
                · simp [hwi]
                  exact ⟨i + 1, l.length, none, Le.by [0, 1, 2, 3, 4] (by simp [hB.1, hB.2, hBL.1, hBL.2, hBM.1, hBM.2]), by simp; omega, by omega⟩
              · have hoo' : l.length ≤ co := hoo
                rcases ob with _ | cb
                · simp [hwi]
                  exact ⟨hoo', i + 1, l.length, some co, Le.by [0, 1, 2, 3, 4] (by simp [hB.1, hB.2, hBL.1, hBL.2, hBM.1, hBM.2]), by simp; omega, by omega⟩
                · simp [hwi]
                  exact ⟨⟨hoo', by omega, by omega⟩, fun c hc' => ⟨i + 1, l.length, some c, Le.by [0, 1, 2, 3, 6] (by simp [hB.1, hB.2, hBL.1, hBL.2, hBM.1, hBM.2]), by simp; omega, by omega⟩⟩
            · have hz1 : 0 < l.length - j := by omega
              have hn0 : n ≠ 0 := by omega
              have hz2 : j < l.length := by omega
              simp [hz2, hn0]
              refine ⟨fun _ => ?_, fun h => by omega⟩
              refine Ctr.useEq (ring_Len (size := max l.length 1) (l := l.drop (j + n))) [3] (by simp) ?_
              have hsub : IntKind.i64.wrap (((l.length - j : Nat) : Int) - ((l.length - (j + n) : Nat) : Int)) = n := by rw [w64 (by omega)]; omega
              rcases ob with _ | cb
              · exact absurd hob hn0
              · simp [hsub, hB.2, hBL.2, hBM.2]
                have htk : l.take j ++ (l.drop j).take n = l.take (j + n) := List.take_add.symm
                refine apV_slV (cs := ivs .i64 (l.take j)) (l := ivs .i64 ((l.drop j).take n)) (by simp) hoo (by simp; omega) (by simp) hn0 (by simp; omega) (by simp; exact ⟨by omega, by rw [List.take_take, Nat.min_self]⟩) fun cd hcd => ?_
                simp [hwi]
                exact ⟨i + 1, j + n, some cd, Le.by [0, 1, 2, 3, 6] (by simp [hB.1, hB.2, hBL.1, hBL.2, hBM.1, hBM.2, htk]), ⟨by omega, by omega, by simpa using hcd⟩, by omega⟩
        · have hjl : j = l.length := by omega
          subst hjl
          refine Ctr.useEq law_alive [] (by simp) ?_
          simp
          refine Ctr.useEq (slices_EqSame (l := l) (o := ofOwn oo) (o' := ol) (B := slB (ivs .i64 l) ty_int 1 oo) (B' := BL) (srcI_sl hoo _) (plain_slB _ _ _ _ _) hol hBL (by omega)) [4, 0] (by simp [← slV_ra, hBL.1, hBL.2]) ?_
          simp [hBL.2, hBM.2, hB.2]
          refine Ctr.useEq (ring_Len (size := max l.length 1) (l := [])) [3] (by simp) ?_
          simp
      · have hq2 : 100 < (ws.length : Int) := by omega
        simp [mc_egresslaw14_ActivateDrains, hll, hlw, hlm, hl2, hq2, hqm2]
        refine Ctr.useEq law_alive [] (by simp) ?_
        simp
    · have hqm2 : 100 < (ms.length : Int) := by omega
      simp [mc_egresslaw14_ActivateDrains, hll, hlw, hlm, hl2, hqm2]
      refine Ctr.useEq law_alive [] (by simp) ?_
      simp
  · have hl2 : 60 < (l.length : Int) := by omega
    simp [mc_egresslaw14_ActivateDrains, hll, hlw, hlm, hl2]
    refine Ctr.useEq law_alive [] (by simp) ?_
    simp
end Go.Proofs.Ytaplfpelnmabpaa

import Derived.Test.YtaplfpelnmabpaaGj
namespace Go.Proofs.Ytaplfpelnmabpaa
open Go Go.Vc
set_option linter.unusedSimpArgs false
set_option linter.unusedVariables false
set_option maxRecDepth 100000
set_option maxHeartbeats 4000000

theorem fold_ge (limit : Int) : ∀ (C : List Int) (st : Int × Bool × Int), st.1 ≤ (C.foldl (wstep limit) st).1
  | [], st => by simp
  | w :: C, st => by
    have h := fold_ge limit C (wstep limit st w)
    have h2 : st.1 ≤ (wstep limit st w).1 := by unfold wstep; split <;> (simp only; omega)
    simp only [List.foldl_cons]
    omega
theorem wfold_le {limit : Int} {S : List Int} : ∀ i, 1 ≤ i → i ≤ S.length → (wfold limit (S.take i)).1 ≤ i
  | 0, h, _ => by omega
  | i + 1, _, hi => by
    obtain ⟨w, hw⟩ : ∃ w, S[i]? = some w := ⟨_, List.getElem?_eq_getElem (by omega)⟩
    rw [List.take_add_one, hw, Option.toList_some, wfold_snoc]
    by_cases h0 : i = 0
    · subst h0
      simp [wfold, wstep]
    · have := wfold_le (limit := limit) (S := S) i (by omega) (by omega)
      unfold wstep
      split <;> (simp; omega)
theorem psum_map (ws L : List Int) (j i : Nat) : psum ws (L.drop j) i = usum (((L.map (ofW ws)).drop j).take i) := by
  unfold psum
  rw [List.map_take, List.map_drop]
/-- ActivateTrue is true. -/
theorem law_True {l ws : List Int} {limit : Int} {ol o : Option (Nat × Nat)} {BL B : Blk} (hol : SrcI .i64 l BL ol) (hBL : Plain BL) (ho : SrcI .u64 ws B o) (hB : Plain B) (hw : UOK ws) (hlim : limit ≤ 18446744073709551615) :
    Ctr Try.prog F_egresslaw14_ActivateTrue [raV 0 l.length ol, uv limit, raV 1 ws.length o] [BL, B] (fun s _ => s = bv true) := by
  refine in_egresslaw14_ActivateTrue (by simp) ?_
  have hll := srcI_len (t := ty_slice_int) (el := ty_int) (s := 1) hol 0 (by simp)
  have hlw := srcI_len (t := ty_slice_uint64) (el := ty_uint64) (s := 1) ho 1 (by simp)
  simp only [ty_slice_int, ty_slice_uint64] at hll hlw
  by_cases hl : l.length ≤ 40
  · have hl2 : ¬ 40 < (l.length : Int) := by omega
    by_cases hq : ws.length ≤ 100
    · have hq2 : ¬ 100 < (ws.length : Int) := by omega
      by_cases hz : ws.length = 0
      · obtain rfl : ws = [] := List.length_eq_zero_iff.1 hz
        have hlw0 : lenV Try.prog 24 (raV 1 0 o) = some 0 := by simpa using hlw
        simp [mc_egresslaw14_ActivateTrue, hll, hlw0, hl2]
        refine Ctr.useEq law_alive [] (by simp) ?_
        simp
      · have hne : ws ≠ [] := fun e => hz (by rw [e]; rfl)
        obtain ⟨off, cap, e0, hc, hR⟩ := ho.some_ne hne
        subst e0
        obtain ⟨w, hwx⟩ : ∃ w, ws[0]? = some w := ⟨_, List.getElem?_eq_getElem (by omega)⟩
        have hr := hR 0 (uv w) (by unfold ivs; rw [List.getElem?_map, hwx]; rfl)
        rw [Nat.add_zero] at hr
        have hwt := hw w (List.mem_of_getElem? hwx)
        have hpos : 0 < ws.length := by omega
        have hw1 : IntKind.i64.wrap ((l.length : Int) + 1) = ((l.length + 1 : Nat) : Int) := by rw [w64 (by omega)]; omega
        have how : ofW ws 0 = w := by
          unfold ofW
          rw [if_neg (by omega), List.getD_eq_getElem?_getD]
          simp [hwx]
        obtain ⟨A, hA⟩ : ∃ A, A = (l ++ [0]).map (ofW ws) := ⟨_, rfl⟩
        have hA2 : A = l.map (ofW ws) ++ [w] := by rw [hA, List.map_append, List.map_singleton, how]
        have hAl : A.length = l.length + 1 := by rw [hA]; simp
        obtain ⟨k, hk⟩ : ∃ k, k = (wfold limit A).1 := ⟨_, rfl⟩
        have hkr : 1 ≤ k ∧ k ≤ l.length + 1 := by
          have := wfold_ok hlim (show UOK A by rw [hA]; exact uok_map hw _) A.length (Nat.le_refl _)
          rw [List.take_length, ← hk] at this
          have h2 := this.2.2
          have h3 := wfold_le (limit := limit) (S := A) A.length (by omega) (Nat.le_refl _)
          rw [List.take_length, ← hk] at h3
          exact ⟨h2.1, by omega⟩
        simp [mc_egresslaw14_ActivateTrue, hll, hlw, hl2, hq2, hne, hw1]
        refine Ctr.useEq (ring_New (size := l.length + 1) (by omega)) [] (by simp) ?_
        simp [hB.2, hBL.2]
        refine Ctr.useEq (ring_PushS (size := l.length + 1) (l := []) (xs := l) (by simp) hol hBL) [2, 0] (by simp [hBL.1, hBL.2]) ?_
        have hmin : min l.length (l.length + 1) = l.length := by omega
        simp [hB.2, hBL.2, hll, hmin, hr, hpos]
        refine Ctr.useEq (activate_Wait (size := l.length + 1) (l := l) (limit := limit) (weight := w) ho hB hw (by omega) hlim hwt) [2, 1] (by simp [hB.1, hB.2]) ?_
        rw [← hA2, ← hk]
        simp [hB.2, hBL.2, zeros]
        refine Ctr.useEq (ring_PushS (size := l.length + 1) (l := l) (xs := [0]) (o := some (0, 1)) (B := .row (ivs .i64 [0]) 1 ty_int) (by omega) (srcI_own (by simp) _) (plain_ivs _ _ _ _)) [2, 3] (by simp [ivs_1]) ?_
        have hk1 : ¬ k < 1 := by omega
        have hk2 : ¬ ((l.length : Int) + 1 < k) := by omega
        have hw2 : IntKind.i64.wrap ((l.length : Int) + 1) = (l.length : Int) + 1 := w64 (by omega)
        have hw3 : IntKind.i64.wrap (k - 1) = k - 1 := w64 (by omega)
        simp [hll, hk1, hk2, hw2, hw3]
        obtain ⟨Q, hQ⟩ : ∃ Q, Q = l ++ [0] := ⟨_, rfl⟩
        have hQl : Q.length = l.length + 1 := by rw [hQ]; simp
        have hAQ : A = Q.map (ofW ws) := by rw [hQ]; exact hA
        have hmin2 : min 1 (l.length + 1 - l.length) = 1 := by omega
        simp [hmin2, ← hQ]
        have key : ∀ (j n : Nat) (t : Int), j < A.length → ((A.drop j).foldl (wstep limit) (t, true, 0)).1 = k → IsAct ws limit (Q.drop j) n → (n = A.length - j ∧ t = k) ∨ (n < A.length - j ∧ 0 < n ∧ ((A.drop (j + n)).foldl (wstep limit) (t + 1, true, 0)).1 = k ∧ t + 1 ≤ k) := fun j n t hj hfo hn => by
          have hdl : (Q.drop j).length = A.length - j := by rw [List.length_drop]; omega
          have hdA : (A.drop j).length = A.length - j := by simp
          have hnle := hn.le
          rw [hdl] at hnle
          have hok : ∀ i, i < n → i = 0 ∨ usum ((A.drop j).take (i + 1)) ≤ limit := fun i hi => by rw [hAQ, ← psum_map]; exact hn.ok i hi
          have hst := hn.stop
          rw [hdl, psum_map, ← hAQ] at hst
          by_cases he : n = A.length - j
          · have hdone := fold_done (limit := limit) (C := A.drop j) t (fun e => by rw [e] at hdA; simp at hdA; omega) (fun i hi => hok i (by rw [hdA] at hi; omega))
            rw [hdone] at hfo
            exact .inl ⟨he, hfo⟩
          · have hstop : limit < usum ((A.drop j).take (n + 1)) := by omega
            have hnx := fold_next (limit := limit) (C := A.drop j) t (n := n) (by omega) (by omega) hok hstop
            rw [hnx, List.drop_drop] at hfo
            have hge := fold_ge limit (A.drop (j + n)) (t + 1, true, 0)
            rw [hfo] at hge
            exact .inr ⟨by omega, by omega, hfo, hge⟩
        refine ⟨{ p : Nat × Nat // p.2 < A.length ∧ (p.1 : Int) ≤ k - 1 ∧ ((A.drop p.2).foldl (wstep limit) ((p.1 : Int) + 1, true, 0)).1 = k }, fun p => ([(1, uv limit), (2, .slc 1 off ws.length cap), (7, .ptr 2 0), (60, iv (k - 1)), (61, iv (p.1.1 : Nat))], [BL, B, .res (ringR (l.length + 1) (Q.drop p.1.2))]), fun p => (k - 1 - (p.1.1 : Int)).toNat,
          ⟨⟨(0, 0), ⟨by simp only; omega, by simp only; omega, by simp [hk, wfold]⟩⟩, Le.by [0, 1, 2] (by simp [hB.1, hB.2, hBL.1, hBL.2])⟩, fun p => ?_⟩
        obtain ⟨⟨t, j⟩, hj, ht, hfo⟩ := p
        simp only at hj ht hfo
        have hdl : (Q.drop j).length = A.length - j := by rw [List.length_drop]; omega
        simp
        refine ⟨fun hlt => ?_, fun hge => ?_⟩
        · have hwt1 : IntKind.i64.wrap ((t : Int) + 1) = (t : Int) + 1 := w64 (by omega)
          refine Ctr.use (activate_Step (size := l.length + 1) (l := Q.drop j) (limit := limit) (o := some (off, cap)) ho hB hw (by omega) hlim) [2, 1] (by simp [hB.1, hB.2]) fun s hc _ ⟨n, hn, ob, hob, e1, e2⟩ => ?_
          subst e1 e2
          rcases key j n ((t : Int) + 1) hj hfo hn with ⟨h1, h2⟩ | ⟨h1, h2, h3, h4⟩
          · omega
          · simp [hB.2]
            refine Ctr.useEq (ring_Len (size := l.length + 1) (l := Q.drop (j + n))) [2] (by simp) ?_
            have hlz : ¬ (Q.length - (j + n) = 0) := by omega
            simp [hlz, hwt1]
            exact ⟨t + 1, j + n, Le.by [0, 1, 2] (by simp [hB.1, hB.2, hBL.1, hBL.2]), ⟨by omega, by omega, by simpa using h3⟩, by omega⟩
        · have htk : (t : Int) + 1 = k := by omega
          refine Ctr.use (activate_Step (size := l.length + 1) (l := Q.drop j) (limit := limit) (o := some (off, cap)) ho hB hw (by omega) hlim) [2, 1] (by simp [hB.1, hB.2]) fun s hc _ ⟨n, hn, ob, hob, e1, e2⟩ => ?_
          subst e1 e2
          rcases key j n ((t : Int) + 1) hj hfo hn with ⟨h1, h2⟩ | ⟨h1, h2, h3, h4⟩
          · have hjn : j + n = Q.length := by omega
            simp [hB.2, hjn]
            refine Ctr.useEq law_alive [] (by simp) ?_
            simp
            refine Ctr.useEq (ring_Len (size := l.length + 1) (l := [])) [2] (by simp) ?_
            simp
          · omega
    · have hq2 : 100 < (ws.length : Int) := by omega
      simp [mc_egresslaw14_ActivateTrue, hll, hlw, hl2, hq2]
      refine Ctr.useEq law_alive [] (by simp) ?_
      simp
  · have hl2 : 40 < (l.length : Int) := by omega
    simp [mc_egresslaw14_ActivateTrue, hll, hlw, hl2]
    refine Ctr.useEq law_alive [] (by simp) ?_
    simp
end Go.Proofs.Ytaplfpelnmabpaa

import Derived.Test.YtggpldcdhkhdmaaMk
namespace Go.Proofs.Ytggpldcdhkhdmaa
open Go Go.Vc
set_option linter.unusedSimpArgs false
set_option linter.unusedVariables false
set_option maxRecDepth 100000
set_option maxHeartbeats 4000000

theorem vds_set0 (l : List Vd) {i : Nat} {v : Vd} (n : Int) (h : l[i]? = some v) : (vds l).set (i * 7) (uv n) = vds (l.set i { v with bal := n }) := by
  have hi := (List.getElem?_eq_some_iff.1 h).1
  have h1 := vds_set l { v with bal := n } hi
  rw [← h1]
  have h2 := fl_take Vd.c 7 Vd.c_len l i v h
  apply List.ext_getElem?
  intro j
  have hlen : (vds l).length = l.length * 7 := vds_len l
  have hle : i * 7 + 7 ≤ (vds l).length := by omega
  simp only [setR, Vd.c_len]
  rw [List.getElem?_set]
  have h3 : ∀ d, d < 7 → (vds l)[i * 7 + d]? = v.c[d]? := fun d hd => by
    rw [← h2, List.getElem?_take_of_lt hd, List.getElem?_drop]; rfl
  by_cases c1 : j < i * 7
  · rw [if_neg (by omega), List.append_assoc, List.getElem?_append_left (by rw [List.length_take]; omega), List.getElem?_take_of_lt c1]
  · by_cases c2 : j < i * 7 + 7
    · obtain ⟨d, rfl⟩ : ∃ d, j = i * 7 + d := ⟨j - i * 7, by omega⟩
      rw [List.append_assoc, List.getElem?_append_right (by rw [List.length_take]; omega), List.length_take, List.getElem?_append_left (by simp [Vd.c]; omega), show i * 7 + d - min (i * 7) (vds l).length = d by omega]
      rcases (show d = 0 ∨ d = 1 ∨ d = 2 ∨ d = 3 ∨ d = 4 ∨ d = 5 ∨ d = 6 by omega) with rfl | rfl | rfl | rfl | rfl | rfl | rfl
      · rw [if_pos (by omega), if_pos (by omega)]; rfl
      all_goals (rw [if_neg (by omega), h3 _ (by omega)]; rfl)
    · rw [if_neg (by omega), List.getElem?_append_right (by simp [List.length_take, Vd.c]; omega)]
      simp only [List.length_append, List.length_take, Vd.c_len, List.getElem?_drop]
      congr 1
      omega


/-- MergeSteps is true. -/
theorem law_Steps {l : List Vd} {o : Option (Nat × Nat)} {B : Blk} {q : List (Int × Int)} {oq : Option (Nat × Nat)} {BQ : Blk} {c : Cf} (ho : SrcOK Vd.c 7 l B o) (hB : Plain B) (hoq : SrcOK prC 2 q BQ oq) (hBQ : Plain BQ) (hv : ∀ v ∈ l, v.OK) :
    Ctr Try.prog F_egresslaw16_MergeSteps [raV 0 l.length o, raV 1 q.length oq, .agg c.c] [B, BQ] (fun s _ => s = bv true) := by
  refine in_egresslaw16_MergeSteps (by simp) ?_
  have hll := src_len ho 0 slc_22
  have hlq := src_len hoq 1 slc_23
  simp [mc_egresslaw16_MergeSteps]
  refine Ctr.use (ref03_Check (c := c)) [] (by simp) fun s hc _ ⟨r, e1, hr, e2⟩ => ?_
  subst e1 e2
  by_cases hr0 : r = 0
  · have hcf := hr.1 hr0
    have hm := hcf.merges
    by_cases hl : l.length ≤ 60
    · by_cases hq : q.length ≤ 60
      · have hl' : (l.length : Int) ≤ 60 := by omega
        have hq' : (q.length : Int) ≤ 60 := by omega
        have hl2 : ¬ 60 < (l.length : Int) := by omega
        have hq2 : ¬ 60 < (q.length : Int) := by omega
        rcases o with _ | ⟨offs, caps⟩
        · have hl0' : l.length = 0 := by rw [ho.1]; rfl
          have hl0 : l = [] := ho.1
          simp [hr0, hll, hlq, hB.2, hBQ.2, hl2, hq2, zeros]
          refine Ctr.use (merge_Step (l := l) (o := some (0, 0)) (B := .row [] 0 ty_api_Validator) (c := c) (by subst hl0; exact src_own (c := 0) (by simp) _) (by subst hl0; exact plain_own [] 0 _) hoq hBQ (by omega) (by omega) hv hm.1) [3, 1] (by simp [hB.1, hBQ.1, hB.2, hBQ.2, hl0]) fun s hc _ ⟨oo, od, hoo, hod, e1, e2⟩ => ?_
          subst e1 e2
          obtain ⟨k, hk⟩ : ∃ k, k = min q.length c.merges.toNat := ⟨_, rfl⟩
          obtain ⟨kl, kd⟩ := cSt_len l q c k (by omega)
          rw [← hk] at hod ⊢
          simp [hB.2, hBQ.2]
          refine Ctr.use (ref16_Step (l := l) (q := q) (c := c) ho hB hoq hBQ (by omega) (by omega) hv hm.1) [0, 1] (by simp [hB.1, hBQ.1, hB.2, hBQ.2]) fun s hc _ ⟨co, hco, rd, hrd, e1, e2⟩ => ?_
          subst e1 e2
          rw [← hk] at hrd ⊢
          generalize (cSt l q c k).1 = out at *
          generalize (cSt l q c k).2 = done at *
          have hlo : lenV Try.prog 22 (slV 4 l.length oo) = some (l.length : Int) := by
            cases oo with
            | none => have h0 : l.length = 0 := hoo; rw [h0]; simp
            | some _ => simp
          simp [hB.2, hBQ.2]
          refine Ctr.useEq (ref07_Same (l := out) (o := ofOwn oo) (o' := some (0, co)) (B := slB (vds out) ty_api_Validator 7 oo) (B' := .row (vds out) (co * 7) ty_api_Validator) (src_sl (by rw [kl]; exact hoo) _) ⟨fun n => by simp, fun σ => by simp⟩ (src_own (by omega) _) (plain_own _ _ _) (by omega)) [4, 6] (by simp [← slV_ra, kl]) ?_
          simp [hB.2, hBQ.2]
          refine Ctr.useEq (slices_Equal (l := done) (o := od) (o' := rd) (by rw [kd]; exact hod) (by rw [kd]; exact hrd) (by omega)) [5, 7] (by simp [kd]) ?_
          simp [hB.2, hBQ.2, hlo]
          refine ⟨{ p : Nat × List Vd // p.1 ≤ l.length ∧ p.2.length = l.length }, fun p => ([(0, raV 0 l.length none), (7, .slc 3 0 l.length 0), (8, slV 4 l.length oo), (55, iv l.length), (56, iv (p.1.1 : Nat))], (fun cur => [B, BQ, .row c.c 20 ty_api_Config, .row [] 0 ty_api_Validator, slB (vds cur) ty_api_Validator 7 oo]) p.1.2), fun p => l.length - p.1.1, ⟨⟨(0, out), by simp [kl]⟩, Le.by [0, 1, 2, 3, 4] (by simp [hl0', hB.1, hB.2, hBQ.1, hBQ.2])⟩, fun p => ?_⟩
          obtain ⟨⟨i, cur⟩, hi, hcur⟩ := p
          simp only at hi hcur
          simp
          refine ⟨fun hlt => ?_, fun hge => ?_⟩
          · obtain ⟨v, hv⟩ : ∃ v, cur[i]? = some v := ⟨_, List.getElem?_eq_getElem (by omega)⟩
            have hw : IntKind.i64.wrap ((i : Int) + 1) = (i : Int) + 1 := w64 (by omega)
            cases oo with
            | none => have h0 : l.length = 0 := hoo; omega
            | some cg =>
              have r0 : (Blk.row (vds cur) (cg * 7) 33).rd1 (i * 7) = some (uv v.bal) := by
                have := Blk_rd1 (vds_rd cur (cg * 7) 33 hv) 0 _ rfl
                exact this
              have hcl : i * 7 + 1 ≤ l.length * 7 := by omega
              rw [rd1_row] at r0
              obtain ⟨hb0, r0'⟩ := List.getElem?_eq_some_iff.1 r0
              simp only [uv] at r0'
              have hset := vds_set0 cur (IntKind.u64.wrap (v.bal + 1)) hv
              simp only [uv] at hset
              simp [hlt, r0', hcur, hset, hw, hcl]
              exact ⟨i + 1, cur.set i { v with bal := IntKind.u64.wrap (v.bal + 1) }, Le.by [0, 1, 2, 3, 4] (by simp [hl0', hB.1, hB.2, hBQ.1, hBQ.2]), ⟨by omega, by simpa using hcur⟩, by omega⟩
          · refine Ctr.useEq law_alive [] (by simp) ?_
            simp
            refine Ctr.useEq (ref07_Same (l := l) (o := some (0, 0)) (o' := none) (B := (.row [] 0 ty_api_Validator)) (B' := B) (by subst hl0; exact src_own (c := 0) (by simp) _) (plain_own [] 0 _) ho hB (by omega)) [3, 0] (by simp [hl0', hB.1, hB.2]) ?_
            simp
        · obtain ⟨h1, h2, h3⟩ := id ho
          have hl0' : (0 : Nat) = 0 := rfl
          have h2' : B.rdN offs (l.length * 7) = some (vds l) := h2
          simp [hr0, hll, hlq, hB.2, hBQ.2, hl2, hq2, zeros, h2']
          refine ⟨by omega, fun c0 hc0 => ?_⟩
          refine Ctr.use (merge_Step (l := l) (o := some (0, c0)) (B := .row (vds l) (c0 * 7) ty_api_Validator) (c := c) (src_own hc0 _) (plain_own _ _ _) hoq hBQ (by omega) (by omega) hv hm.1) [4, 1] (by simp [hB.1, hBQ.1, hB.2, hBQ.2]) fun s hc _ ⟨oo, od, hoo, hod, e1, e2⟩ => ?_
          subst e1 e2
          obtain ⟨k, hk⟩ : ∃ k, k = min q.length c.merges.toNat := ⟨_, rfl⟩
          obtain ⟨kl, kd⟩ := cSt_len l q c k (by omega)
          rw [← hk] at hod ⊢
          simp [hB.2, hBQ.2]
          refine Ctr.use (ref16_Step (l := l) (q := q) (c := c) ho hB hoq hBQ (by omega) (by omega) hv hm.1) [0, 1] (by simp [hB.1, hBQ.1, hB.2, hBQ.2]) fun s hc _ ⟨co, hco, rd, hrd, e1, e2⟩ => ?_
          subst e1 e2
          rw [← hk] at hrd ⊢
          generalize (cSt l q c k).1 = out at *
          generalize (cSt l q c k).2 = done at *
          have hlo : lenV Try.prog 22 (slV 5 l.length oo) = some (l.length : Int) := by
            cases oo with
            | none => have h0 : l.length = 0 := hoo; rw [h0]; simp
            | some _ => simp
          simp [hB.2, hBQ.2]
          refine Ctr.useEq (ref07_Same (l := out) (o := ofOwn oo) (o' := some (0, co)) (B := slB (vds out) ty_api_Validator 7 oo) (B' := .row (vds out) (co * 7) ty_api_Validator) (src_sl (by rw [kl]; exact hoo) _) ⟨fun n => by simp, fun σ => by simp⟩ (src_own (by omega) _) (plain_own _ _ _) (by omega)) [5, 7] (by simp [← slV_ra, kl]) ?_
          simp [hB.2, hBQ.2]
          refine Ctr.useEq (slices_Equal (l := done) (o := od) (o' := rd) (by rw [kd]; exact hod) (by rw [kd]; exact hrd) (by omega)) [6, 8] (by simp [kd]) ?_
          simp [hB.2, hBQ.2, hlo]
          refine ⟨{ p : Nat × List Vd // p.1 ≤ l.length ∧ p.2.length = l.length }, fun p => ([(0, raV 0 l.length (some (offs, caps))), (7, .slc 4 0 l.length c0), (8, slV 5 l.length oo), (55, iv l.length), (56, iv (p.1.1 : Nat))], (fun cur => [B, BQ, .row c.c 20 ty_api_Config, .any, .row (vds l) (c0 * 7) ty_api_Validator, slB (vds cur) ty_api_Validator 7 oo]) p.1.2), fun p => l.length - p.1.1, ⟨⟨(0, out), by simp [kl]⟩, Le.by [0, 1, 2, 3, 4, 5] (by simp [hl0', hB.1, hB.2, hBQ.1, hBQ.2])⟩, fun p => ?_⟩
          obtain ⟨⟨i, cur⟩, hi, hcur⟩ := p
          simp only at hi hcur
          simp
          refine ⟨fun hlt => ?_, fun hge => ?_⟩
          · obtain ⟨v, hv⟩ : ∃ v, cur[i]? = some v := ⟨_, List.getElem?_eq_getElem (by omega)⟩
            have hw : IntKind.i64.wrap ((i : Int) + 1) = (i : Int) + 1 := w64 (by omega)
            cases oo with
            | none => have h0 : l.length = 0 := hoo; omega
            | some cg =>
              have r0 : (Blk.row (vds cur) (cg * 7) 33).rd1 (i * 7) = some (uv v.bal) := by
                have := Blk_rd1 (vds_rd cur (cg * 7) 33 hv) 0 _ rfl
                exact this
              have hcl : i * 7 + 1 ≤ l.length * 7 := by omega
              rw [rd1_row] at r0
              obtain ⟨hb0, r0'⟩ := List.getElem?_eq_some_iff.1 r0
              simp only [uv] at r0'
              have hset := vds_set0 cur (IntKind.u64.wrap (v.bal + 1)) hv
              simp only [uv] at hset
              simp [hlt, r0', hcur, hset, hw, hcl]
              exact ⟨i + 1, cur.set i { v with bal := IntKind.u64.wrap (v.bal + 1) }, Le.by [0, 1, 2, 3, 4, 5] (by simp [hl0', hB.1, hB.2, hBQ.1, hBQ.2]), ⟨by omega, by simpa using hcur⟩, by omega⟩
          · refine Ctr.useEq law_alive [] (by simp) ?_
            simp
            refine Ctr.useEq (ref07_Same (l := l) (o := some (0, c0)) (o' := (some (offs, caps))) (B := (.row (vds l) (c0 * 7) ty_api_Validator)) (B' := B) (src_own hc0 _) (plain_own _ _ _) ho hB (by omega)) [4, 0] (by simp [hl0', hB.1, hB.2]) ?_
            simp
      · have hl2 : ¬ 60 < (l.length : Int) := by omega
        have hq2 : 60 < (q.length : Int) := by omega
        simp [hr0, hll, hlq, hB.2, hBQ.2, hl2, hq2]
        refine Ctr.useEq law_alive [] (by simp) ?_
        simp
    · have hl2 : 60 < (l.length : Int) := by omega
      simp [hr0, hll, hlq, hB.2, hBQ.2, hl2]
      refine Ctr.useEq law_alive [] (by simp) ?_
      simp
  · simp [hr0]
    refine Ctr.useEq law_alive [] (by simp) ?_
    simp
end Go.Proofs.Ytggpldcdhkhdmaa

import Derived.Test.YtggpldcdhkhdmaaMf
namespace Go.Proofs.Ytggpldcdhkhdmaa
open Go Go.Vc
set_option linter.unusedSimpArgs false
set_option linter.unusedVariables false
set_option maxRecDepth 100000
set_option maxHeartbeats 4000000

theorem Blk_rd1 {B : Blk} {off sz : Nat} {l : List SV} (h : B.rdN off sz = some l) : ∀ (j : Nat) (u : SV), l[j]? = some u → B.rd1 (off + j) = some u := fun j u hj =>
  (rdN_rd1 (hp := [B]) (n := 0) (off := off) (sz := sz) (l := l) (by simpa [rdN] using h)).2 j u hj
theorem stR_full {l v : List SV} (h : l.length = v.length) : stR l 0 v = v := by
  rw [stR_eq (by omega)]
  simp [setR, h]
theorem pr_len (x : Int × Int) : (pr x).length = 2 := rfl
theorem src_pr {q : List (Int × Int)} {o : Option (Nat × Nat)} (h : RaOK q.length o) : SrcOK prC 2 q (raB (q.flatMap pr) o) o := by
  cases o with
  | none => exact ⟨List.length_eq_zero_iff.1 h, rfl⟩
  | some p => exact ⟨h.1, by
      rw [raB_some, ro_all pr 2 pr_len]
      congr 1
      clear h
      induction q with
      | nil => rfl
      | cons a q ih => simp only [List.flatMap_cons, List.map_append, ih]; rfl, fun i x hx => by rw [raB_some, ro_rd pr 2 pr_len q _ hx]; rfl⟩

/-! what merging keeps -/
/-- How many are merged away that were not. -/
def cn : List Vd → List Vd → Nat
  | v :: vs, w :: ws => (if v.st = 7 ∧ w.st ≠ 7 then 1 else 0) + cn vs ws
  | _, _ => 0
theorem cn_self : ∀ l : List Vd, cn l l = 0
  | [] => rfl
  | v :: l => by simp [cn, cn_self l]
theorem cn_set (v : Vd) : ∀ (vs ws : List Vd) (i : Nat), cn (vs.set i v) ws ≤ cn vs ws + (if v.st = 7 then 1 else 0)
  | [], ws, i => by simp [cn]
  | a :: vs, [], i => by cases i <;> simp [cn]
  | a :: vs, w :: ws, 0 => by
    simp only [List.set_cons_zero, cn]
    by_cases h : v.st = 7 <;> simp [h] <;> split <;> omega
  | a :: vs, w :: ws, i + 1 => by
    have := cn_set v vs ws i
    simp only [List.set_cons_succ, cn]
    omega
theorem cn_take : ∀ (vs ws : List Vd) (i : Nat) (v w : Vd), vs[i]? = some v → ws[i]? = some w → cn (vs.take (i + 1)) (ws.take (i + 1)) = cn (vs.take i) (ws.take i) + (if v.st = 7 ∧ w.st ≠ 7 then 1 else 0)
  | [], _, _, _, _, h, _ => by simp at h
  | a :: vs, [], _, _, _, _, h => by simp at h
  | a :: vs, b :: ws, 0, v, w, h1, h2 => by
    simp at h1 h2
    subst h1 h2
    simp [cn]
  | a :: vs, b :: ws, i + 1, v, w, h1, h2 => by
    have := cn_take vs ws i v w (by simpa using h1) (by simpa using h2)
    simp only [List.take_succ_cons, cn] at this ⊢
    omega
theorem cn_take_le : ∀ (vs ws : List Vd) (i : Nat), cn (vs.take i) (ws.take i) ≤ cn vs ws
  | [], _, i => by simp [cn]
  | a :: vs, [], i => by cases i <;> simp [cn]
  | a :: vs, b :: ws, 0 => by simp [cn]
  | a :: vs, b :: ws, i + 1 => by
    have := cn_take_le vs ws i
    simp only [List.take_succ_cons, cn]
    omega
/-- What one validator keeps. -/
def Kept (c : Cf) (w v : Vd) : Prop := (v.bal ≤ w.bal ∨ v.bal ≤ c.maxBal) ∧ (v.st = 7 → w.st = 7 ∨ v.bal = 0)
theorem cSt_kept {l : List Vd} (q : List (Int × Int)) (c : Cf) (h : ∀ v ∈ l, v.OK) : ∀ i, i ≤ q.length → (∀ (j : Nat) (w v : Vd), l[j]? = some w → (cSt l q c i).1[j]? = some v → Kept c w v) ∧ cn (cSt l q c i).1 l ≤ i
  | 0, _ => by
    refine ⟨fun j w v h1 h2 => ?_, ?_⟩
    · simp [cSt, stepN, h1] at h2
      subst h2
      exact ⟨.inl (by omega), fun h => .inl h⟩
    · simp [cSt, stepN, cn_self]
  | i + 1, hi => by
    obtain ⟨ih1, ih2⟩ := cSt_kept q c h i (by omega)
    obtain ⟨hl1, _⟩ := cSt_len l q c i (by omega)
    have hok := cSt_OK q c h i (by omega)
    rw [cSt_step (List.getElem?_eq_getElem (by omega))]
    generalize q[i] = x
    generalize cSt l q c i = S at *
    unfold step1
    split
    · rename_i hr
      obtain ⟨g1, g2, g3, g4⟩ := reqE_0 hr
      obtain ⟨⟨s1, s2⟩, _, hs⟩ := chkE_0 g4
      have oka := VOK_get hok x.1.toNat
      have okb := VOK_get hok x.2.toNat
      generalize S.1.getD x.1.toNat Vd.z = a at *
      generalize S.1.getD x.2.toNat Vd.z = b at *
      refine ⟨fun j w v h1 h2 => ?_, ?_⟩
      · have okw := h w (List.mem_of_getElem? h1)
        rw [List.getElem?_set] at h2
        split at h2
        · split at h2
          · cases h2
            refine ⟨.inr ?_, fun h7 => ?_⟩
            · simp only [sumOK] at hs
              simp only [mvB]; omega
            · simp only [mvB] at h7; omega
          · cases h2
        · rw [List.getElem?_set] at h2
          split at h2
          · split at h2
            · cases h2
              exact ⟨.inl okw.1, fun _ => .inr rfl⟩
            · cases h2
          · exact ih1 j w v h1 h2
      · have := cn_set (mvB a b) (S.1.set x.1.toNat (mvA a)) l x.2.toNat
        have h3 := cn_set (mvA a) S.1 l x.1.toNat
        rw [if_neg (by simp only [mvB]; omega)] at this
        split at h3 <;> (simp only; omega)
    · exact ⟨ih1, by simp only; omega⟩

/-- MergeLimits is true. -/
theorem law_Limits {l : List Vd} {o : Option (Nat × Nat)} {B : Blk} {q : List (Int × Int)} {oq : Option (Nat × Nat)} {BQ : Blk} {c : Cf} (ho : SrcOK Vd.c 7 l B o) (hB : Plain B) (hoq : SrcOK prC 2 q BQ oq) (hBQ : Plain BQ) (hv : ∀ v ∈ l, v.OK) :
    Ctr Try.prog F_egresslaw16_MergeLimits [raV 0 l.length o, raV 1 q.length oq, .agg c.c] [B, BQ] (fun s _ => s = bv true) := by
  refine in_egresslaw16_MergeLimits (by simp) ?_
  have hll := src_len ho 0 slc_22
  have hlq := src_len hoq 1 slc_23
  simp [mc_egresslaw16_MergeLimits]
  refine Ctr.use (ref03_Check (c := c)) [] (by simp) fun s hc _ ⟨r, e1, hr, e2⟩ => ?_
  subst e1 e2
  by_cases hr0 : r = 0
  · have hcf := hr.1 hr0
    have hm := hcf.merges
    by_cases hl : l.length ≤ 60
    · by_cases hq : q.length ≤ 60
      · have hl' : (l.length : Int) ≤ 60 := by omega
        have hq' : (q.length : Int) ≤ 60 := by omega
        have hl2 : ¬ 60 < (l.length : Int) := by omega
        have hq2 : ¬ 60 < (q.length : Int) := by omega
        simp [hr0, hll, hlq, hB.2, hBQ.2, hl2, hq2]
        refine Ctr.use (merge_Step (c := c) ho hB hoq hBQ (by omega) (by omega) hv hm.1) [0, 1] (by simp [hB.1, hBQ.1, hB.2, hBQ.2]) fun s hc _ ⟨oo, od, hoo, hod, e1, e2⟩ => ?_
        subst e1 e2
        obtain ⟨k, hk⟩ : ∃ k, k = min q.length c.merges.toNat := ⟨_, rfl⟩
        obtain ⟨kp, kc⟩ := cSt_kept q c hv k (by omega)
        obtain ⟨kl, _⟩ := cSt_len l q c k (by omega)
        rw [← hk] at hod ⊢
        generalize (cSt l q c k).1 = out at *
        generalize (cSt l q c k).2 = done at *
        have hlo : lenV Try.prog 22 (slV 3 l.length oo) = some (l.length : Int) := by cases oo <;> simp_all
        have hld : lenV Try.prog 29 (slV 4 k od) = some (k : Int) := by
          cases od with
          | none => have h0 : k = 0 := hod; rw [h0]; simp
          | some _ => simp
        have hkm : ¬ c.merges < (k : Int) := by omega
        simp [hlo, hld, hll, hB.2, hBQ.2, hkm]
        refine ⟨{ i : Nat // i ≤ l.length }, fun i => ([(0, raV 0 l.length o), (5, .ptr 2 0), (8, slV 4 k od), (9, iv (cn (out.take i.1) (l.take i.1) : Nat)), (45, slV 3 l.length oo), (46, iv l.length), (47, iv (i.1 : Nat))], [B, BQ, .row c.c 20 ty_api_Config, slB (vds out) ty_api_Validator 7 oo, slB (bvs done) ty_bool 1 od]), fun i => l.length - i.1,
          ⟨⟨0, by omega⟩, Le.by [0, 1, 2, 3, 4] (by simp [hB.1, hB.2, hBQ.1, hBQ.2, cn])⟩, fun i => ?_⟩
        obtain ⟨i, hi⟩ := i
        have hi : i ≤ l.length := hi
        simp
        refine ⟨fun hlt => ?_, fun hge => ?_⟩
        · cases oo with
          | none => have h0 : l.length = 0 := hoo; omega
          | some cp =>
          match o, ho with
          | none, ⟨h0, _⟩ => subst h0; simp at hlt
          | some (off, cap), ⟨h1, h2, h3⟩ =>
          obtain ⟨v, hv⟩ : ∃ v, out[i]? = some v := ⟨_, List.getElem?_eq_getElem (by omega)⟩
          obtain ⟨w, hw⟩ : ∃ w, l[i]? = some w := ⟨_, List.getElem?_eq_getElem (by omega)⟩
          have rv := vds_rd out (cp * 7) 33 hv
          have r0 : B.rd1 (off + i * 7) = some (uv w.bal) := Blk_rd1 (h3 i w hw) 0 _ rfl
          have r1 : B.rd1 (off + i * 7 + 1) = some (iv w.st) := Blk_rd1 (h3 i w hw) 1 _ rfl
          obtain ⟨k1, k2⟩ := kp i w v hw hv
          have hct := cn_take out l i v w hv hw
          have hcl := cn_take_le out l i
          have hwi : IntKind.i64.wrap ((i : Int) + 1) = (i : Int) + 1 := w64 (by omega)
          have hwc : IntKind.i64.wrap ((cn (out.take i) (l.take i) : Int) + 1) = (cn (out.take i) (l.take i) : Int) + 1 := w64 (by omega)
          have hng : ¬ (w.bal < v.bal ∧ c.maxBal < v.bal) := by omega
          simp [hlt, rv, stR_full, -rdN_row]
          rw [stR_full (v := v.c) (by simp)]
          have step : i + 1 ≤ l.length ∧ l.length - (i + 1) < l.length - i := by omega
          by_cases k7 : v.st = 7
          · by_cases w7 : w.st = 7
            · have hct' : cn (out.take (i + 1)) (l.take (i + 1)) = cn (out.take i) (l.take i) := by rw [hct, if_neg (by simp [w7])]; rfl
              by_cases ka : w.bal < v.bal
              · have kb : ¬ c.maxBal < v.bal := by omega
                simp [hlt, r0, r1, ka, kb, k7, w7, hwi]
                exact ⟨i + 1, Le.by [0, 1, 2, 3, 4] (by simp [hB.1, hB.2, hBQ.1, hBQ.2, hct']), step⟩
              · simp [hlt, r0, r1, ka, k7, w7, hwi]
                exact ⟨i + 1, Le.by [0, 1, 2, 3, 4] (by simp [hB.1, hB.2, hBQ.1, hBQ.2, hct']), step⟩
            · have hct' : cn (out.take (i + 1)) (l.take (i + 1)) = cn (out.take i) (l.take i) + 1 := by rw [hct, if_pos ⟨k7, w7⟩]
              have hb : v.bal = 0 := (k2 k7).resolve_left w7
              by_cases ka : w.bal < v.bal
              · have kb : ¬ c.maxBal < v.bal := by omega
                rw [hb] at ka kb
                simp [hlt, r0, r1, ka, kb, k7, w7, hb, hwi, hwc]
                exact ⟨i + 1, Le.by [0, 1, 2, 3, 4] (by simp [hB.1, hB.2, hBQ.1, hBQ.2, hct']), step⟩
              · rw [hb] at ka
                simp [hlt, r0, r1, ka, k7, w7, hb, hwi, hwc]
                exact ⟨i + 1, Le.by [0, 1, 2, 3, 4] (by simp [hB.1, hB.2, hBQ.1, hBQ.2, hct']), step⟩
          · have hct' : cn (out.take (i + 1)) (l.take (i + 1)) = cn (out.take i) (l.take i) := by rw [hct, if_neg (by simp [k7])]; rfl
            by_cases ka : w.bal < v.bal
            · have kb : ¬ c.maxBal < v.bal := by omega
              simp [hlt, r0, r1, ka, kb, k7, hwi]
              exact ⟨i + 1, Le.by [0, 1, 2, 3, 4] (by simp [hB.1, hB.2, hBQ.1, hBQ.2, hct']), step⟩
            · simp [hlt, r0, r1, ka, k7, hwi]
              exact ⟨i + 1, Le.by [0, 1, 2, 3, 4] (by simp [hB.1, hB.2, hBQ.1, hBQ.2, hct']), step⟩
        · obtain rfl : i = l.length := by omega
          refine Ctr.useEq law_alive [] (by simp) ?_
          have t1 := kl ▸ List.take_length (l := out)
          rw [t1, List.take_length]
          have hle : (cn out l : Int) ≤ c.merges := by omega
          have hle2 : (cn out l : Int) ≤ k := by omega
          simp [hle, hle2, hld]
      · have hl2 : ¬ 60 < (l.length : Int) := by omega
        have hq2 : 60 < (q.length : Int) := by omega
        simp [hr0, hll, hlq, hB.2, hBQ.2, hl2, hq2]
        refine Ctr.useEq law_alive [] (by simp) ?_
        simp
    · have hl2 : 60 < (l.length : Int) := by omega
      simp [hr0, hll, hlq, hB.2, hBQ.2, hl2]
      refine Ctr.useEq law_alive [] (by simp) ?_
      simp
  · simp [hr0]
    refine Ctr.useEq law_alive [] (by simp) ?_
    simp
end Go.Proofs.Ytggpldcdhkhdmaa

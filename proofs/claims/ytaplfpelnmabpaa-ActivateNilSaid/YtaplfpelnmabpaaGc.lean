import Derived.Test.YtaplfpelnmabpaaGb
namespace Go.Proofs.Ytaplfpelnmabpaa
open Go Go.Vc
set_option linter.unusedSimpArgs false
set_option linter.unusedVariables false
set_option maxRecDepth 100000
set_option maxHeartbeats 4000000

/-! weights -/
def ofW (ws : List Int) (i : Int) : Int := if i < 0 ∨ (ws.length : Int) ≤ i then 0 else ws.getD i.toNat 0
theorem ofW_ok {ws : List Int} (h : UOK ws) (i : Int) : 0 ≤ ofW ws i ∧ ofW ws i ≤ 18446744073709551615 := by
  unfold ofW
  split
  · omega
  · rw [List.getD_eq_getElem?_getD, List.getElem?_eq_getElem (by omega)]
    exact h _ (List.getElem_mem _)
theorem uok_map {ws : List Int} (h : UOK ws) (xs : List Int) : UOK (xs.map (ofW ws)) := fun x hx => by
  obtain ⟨i, _, rfl⟩ := List.mem_map.1 hx
  exact ofW_ok h i
theorem addR_eq (l : List Int) : addR l = .tup [uv (if usum l ≤ 18446744073709551615 then usum l else 0), bv (decide (usum l ≤ 18446744073709551615))] := by
  unfold addR
  split <;> simp_all
theorem ref01_Add0 : Ctr Try.prog F_egressref01_Add [.v (.slice none 0 0)] [] (fun s hp => s = addR [] ∧ hp = []) := by
  refine in_egressref01_Add (by simp) ?_
  simp [mc_egressref01_Add]
  refine ⟨Unit, fun _ => ([(0, .v (.slice none 0 0)), (4, uv 0), (5, iv 0)], []), fun i => 0, ⟨(), Le.by [] (by simp)⟩, fun _ => ?_⟩
  simp [addR, usum]
theorem assign_weight {ws : List Int} {i : Int} {B : Blk} {o : Option (Nat × Nat)} (ho : SrcI .u64 ws B o) (hB : Plain B) : Ctr Try.prog F_assign_weight [raV 0 ws.length o, iv i] [B] (fun s hp => s = uv (ofW ws i) ∧ hp = [B]) := by
  refine Ctr.fin (in_assign_weight (by simp) ?_)
  have hl := srcI_len (t := ty_slice_uint64) (el := ty_uint64) (s := 1) ho 0 (by simp)
  simp only [ty_slice_uint64] at hl
  have fin : ∀ e : Int, ofW ws i = e → Vc.Fin 1 (fun s hp => s = uv (ofW ws i) ∧ hp = [B]) (uv e) [B] := fun e he => Fin.cut 1 (Ent.refl _) (by simp [hB.1]) (by simp [he])
  simp [mc_assign_weight, hl]
  refine ⟨fun h1 => ⟨fun h2 => ?_, fun h2 => ?_⟩, fun h1 => ?_⟩
  · exact fin 0 (by simp [ofW, h2])
  · obtain ⟨off, cap, rfl, hc, hR⟩ := ho.some_ne (fun e => by simp [e] at h2; omega)
    obtain ⟨x, hx⟩ : ∃ x, ws[i.toNat]? = some x := ⟨_, List.getElem?_eq_getElem (by omega)⟩
    have hr := hR i.toNat (uv x) (by simp [hx])
    have hx2 : ofW ws i = x := by unfold ofW; rw [if_neg (by omega), List.getD_eq_getElem?_getD, hx]; rfl
    simp [hr, h1, h2]
    exact fin _ hx2
  · exact fin 0 (by simp [ofW, h1])
theorem egressref13_Of {ws : List Int} {i : Int} {B : Blk} {o : Option (Nat × Nat)} (ho : SrcI .u64 ws B o) (hB : Plain B) : Ctr Try.prog F_egressref13_Of [raV 0 ws.length o, iv i] [B] (fun s hp => s = uv (ofW ws i) ∧ hp = [B]) := by
  refine Ctr.fin (in_egressref13_Of (by simp) ?_)
  have hl := srcI_len (t := ty_slice_uint64) (el := ty_uint64) (s := 1) ho 0 (by simp)
  simp only [ty_slice_uint64] at hl
  have fin : ∀ e : Int, ofW ws i = e → Vc.Fin 1 (fun s hp => s = uv (ofW ws i) ∧ hp = [B]) (uv e) [B] := fun e he => Fin.cut 1 (Ent.refl _) (by simp [hB.1]) (by simp [he])
  simp [mc_egressref13_Of, hl]
  refine ⟨fun h1 => ⟨fun h2 => ?_, fun h2 => ?_⟩, fun h1 => ?_⟩
  · exact fin 0 (by simp [ofW, h2])
  · obtain ⟨off, cap, rfl, hc, hR⟩ := ho.some_ne (fun e => by simp [e] at h2; omega)
    obtain ⟨x, hx⟩ : ∃ x, ws[i.toNat]? = some x := ⟨_, List.getElem?_eq_getElem (by omega)⟩
    have hr := hR i.toNat (uv x) (by simp [hx])
    have hx2 : ofW ws i = x := by unfold ofW; rw [if_neg (by omega), List.getD_eq_getElem?_getD, hx]; rfl
    simp [hr, h1, h2]
    exact fin _ hx2
  · exact fin 0 (by simp [ofW, h1])
theorem assign_Weight {ws xs : List Int} {B BX : Blk} {o ox : Option (Nat × Nat)} (ho : SrcI .u64 ws B o) (hB : Plain B) (hox : SrcI .i64 xs BX ox) (hBX : Plain BX) (hw : UOK ws) (hx : xs.length ≤ 1048576) : Ctr Try.prog F_assign_Weight [raV 0 ws.length o, raV 1 xs.length ox] [B, BX] (fun s hp => s = addR (xs.map (ofW ws)) ∧ hp = [B, BX]) := by
  refine Ctr.fin (in_assign_Weight (by simp) ?_)
  have hl := srcI_len (t := ty_slice_int) (el := ty_int) (s := 1) hox 1 (by simp)
  simp only [ty_slice_int] at hl
  obtain ⟨L, hL⟩ : ∃ L, L = xs.map (ofW ws) := ⟨_, rfl⟩
  have hLl : L.length = xs.length := by rw [hL, List.length_map]
  have hLu : UOK L := by rw [hL]; exact uok_map hw xs
  rw [← hL]
  simp [mc_assign_Weight, hl]
  refine ⟨{ p : Nat × Option Nat // p.1 ≤ xs.length ∧ SlOK p.1 p.2 }, fun p => ([(0, raV 0 ws.length o), (6, slV 2 p.1.1 p.1.2), (9, raV 1 xs.length ox), (10, iv xs.length), (11, iv (p.1.1 : Nat))], [B, BX, slB (ivs .u64 (L.take p.1.1)) ty_uint64 1 p.1.2]), fun p => xs.length - p.1.1, ⟨⟨(0, none), by simp⟩, Le.ent ent_more [0, 1, 2] (by simp [hB.1, hB.2, hBX.1, hBX.2])⟩, fun p => ?_⟩
  obtain ⟨⟨i, ow⟩, hi, how⟩ := p
  simp only at hi how
  simp
  refine ⟨fun h => ?_, fun h => ?_⟩
  · obtain ⟨x, e1⟩ : ∃ x, xs[i]? = some x := ⟨_, List.getElem?_eq_getElem h⟩
    obtain ⟨off, cap, rfl, hc, hR⟩ := hox.some_ne (fun e => by simp [e] at h)
    have hr := hR i (iv x) (by unfold ivs; rw [List.getElem?_map, e1]; rfl)
    have hwi : IntKind.i64.wrap ((i : Int) + 1) = (i : Int) + 1 := w64 (by omega)
    have e2 : L.take (i + 1) = L.take i ++ [ofW ws x] := by rw [List.take_add_one, hL, List.getElem?_map, e1]; rfl
    have e3 : (L.take i).length = i := by simp; omega
    simp [h, hr]
    refine Ctr.useEq (assign_weight (i := x) ho hB) [0] (by simp [hB.1, hB.2]) ?_
    simp [zeros, hB.2]
    refine apV_slV (cs := ivs .u64 (L.take i)) (l := [uv (ofW ws x)]) (by simp) how (by simp; omega) (by simp) (by simp) (by simp; omega) (by simp) fun cd hcd => ?_
    simp [hwi]
    exact ⟨i + 1, some cd, Le.by [0, 1, 4] (by simp [hB.1, hB.2, hBX.1, hBX.2, e2]), ⟨by omega, by simpa using hcd⟩, by omega⟩
  · obtain rfl : i = xs.length := by omega
    rw [← hLl, List.take_length]
    rw [← hLl] at how
    cases ow with
    | none =>
      have h0 : L = [] := List.length_eq_zero_iff.1 how
      rw [h0]
      simp
      refine Ctr.useEq gwei_Add0 [] (by simp) ?_
      simp
      exact Fin.cut 2 (Ent.refl _) (by simp [hB.1, hBX.1]) (by simp [addR, usum])
    | some c =>
      simp
      refine Ctr.useEq (gwei_Add (B := .row (ivs .u64 L) c ty_uint64) (off := 0) (cap := c) (l := L) (rd1_ivs _ _ _ _) (by simp) (by simp) hLu (by omega)) [2] (by simp) ?_
      rw [addR_eq]
      simp
      rw [← addR_eq]
      exact Fin.cut 2 (Ent.refl _) (by simp [hB.1, hBX.1, addR_eq]) (by simp)
theorem egressref13_Weight {ws xs : List Int} {B BX : Blk} {o ox : Option (Nat × Nat)} (ho : SrcI .u64 ws B o) (hB : Plain B) (hox : SrcI .i64 xs BX ox) (hBX : Plain BX) (hw : UOK ws) (hx : xs.length ≤ 1048576) : Ctr Try.prog F_egressref13_Weight [raV 0 ws.length o, raV 1 xs.length ox] [B, BX] (fun s hp => s = addR (xs.map (ofW ws)) ∧ hp = [B, BX]) := by
  refine Ctr.fin (in_egressref13_Weight (by simp) ?_)
  have hl := srcI_len (t := ty_slice_int) (el := ty_int) (s := 1) hox 1 (by simp)
  simp only [ty_slice_int] at hl
  obtain ⟨L, hL⟩ : ∃ L, L = xs.map (ofW ws) := ⟨_, rfl⟩
  have hLl : L.length = xs.length := by rw [hL, List.length_map]
  have hLu : UOK L := by rw [hL]; exact uok_map hw xs
  rw [← hL]
  simp [mc_egressref13_Weight, hl]
  refine ⟨{ p : Nat × Option Nat // p.1 ≤ xs.length ∧ SlOK p.1 p.2 }, fun p => ([(0, raV 0 ws.length o), (1, raV 1 xs.length ox), (6, slV 2 p.1.1 p.1.2), (7, iv (p.1.1 : Nat))], [B, BX, slB (ivs .u64 (L.take p.1.1)) ty_uint64 1 p.1.2]), fun p => xs.length - p.1.1, ⟨⟨(0, none), by simp⟩, Le.ent ent_more [0, 1, 2] (by simp [hB.1, hB.2, hBX.1, hBX.2])⟩, fun p => ?_⟩
  obtain ⟨⟨i, ow⟩, hi, how⟩ := p
  simp only at hi how
  simp [hl]
  refine ⟨fun h => ?_, fun h => ?_⟩
  · obtain ⟨x, e1⟩ : ∃ x, xs[i]? = some x := ⟨_, List.getElem?_eq_getElem h⟩
    obtain ⟨off, cap, rfl, hc, hR⟩ := hox.some_ne (fun e => by simp [e] at h)
    have hr := hR i (iv x) (by unfold ivs; rw [List.getElem?_map, e1]; rfl)
    have hwi : IntKind.i64.wrap ((i : Int) + 1) = (i : Int) + 1 := w64 (by omega)
    have e2 : L.take (i + 1) = L.take i ++ [ofW ws x] := by rw [List.take_add_one, hL, List.getElem?_map, e1]; rfl
    have e3 : (L.take i).length = i := by simp; omega
    simp [h, hr]
    refine Ctr.useEq (egressref13_Of (i := x) ho hB) [0] (by simp [hB.1, hB.2]) ?_
    simp [zeros, hB.2]
    refine apV_slV (cs := ivs .u64 (L.take i)) (l := [uv (ofW ws x)]) (by simp) how (by simp; omega) (by simp) (by simp) (by simp; omega) (by simp) fun cd hcd => ?_
    simp [hwi]
    exact ⟨i + 1, some cd, Le.by [0, 1, 4] (by simp [hB.1, hB.2, hBX.1, hBX.2, e2]), ⟨by omega, by simpa using hcd⟩, by omega⟩
  · obtain rfl : i = xs.length := by omega
    rw [← hLl, List.take_length]
    rw [← hLl] at how
    cases ow with
    | none =>
      have h0 : L = [] := List.length_eq_zero_iff.1 how
      rw [h0]
      simp
      refine Ctr.useEq ref01_Add0 [] (by simp) ?_
      simp
      exact Fin.cut 2 (Ent.refl _) (by simp [hB.1, hBX.1]) (by simp [addR, usum])
    | some c =>
      simp
      refine Ctr.useEq (ref01_Add (B := .row (ivs .u64 L) c ty_uint64) (off := 0) (cap := c) (l := L) (rd1_ivs _ _ _ _) (by simp) (by simp) hLu (by omega)) [2] (by simp) ?_
      rw [addR_eq]
      simp
      rw [← addR_eq]
      exact Fin.cut 2 (Ent.refl _) (by simp [hB.1, hBX.1, addR_eq]) (by simp)
end Go.Proofs.Ytaplfpelnmabpaa

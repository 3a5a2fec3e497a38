import Derived.Test.YtaplfpelnmabpaaGh
namespace Go.Proofs.Ytaplfpelnmabpaa
open Go Go.Vc
set_option linter.unusedSimpArgs false
set_option linter.unusedVariables false
set_option maxRecDepth 100000
set_option maxHeartbeats 4000000

theorem SrcI.drop {k : IntKind} {l : List Int} {B : Blk} {off cap : Nat} (h : SrcI k l B (some (off, cap))) {n : Nat} (hn : n ≤ l.length) : SrcI k (l.drop n) B (some ((if cap = n then off else off + n), cap - n)) := by
  refine ⟨by rw [List.length_drop]; have := h.1; omega, fun i x hx => ?_⟩
  have hi : i < (l.drop n).length := by
    have := (List.getElem?_eq_some_iff.1 hx).1
    rwa [ivs_length] at this
  rw [List.length_drop] at hi
  rw [if_neg (by have := h.1; omega), Nat.add_assoc]
  refine h.2 (n + i) x ?_
  unfold ivs at hx ⊢
  rw [List.getElem?_map] at hx ⊢
  rw [List.getElem?_drop] at hx
  exact hx
/-- Two slices of the same numbers are the same. -/
theorem slices_EqSame {l : List Int} {o o' : Option (Nat × Nat)} {B B' : Blk} (ho : SrcI .i64 l B o) (hB : Plain B) (ho' : SrcI .i64 l B' o') (hB' : Plain B') (hl : l.length ≤ 1048576) : Ctr Try.prog F_slices_Equal_int_int [raV 0 l.length o, raV 1 l.length o'] [B, B'] (fun s hp => s = bv true ∧ hp = [B, B']) := by
  refine Ctr.fin (in_slices_Equal_int_int (by simp) ?_)
  have h1 := srcI_len (t := ty_slice_int) (el := ty_int) (s := 1) ho 0 (by simp)
  have h2 := srcI_len (t := ty_slice_int) (el := ty_int) (s := 1) ho' 1 (by simp)
  simp only [ty_slice_int] at h1 h2
  simp [mc_slices_Equal_int_int, h1, h2]
  refine ⟨{ i : Nat // i ≤ l.length }, fun i => ([(0, raV 0 l.length o), (1, raV 1 l.length o'), (12, iv l.length), (13, iv (i.1 : Nat))], [B, B']), fun i => l.length - i.1, ⟨⟨0, by omega⟩, Le.by [0, 1] (by simp [hB.1, hB.2, hB'.1, hB'.2])⟩, fun i => ?_⟩
  obtain ⟨i, hi⟩ := i
  simp
  refine ⟨fun hlt => ?_, fun hge => ?_⟩
  · obtain ⟨x, hx⟩ : ∃ x, l[i]? = some x := ⟨_, List.getElem?_eq_getElem (by omega)⟩
    obtain ⟨off, cap, ho0, hc, hR⟩ := ho.some_ne (fun h => by simp [h] at hlt)
    obtain ⟨off', cap', ho0', hc', hR'⟩ := ho'.some_ne (fun h => by simp [h] at hlt)
    subst ho0 ho0'
    have r := hR i (iv x) (by unfold ivs; rw [List.getElem?_map, hx]; rfl)
    have r' := hR' i (iv x) (by unfold ivs; rw [List.getElem?_map, hx]; rfl)
    have hw : IntKind.i64.wrap ((i : Int) + 1) = (i : Int) + 1 := w64 (by omega)
    simp [hlt, r, r', hw]
    exact ⟨i + 1, Le.by [0, 1] (by simp [hB.1, hB.2, hB'.1, hB'.2]), by omega, by omega⟩
  · exact Fin.cut 2 (Ent.refl _) (by simp [hB.1, hB'.1]) (by simp)
theorem law_queue {l : List Int} {o : Option (Nat × Nat)} {B : Blk} (ho : SrcI .i64 l B o) (hB : Plain B) (hl : l.length ≤ 1048576) : Ctr Try.prog F_egresslaw14_queue [raV 0 l.length o] [B] (fun s hp => s = .ptr 1 0 ∧ hp = [B, .res (ringR (max l.length 1) l)]) := by
  refine Ctr.fin (in_egresslaw14_queue (by simp) ?_)
  have h1 := srcI_len (t := ty_slice_int) (el := ty_int) (s := 1) ho 0 (by simp)
  simp only [ty_slice_int] at h1
  have hm : imax (l.length : Int) 1 = ((max l.length 1 : Nat) : Int) := by rw [imax_eq]; omega
  simp [mc_egresslaw14_queue, h1, hm]
  refine Ctr.useEq (ring_New (size := max l.length 1) (by omega)) [] (by simp) ?_
  simp [hB.2]
  refine Ctr.useEq (ring_PushS (size := max l.length 1) (l := []) (xs := l) (by simp) ho hB) [1, 0] (by simp [hB.1, hB.2]) ?_
  have hmin : min l.length (max l.length 1) = l.length := by omega
  simp [hB.2, h1, hmin]
  exact Fin.cut 2 (Ent.refl _) (by simp [hB.1]) (by simp)
theorem law_alive : Ctr Try.prog F_egresslaw14_alive [] [] (fun s hp => s = bv true ∧ hp = []) := by
  refine Ctr.fin (in_egresslaw14_alive (by simp) ?_)
  have hw : UOK [25, 4, 5] := by simp [UOK]
  simp [mc_egresslaw14_alive]
  refine Ctr.useEq (ring_New (size := 4) (by omega)) [] (by simp) ?_
  simp [zeros]
  refine Ctr.useEq (ring_PushS (size := 4) (l := []) (xs := [0, 1, 2]) (o := some (0, 3)) (B := .row (ivs .i64 [0, 1, 2]) 3 ty_int) (by simp) (srcI_own (by simp) _) (plain_ivs _ _ _ _)) [0, 1] (by simp [ivs]) ?_
  simp [zeros]
  refine Ctr.useEq (activate_Wait (size := 4) (l := [0, 1, 2]) (ws := [25, 4, 5]) (limit := 10) (weight := 2) (o := some (0, 3)) (B := .row (ivs .u64 [25, 4, 5]) 3 ty_uint64) (srcI_own (by simp) _) (plain_ivs _ _ _ _) hw (by simp) (by simp) (by simp)) [0, 2] (by simp [ivs]) ?_
  have hwf : (wfold 10 ([0, 1, 2].map (ofW [25, 4, 5]) ++ [2])).1 = 3 := by decide
  rw [hwf]
  simp
  refine Ctr.use (activate_Step (size := 4) (l := [0, 1, 2]) (ws := [25, 4, 5]) (limit := 10) (o := some (0, 3)) (B := .row (ivs .u64 [25, 4, 5]) 3 ty_uint64) (srcI_own (by simp) _) (plain_ivs _ _ _ _) hw (by simp) (by simp)) [0, 2] (by simp [ivs]) fun s hc _ ⟨n, hn, oa, hoa, e1, e2⟩ => ?_
  obtain rfl : n = 1 := hn.uniq ⟨by simp, fun i hi => .inl (by omega), .inr ⟨by omega, by decide⟩⟩
  subst e1 e2
  simp
  refine Ctr.use (activate_Step (size := 4) (l := [1, 2]) (ws := [25, 4, 5]) (limit := 10) (o := some (0, 3)) (B := .row (ivs .u64 [25, 4, 5]) 3 ty_uint64) (srcI_own (by simp) _) (plain_ivs _ _ _ _) hw (by simp) (by simp)) [0, 2] (by simp [ivs]) fun s hc _ ⟨n, hn, ob, hob, e1, e2⟩ => ?_
  obtain rfl : n = 2 := hn.uniq ⟨by simp, fun i hi => by rcases (show i = 0 ∨ i = 1 by omega) with rfl | rfl <;> decide, .inl rfl⟩
  subst e1 e2
  obtain ⟨ca, rfl⟩ : ∃ c, oa = some c := by
    cases oa with
    | none => have h : (1 : Nat) = 0 := hoa; omega
    | some c => exact ⟨c, rfl⟩
  obtain ⟨cb, rfl⟩ : ∃ c, ob = some c := by
    cases ob with
    | none => have h : (2 : Nat) = 0 := hob; omega
    | some c => exact ⟨c, rfl⟩
  have hca : 1 ≤ ca := hoa
  have hcb : 2 ≤ cb := hob
  simp [zeros]
  refine Ctr.useEq (slices_EqSame (l := [0]) (o := some (0, ca)) (o' := some (0, 1)) (B := .row (ivs .i64 [0]) ca ty_int) (B' := .row (ivs .i64 [0]) 1 ty_int) (srcI_own (by simpa using hca) _) (plain_ivs _ _ _ _) (srcI_own (by simp) _) (plain_ivs _ _ _ _) (by simp)) [3, 5] (by simp [ivs_1]) ?_
  simp [zeros]
  refine Ctr.useEq (slices_EqSame (l := [1, 2]) (o := some (0, cb)) (o' := some (0, 2)) (B := .row (ivs .i64 [1, 2]) cb ty_int) (B' := .row (ivs .i64 [1, 2]) 2 ty_int) (srcI_own (by simpa using hcb) _) (plain_ivs _ _ _ _) (srcI_own (by simp) _) (plain_ivs _ _ _ _) (by simp)) [4, 6] (by simp [ivs]) ?_
  simp
  refine Ctr.useEq (ring_Len (size := 4) (l := [])) [0] (by simp) ?_
  simp
  exact Fin.cut 0 (Ent.refl _) (by simp) (by simp)
end Go.Proofs.Ytaplfpelnmabpaa

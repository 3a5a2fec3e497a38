import Derived.Test.YtaplfpelnmabpaaGg
namespace Go.Proofs.Ytaplfpelnmabpaa
open Go Go.Vc
set_option linter.unusedSimpArgs false
set_option linter.unusedVariables false
set_option maxRecDepth 100000
set_option maxHeartbeats 4000000

/-- The numbers below n. -/
def rng (n : Nat) : List Int := (List.range n).map Int.ofNat
@[simp] theorem rng_length (n : Nat) : (rng n).length = n := by simp [rng]
theorem rng_succ (n : Nat) : rng (n + 1) = rng n ++ [(n : Int)] := by unfold rng; rw [List.range_succ, List.map_append]; rfl
theorem map_rng (A : List Int) : (rng A.length).map (ofW A) = A := by
  apply List.ext_getElem?
  intro i
  unfold rng
  rw [List.getElem?_map, List.getElem?_map]
  by_cases h : i < A.length
  · rw [List.getElem?_range h, List.getElem?_eq_getElem h]
    simp only [Option.map_some, ofW]
    rw [if_neg (by simp only [Int.ofNat_eq_natCast]; omega), List.getD_eq_getElem?_getD, Int.ofNat_eq_natCast, Int.toNat_natCast, List.getElem?_eq_getElem h]; rfl
  · rw [List.getElem?_eq_none (by simp; omega), List.getElem?_eq_none (by omega)]; rfl
theorem psum_rng (A : List Int) (j i : Nat) : psum A ((rng A.length).drop j) i = usum ((A.drop j).take i) := by
  unfold psum
  rw [List.map_take, List.map_drop, map_rng]
theorem fold_batch {limit : Int} {C : List Int} (k : Int) : ∀ n, 0 < n → n ≤ C.length → (∀ i, i < n → i = 0 ∨ usum (C.take (i + 1)) ≤ limit) → (C.take n).foldl (wstep limit) (k, true, 0) = (k, false, usum (C.take n))
  | 0, h, _, _ => by omega
  | n + 1, _, hn, hok => by
    obtain ⟨w, hw⟩ : ∃ w, C[n]? = some w := ⟨_, List.getElem?_eq_getElem (by omega)⟩
    have hs : C.take (n + 1) = C.take n ++ [w] := by rw [List.take_add_one, hw]; rfl
    have hok' := hok n (by omega)
    rw [hs] at hok' ⊢
    rw [List.foldl_append, usum_snoc] at *
    by_cases h0 : n = 0
    · subst h0
      simp [wstep, usum]
    · rw [fold_batch k n (by omega) (by omega) (fun i hi => hok i (by omega))]
      simp only [List.foldl_cons, List.foldl_nil, wstep]
      rw [if_pos (.inr (by omega))]
theorem fold_done {limit : Int} {C : List Int} (k : Int) (hC : C ≠ []) (hok : ∀ i, i < C.length → i = 0 ∨ usum (C.take (i + 1)) ≤ limit) : (C.foldl (wstep limit) (k, true, 0)).1 = k := by
  have h := fold_batch (limit := limit) (C := C) k C.length (List.length_pos_iff.2 hC) (Nat.le_refl _) hok
  rw [List.take_length] at h
  rw [h]
theorem fold_next {limit : Int} {C : List Int} (k : Int) {n : Nat} (hn0 : 0 < n) (hn : n < C.length) (hok : ∀ i, i < n → i = 0 ∨ usum (C.take (i + 1)) ≤ limit) (hst : limit < usum (C.take (n + 1))) : C.foldl (wstep limit) (k, true, 0) = (C.drop n).foldl (wstep limit) (k + 1, true, 0) := by
  obtain ⟨w, hw⟩ : ∃ w, C[n]? = some w := ⟨_, List.getElem?_eq_getElem hn⟩
  have hs : C.take (n + 1) = C.take n ++ [w] := by rw [List.take_add_one, hw]; rfl
  rw [hs, usum_snoc] at hst
  have hd : C.drop n = w :: C.drop (n + 1) := by
    rw [List.drop_eq_getElem_cons hn]
    have := List.getElem?_eq_getElem hn
    rw [hw] at this
    rw [← Option.some.inj this]
  have hb := fold_batch (limit := limit) (C := C) k n hn0 (by omega) hok
  conv => lhs; rw [← List.take_append_drop n C, List.foldl_append, hb, hd]
  rw [hd]
  simp only [List.foldl_cons]
  congr 1
  unfold wstep
  rw [if_neg (by simp; omega), if_pos (.inl rfl)]
  simp
theorem srcI_drop {k : IntKind} {l : List Int} {c m j : Nat} (h : l.length ≤ c) (ty : TypeId) : SrcI k (l.drop j) (.row (ivs k l) m ty) (some (j, c - j)) :=
  ⟨by rw [List.length_drop]; omega, fun i x hx => by
    rw [rd1_row]
    unfold ivs at hx ⊢
    rw [List.getElem?_map] at hx ⊢
    rw [List.getElem?_drop] at hx
    exact hx⟩
theorem ref14_Wait {l ws : List Int} {limit weight : Int} {ol o : Option (Nat × Nat)} {BL B : Blk} (hol : SrcI .i64 l BL ol) (hBL : Plain BL) (ho : SrcI .u64 ws B o) (hB : Plain B) (hw : UOK ws) (hl : l.length ≤ 100000) (hlim : limit ≤ 18446744073709551615) (hwt : 0 ≤ weight ∧ weight ≤ 18446744073709551615) :
    Ctr Try.prog F_egressref14_Wait [raV 0 l.length ol, uv limit, raV 1 ws.length o, uv weight] [BL, B] (fun s hp => s = iv (wfold limit (l.map (ofW ws) ++ [weight])).1 ∧ hp = [BL, B]) := by
  refine Ctr.fin (in_egressref14_Wait (by simp) ?_)
  have hll := srcI_len (t := ty_slice_int) (el := ty_int) (s := 1) hol 0 (by simp)
  simp only [ty_slice_int] at hll
  obtain ⟨S, hS⟩ : ∃ S, S = l.map (ofW ws) := ⟨_, rfl⟩
  have hSl : S.length = l.length := by rw [hS, List.length_map]
  have hSu : UOK S := by rw [hS]; exact uok_map hw l
  rw [← hS]
  simp [mc_egressref14_Wait]
  refine ⟨{ p : Nat × Option Nat × Option Nat // p.1 ≤ l.length ∧ SlOK p.1 p.2.1 ∧ SlOK p.1 p.2.2 }, fun p => ([(0, raV 0 l.length ol), (1, uv limit), (2, raV 1 ws.length o), (3, uv weight), (9, slV 2 p.1.1 p.1.2.1), (10, slV 3 p.1.1 p.1.2.2), (11, iv (p.1.1 : Nat))], [BL, B, slB (ivs .u64 (S.take p.1.1)) ty_uint64 1 p.1.2.1, slB (ivs .i64 (rng p.1.1)) ty_int 1 p.1.2.2]), fun p => l.length - p.1.1,
    ⟨⟨(0, none, none), by simp⟩, Le.ent (ent_more.trans fun h e => by subst e; exact ent_more) [0, 1, 2, 3] (by simp [hB.1, hB.2, hBL.1, hBL.2])⟩, fun p => ?_⟩
  obtain ⟨⟨i, oa, ox⟩, hi, hoa, hox⟩ := p
  simp only at hi hoa hox
  simp [hll]
  refine ⟨fun hlt => ?_, fun hge => ?_⟩
  · obtain ⟨x, hx⟩ : ∃ x, l[i]? = some x := ⟨_, List.getElem?_eq_getElem hlt⟩
    obtain ⟨off, cap, hol0, hc, hR⟩ := hol.some_ne (fun e => by simp [e] at hlt)
    subst hol0
    have hr := hR i (iv x) (by unfold ivs; rw [List.getElem?_map, hx]; rfl)
    have hwi : IntKind.i64.wrap ((i : Int) + 1) = (i : Int) + 1 := w64 (by omega)
    have e2 : S.take (i + 1) = S.take i ++ [ofW ws x] := by rw [List.take_add_one, hS, List.getElem?_map, hx]; rfl
    have e3 : (S.take i).length = i := by rw [List.length_take]; omega
    simp [hlt, hr]
    refine Ctr.useEq (egressref13_Of (ws := ws) (i := x) ho hB) [1] (by simp [hB.1, hB.2]) ?_
    simp [zeros, hB.2]
    refine apV_slV (cs := ivs .u64 (S.take i)) (l := [uv (ofW ws x)]) (by simp) hoa (by simp; omega) (by simp) (by simp) (by simp; omega) (by simp) fun ca hca => ?_
    simp [zeros]
    refine apV_slV (cs := ivs .i64 (rng i)) (l := [iv i]) (by simp) hox (by simp) (by simp) (by simp) (by simp; omega) (by simp) fun cx hcx => ?_
    simp [hwi]
    exact ⟨i + 1, some ca, some cx, Le.by [0, 1, 5, 7] (by simp [hB.1, hB.2, hBL.1, hBL.2, e2, rng_succ]), ⟨by omega, by simpa using hca, by simpa using hcx⟩, by omega⟩
  · obtain rfl : i = l.length := by omega
    rw [← hSl] at hll hoa hox hl
    rw [← hSl, List.take_length]
    obtain ⟨A, hA⟩ : ∃ A, A = S ++ [weight] := ⟨_, rfl⟩
    have hAl : A.length = S.length + 1 := by rw [hA]; simp
    have hAu : UOK A := fun y hy => by
      rw [hA] at hy
      rcases List.mem_append.1 hy with hy | hy
      · exact hSu y hy
      · simp at hy; subst hy; exact hwt
    rw [← hA]
    simp [zeros]
    refine apV_slV (cs := ivs .u64 S) (l := [uv weight]) (by simp) hoa (by simp) (by simp) (by simp) (by simp; omega) (by simp) fun ca hca => ?_
    simp [zeros, hll]
    refine apV_slV (cs := ivs .i64 (rng S.length)) (l := [iv S.length]) (by simp) hox (by simp) (by simp) (by simp) (by simp; omega) (by simp) fun cx hcx => ?_
    rw [← hAl] at hca hcx
    simp [← hA, ← rng_succ, ← hAl]
    refine ⟨{ p : Nat × Int // p.1 < A.length ∧ (1 ≤ p.2 ∧ p.2 ≤ p.1 + 1) ∧ ((A.drop p.1).foldl (wstep limit) (p.2, true, 0)).1 = (wfold limit A).1 }, fun p => ([(1, uv limit), (9, .slc 2 0 A.length ca), (10, .slc 3 p.1.1 (A.length - p.1.1) (cx - p.1.1)), (12, iv p.1.2)], [BL, B, .row (ivs .u64 A) ca ty_uint64, .row (ivs .i64 (rng A.length)) cx ty_int]), fun p => A.length - p.1.1,
      ⟨⟨(0, 1), by simp [wfold]; omega⟩, Le.by [0, 1, 5, 7] (by simp [hB.1, hB.2, hBL.1, hBL.2])⟩, fun p => ?_⟩
    obtain ⟨⟨j, k⟩, hj, hk, hfo⟩ := p
    simp only at hj hk hfo
    simp
    have hdl : ((rng A.length).drop j).length = A.length - j := by simp
    refine Ctr.use (ref14_Step (l := (rng A.length).drop j) (ws := A) (limit := limit) (ol := some (j, cx - j)) (o := some (0, ca)) (BL := .row (ivs .i64 (rng A.length)) cx ty_int) (B := .row (ivs .u64 A) ca ty_uint64) (srcI_drop (by simpa using hcx) _) (plain_ivs _ _ _ _) (srcI_own hca _) (plain_ivs _ _ _ _) hAu (by rw [hdl]; omega) hlim) [3, 2] (by simp) fun s hc _ ⟨n, hn, e1, e2⟩ => ?_
    subst e1 e2
    have hnle := hn.le
    rw [hdl] at hnle
    have hok : ∀ i, i < n → i = 0 ∨ usum ((A.drop j).take (i + 1)) ≤ limit := fun i hi => by rw [← psum_rng]; exact hn.ok i hi
    have hst := hn.stop
    rw [hdl, psum_rng] at hst
    have hdA : (A.drop j).length = A.length - j := by simp
    by_cases he : n = A.length - j
    · have hdone := fold_done (limit := limit) (C := A.drop j) k (fun e => by rw [e] at hdA; simp at hdA; omega) (fun i hi => hok i (by rw [hdA] at hi; omega))
      rw [hdone] at hfo
      have heI : ((n : Int) = ((A.length - j : Nat) : Int)) = True := eq_true (by omega)
      simp [hB.2, hBL.2, he]
      exact Fin.cut 2 (Ent.refl _) (by simp [hB.1, hBL.1]) (by simp [hfo])
    · have hn0 : 0 < n := by omega
      have hstop : limit < usum ((A.drop j).take (n + 1)) := by omega
      have hnx := fold_next (limit := limit) (C := A.drop j) k hn0 (by omega) hok hstop
      rw [hnx, List.drop_drop] at hfo
      have hwk : IntKind.i64.wrap (k + 1) = k + 1 := w64 (by omega)
      have hcx' : A.length ≤ cx := by simpa using hcx
      have hne : ¬ (cx - j = n) := by omega
      simp [hB.2, hBL.2, he, hwk, hne]
      exact ⟨by omega, j + n, k + 1, Le.by [0, 1, 2, 3] (by simp [hB.1, hB.2, hBL.1, hBL.2, Nat.sub_sub]), ⟨by omega, by omega, hfo⟩, by omega⟩
end Go.Proofs.Ytaplfpelnmabpaa

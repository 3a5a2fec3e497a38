import Derived.Test.YtaplfpelnmabpaaGf
namespace Go.Proofs.Ytaplfpelnmabpaa
open Go Go.Vc
set_option linter.unusedSimpArgs false
set_option linter.unusedVariables false
set_option maxRecDepth 100000
set_option maxHeartbeats 4000000

theorem ivs_1 (k : IntKind) (n : Int) : ivs k [n] = [.v (.int k n)] := rfl
/-! how many boundaries -/
def wstep (limit : Int) (st : Int × Bool × Int) (w : Int) : Int × Bool × Int := if st.2.1 = true ∨ st.2.2 + w ≤ limit then (st.1, false, st.2.2 + w) else (st.1 + 1, false, w)
def wfold (limit : Int) (S : List Int) : Int × Bool × Int := S.foldl (wstep limit) (1, true, 0)
theorem wfold_snoc (limit : Int) (S : List Int) (w : Int) : wfold limit (S ++ [w]) = wstep limit (wfold limit S) w := by simp [wfold]
theorem wfold_ok {limit : Int} (hlim : limit ≤ 18446744073709551615) {S : List Int} (hS : UOK S) : ∀ i, i ≤ S.length → ((wfold limit (S.take i)).2.1 = true → (wfold limit (S.take i)).2.2 = 0) ∧ (0 ≤ (wfold limit (S.take i)).2.2 ∧ (wfold limit (S.take i)).2.2 ≤ 18446744073709551615) ∧ 1 ≤ (wfold limit (S.take i)).1 ∧ (wfold limit (S.take i)).1 ≤ i + 1
  | 0, _ => by simp [wfold]
  | i + 1, hi => by
    obtain ⟨h1, h2, h3⟩ := wfold_ok hlim hS i (by omega)
    obtain ⟨w, hw⟩ : ∃ w, S[i]? = some w := ⟨_, List.getElem?_eq_getElem (by omega)⟩
    have hwo := hS w (List.mem_of_getElem? hw)
    rw [List.take_add_one, hw, Option.toList_some, wfold_snoc]
    generalize wfold limit (S.take i) = st at *
    unfold wstep
    split
    · rename_i h
      simp
      rcases h with h | h
      · have := h1 h; omega
      · omega
    · simp; omega
theorem activate_Wait {size : Nat} {l ws : List Int} {limit weight : Int} {o : Option (Nat × Nat)} {B : Blk} (ho : SrcI .u64 ws B o) (hB : Plain B) (hw : UOK ws) (hl : l.length ≤ 1048576) (hlim : limit ≤ 18446744073709551615) (hwt : 0 ≤ weight ∧ weight ≤ 18446744073709551615) :
    Ctr Try.prog F_activate_Wait [.ptr 0 0, uv limit, raV 1 ws.length o, uv weight] [.res (ringR size l), B] (fun s hp => s = iv (wfold limit (l.map (ofW ws) ++ [weight])).1 ∧ hp = [.res (ringR size l), B]) := by
  refine Ctr.fin (in_activate_Wait (by simp) ?_)
  obtain ⟨S, hS⟩ : ∃ S, S = l.map (ofW ws) := ⟨_, rfl⟩
  have hSl : S.length = l.length := by rw [hS, List.length_map]
  have hSu : UOK S := by rw [hS]; exact uok_map hw l
  rw [← hS]
  simp [mc_activate_Wait]
  refine Ctr.useEq (activate_budget (n := limit)) [] (by simp) ?_
  simp [hB.2]
  refine Ctr.use (ring_All (size := size) (l := l) hl) [0] (by simp) fun s hc _ ⟨oa, hoa, e1, e2⟩ => ?_
  subst e1 e2
  have hlo : lenV Try.prog 22 (slV 5 l.length oa) = some (l.length : Int) := by
    cases oa with
    | none => have h0 : l.length = 0 := hoa; rw [h0]; simp
    | some _ => simp
  simp [hB.2, hlo]
  refine ⟨{ i : Nat // i ≤ l.length }, fun i => ([(1, uv limit), (2, raV 1 ws.length o), (3, uv weight), (9, iv (wfold limit (S.take i.1)).1), (10, .fn F_activate_budget_1 [] [.ptr 3 0, .ptr 4 0, .ptr 2 0]), (20, slV 5 l.length oa), (21, iv l.length), (22, iv (i.1 : Nat))],
    [.res (ringR size l), B, .row [uv limit] 1 ty_uint64, .row [uv (wfold limit (S.take i.1)).2.2] 1 ty_uint64, .row [bv (wfold limit (S.take i.1)).2.1] 1 ty_bool, slB (ivs .i64 l) ty_int 1 oa]), fun i => l.length - i.1, ⟨⟨0, by omega⟩, Le.by [0, 1, 2, 3, 4, 5] (by simp [hB.1, hB.2, wfold])⟩, fun i => ?_⟩
  obtain ⟨i, hi⟩ := i
  obtain ⟨hf, hs, hk1, hk2⟩ := wfold_ok hlim hSu i (by rw [hSl]; exact hi)
  simp
  refine ⟨fun hlt => ?_, fun hge => ?_⟩
  · obtain ⟨x, hx⟩ : ∃ x, l[i]? = some x := ⟨_, List.getElem?_eq_getElem hlt⟩
    cases oa with
    | none => have h0 : l.length = 0 := hoa; omega
    | some ca =>
      have hgx : l[i] = x := by have := List.getElem?_eq_getElem hlt; rw [hx] at this; exact (Option.some.inj this).symm
      have hwx := ofW_ok hw x
      have hle1 : ofW ws x ≤ 18446744073709551615 := hwx.2
      have hu1 : usum [ofW ws x] = ofW ws x := by simp [usum]
      have hwi : IntKind.i64.wrap ((i : Int) + 1) = (i : Int) + 1 := w64 (by omega)
      have hst : wfold limit (S.take (i + 1)) = wstep limit (wfold limit (S.take i)) (ofW ws x) := by rw [List.take_add_one, hS, List.getElem?_map, hx]; exact wfold_snoc _ _ _
      simp [hlt, hgx, hB.2, zeros]
      refine Ctr.useEq (assign_Weight (ws := ws) (xs := [x]) (o := o) (ox := some (0, 1)) (B := B) (BX := .row (ivs .i64 [x]) 1 ty_int) ho hB (srcI_own (by simp) _) (plain_ivs _ _ _ _) hw (by simp)) [1, 6] (by simp [hB.1, hB.2, ivs_1]) ?_
      rw [addR_eq]
      simp [hu1, hle1, hB.2]
      generalize wfold limit (S.take i) = st at *
      by_cases hyes : st.2.1 = true ∨ st.2.2 + ofW ws x ≤ limit
      · refine Ctr.useEq (budget_yes (s := st.2.2) (w := ofW ws x) (limit := limit) (f := st.2.1) hs hwx hlim hf hyes) [3, 4, 2] (by simp) ?_
        simp [hB.2, hwi]
        have hst2 : wfold limit (S.take (i + 1)) = (st.1, false, st.2.2 + ofW ws x) := by rw [hst]; unfold wstep; rw [if_pos hyes]
        exact ⟨i + 1, Le.by [0, 1, 2, 3, 4, 5] (by simp [hB.1, hB.2, hst2]), by omega, by omega⟩
      · have hf0 : st.2.1 = false := by cases h : st.2.1 with
          | true => exact absurd (.inl h) hyes
          | false => rfl
        have hgt : limit < st.2.2 + ofW ws x := by omega
        rw [hf0]
        refine Ctr.useEq (budget_no (s := st.2.2) (w := ofW ws x) (limit := limit) hs hwx hgt) [3, 4, 2] (by simp) ?_
        have hwk : IntKind.i64.wrap (st.1 + 1) = st.1 + 1 := w64 (by omega)
        simp [hB.2, hwk]
        refine Ctr.useEq (activate_budget (n := limit)) [] (by simp) ?_
        simp [hB.2]
        refine Ctr.useEq (budget_yes (s := 0) (w := ofW ws x) (limit := limit) (f := true) (by omega) hwx hlim (fun _ => rfl) (.inl rfl)) [8, 9, 7] (by simp) ?_
        simp [hB.2, hwi]
        have hst2 : wfold limit (S.take (i + 1)) = (st.1 + 1, false, ofW ws x) := by rw [hst]; unfold wstep; rw [if_neg hyes]
        exact ⟨i + 1, Le.by [0, 1, 7, 8, 9, 5] (by simp [hB.1, hB.2, hst2]), by omega, by omega⟩
  · obtain rfl : i = l.length := by omega
    rw [← hSl, List.take_length] at hf hs hk1 hk2 ⊢
    rw [wfold_snoc]
    generalize wfold limit S = st at *
    by_cases hyes : st.2.1 = true ∨ st.2.2 + weight ≤ limit
    · refine Ctr.useEq (budget_yes (s := st.2.2) (w := weight) (limit := limit) (f := st.2.1) hs hwt hlim hf hyes) [3, 4, 2] (by simp) ?_
      simp [hB.2]
      exact Fin.cut 2 (Ent.refl _) (by simp [hB.1]) (by unfold wstep; rw [if_pos hyes]; simp)
    · have hf0 : st.2.1 = false := by cases h : st.2.1 with
        | true => exact absurd (.inl h) hyes
        | false => rfl
      have hgt : limit < st.2.2 + weight := by omega
      have hwk : IntKind.i64.wrap (st.1 + 1) = st.1 + 1 := w64 (by omega)
      rw [hf0]
      refine Ctr.useEq (budget_no (s := st.2.2) (w := weight) (limit := limit) hs hwt hgt) [3, 4, 2] (by simp) ?_
      simp [hB.2, hwk]
      exact Fin.cut 2 (Ent.refl _) (by simp [hB.1]) (by unfold wstep; rw [if_neg hyes]; simp)
end Go.Proofs.Ytaplfpelnmabpaa

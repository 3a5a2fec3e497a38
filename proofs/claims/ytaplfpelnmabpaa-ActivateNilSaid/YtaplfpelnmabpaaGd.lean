import Derived.Test.YtaplfpelnmabpaaGc
namespace Go.Proofs.Ytaplfpelnmabpaa
open Go Go.Vc
set_option linter.unusedSimpArgs false
set_option linter.unusedVariables false
set_option maxRecDepth 100000
set_option maxHeartbeats 4000000

/-! a budget -/
theorem activate_budget {n : Int} : Ctr Try.prog F_activate_budget [uv n] [] (fun s hp => s = .fn F_activate_budget_1 [] [.ptr 1 0, .ptr 2 0, .ptr 0 0] ∧ hp = [.row [uv n] 1 ty_uint64, .row [uv 0] 1 ty_uint64, .row [bv true] 1 ty_bool]) := by
  refine in_activate_budget (by simp) ?_
  simp [mc_activate_budget]
theorem usum2 (a b : Int) : usum [a, b] = a + b := by simp [usum]
theorem budget_yes {s w limit : Int} {f : Bool} (hs : 0 ≤ s ∧ s ≤ 18446744073709551615) (hw : 0 ≤ w ∧ w ≤ 18446744073709551615) (hl : limit ≤ 18446744073709551615) (hf : f = true → s = 0) (h : f = true ∨ s + w ≤ limit) :
    Ctr Try.prog F_activate_budget_1 [uv w, bv true, .ptr 0 0, .ptr 1 0, .ptr 2 0] [.row [uv s] 1 ty_uint64, .row [bv f] 1 ty_bool, .row [uv limit] 1 ty_uint64] (fun r hp => r = bv true ∧ hp = [.row [uv (s + w)] 1 ty_uint64, .row [bv false] 1 ty_bool, .row [uv limit] 1 ty_uint64]) := by
  refine Ctr.fin (in_activate_budget_1 (by simp) ?_)
  simp [mc_activate_budget_1, zeros]
  refine Ctr.useEq (gwei_Add (B := .row (ivs .u64 [s, w]) 2 ty_uint64) (off := 0) (cap := 2) (l := [s, w]) (rd1_ivs _ _ _ _) (by simp) (by simp) (by simpa [UOK] using ⟨hs, hw⟩) (by simp)) [3] (by simp [ivs]) ?_
  have hle : s + w ≤ 18446744073709551615 := by
    rcases h with h | h
    · have := hf h; omega
    · omega
  simp [addR, usum2, hle]
  cases f with
  | true =>
    simp
    exact Fin.cut 3 (Ent.refl _) (by simp) (by simp)
  | false =>
    have h' : s + w ≤ limit := by simpa using h
    have h3 : (limit < s + w) = False := eq_false (by omega)
    simp [h3, h']
    exact Fin.cut 3 (Ent.refl _) (by simp) (by simp)
theorem budget_no {s w limit : Int} (hs : 0 ≤ s ∧ s ≤ 18446744073709551615) (hw : 0 ≤ w ∧ w ≤ 18446744073709551615) (h : limit < s + w) :
    Ctr Try.prog F_activate_budget_1 [uv w, bv true, .ptr 0 0, .ptr 1 0, .ptr 2 0] [.row [uv s] 1 ty_uint64, .row [bv false] 1 ty_bool, .row [uv limit] 1 ty_uint64] (fun r hp => r = bv false ∧ hp = [.row [uv s] 1 ty_uint64, .row [bv false] 1 ty_bool, .row [uv limit] 1 ty_uint64]) := by
  refine Ctr.fin (in_activate_budget_1 (by simp) ?_)
  simp [mc_activate_budget_1, zeros]
  refine Ctr.useEq (gwei_Add (B := .row (ivs .u64 [s, w]) 2 ty_uint64) (off := 0) (cap := 2) (l := [s, w]) (rd1_ivs _ _ _ _) (by simp) (by simp) (by simpa [UOK] using ⟨hs, hw⟩) (by simp)) [3] (by simp [ivs]) ?_
  by_cases hle : s + w ≤ 18446744073709551615
  · simp [addR, usum2, hle, h]
    exact Fin.cut 3 (Ent.refl _) (by simp) (by simp)
  · simp [addR, usum2, hle]
    exact Fin.cut 3 (Ent.refl _) (by simp) (by simp)

/-! how many are activated -/
def psum (ws l : List Int) (i : Nat) : Int := usum ((l.take i).map (ofW ws))
structure IsAct (ws : List Int) (limit : Int) (l : List Int) (n : Nat) : Prop where
  le : n ≤ l.length
  ok : ∀ i, i < n → i = 0 ∨ psum ws l (i + 1) ≤ limit
  stop : n = l.length ∨ (0 < n ∧ limit < psum ws l (n + 1))
theorem IsAct.uniq {ws : List Int} {limit : Int} {l : List Int} {n m : Nat} (h : IsAct ws limit l n) (h' : IsAct ws limit l m) : n = m := by
  rcases Nat.lt_trichotomy n m with hlt | he | hlt
  · have := h'.ok n hlt
    have := h.stop
    have := h'.le
    omega
  · exact he
  · have := h.ok m hlt
    have := h'.stop
    have := h.le
    omega
theorem psum_succ {ws l : List Int} {i : Nat} {x : Int} (h : l[i]? = some x) : psum ws l (i + 1) = psum ws l i + ofW ws x := by
  unfold psum
  rw [List.take_add_one, h, Option.toList_some, List.map_append, List.map_singleton, usum_snoc]
theorem psum_zero (ws l : List Int) : psum ws l 0 = 0 := by simp [psum, usum]
theorem psum_nonneg {ws : List Int} (hw : UOK ws) (l : List Int) (i : Nat) : 0 ≤ psum ws l i := by
  unfold psum
  have h := (usum_take_le (uok_map hw (l.take i)) (l.take i).length).1
  rw [List.take_of_length_le (by rw [List.length_map]; exact Nat.le_refl _)] at h
  exact h

theorem batch_1 {Y : List Int → Nat → HP} {M : Nat} (hY : ∀ xs x, xs.length < M → YCtr Try.prog 0 [iv x] [.res (Y xs)] (fun s hp => s = .v (.bool true) ∧ hp = [.res (Y (xs ++ [x]))])) {size : Nat} {l ws : List Int} {limit : Int} {o : Option (Nat × Nat)} {B : Blk}
    (ho : SrcI .u64 ws B o) (hB : Plain B) (hw : UOK ws) (hl : l.length ≤ 1048576) (hlM : l.length ≤ M) (hlim : limit ≤ 18446744073709551615) :
    Ctr Try.prog F_activate_batch_1 [.yl 0, .ptr 1 0, .ptr 2 0, .ptr 3 0, .ptr 4 0] [.res (Y []), .row [uv limit] 1 ty_uint64, .row [.ptr 5 0] 1 ty_ptr_ring_Ring_int, .row [iv 0] 1 ty_int, .row [raV 6 ws.length o] 1 ty_slice_uint64, .res (ringR size l), B]
      (fun s hp => ∃ n, IsAct ws limit l n ∧ hp = [.res (Y (l.take n)), .row [uv limit] 1 ty_uint64, .row [.ptr 5 0] 1 ty_ptr_ring_Ring_int, .row [iv n] 1 ty_int, .row [raV 6 ws.length o] 1 ty_slice_uint64, .res (ringR size l), B]) := by
  refine Ctr.fin (in_activate_batch_1 (by simp) ?_)
  simp [mc_activate_batch_1]
  refine Ctr.useEq (activate_budget (n := limit)) [] (by simp) ?_
  simp [hB.2]
  refine ⟨{ i : Nat // i ≤ l.length ∧ ∀ j, j < i → j = 0 ∨ psum ws l (j + 1) ≤ limit }, fun i => ([(0, .yl 0), (1, .ptr 1 0), (2, .ptr 2 0), (3, .ptr 3 0), (4, .ptr 4 0), (6, .fn F_activate_budget_1 [] [.ptr 8 0, .ptr 9 0, .ptr 7 0])], [.res (Y (l.take i.1)), .row [uv limit] 1 ty_uint64, .row [.ptr 5 0] 1 ty_ptr_ring_Ring_int, .row [iv (i.1 : Nat)] 1 ty_int, .row [raV 6 ws.length o] 1 ty_slice_uint64, .res (ringR size l), B, .row [uv limit] 1 ty_uint64, .row [uv (psum ws l i.1)] 1 ty_uint64, .row [bv (decide (i.1 = 0))] 1 ty_bool]), fun i => l.length - i.1,
    ⟨⟨0, by simp⟩, Le.by [0, 1, 2, 3, 4, 5, 6, 7, 8, 9] (by simp [hB.1, hB.2, psum_zero])⟩, fun i => ?_⟩
  obtain ⟨i, hi, hok⟩ := i
  simp
  refine Ctr.useEq (ring_Peek (size := size) (l := l) (i := i)) [5] (by simp) ?_
  by_cases hil : i < l.length
  · obtain ⟨x, hx⟩ : ∃ x, l[i]? = some x := ⟨_, List.getElem?_eq_getElem hil⟩
    have hgx : l.getD i 0 = x := by rw [List.getD_eq_getElem?_getD, hx]; rfl
    have hwx := ofW_ok hw x
    have hps := psum_succ (ws := ws) hx
    have hle1 : ofW ws x ≤ 18446744073709551615 := hwx.2
    have hu1 : usum [ofW ws x] = ofW ws x := by simp [usum]
    have hp0 := psum_nonneg hw l i
    rw [hgx]
    simp [hil, hB.2, zeros]
    refine Ctr.useEq (assign_Weight (ws := ws) (xs := [x]) (o := o) (ox := some (0, 1)) (B := B) (BX := .row (ivs .i64 [x]) 1 ty_int) ho hB (srcI_own (by simp) _) (plain_ivs _ _ _ _) hw (by simp)) [6, 10] (by simp [hB.1, hB.2, ivs]) ?_
    rw [addR_eq]
    simp [hu1, hle1, hB.2]
    have hsi : psum ws l i ≤ 18446744073709551615 := by
      by_cases h0 : i = 0
      · subst h0; rw [psum_zero]; omega
      · have := hok (i - 1) (by omega)
        rw [show i - 1 + 1 = i by omega] at this
        rcases this with h | h
        · have h1 : i = 1 := by omega
          subst h1
          obtain ⟨y, hy⟩ : ∃ y, l[0]? = some y := ⟨_, List.getElem?_eq_getElem (by omega)⟩
          rw [psum_succ hy, psum_zero]
          have := ofW_ok hw y
          omega
        · omega
    by_cases hyes : i = 0 ∨ psum ws l (i + 1) ≤ limit
    · have hwi : IntKind.i64.wrap ((i : Int) + 1) = (i : Int) + 1 := w64 (by omega)
      refine Ctr.useEq (budget_yes (s := psum ws l i) (w := ofW ws x) (limit := limit) (f := decide (i = 0)) ⟨hp0, hsi⟩ hwx hlim (fun h => by rw [of_decide_eq_true h, psum_zero]) (by rw [hps] at hyes; simpa using hyes)) [8, 9, 7] (by simp) ?_
      simp [hB.2]
      refine YCtr.use hY (l.take i) x (by simp; omega) (by simp) (by simp) (by simp) ?_
      have htk : l.take i ++ [x] = l.take (i + 1) := by rw [List.take_add_one, hx]; rfl
      simp [htk, hwi]
      refine ⟨i + 1, ⟨⟨by omega, fun j hj => ?_⟩, Le.by [0, 1, 2, 3, 4, 5, 6, 7, 8, 9] (by simp [hB.1, hB.2, hps])⟩, by omega⟩
      rcases Nat.lt_or_ge j i with h | h
      · exact hok j h
      · obtain rfl : j = i := by omega
        exact hyes
    · have hi0 : i ≠ 0 := fun h => hyes (.inl h)
      have hgt : limit < psum ws l i + ofW ws x := by rw [← hps]; omega
      have hd0 : decide (i = 0) = false := by simpa using hi0
      rw [hd0]
      refine Ctr.useEq (budget_no (s := psum ws l i) (w := ofW ws x) (limit := limit) ⟨hp0, hsi⟩ hwx hgt) [8, 9, 7] (by simp) ?_
      simp [hB.2]
      exact Fin.cut 7 (Ent.refl _) (by simp [hB.1]) ⟨i, ⟨hi, hok, .inr ⟨by omega, by rw [hps]; exact hgt⟩⟩, by simp⟩
  · obtain rfl : i = l.length := by omega
    simp [hil]
    exact Fin.cut 7 (Ent.refl _) (by simp [hB.1]) ⟨l.length, ⟨hi, hok, .inl rfl⟩, by simp⟩
end Go.Proofs.Ytaplfpelnmabpaa

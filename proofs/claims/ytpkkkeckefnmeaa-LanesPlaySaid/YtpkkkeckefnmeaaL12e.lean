import Derived.Test.YtpkkkeckefnmeaaL12d
namespace Go.Proofs.Ytpkkkeckefnmeaa
open Go Go.Vc
set_option linter.unusedSimpArgs false
set_option linter.unusedVariables false
set_option maxRecDepth 100000
set_option maxHeartbeats 4000000

theorem lanes_Ahead0 {c : Int} : Ctr Try.prog F_lanes_Lanes_Ahead [.v (.pointer none), iv c] [] (fun s hp => s = .v (.slice none 0 0) ∧ hp = []) := by
  refine in_lanes_Lanes_Ahead (by simp) ?_
  simp [mc_lanes_Lanes_Ahead]
  refine Ctr.useEq (lanes_class0 (c := c)) [] (by simp) ?_
  simp

theorem slV_len0 (n : Nat) {o : Option Nat} (h : SlOK 0 o) : lenV Try.prog 34 (slV n 0 o) = some 0 := by cases o <;> simp

/-- The last part of the law: what nil lanes return. -/
theorem law_Nil {c x : Int} : Ctr Try.prog F_egresslaw12_LanesNil [iv c, iv x] [] (fun s _ => s = bv true) := by
  refine in_egresslaw12_LanesNil (by simp) ?_
  simp [mc_egresslaw12_LanesNil]
  refine Ctr.useEq lanes_Pop0 [] (by simp) ?_
  simp
  refine Ctr.useEq lanes_Head0 [] (by simp) ?_
  simp
  refine Ctr.useEq (lanes_New (size := 3) (by decide)) [] (by simp) ?_
  simp [laneSh]
  refine Ctr.useEq (lanes_Push (size := 3) (l0 := []) (l1 := []) (c := c) (x := x) (by simp)) [0, 1, 2] (by simp [laneSh]) ?_
  simp [laneSh]
  obtain ⟨l0, hl0⟩ : ∃ l0, l0 = push0 3 c [] x := ⟨_, rfl⟩
  obtain ⟨l1, hl1⟩ : ∃ l1, l1 = push1 3 c [] x := ⟨_, rfl⟩
  rw [← hl0, ← hl1]
  have hb : (l0.length ≤ 3 ∧ l1.length ≤ 3) ∧ 3 ≤ 4096 := by
    rw [hl0, hl1]; exact ⟨⟨push0_le (by simp), push1_le (by simp)⟩, by decide⟩
  refine ⟨{ i : Nat // i ≤ 2 }, fun i => ([(0, iv c), (1, iv x), (5, .v (.pointer none)), (6, iv 0), (7, iv 0), (8, bv false), (9, iv 0), (10, iv 0), (11, bv false), (12, .ptr 0 0), (13, iv (pushE 3 c [] [])), (37, iv (i.1 : Nat))], laneSh 3 l0 l1), fun i => 2 - i.1, ⟨⟨0, by omega⟩, Le.by [0, 1, 2] (by simp [laneSh])⟩, fun i => ?_⟩
  obtain ⟨i, hi⟩ := i
  have hw : IntKind.i64.wrap ((i : Int) + 1) = (i : Int) + 1 := w64 (by omega)
  simp [laneSh]
  refine ⟨fun hlt => ?_, fun hge => ?_⟩
  · simp [hlt]
    refine Ctr.use (lanes_All (size := 3) (l0 := l0) (l1 := l1) (c := c) hb) [0, 1, 2] (by simp [laneSh]) fun s hc _ ⟨o1, ho1, e1, e2⟩ => ?_
    subst e1 e2
    simp [laneSh]
    refine Ctr.use (lanes_Ahead (size := 3) (l0 := l0) (l1 := l1) (c := c) hb) [0, 1, 2] (by simp [laneSh]) fun s hc _ ⟨o2, ho2, e1, e2⟩ => ?_
    subst e1 e2
    by_cases hcc : c = 0 ∨ c = 1
    · have h1 : lane c l0 l1 = [x] ∧ aheadL c l0 l1 = [x] ∧ pushE 3 c [] [] = 0 := by
        rcases hcc with rfl | rfl <;> simp [hl0, hl1, push0, push1, lane, aheadL, pushE]
      rw [h1.1] at ho1 ⊢
      rw [h1.2.1] at ho2 ⊢
      rw [h1.2.2]
      cases o1 with
      | none => simp at ho1
      | some c1 =>
      cases o2 with
      | none => simp at ho2
      | some c2 =>
      simp at ho1 ho2
      simp [laneSh]
      refine Ctr.useEq (slices_Equal (la := [x]) (lb := [x]) (some ([x], 0, c1, c1)) (some ([x], 0, 1, 1)) (by simp [VwOK, ho1]) (by simp [VwOK]) (by simp)) [3, 5] (by simp) ?_
      simp
      refine Ctr.useEq (slices_Equal (la := [x]) (lb := [x]) (some ([x], 0, c2, c2)) (some ([x], 0, 1, 1)) (by simp [VwOK, ho2]) (by simp [VwOK]) (by simp)) [4, 6] (by simp) ?_
      simp
      refine ⟨{ k : Nat // k ≤ 1 }, fun k => ([(0, iv c), (1, iv x), (5, .v (.pointer none)), (6, iv 0), (7, iv 0), (8, bv false), (9, iv 0), (10, iv 0), (11, bv false), (12, .ptr 0 0), (13, iv 0), (37, iv (i : Nat)), (14, .slc 3 0 1 c1), (15, .slc 4 0 1 c2), (62, iv 1), (63, iv (k.1 : Nat))], laneSh 3 l0 l1 ++ [.row [iv (if k.1 = 0 then x else IntKind.i64.wrap (x + 1))] c1 ty_int, .row [iv x] c2 ty_int]), fun k => 1 - k.1, ⟨⟨0, by omega⟩, Le.by [0, 1, 2, 3, 4] (by simp [laneSh])⟩, fun k => ?_⟩
      obtain ⟨k, hk⟩ := k
      rcases (show k = 0 ∨ k = 1 by omega) with rfl | rfl
      · simp [laneSh]
        exact ⟨1, ⟨by omega, Le.by [0, 1, 2, 3, 4] (by simp)⟩, by omega⟩
      · simp [laneSh]
        refine ⟨{ k : Nat // k ≤ 1 }, fun k => ([(0, iv c), (1, iv x), (5, .v (.pointer none)), (6, iv 0), (7, iv 0), (8, bv false), (9, iv 0), (10, iv 0), (11, bv false), (12, .ptr 0 0), (13, iv 0), (37, iv (i : Nat)), (15, .slc 3 0 1 c2), (74, iv 1), (75, iv (k.1 : Nat))], laneSh 3 l0 l1 ++ [.row [iv (if k.1 = 0 then x else IntKind.i64.wrap (x - 1))] c2 ty_int]), fun k => 1 - k.1, ⟨⟨0, by omega⟩, Le.by [0, 1, 2, 4] (by simp [laneSh])⟩, fun k => ?_⟩
        obtain ⟨k, hk⟩ := k
        rcases (show k = 0 ∨ k = 1 by omega) with rfl | rfl
        · simp [laneSh]
          exact ⟨1, ⟨by omega, Le.by [0, 1, 2, 3] (by simp)⟩, by omega⟩
        · simp [laneSh, hw]
          exact ⟨i + 1, Le.by [0, 1, 2] (by simp [h1.2.2]), by omega, by omega⟩
    · have h0 : c ≠ 0 := fun e => hcc (.inl e)
      have h1 : c ≠ 1 := fun e => hcc (.inr e)
      have h2 : lane c l0 l1 = [] ∧ aheadL c l0 l1 = [] ∧ pushE 3 c [] [] = 11 := by simp [lane, aheadL, pushE, h0, h1]
      rw [h2.1] at ho1 ⊢
      rw [h2.2.1] at ho2 ⊢
      rw [h2.2.2]
      have k1 := slV_len0 3 ho1
      have k2 := slV_len0 4 ho2
      simp [laneSh] at k1 k2 ⊢
      simp [k1]
      refine ⟨Unit, fun _ => ([(0, iv c), (1, iv x), (5, .v (.pointer none)), (6, iv 0), (7, iv 0), (8, bv false), (9, iv 0), (10, iv 0), (11, bv false), (12, .ptr 0 0), (13, iv 11), (37, iv (i : Nat)), (14, slV 3 0 o1), (15, slV 4 0 o2), (62, iv 0), (63, iv 0)], laneSh 3 l0 l1 ++ [.any, .any]), fun k => 0, ⟨(), Le.ent (ent_any [3, 4]) [0, 1, 2, 3, 4] (by simp [laneSh])⟩, fun _ => ?_⟩
      simp [laneSh, k2]
      refine ⟨Unit, fun _ => ([(0, iv c), (1, iv x), (5, .v (.pointer none)), (6, iv 0), (7, iv 0), (8, bv false), (9, iv 0), (10, iv 0), (11, bv false), (12, .ptr 0 0), (13, iv 11), (37, iv (i : Nat)), (15, slV 3 0 o2), (74, iv 0), (75, iv 0)], laneSh 3 l0 l1 ++ [.any]), fun k => 0, ⟨(), Le.by [0, 1, 2, 4] (by simp [laneSh])⟩, fun _ => ?_⟩
      simp [laneSh, hw]
      exact ⟨i + 1, Le.by [0, 1, 2] (by simp [h2.2.2]), by omega, by omega⟩
  · refine Ctr.useEq law_alive [] (by simp) ?_
    simp
    refine Ctr.useEq (lanes_Push0 (c := c) (x := x)) [] (by simp) ?_
    simp
    refine Ctr.useEq (lanes_Len0 (c := c)) [] (by simp) ?_
    simp
    refine Ctr.useEq (lanes_Free0 (c := c)) [] (by simp) ?_
    simp
    refine Ctr.useEq (lanes_All0 (c := c)) [] (by simp) ?_
    simp
    refine Ctr.useEq (lanes_Ahead0 (c := c)) [] (by simp) ?_
    by_cases h0 : c = 0
    · subst h0; simp [pushE]
    by_cases h1 : c = 1
    · subst h1; simp [pushE]
    simp [pushE, h0, h1]
end Go.Proofs.Ytpkkkeckefnmeaa

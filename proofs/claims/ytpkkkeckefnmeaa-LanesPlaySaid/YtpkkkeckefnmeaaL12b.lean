import Derived.Test.YtpkkkeckefnmeaaL12a
namespace Go.Proofs.Ytpkkkeckefnmeaa
open Go Go.Vc
set_option linter.unusedSimpArgs false
set_option linter.unusedVariables false
set_option maxRecDepth 100000
set_option maxHeartbeats 4000000

theorem tmod_nat (a : Nat) (k : Int) (hk : 0 < k) : ∃ q : Nat, (a : Int).tmod k = q ∧ (q : Int) < k := by
  rw [Int.tmod_eq_emod_of_nonneg (by omega)]
  have h1 := Int.emod_nonneg (a : Int) (show k ≠ 0 by omega)
  have h2 := Int.emod_lt_of_pos (a : Int) hk
  exact ⟨((a : Int) % k).toNat, by omega, by omega⟩

theorem law_Bounds {a b e : Nat} (ha : a ≤ 255) (hb : b ≤ 255) (he : e ≤ 255) : Ctr Try.prog F_egresslaw12_LanesBounds [.v (.int .u8 a), .v (.int .u8 b), .v (.int .u8 e)] [] (fun s _ => s = bv true) := by
  refine in_egresslaw12_LanesBounds (by simp) ?_
  obtain ⟨a', ta, ha'⟩ := tmod_nat a 30 (by decide)
  obtain ⟨c, tb, hc⟩ := tmod_nat b 2 (by decide)
  obtain ⟨e', te, he'⟩ := tmod_nat e 5 (by decide)
  obtain ⟨m, hm, hm1⟩ : ∃ m : Nat, (a' : Int) + 1 = m ∧ 1 ≤ m ∧ m ≤ 30 := ⟨a' + 1, by omega, by omega, by omega⟩
  obtain ⟨x, hx, hx1⟩ : ∃ x : Nat, (e' : Int) + 1 = x ∧ 1 ≤ x ∧ x ≤ 5 := ⟨e' + 1, by omega, by omega, by omega⟩
  have wa : IntKind.i64.wrap (a : Int) = a := w64 (by omega)
  have wb : IntKind.i64.wrap (b : Int) = b := w64 (by omega)
  have we : IntKind.i64.wrap (e : Int) = e := w64 (by omega)
  have wm : IntKind.i64.wrap (m : Int) = m := w64 (by omega)
  have wx : IntKind.i64.wrap (x : Int) = x := w64 (by omega)
  simp [mc_egresslaw12_LanesBounds, wa, wb, ta, tb, hm, wm]
  refine Ctr.useEq (lanes_New (size := m) (by omega)) [] (by simp) ?_
  simp [laneSh]
  obtain ⟨l, hl⟩ : ∃ l : Nat → List Int, ∀ i, (l i) = (List.range i).map (fun k : Nat => (k : Int)) := ⟨_, fun _ => rfl⟩
  have hll : ∀ i, (l i).length = i := fun i => by rw [hl]; simp
  have hl1 : ∀ i, l (i + 1) = l i ++ [(i : Int)] := fun i => by rw [hl, hl, List.range_succ]; simp
  have hl0 : l 0 = [] := by rw [hl]; rfl
  have hc1 : c = 0 ∨ c = 1 := by omega
  rcases hc1 with rfl | rfl
  · refine ⟨{ i : Nat // i ≤ m }, fun i => ([(2, .v (.int .u8 e)), (7, iv m), (8, iv 0), (9, .ptr 0 0), (22, iv m), (23, iv i.1)], lanesAt 0 m (l i.1) []), fun i => m - i.1, ⟨⟨0, by omega⟩, Le.by [0, 1, 2] (by simp [lanesAt, hl0])⟩, fun i => ?_⟩
    obtain ⟨i, hi⟩ := i
    simp [lanesAt]
    refine ⟨fun h => ?_, fun h => ?_⟩
    · refine Ctr.useEq (lanes_Push (size := m) (l0 := l i) (l1 := []) (c := 0) (x := i) (by simp [hll]; omega)) [0, 1, 2] (by simp [laneSh]) ?_
      have hw : IntKind.i64.wrap ((i : Int) + 1) = (i : Int) + 1 := w64 (by omega)
      have ht : [(i : Int)].take (m - i) = [(i : Int)] := List.take_of_length_le (by simp; omega)
      simp [laneSh, pushE, push0, push1, hll, h, hw, ht]
      exact ⟨i + 1, Le.by [0, 1, 2] (by simp [hl1]), by omega, by omega⟩
    · obtain rfl : i = m := by omega
      simp [we, te, hx, wx]
      refine ⟨{ j : Nat // j ≤ x }, fun j => ([(7, iv i), (8, iv 0), (9, .ptr 0 0), (35, iv x), (36, iv j.1)], lanesAt 0 i (l i) []), fun j => x - j.1, ⟨⟨0, by omega⟩, Le.by [0, 1, 2] (by simp [lanesAt])⟩, fun j => ?_⟩
      obtain ⟨j, hj⟩ := j
      simp [lanesAt]
      refine ⟨fun h => ?_, fun h => ?_⟩
      · refine Ctr.useEq (lanes_Push (size := i) (l0 := l i) (l1 := []) (c := 0) (x := 9) (by simp [hll])) [0, 1, 2] (by simp [laneSh]) ?_
        have hw : IntKind.i64.wrap ((j : Int) + 1) = (j : Int) + 1 := w64 (by omega)
        have hp : pushE i 0 (l i) [] = 6 := by simp [pushE, hll]
        have hq : push0 i 0 (l i) 9 = l i := by simp [push0, hll]
        have hr : push1 i 0 [] 9 = [] := by simp [push1]
        rw [hp, hq, hr]
        simp [laneSh, hw]
        exact ⟨j + 1, Le.by [0, 1, 2] (by simp), by omega, by omega⟩
      · refine Ctr.useEq law_alive [] (by simp) ?_
        simp
        refine Ctr.useEq (lanes_Len (size := i) (l0 := l i) (l1 := []) (c := 0)) [0, 1, 2] (by simp [laneSh]) ?_
        simp [laneSh, hll]
        refine Ctr.useEq (lanes_Free (size := i) (l0 := l i) (l1 := []) (c := 0) (by simp [hll])) [0, 1, 2] (by simp [laneSh]) ?_
        simp [laneSh, freeL, hll]
        refine Ctr.useEq (lanes_Push (size := i) (l0 := l i) (l1 := []) (c := 1) (x := 5) (by simp [hll])) [0, 1, 2] (by simp [laneSh]) ?_
        have hi0 : 0 < i := by omega
        have ht : [(5 : Int)].take i = [5] := List.take_of_length_le (by simp; omega)
        simp [laneSh, pushE, push0, push1, hll, hi0, ht]
        refine Ctr.useEq (lanes_Len (size := i) (l0 := l i) (l1 := [5]) (c := 1)) [0, 1, 2] (by simp [laneSh]) ?_
        simp [laneSh]
  · refine ⟨{ i : Nat // i ≤ m }, fun i => ([(2, .v (.int .u8 e)), (7, iv m), (8, iv 1), (9, .ptr 0 0), (22, iv m), (23, iv i.1)], lanesAt 0 m [] (l i.1)), fun i => m - i.1, ⟨⟨0, by omega⟩, Le.by [0, 1, 2] (by simp [lanesAt, hl0])⟩, fun i => ?_⟩
    obtain ⟨i, hi⟩ := i
    simp [lanesAt]
    refine ⟨fun h => ?_, fun h => ?_⟩
    · refine Ctr.useEq (lanes_Push (size := m) (l0 := []) (l1 := l i) (c := 1) (x := i) (by simp [hll]; omega)) [0, 1, 2] (by simp [laneSh]) ?_
      have hw : IntKind.i64.wrap ((i : Int) + 1) = (i : Int) + 1 := w64 (by omega)
      have ht : [(i : Int)].take (m - i) = [(i : Int)] := List.take_of_length_le (by simp; omega)
      simp [laneSh, pushE, push0, push1, hll, h, hw, ht]
      exact ⟨i + 1, Le.by [0, 1, 2] (by simp [hl1]), by omega, by omega⟩
    · obtain rfl : i = m := by omega
      simp [we, te, hx, wx]
      refine ⟨{ j : Nat // j ≤ x }, fun j => ([(7, iv i), (8, iv 1), (9, .ptr 0 0), (35, iv x), (36, iv j.1)], lanesAt 0 i [] (l i)), fun j => x - j.1, ⟨⟨0, by omega⟩, Le.by [0, 1, 2] (by simp [lanesAt])⟩, fun j => ?_⟩
      obtain ⟨j, hj⟩ := j
      simp [lanesAt]
      refine ⟨fun h => ?_, fun h => ?_⟩
      · refine Ctr.useEq (lanes_Push (size := i) (l0 := []) (l1 := l i) (c := 1) (x := 9) (by simp [hll])) [0, 1, 2] (by simp [laneSh]) ?_
        have hw : IntKind.i64.wrap ((j : Int) + 1) = (j : Int) + 1 := w64 (by omega)
        have hp : pushE i 1 [] (l i) = 6 := by simp [pushE, hll]
        have hq : push0 i 1 [] 9 = [] := by simp [push0]
        have hr : push1 i 1 (l i) 9 = l i := by simp [push1, hll]
        rw [hp, hq, hr]
        simp [laneSh, hw]
        exact ⟨j + 1, Le.by [0, 1, 2] (by simp), by omega, by omega⟩
      · refine Ctr.useEq law_alive [] (by simp) ?_
        simp
        refine Ctr.useEq (lanes_Len (size := i) (l0 := []) (l1 := l i) (c := 1)) [0, 1, 2] (by simp [laneSh]) ?_
        simp [laneSh, hll]
        refine Ctr.useEq (lanes_Free (size := i) (l0 := []) (l1 := l i) (c := 1) (by simp [hll])) [0, 1, 2] (by simp [laneSh]) ?_
        simp [laneSh, freeL, hll]
        refine Ctr.useEq (lanes_Push (size := i) (l0 := []) (l1 := l i) (c := 0) (x := 5) (by simp [hll])) [0, 1, 2] (by simp [laneSh]) ?_
        have hi0 : 0 < i := by omega
        have ht : [(5 : Int)].take i = [5] := List.take_of_length_le (by simp; omega)
        simp [laneSh, pushE, push0, push1, hll, hi0, ht]
        refine Ctr.useEq (lanes_Len (size := i) (l0 := [5]) (l1 := l i) (c := 0)) [0, 1, 2] (by simp [laneSh]) ?_
        simp [laneSh]
end Go.Proofs.Ytpkkkeckefnmeaa

import Derived.Test.YtpkkkeckefnmeaaRf
namespace Go.Proofs.Ytpkkkeckefnmeaa
open Go Go.Vc
set_option linter.unusedSimpArgs false
set_option linter.unusedVariables false
set_option maxRecDepth 100000
set_option maxHeartbeats 4000000

theorem lanes_NewN {n : Int} (h : n < 1 ∨ 4096 < n) : Ctr Try.prog F_lanes_New [iv n] [] (fun s hp => s = .v (.pointer none) ∧ hp = []) := by
  refine in_lanes_New (by simp) ?_
  by_cases h1 : n < 1
  · simp [mc_lanes_New, h1]
  · have h2 : 4096 < n := by omega
    simp [mc_lanes_New, h1, h2]

theorem stepL_le {m : Nat} {x : OpT} {l : List Int × List Int} (h : l.1.length ≤ m ∧ l.2.length ≤ m) : (stepL m x l).1.length ≤ m ∧ (stepL m x l).2.length ≤ m := by
  unfold stepL
  split
  · refine ⟨by simp; omega, ?_⟩
    simp only
    split
    · simp; omega
    · exact h.2
  · exact ⟨push0_le h.1, push1_le h.2⟩

theorem law_Play {n : Int} {ops : List OpT} {o : Option (Nat × Nat)} (ho : RaOK ops.length o) : Ctr Try.prog F_egresslaw12_LanesPlay [iv n, raV 0 ops.length o] [raB (ops.flatMap opC) o] (fun s _ => s = bv true) := by
  refine in_egresslaw12_LanesPlay (by simp) ?_
  have hlen := raV_len (P := Try.prog) 0 ops.length slc_22 ho
  by_cases hn : n < 1 ∨ 4096 < n
  · simp [mc_egresslaw12_LanesPlay]
    refine Ctr.useEq (lanes_NewN hn) [] (by simp) ?_
    by_cases h1 : n < 1
    · simp [h1]
      refine Ctr.useEq law_alive [] (by simp) ?_
      simp
    · have h2 : 4096 < n := by omega
      simp [h1, h2]
      refine Ctr.useEq law_alive [] (by simp) ?_
      simp
  obtain ⟨m, rfl⟩ : ∃ m : Nat, n = m := ⟨n.toNat, by omega⟩
  have h1 : ¬ (m : Int) < 1 := by omega
  have h2 : ¬ (4096 : Int) < m := by omega
  simp [mc_egresslaw12_LanesPlay]
  refine Ctr.useEq (lanes_New (size := m) (by omega)) [] (by simp) ?_
  simp [laneSh, hlen, h1, h2]
  refine ⟨fun h => ?_, fun h => ?_⟩
  · refine Ctr.useEq law_alive [] (by simp) ?_
    simp
  refine ⟨{ p : Nat × (List Int × List Int) // p.1 ≤ ops.length ∧ p.2.1.length ≤ m ∧ p.2.2.length ≤ m }, fun p => ([(31, raV 0 ops.length o), (32, iv ops.length), (33, iv (p.1.1 : Nat)), (5, .ptr 1 0), (6, .ptr 4 0)], [raB (ops.flatMap opC) o] ++ lanesAt 1 m p.1.2.1 p.1.2.2 ++ [.res (refR m p.1.2.1 p.1.2.2)]), fun p => ops.length - p.1.1, ⟨⟨(0, [], []), by simp⟩, Le.ent (ent_more.trans fun _ e => by subst e; exact ent_more.trans fun _ e => by subst e; exact ref_shut (size := m) (l0 := []) (l1 := []) 4 5 6 none none rfl rfl (by simp)) [0, 1, 2, 3, 4] (by simp [lanesAt])⟩, fun p => ?_⟩
  obtain ⟨⟨i, l⟩, hi, hl⟩ := p
  simp only at hi hl
  simp [lanesAt]
  refine ⟨fun hlt => ?_, fun hge => ?_⟩
  · cases o with
    | none => have : ops.length = 0 := ho; omega
    | some p =>
      obtain ⟨off, cap⟩ := p
      obtain ⟨x, hx⟩ : ∃ x, ops[i]? = some x := ⟨_, List.getElem?_eq_getElem hlt⟩
      have hr := ops_rd (off := off) hx
      have hw : IntKind.i64.wrap ((i : Int) + 1) = (i : Int) + 1 := w64 (by omega)
      simp [hlt, hr, -rdN_ro]
      refine Ctr.useEq (law_do (size := m) (l0 := l.1) (l1 := l.2) (x := x) ⟨hl, by omega⟩) [1, 2, 3, 4] (by simp [laneSh]) ?_
      have hs := stepL_le (x := x) hl
      simp [laneSh]
      refine Ctr.useEq (law_same (size := m) (l0 := (stepL m x l).1) (l1 := (stepL m x l).2) ⟨hs, by omega⟩) [1, 2, 3, 4] (by simp [laneSh]) ?_
      simp [laneSh, hw]
      exact ⟨i + 1, (stepL m x l).1, (stepL m x l).2, Le.by [0, 1, 2, 3, 4] (by simp), ⟨by omega, hs⟩, by omega⟩
  · refine Ctr.useEq law_alive [] (by simp) ?_
    simp
end Go.Proofs.Ytpkkkeckefnmeaa

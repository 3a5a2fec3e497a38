import Derived.Test.YtggpldcdhkhdmaaMe
namespace Go.Proofs.Ytggpldcdhkhdmaa
open Go Go.Vc
set_option linter.unusedSimpArgs false
set_option linter.unusedVariables false
set_option maxRecDepth 100000
set_option maxHeartbeats 4000000

theorem ref03_between {a b n : Int} : Ctr Try.prog F_egressref03_between [iv n, iv a, iv b] [] (fun s hp => s = bv (decide (a ≤ n ∧ n ≤ b)) ∧ hp = []) := by
  refine in_egressref03_between (by simp) ?_
  simp [mc_egressref03_between]
  by_cases h : a ≤ n
  · simp [h]
    intro h'
    omega
  · simp [h]

/-- A configuration's conditions by their number. -/
def condP (c : Cf) (i : Int) : Prop :=
  if i = 1 then (1 ≤ c.cap ∧ c.cap ≤ 4096)
  else if i = 2 then (1 ≤ c.qs ∧ c.qs ≤ 4096)
  else if i = 3 then (1 ≤ c.minDep)
  else if i = 4 then (c.minDep ≤ c.maxDep)
  else if i = 5 then (c.maxDep ≤ c.supply ∧ c.supply ≤ 1152921504606846976)
  else if i = 6 then (1 ≤ c.minBal ∧ c.minBal ≤ c.minDep)
  else if i = 7 then (c.maxDep ≤ c.maxBal ∧ c.maxBal ≤ c.supply)
  else if i = 8 then (1 ≤ c.minChurn ∧ c.minChurn ≤ 1152921504606846976)
  else if i = 9 then (1 ≤ c.quot)
  else if i = 10 then (c.fcap ≤ 1152921504606846976)
  else if i = 11 then (1 ≤ c.unb ∧ c.unb ≤ 1048576)
  else if i = 12 then (c.unb < c.sld ∧ c.sld ≤ 1048576)
  else if i = 13 then (1 ≤ c.ring ∧ c.ring ≤ 4096)
  else if i = 14 then (1 ≤ c.elen ∧ c.elen ≤ 4096)
  else if i = 15 then (1 ≤ c.vis ∧ c.vis ≤ 4096)
  else if i = 16 then (1 ≤ c.pay ∧ c.pay ≤ 4096)
  else if i = 17 then (0 ≤ c.part ∧ c.part < c.vis ∧ c.part < c.pay)
  else if i = 18 then (0 ≤ c.merges ∧ c.merges ≤ 4096)
  else if i = 19 then (c.pnum ≤ c.pden)
  else 1 ≤ c.pden ∧ c.pden ≤ 4294967296
instance (c : Cf) (i : Int) : Decidable (condP c i) := by unfold condP; exact inferInstance
theorem ref03_right {c : Cf} {i : Int} : Ctr Try.prog F_egressref03_right [.agg c.c, iv i] [] (fun s hp => s = bv (decide (condP c i)) ∧ hp = []) := by
  refine Ctr.fin (in_egressref03_right (by simp) ?_)
  have done : ∀ (P : Prop) [Decidable P] (hp : List Blk), (condP c i ↔ P) → Vc.Fin 0 (fun s hp => s = bv (decide (condP c i)) ∧ hp = []) (bv (decide P)) hp := fun P _ hp h => Fin.cut 0 (Ent.refl _) (by simp) (by simp [h])
  by_cases h1 : i = 1
  · subst h1
    simp [mc_egressref03_right]
    refine Ctr.useEq (ref03_between (n := c.cap) (a := 1) (b := 4096)) [] (by simp) ?_
    simp
    exact Fin.cut 0 (Ent.refl _) (by simp) (by simp [condP])
  by_cases h2 : i = 2
  · subst h2
    simp [mc_egressref03_right]
    refine Ctr.useEq (ref03_between (n := c.qs) (a := 1) (b := 4096)) [] (by simp) ?_
    simp
    exact Fin.cut 0 (Ent.refl _) (by simp) (by simp [condP])
  by_cases h3 : i = 3
  · subst h3
    simp [mc_egressref03_right]
    exact done (1 ≤ c.minDep) _ (by simp [condP])
  by_cases h4 : i = 4
  · subst h4
    simp [mc_egressref03_right]
    exact done (c.minDep ≤ c.maxDep) _ (by simp [condP])
  by_cases h5 : i = 5
  · subst h5
    simp [mc_egressref03_right]
    refine ⟨fun g => done (c.supply ≤ 1152921504606846976) _ (by simp [condP, g]), fun g => done False _ (by simp [condP]; omega)⟩
  by_cases h6 : i = 6
  · subst h6
    simp [mc_egressref03_right]
    refine ⟨fun g => done (c.minBal ≤ c.minDep) _ (by simp [condP, g]), fun g => done False _ (by simp [condP]; omega)⟩
  by_cases h7 : i = 7
  · subst h7
    simp [mc_egressref03_right]
    refine ⟨fun g => done (c.maxBal ≤ c.supply) _ (by simp [condP, g]), fun g => done False _ (by simp [condP]; omega)⟩
  by_cases h8 : i = 8
  · subst h8
    simp [mc_egressref03_right]
    refine ⟨fun g => done (c.minChurn ≤ 1152921504606846976) _ (by simp [condP, g]), fun g => done False _ (by simp [condP]; omega)⟩
  by_cases h9 : i = 9
  · subst h9
    simp [mc_egressref03_right]
    exact done (1 ≤ c.quot) _ (by simp [condP])
  by_cases h10 : i = 10
  · subst h10
    simp [mc_egressref03_right]
    exact done (c.fcap ≤ 1152921504606846976) _ (by simp [condP])
  by_cases h11 : i = 11
  · subst h11
    simp [mc_egressref03_right]
    refine Ctr.useEq (ref03_between (n := c.unb) (a := 1) (b := 1048576)) [] (by simp) ?_
    simp
    exact Fin.cut 0 (Ent.refl _) (by simp) (by simp [condP])
  by_cases h12 : i = 12
  · subst h12
    simp [mc_egressref03_right]
    refine ⟨fun g => done (c.sld ≤ 1048576) _ (by simp [condP, g]), fun g => done False _ (by simp [condP]; omega)⟩
  by_cases h13 : i = 13
  · subst h13
    simp [mc_egressref03_right]
    refine Ctr.useEq (ref03_between (n := c.ring) (a := 1) (b := 4096)) [] (by simp) ?_
    simp
    exact Fin.cut 0 (Ent.refl _) (by simp) (by simp [condP])
  by_cases h14 : i = 14
  · subst h14
    simp [mc_egressref03_right]
    refine Ctr.useEq (ref03_between (n := c.elen) (a := 1) (b := 4096)) [] (by simp) ?_
    simp
    exact Fin.cut 0 (Ent.refl _) (by simp) (by simp [condP])
  by_cases h15 : i = 15
  · subst h15
    simp [mc_egressref03_right]
    refine Ctr.useEq (ref03_between (n := c.vis) (a := 1) (b := 4096)) [] (by simp) ?_
    simp
    exact Fin.cut 0 (Ent.refl _) (by simp) (by simp [condP])
  by_cases h16 : i = 16
  · subst h16
    simp [mc_egressref03_right]
    refine Ctr.useEq (ref03_between (n := c.pay) (a := 1) (b := 4096)) [] (by simp) ?_
    simp
    exact Fin.cut 0 (Ent.refl _) (by simp) (by simp [condP])
  by_cases h17 : i = 17
  · subst h17
    simp [mc_egressref03_right]
    refine ⟨fun g => ⟨fun g2 => done (c.part < c.pay) _ (by simp [condP, g, g2]), fun g2 => done False _ (by simp [condP]; omega)⟩, fun g => done False _ (by simp [condP]; omega)⟩
  by_cases h18 : i = 18
  · subst h18
    simp [mc_egressref03_right]
    refine Ctr.useEq (ref03_between (n := c.merges) (a := 0) (b := 4096)) [] (by simp) ?_
    simp
    exact Fin.cut 0 (Ent.refl _) (by simp) (by simp [condP])
  by_cases h19 : i = 19
  · subst h19
    simp [mc_egressref03_right]
    exact done (c.pnum ≤ c.pden) _ (by simp [condP])
  simp [mc_egressref03_right, h1, h2, h3, h4, h5, h6, h7, h8, h9, h10, h11, h12, h13, h14, h15, h16, h17, h18, h19]
  refine ⟨fun g => done (c.pden ≤ 4294967296) _ (by simp [condP, g, h1, h2, h3, h4, h5, h6, h7, h8, h9, h10, h11, h12, h13, h14, h15, h16, h17, h18, h19]), fun g => done False _ (by simp [condP, h1, h2, h3, h4, h5, h6, h7, h8, h9, h10, h11, h12, h13, h14, h15, h16, h17, h18, h19]; omega)⟩

/-- The configuration is valid. -/
def CfOK (c : Cf) : Prop := ∀ i : Nat, 1 ≤ i → i ≤ 20 → condP c i
theorem ref03_Check {c : Cf} : Ctr Try.prog F_egressref03_Check [.agg c.c] [] (fun s hp => ∃ r : Int, s = iv r ∧ (r = 0 ↔ CfOK c) ∧ hp = []) := by
  refine Ctr.fin (in_egressref03_Check (by simp) ?_)
  simp [mc_egressref03_Check]
  refine ⟨{ i : Nat // (1 ≤ i ∧ i ≤ 21) ∧ ∀ j : Nat, 1 ≤ j → j < i → condP c j }, fun i => ([(1, .ptr 0 0), (3, iv (i.1 : Nat))], [.row c.c 20 ty_api_Config]), fun i => 21 - i.1, ⟨⟨1, by omega, fun j h1 h2 => by omega⟩, Le.by [0] (by simp)⟩, fun i => ?_⟩
  obtain ⟨i, hi, hc⟩ := i
  simp
  refine ⟨fun h => ?_, fun h => ?_⟩
  · refine Ctr.useEq (ref03_right (c := c) (i := i)) [] (by simp) ?_
    by_cases hb : condP c i
    · have hw : IntKind.i64.wrap ((i : Int) + 1) = (i : Int) + 1 := w64 (by omega)
      simp [hb, hw]
      refine ⟨i + 1, Le.by [0] (by simp), ⟨⟨by omega, by omega⟩, fun j h1 h2 => ?_⟩, by omega⟩
      by_cases e : j = i
      · subst e; exact hb
      · exact hc j h1 (by omega)
    · simp [hb]
      exact Fin.cut 0 (Ent.refl _) (by simp) ⟨i, by simp, ⟨fun e => by omega, fun e => absurd (e i hi.1 (by omega)) hb⟩, by simp⟩
  · exact Fin.cut 0 (Ent.refl _) (by simp) ⟨0, by simp, ⟨fun _ j h1 h2 => hc j h1 (by omega), fun _ => rfl⟩, by simp⟩
theorem CfOK.merges {c : Cf} (h : CfOK c) : 0 ≤ c.merges ∧ c.merges ≤ 4096 := by
  have := h 18 (by omega) (by omega)
  simpa [condP] using this

instance (v : Vd) : Decidable v.OK := by unfold Vd.OK; exact inferInstance
/-! the example -/
def dflt : Cf := ⟨16, 8, 16, 64, 1024, 8, 128, 32, 4, 64, 2, 5, 4, 4, 6, 4, 2, 2, 1, 4⟩
theorem config_Default : Ctr Try.prog F_config_Default [] [] (fun s hp => s = .agg dflt.c ∧ hp = []) := by
  refine Ctr.fin (in_config_Default (by simp) ?_)
  simp [mc_config_Default]
  exact Fin.cut 0 (Ent.refl _) (by simp) (by simp [dflt, Cf.c])
theorem alive_1 {n : Int} : Ctr Try.prog F_egresslaw16_alive_1 [uv n] [] (fun s hp => s = .agg (⟨n, 2, false, 0, 0, 0, 0⟩ : Vd).c ∧ hp = []) := by
  refine Ctr.fin (in_egresslaw16_alive_1 (by simp) ?_)
  simp [mc_egresslaw16_alive_1]
  exact Fin.cut 0 (Ent.refl _) (by simp) (by simp [Vd.c])
theorem law_alive : Ctr Try.prog F_egresslaw16_alive [] [] (fun s hp => s = bv true ∧ hp = []) := by
  refine Ctr.fin (in_egresslaw16_alive (by simp) ?_)
  simp [mc_egresslaw16_alive]
  refine Ctr.useEq (alive_1 (n := 50)) [] (by simp) ?_
  simp
  refine Ctr.useEq (alive_1 (n := 60)) [] (by simp) ?_
  simp
  refine Ctr.useEq config_Default [] (by simp) ?_
  simp
  refine Ctr.useEq (merge_Apply (a := ⟨50, 2, false, 0, 0, 0, 0⟩) (b := ⟨60, 2, false, 0, 0, 0, 0⟩) (c := dflt) (by decide) (by decide)) [] (by simp) ?_
  have hc : chkE ⟨50, 2, false, 0, 0, 0, 0⟩ ⟨60, 2, false, 0, 0, 0, 0⟩ dflt = 0 := by decide
  simp [hc, mvA, mvB]
  refine maskK.by [] ?_
  simp [Vd.c]
  refine Ctr.useEq (alive_1 (n := 110)) [] (by simp) ?_
  simp [Vd.c]
  refine Ctr.useEq (alive_1 (n := 70)) [] (by simp) ?_
  simp [Vd.c]
  refine Ctr.useEq (alive_1 (n := 60)) [] (by simp) ?_
  simp
  refine Ctr.useEq config_Default [] (by simp) ?_
  simp
  refine Ctr.useEq (merge_Check (a := ⟨70, 2, false, 0, 0, 0, 0⟩) (b := ⟨60, 2, false, 0, 0, 0, 0⟩) (c := dflt) (by decide) (by decide)) [] (by simp [Vd.c]) ?_
  have hc : chkE ⟨70, 2, false, 0, 0, 0, 0⟩ ⟨60, 2, false, 0, 0, 0, 0⟩ dflt = 3 := by decide
  simp [hc]
  exact Fin.cut 0 (Ent.refl _) (by simp) (by simp)
end Go.Proofs.Ytggpldcdhkhdmaa

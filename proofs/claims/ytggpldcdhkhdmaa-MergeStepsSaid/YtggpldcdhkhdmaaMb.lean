import Derived.Test.YtggpldcdhkhdmaaMa
namespace Go.Proofs.Ytggpldcdhkhdmaa
open Go Go.Vc
set_option linter.unusedSimpArgs false
set_option linter.unusedVariables false
set_option maxRecDepth 100000
set_option maxHeartbeats 4000000

theorem rd1_ivs (k : IntKind) (l : List Int) (m : Nat) (ty : TypeId) : Rd1 (.row (ivs k l) m ty) 0 (ivs k l) := fun i x h => by
  simp only [Blk.rd1]; rw [Nat.zero_add]; exact h

/-! merge.Check -/
theorem chk1 {a b : Vd} {c : Cf} : Ctr Try.prog F_merge_checks_1 [.agg a.c, .agg b.c, .agg c.c] [] (fun s hp => s = bv (decide (a.st = 2 ∧ b.st = 2)) ∧ hp = []) := by
  refine Ctr.fin (in_merge_checks_1 (by simp) ?_)
  simp [mc_merge_checks_1, Vd.c, Cf.c]
  exact Fin.cut 0 (Ent.refl _) (by simp) (by simp)
theorem chk2 {a b : Vd} {c : Cf} : Ctr Try.prog F_merge_checks_2 [.agg a.c, .agg b.c, .agg c.c] [] (fun s hp => s = bv (!a.sl && !b.sl) ∧ hp = []) := by
  refine Ctr.fin (in_merge_checks_2 (by simp) ?_)
  simp [mc_merge_checks_2, Vd.c, Cf.c]
  cases a.sl <;> cases b.sl <;> simp <;> exact Fin.cut 0 (Ent.refl _) (by simp) (by simp)
/-- The sum of two balances is within the bound. -/
def sumOK (a b : Vd) (c : Cf) : Prop := a.bal + b.bal ≤ 18446744073709551615 ∧ a.bal + b.bal ≤ c.maxBal
instance (a b : Vd) (c : Cf) : Decidable (sumOK a b c) := inferInstanceAs (Decidable (_ ∧ _))
theorem chk3 {a b : Vd} {c : Cf} (ha : a.OK) (hb : b.OK) : Ctr Try.prog F_merge_checks_3 [.agg a.c, .agg b.c, .agg c.c] [] (fun s hp => s = bv (decide (sumOK a b c)) ∧ hp = []) := by
  refine Ctr.fin (in_merge_checks_3 (by simp) ?_)
  simp [mc_merge_checks_3, Vd.c, Cf.c]
  refine Ctr.useEq (gwei_Add (B := .row (ivs .u64 [a.bal, b.bal]) 2 ty_uint64) (off := 0) (cap := 2) (l := [a.bal, b.bal]) (rd1_ivs _ _ _ _) (by simp) (by simp) (by simpa [UOK] using ⟨ha, hb⟩) (by simp)) [3] (by simp [ivs]) ?_
  by_cases h : usum [a.bal, b.bal] ≤ 18446744073709551615
  · have h' : a.bal + b.bal ≤ 18446744073709551615 := by simpa [usum] using h
    simp [addR, h]
    exact Fin.cut 0 (Ent.refl _) (by simp) (by simp [sumOK, h', usum])
  · have h' : ¬ a.bal + b.bal ≤ 18446744073709551615 := by simpa [usum] using h
    simp [addR, h]
    exact Fin.cut 0 (Ent.refl _) (by simp) (by simp [sumOK, h'])

def chkL : List SV := [.fn F_merge_checks_1 [] [], iv 8, .fn F_merge_checks_2 [] [], iv 9, .fn F_merge_checks_3 [] [], iv 3]
theorem merge_checks : Ctr Try.prog F_merge_checks [] [] (fun s hp => s = .slc 0 0 3 3 ∧ hp = [.row chkL 6 ty_merge_check]) := by
  refine in_merge_checks (by simp) ?_
  simp [mc_merge_checks, chkL, zeros]

/-- What Check answers. -/
def chkE (a b : Vd) (c : Cf) : Int := if ¬ (a.st = 2 ∧ b.st = 2) then 8 else if (!a.sl && !b.sl) = false then 9 else if ¬ sumOK a b c then 3 else 0
theorem merge_Check {a b : Vd} {c : Cf} (ha : a.OK) (hb : b.OK) : Ctr Try.prog F_merge_Check [.agg a.c, .agg b.c, .agg c.c] [] (fun s hp => s = iv (chkE a b c) ∧ hp = []) := by
  refine Ctr.fin (in_merge_Check (by simp) ?_)
  simp [mc_merge_Check]
  refine Ctr.useEq merge_checks [] (by simp) ?_
  simp
  refine ⟨{ i : Nat // i ≤ 3 ∧ (1 ≤ i → a.st = 2 ∧ b.st = 2) ∧ (2 ≤ i → (!a.sl && !b.sl) = true) ∧ (3 ≤ i → sumOK a b c) }, fun i => ([(3, .ptr 0 0), (4, .ptr 1 0), (5, .ptr 2 0), (9, .slc 3 0 3 3), (10, iv 3), (11, iv (i.1 : Nat))], [.row a.c 7 ty_api_Validator, .row b.c 7 ty_api_Validator, .row c.c 20 ty_api_Config, .row chkL 6 ty_merge_check]), fun i => 3 - i.1, ⟨⟨0, by simp⟩, Le.by [0, 1, 2, 3] (by simp [Vd.c, Cf.c, chkL])⟩, fun i => ?_⟩
  obtain ⟨i, hi, h1, h2, h3⟩ := i
  rcases (show i = 0 ∨ i = 1 ∨ i = 2 ∨ i = 3 by omega) with rfl | rfl | rfl | rfl
  · simp [chkL, Vd.c, Cf.c]
    refine Ctr.useEq (chk1 (a := a) (b := b) (c := c)) [] (by simp [Vd.c, Cf.c]) ?_
    by_cases h : a.st = 2 ∧ b.st = 2
    · simp [h]
      exact ⟨1, Le.by [0, 1, 2, 3] (by simp), by omega, by omega⟩
    · simp only [decide_eq_false h]
      simp
      exact Fin.cut 0 (Ent.refl _) (by simp) (by simp [chkE, h])
  · simp [chkL, Vd.c, Cf.c]
    refine Ctr.useEq (chk2 (a := a) (b := b) (c := c)) [] (by simp [Vd.c, Cf.c]) ?_
    have h1 := h1 (by omega)
    by_cases h : (!a.sl && !b.sl) = true
    · simp only [h]
      simp
      exact ⟨2, Le.by [0, 1, 2, 3] (by simp), ⟨by omega, fun _ => h1, fun _ => by simpa using h, fun h => by omega⟩, by omega⟩
    · have h : (!a.sl && !b.sl) = false := by simpa using h
      simp only [h]
      simp
      exact Fin.cut 0 (Ent.refl _) (by simp) (by simp [chkE, h1, h])
  · simp [chkL, Vd.c, Cf.c]
    refine Ctr.useEq (chk3 (a := a) (b := b) (c := c) ha hb) [] (by simp [Vd.c, Cf.c]) ?_
    have h1 := h1 (by omega)
    have h2 := h2 (by omega)
    by_cases h : sumOK a b c
    · simp only [decide_eq_true h]
      simp
      exact ⟨3, Le.by [0, 1, 2, 3] (by simp), ⟨by omega, fun _ => h1, fun _ => by simpa using h2, fun _ => h⟩, by omega⟩
    · simp only [decide_eq_false h]
      simp
      exact Fin.cut 0 (Ent.refl _) (by simp) (by simp [chkE, h1, h2, h])
  · simp [chkL, Vd.c, Cf.c]
    have h1 := h1 (by omega)
    have h2 := h2 (by omega)
    have h3 := h3 (by omega)
    exact Fin.cut 0 (Ent.refl _) (by simp) (by simp [chkE, h1, h2, h3])

/-! merge.Apply -/
def Vd.z : Vd := ⟨0, 0, false, 0, 0, 0, 0⟩
def mvA (a : Vd) : Vd := { a with bal := 0, st := 7 }
def mvB (a b : Vd) : Vd := { b with bal := b.bal + a.bal }
theorem chkE_0 {a b : Vd} {c : Cf} (h : chkE a b c = 0) : (a.st = 2 ∧ b.st = 2) ∧ (!a.sl && !b.sl) = true ∧ sumOK a b c := by
  unfold chkE at h
  split at h
  · cases h
  · split at h
    · cases h
    · split at h
      · cases h
      · rename_i h1 h2 h3
        exact ⟨Classical.byContradiction h1, by simpa using h2, Classical.byContradiction h3⟩
theorem merge_Apply {a b : Vd} {c : Cf} (ha : a.OK) (hb : b.OK) : Ctr Try.prog F_merge_Apply [.agg a.c, .agg b.c, .agg c.c] [] (fun s hp => s = (if chkE a b c = 0 then .tup [.agg (mvA a).c, .agg (mvB a b).c, iv 0] else .tup [.agg Vd.z.c, .agg Vd.z.c, iv (chkE a b c)]) ∧ hp = []) := by
  refine Ctr.fin (in_merge_Apply (by simp) ?_)
  simp [mc_merge_Apply, Vd.c, Cf.c]
  refine Ctr.useEq (merge_Check (a := a) (b := b) (c := c) ha hb) [] (by simp [Vd.c, Cf.c]) ?_
  by_cases h : chkE a b c = 0
  · obtain ⟨h1, h2, h3⟩ := chkE_0 h
    simp [h]
    refine Ctr.useEq (status_Next (s := a.st) (e := 6)) [] (by simp) ?_
    have hn : nextS a.st 6 = (7, true) := by simp [nextS, h1.1]
    have hw : IntKind.u64.wrap (b.bal + a.bal) = b.bal + a.bal := w64u ⟨by have := ha.1; have := hb.1; omega, by have := h3.1; omega⟩
    simp [hn]
    refine maskK.by [3] ?_
    simp
    exact Fin.cut 0 (Ent.refl _) (by simp) (by simp [mvA, mvB, hw])
  · simp [h]
    exact Fin.cut 0 (Ent.refl _) (by simp) (by simp [Vd.z])
end Go.Proofs.Ytggpldcdhkhdmaa

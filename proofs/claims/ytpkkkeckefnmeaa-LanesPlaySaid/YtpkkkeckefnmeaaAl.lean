import Derived.Test.YtpkkkeckefnmeaaAh
namespace Go.Proofs.Ytpkkkeckefnmeaa
open Go Go.Vc
set_option linter.unusedSimpArgs false
set_option linter.unusedVariables false
set_option maxRecDepth 100000
set_option maxHeartbeats 4000000

theorem law_alive : Ctr Try.prog F_egresslaw12_alive [] [] (fun s hp => s = bv true ∧ hp = []) := by
  refine Ctr.fin (in_egresslaw12_alive (by simp) ?_)
  simp [mc_egresslaw12_alive]
  refine Ctr.useEq (lanes_New (size := 2) (by decide)) [] (by simp) ?_
  simp [laneSh]
  refine Ctr.useEq (lanes_Push (size := 2) (l0 := []) (l1 := []) (c := 1) (x := 3) (by simp)) [0, 1, 2] (by simp [laneSh]) ?_
  simp [laneSh, pushE, push0, push1]
  refine Ctr.useEq (lanes_Push (size := 2) (l0 := []) (l1 := [3]) (c := 0) (x := 5) (by simp)) [0, 1, 2] (by simp [laneSh]) ?_
  simp [laneSh, pushE, push0, push1]
  refine Ctr.use (lanes_Ahead (size := 2) (l0 := [5]) (l1 := [3]) (c := 1) (by simp)) [0, 1, 2] (by simp [laneSh]) fun s hc _ ⟨o, ho, e1, e2⟩ => ?_
  subst e1 e2
  cases o with
  | none => simp [aheadL] at ho
  | some c =>
    simp [aheadL] at ho
    simp [laneSh, aheadL]
    refine Ctr.useEq (lanes_Pop (size := 2) (l0 := [5]) (l1 := [3])) [0, 1, 2] (by simp [laneSh]) ?_
    simp [laneSh, headC]
    refine Ctr.useEq (slices_Equal (la := [5, 3]) (lb := [5, 3]) (some ([5, 3], 0, c, c)) (some ([5, 3], 0, 2, 2)) (by simp [VwOK, ho]) (by simp [VwOK]) (by simp)) [3, 4] (by simp [ivs_cons]) ?_
    simp
    refine Ctr.useEq (lanes_Len (size := 2) (l0 := []) (l1 := [3]) (c := 1)) [0, 1, 2] (by simp [laneSh]) ?_
    simp [laneSh]
    refine Ctr.useEq (lanes_Free (size := 2) (l0 := []) (l1 := [3]) (c := 1) (by simp)) [0, 1, 2] (by simp [laneSh]) ?_
    simp [laneSh, freeL]
    exact Fin.drop [] _ rfl (by simp) (by simp)
end Go.Proofs.Ytpkkkeckefnmeaa

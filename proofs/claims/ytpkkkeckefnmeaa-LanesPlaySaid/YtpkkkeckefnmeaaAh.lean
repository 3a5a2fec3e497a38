import Derived.Test.YtpkkkeckefnmeaaEq
namespace Go.Proofs.Ytpkkkeckefnmeaa
open Go Go.Vc
set_option linter.unusedSimpArgs false
set_option linter.unusedVariables false
set_option maxRecDepth 100000
set_option maxHeartbeats 4000000

def aheadL (c : Int) (l0 l1 : List Int) : List Int := if c = 0 then l0 else if c = 1 then l0 ++ l1 else []
def accL (l0 l1 : List Int) : Nat → List Int
  | 0 => []
  | 1 => l0
  | _ => l0 ++ l1
theorem acc_step (l0 l1 : List Int) {i : Nat} (h : i ≤ 1) : accL l0 l1 i ++ lane i l0 l1 = accL l0 l1 (i + 1) := by
  rcases (show i = 0 ∨ i = 1 by omega) with rfl | rfl <;> simp [accL, lane]

theorem lanes_Ahead {size : Nat} {l0 l1 : List Int} {c : Int} (hl : (l0.length ≤ size ∧ l1.length ≤ size) ∧ size ≤ 4096) : Ctr Try.prog F_lanes_Lanes_Ahead [.ptr 0 0, iv c] (laneSh size l0 l1) (fun s hp => ∃ o, SlOK (aheadL c l0 l1).length o ∧ s = slV 3 (aheadL c l0 l1).length o ∧ hp = laneSh size l0 l1 ++ [slB (ivs .i64 (aheadL c l0 l1)) ty_int 1 o]) := by
  refine Ctr.fin (in_lanes_Lanes_Ahead (by simp) ?_)
  simp [mc_lanes_Lanes_Ahead, laneSh]
  refine Ctr.useEq (lanes_class (R1 := ringR size l0) (R2 := ringR size l1) (c := c)) [0, 1, 2] (by simp) ?_
  by_cases hc : c = 0 ∨ c = 1
  · obtain ⟨k, rfl, hk⟩ : ∃ k : Nat, c = k ∧ k ≤ 1 := by
      rcases hc with rfl | rfl
      · exact ⟨0, rfl, by omega⟩
      · exact ⟨1, rfl, by omega⟩
    have hq : qv (k : Int) = .ptr (k + 1) 0 := by
      rcases (show k = 0 ∨ k = 1 by omega) with rfl | rfl <;> rfl
    have hnm : SV.ren (nm [0, 1, 2] [rowL, Blk.res (ringR size l0), Blk.res (ringR size l1)].length) (.ptr (k + 1) 0) = .ptr (k + 1) 0 := by
      rcases (show k = 0 ∨ k = 1 by omega) with rfl | rfl <;> rfl
    have hacc : accL l0 l1 (k + 1) = aheadL k l0 l1 := by
      rcases (show k = 0 ∨ k = 1 by omega) with rfl | rfl <;> rfl
    rw [hq, hnm]
    simp
    refine ⟨{ p : Nat × Option Nat // p.1 ≤ k + 1 ∧ SlOK (accL l0 l1 p.1).length p.2 }, fun p => ([(0, .ptr 0 0), (1, iv k), (5, slV 3 (accL l0 l1 p.1.1).length p.1.2), (6, iv (p.1.1 : Nat))], laneSh size l0 l1 ++ [slB (ivs .i64 (accL l0 l1 p.1.1)) ty_int 1 p.1.2]), fun p => k + 1 - p.1.1, ⟨⟨(0, none), by simp [accL]⟩, Le.ent ent_more [0, 1, 2, 3] (by simp [laneSh, accL])⟩, fun p => ?_⟩
    obtain ⟨⟨i, o⟩, hi, ho⟩ := p
    simp only at hi ho
    simp [laneSh]
    refine ⟨fun h => ?_, fun h => ?_⟩
    · simp [h]
      refine Ctr.use (lanes_All (size := size) (l0 := l0) (l1 := l1) (c := i) hl) [0, 1, 2] (by simp [laneSh]) fun s hc _ ⟨o2, ho2, e1, e2⟩ => ?_
      subst e1 e2
      have hst := acc_step l0 l1 (show i ≤ 1 by omega)
      have hlen : (accL l0 l1 i).length ≤ 8192 ∧ (lane i l0 l1).length ≤ 4096 := by
        rcases (show i = 0 ∨ i = 1 by omega) with rfl | rfl <;> simp [accL] <;> omega
      have hw : IntKind.i64.wrap ((i : Int) + 1) = (i : Int) + 1 := w64 (by omega)
      have hi1 : i ≤ k := by omega
      cases o with
      | none =>
        have ho' : accL l0 l1 i = [] := List.length_eq_zero_iff.1 ho
        rw [ho', List.nil_append] at hst
        cases o2 with
        | none =>
          have ho2' : lane i l0 l1 = [] := List.length_eq_zero_iff.1 ho2
          rw [ho2'] at hst
          simp [laneSh, hw, ho', ho2']
          exact ⟨i + 1, none, Le.by [0, 1, 2, 3] (by simp [← hst]), ⟨by omega, by simp [← hst]⟩, by omega⟩
        | some c2 =>
          simp at ho2
          simp [laneSh, hw, ho']
          refine ⟨⟨by omega, by omega⟩, fun he => ⟨i + 1, none, Le.by [0, 1, 2, 3] (by simp [← hst, he]), ⟨by omega, by simp [← hst, he]⟩, by omega⟩, fun he c hc => ⟨i + 1, some c, Le.by [0, 1, 2, 5] (by simp [← hst]), ⟨by omega, by simpa [← hst] using hc⟩, by omega⟩⟩
      | some c1 =>
        simp at ho
        cases o2 with
        | none =>
          have ho2' : lane i l0 l1 = [] := List.length_eq_zero_iff.1 ho2
          rw [ho2', List.append_nil] at hst
          simp [laneSh, hw, ho2']
          exact ⟨ho, i + 1, some c1, Le.by [0, 1, 2, 3] (by simp [← hst]), ⟨by omega, by simpa [← hst] using ho⟩, by omega⟩
        | some c2 =>
          simp at ho2
          simp [laneSh, hw]
          exact ⟨⟨ho, by omega, by omega⟩, fun c hc => ⟨i + 1, some c, Le.by [0, 1, 2, 5] (by simp [← hst, hc]), ⟨by omega, by simpa [← hst] using hc⟩, by omega⟩⟩
    · obtain rfl : i = k + 1 := by omega
      exact Fin.same (by simp) ⟨o, by rw [← hacc]; exact ho, by rw [hacc], by rw [hacc]⟩
  · have h0 : c ≠ 0 := fun e => hc (.inl e)
    have h1 : c ≠ 1 := fun e => hc (.inr e)
    have h3 : aheadL c l0 l1 = [] := by simp [aheadL, h0, h1]
    simp [qvn h0 h1, h3]
    exact Fin.by _ [] (by simpa using ent_more) (by simp) ⟨none, rfl, rfl, by simp⟩
end Go.Proofs.Ytpkkkeckefnmeaa

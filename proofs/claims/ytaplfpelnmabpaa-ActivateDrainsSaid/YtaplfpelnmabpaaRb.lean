import Derived.Test.YtaplfpelnmabpaaLb
import Derived.Test.YtaplfpelnmabpaaJo
import Derived.JoinedOf
namespace Go.Proofs.Ytaplfpelnmabpaa
open Go Go.Vc Go.ChangeShapes Go.WideShapes Go.RowKit
set_option linter.unusedSimpArgs false
set_option linter.unusedVariables false

set_option maxRecDepth 100000 in
theorem actDrains_lifted (os : Os) (started : os.Started) (H : Type) (enc : TypeId × Value → H) :
    ReturnsInHanded {} Try.checked os 4 .any (Rows.activateDrainsSpec.pre6 enc Try.prog Try.f4 Rows.activateDrainsRow.domain false) (Rows.activateDrainsSpec.post enc Try.prog Try.f4 false true false false) := by
  refine returnsInHanded_of_change (C := Try.checked) Try.own started (by kernel_rfl) Try.func4
    (ChangeSpec.witness6 (enc := enc) (C := Try.checked) false ⟨#[], #[.slice none 0 0, .slice none 0 0, .slice none 0 0], []⟩ 8 (by kernel_rfl) (by kernel_rfl) (by kernel_rfl) (by kernel_rfl)) ?_
  intro W base args ds gs before hval0 hW _ _
  have hval : ∀ (j : Nat) t v, Try.f4.params[j]? = some t → args[j]? = some v → Value.okWide Try.prog W .any base t v := hval0
  have hW' := hW
  obtain ⟨p, q, hA0, hV, rfl, _, _⟩ := hW
  have hA : DataW.TrodAll enc Try.prog W 0 (fun _ => true) true Try.f4.params.toList args.toList ds p := hA0
  rw [Try.params4] at hA hval
  obtain ⟨v0, v1, v2, d0, d1, d2, p0, p1, p2, rfl, rfl, rfl, h0, h1, h2⟩ := trodAll_three hA
  obtain ⟨rfl, rfl⟩ := trodVars_none hV
  obtain ⟨xs0, o0, b0, hv0, ho0, hR0, hP0⟩ := arg_slice i64C 1 i64C_len (fun _ => True) Try.underlying22 cells_3 (i64_dec Try.underlying3) (hval 0 22 v0 rfl rfl) h0
  obtain ⟨xs1, o1, b1, hv1, ho1, hR1, hP1⟩ := arg_slice u64C 1 u64C_len U64 Try.underlying24 cells_23 (u64_dec Try.underlying23) (hval 1 24 v1 rfl rfl) h1
  obtain ⟨xs2, o2, b2, hv2, ho2, hR2, hP2⟩ := arg_slice u64C 1 u64C_len U64 Try.underlying24 cells_23 (u64_dec Try.underlying23) (hval 2 24 v2 rfl rfl) h2
  have hc := (law_Drains (src_i64 ho0) (plain_ra _ _) (src_u64 ho1) (plain_ra _ _) hR1 (src_u64 ho2) (plain_ra _ _) hR2).calls (W := W) (ρ := fun k => if k = 0 then b0 else if k = 1 then b1 else b2) (by simp) (hpP_cons (hP0 _) (hpP_cons (hP1 _) (hpP_cons (hP2 _) hpP_nil))) (by simp) (vs := #[v0, v1, v2]) (by rw [hv0 (fun k => if k = 0 then b0 else if k = 1 then b1 else b2) 0 rfl]; rw [hv1 (fun k => if k = 0 then b0 else if k = 1 then b1 else b2) 1 rfl]; rw [hv2 (fun k => if k = 0 then b0 else if k = 1 then b1 else b2) 2 rfl]; rfl) (Try.call4 _ _)
  refine hc.mono fun e W' ⟨v, he, ⟨ρ', s, hp', hv', hs⟩, hb⟩ => ⟨.bool true, by rw [he, hv', hs]; rfl, ?_⟩
  exact post_true hW' hb Try.laidOut (by kernel_rfl) rfl rfl rfl Try.underlying4

theorem actDrains_holds : Rows.ActivateDrainsSaid :=
  OpenClaim.holds_of_wide 4 Try.f4 rfl rfl rfl rfl rfl rfl rfl ⟨rfl, rfl, rfl, rfl, rfl⟩ rfl rfl rfl rfl rfl (by kernel_rfl) Try.func4 (by kernel_rfl)
    (of_decide_eq_true (by kernel_rfl)) (by unfold Func.isWrapper; first | (rw [if_pos (by decide +kernel)]; kernel_rfl) | (rw [if_neg (by decide +kernel)]; exact ⟨rfl, rfl⟩))
    (fun os started H enc _ => actDrains_lifted os started H enc)
end Go.Proofs.Ytaplfpelnmabpaa

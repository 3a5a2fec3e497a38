import Derived.Test.YtaplfpelnmabpaaLf
import Derived.Test.YtaplfpelnmabpaaJo
import Derived.JoinedOf
namespace Go.Proofs.Ytaplfpelnmabpaa
open Go Go.Vc Go.ChangeShapes Go.WideShapes Go.RowKit
set_option linter.unusedSimpArgs false
set_option linter.unusedVariables false

set_option maxRecDepth 100000 in
theorem actNil_lifted (os : Os) (started : os.Started) (H : Type) (enc : TypeId × Value → H) :
    ReturnsInHanded {} Try.checked os 8 .any (Rows.activateNilSpec.pre6 enc Try.prog Try.f8 Rows.activateNilRow.domain false) (Rows.activateNilSpec.post enc Try.prog Try.f8 false true false false) := by
  refine returnsInHanded_of_change (C := Try.checked) Try.own started (by kernel_rfl) Try.func8
    (ChangeSpec.witness6 (enc := enc) (C := Try.checked) false ⟨#[], #[.slice none 0 0, .int .u64 0], []⟩ 8 (by kernel_rfl) (by kernel_rfl) (by kernel_rfl) (by kernel_rfl)) ?_
  intro W base args ds gs before hval0 hW _ _
  have hval : ∀ (j : Nat) t v, Try.f8.params[j]? = some t → args[j]? = some v → Value.okWide Try.prog W .any base t v := hval0
  have hW' := hW
  obtain ⟨p, q, hA0, hV, rfl, _, _⟩ := hW
  have hA : DataW.TrodAll enc Try.prog W 0 (fun _ => true) true Try.f8.params.toList args.toList ds p := hA0
  rw [Try.params8] at hA hval
  obtain ⟨v0, v1, d0, d1, p0, p1, rfl, rfl, rfl, h0, h1⟩ := trodAll_two hA
  obtain ⟨rfl, rfl⟩ := trodVars_none hV
  obtain ⟨xs0, o0, b0, hv0, ho0, hR0, hP0⟩ := arg_slice i64C 1 i64C_len (fun _ => True) Try.underlying22 cells_3 (i64_dec Try.underlying3) (hval 0 22 v0 rfl rfl) h0
  obtain ⟨a1, rfl, rfl, rfl, ha1⟩ := open_int Try.underlying23 (hval 1 23 v1 rfl rfl) h1
  have hb1 : (0 : Int) ≤ a1 ∧ a1 ≤ 18446744073709551615 := wf_range ha1
  have hc := (law_Nil (limit := a1) (src_i64 ho0) (plain_ra _ _) hb1).calls (W := W) (ρ := fun _ => b0) (by simp) (hpP_cons (hP0 _) hpP_nil) (by simp) (vs := #[v0, .int .u64 a1]) (by rw [hv0 (fun _ => b0) 0 rfl]; rfl) (Try.call8 _ _)
  refine hc.mono fun e W' ⟨v, he, ⟨ρ', s, hp', hv', hs⟩, hb⟩ => ⟨.bool true, by rw [he, hv', hs]; rfl, ?_⟩
  exact post_true hW' hb Try.laidOut (by kernel_rfl) rfl rfl rfl Try.underlying4

theorem actNil_holds : Rows.ActivateNilSaid :=
  OpenClaim.holds_of_wide 8 Try.f8 rfl rfl rfl rfl rfl rfl rfl ⟨rfl, rfl, rfl, rfl, rfl⟩ rfl rfl rfl rfl rfl (by kernel_rfl) Try.func8 (by kernel_rfl)
    (of_decide_eq_true (by kernel_rfl)) (by unfold Func.isWrapper; first | (rw [if_pos (by decide +kernel)]; kernel_rfl) | (rw [if_neg (by decide +kernel)]; exact ⟨rfl, rfl⟩))
    (fun os started H enc _ => actNil_lifted os started H enc)
end Go.Proofs.Ytaplfpelnmabpaa

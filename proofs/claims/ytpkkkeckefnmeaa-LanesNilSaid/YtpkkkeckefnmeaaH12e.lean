import Derived.Test.YtpkkkeckefnmeaaL12e
import Derived.JoinedOf
namespace Go.Proofs.Ytpkkkeckefnmeaa
open Go Go.Vc Go.ChangeShapes Go.WideShapes Go.RowKit
set_option linter.unusedSimpArgs false
set_option linter.unusedVariables false

set_option maxRecDepth 100000 in
theorem nil_lifted (os : Os) (started : os.Started) (H : Type) (enc : TypeId × Value → H) :
    ReturnsInHanded {} Try.checked os 8 .any (Rows.lanesNilSpec.pre6 enc Try.prog Try.f8 Rows.lanesNilRow.domain false) (Rows.lanesNilSpec.post enc Try.prog Try.f8 false true false false) := by
  refine returnsInHanded_of_change (C := Try.checked) Try.own started (by kernel_rfl) Try.func8
    (ChangeSpec.witness6 (enc := enc) (C := Try.checked) false ⟨#[], #[.int .i64 0, .int .i64 0], []⟩ 8 (by kernel_rfl) (by kernel_rfl) (by kernel_rfl) (by kernel_rfl)) ?_
  intro W base args ds gs before hval0 hW _ _
  have hval : ∀ (j : Nat) t v, Try.f8.params[j]? = some t → args[j]? = some v → Value.okWide Try.prog W .any base t v := hval0
  have hW' := hW
  obtain ⟨p, q, hA0, hV, rfl, _, _⟩ := hW
  have hA : DataW.TrodAll enc Try.prog W 0 (fun _ => true) true Try.f8.params.toList args.toList ds p := hA0
  rw [Try.params8] at hA hval
  obtain ⟨v0, v1, d0, d1, p0, p1, rfl, rfl, rfl, h0, h1⟩ := trodAll_two hA
  obtain ⟨rfl, rfl⟩ := trodVars_none hV
  obtain ⟨a0, rfl, rfl, rfl, ha0⟩ := open_int Try.underlying3 (hval 0 3 v0 rfl rfl) h0
  have hb0 : (-9223372036854775808 : Int) ≤ a0 ∧ a0 ≤ 9223372036854775807 := wf_range ha0
  obtain ⟨a1, rfl, rfl, rfl, ha1⟩ := open_int Try.underlying3 (hval 1 3 v1 rfl rfl) h1
  have hb1 : (-9223372036854775808 : Int) ≤ a1 ∧ a1 ≤ 9223372036854775807 := wf_range ha1
  have hc := (law_Nil (c := a0) (x := a1)).calls (W := W) (ρ := fun _ => 0) (by simp) hpP_nil (by simp) (vs := #[.int .i64 a0, .int .i64 a1]) (by rfl) (Try.call8 _ _)
  refine hc.mono fun e W' ⟨v, he, ⟨ρ', s, hp', hv', hs⟩, hb⟩ => ⟨.bool true, by rw [he, hv', hs]; rfl, ?_⟩
  exact post_true hW' hb Try.laidOut (by kernel_rfl) rfl rfl rfl Try.underlying4

theorem nil_holds : Rows.LanesNilSaid :=
  OpenClaim.holds_of_wide 8 Try.f8 rfl rfl rfl rfl rfl rfl rfl ⟨rfl, rfl, rfl, rfl, rfl⟩ rfl rfl rfl rfl rfl (by kernel_rfl) Try.func8 (by kernel_rfl)
    (of_decide_eq_true (by kernel_rfl)) (by unfold Func.isWrapper; first | (rw [if_pos (by decide +kernel)]; kernel_rfl) | (rw [if_neg (by decide +kernel)]; exact ⟨rfl, rfl⟩))
    (fun os started H enc _ => nil_lifted os started H enc)
end Go.Proofs.Ytpkkkeckefnmeaa

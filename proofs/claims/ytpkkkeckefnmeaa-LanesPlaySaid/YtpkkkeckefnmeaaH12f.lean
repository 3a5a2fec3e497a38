import Derived.Test.YtpkkkeckefnmeaaL12f
import Derived.JoinedOf
namespace Go.Proofs.Ytpkkkeckefnmeaa
open Go Go.Vc Go.ChangeShapes Go.WideShapes Go.RowKit
set_option linter.unusedSimpArgs false
set_option linter.unusedVariables false

set_option maxRecDepth 100000 in
theorem play_lifted (os : Os) (started : os.Started) (H : Type) (enc : TypeId × Value → H) :
    ReturnsInHanded {} Try.checked os 7 .any (Rows.lanesPlaySpec.pre6 enc Try.prog Try.f7 Rows.lanesPlayRow.domain false) (Rows.lanesPlaySpec.post enc Try.prog Try.f7 false true false false) := by
  refine returnsInHanded_of_change (C := Try.checked) Try.own started (by kernel_rfl) Try.func7
    (ChangeSpec.witness6 (enc := enc) (C := Try.checked) false ⟨#[], #[.int .i64 0, .slice none 0 0], []⟩ 8 (by kernel_rfl) (by kernel_rfl) (by kernel_rfl) (by kernel_rfl)) ?_
  intro W base args ds gs before hval0 hW _ _
  have hval : ∀ (j : Nat) t v, Try.f7.params[j]? = some t → args[j]? = some v → Value.okWide Try.prog W .any base t v := hval0
  have hW' := hW
  obtain ⟨p, q, hA0, hV, rfl, _, _⟩ := hW
  have hA : DataW.TrodAll enc Try.prog W 0 (fun _ => true) true Try.f7.params.toList args.toList ds p := hA0
  rw [Try.params7] at hA hval
  obtain ⟨v0, v1, d0, d1, p0, p1, rfl, rfl, rfl, h0, h1⟩ := trodAll_two hA
  obtain ⟨rfl, rfl⟩ := trodVars_none hV
  obtain ⟨a0, rfl, rfl, rfl, ha0⟩ := open_int Try.underlying3 (hval 0 3 v0 rfl rfl) h0
  have hb0 : (-9223372036854775808 : Int) ≤ a0 ∧ a0 ≤ 9223372036854775807 := wf_range ha0
  obtain ⟨xs1, o1, b1, hv1, ho1, hR1, hP1⟩ := arg_slice opC 3 opC_len (fun _ => True) Try.underlying22 cells_27 op_dec (hval 1 22 v1 rfl rfl) h1
  have hc := (law_Play (n := a0) ho1).calls (W := W) (ρ := fun _ => b1) (by simp) (hpP_cons (hP1 _) hpP_nil) (by simp) (vs := #[.int .i64 a0, v1]) (by rw [hv1 (fun _ => b1) 0 rfl]; rfl) (Try.call7 _ _)
  refine hc.mono fun e W' ⟨v, he, ⟨ρ', s, hp', hv', hs⟩, hb⟩ => ⟨.bool true, by rw [he, hv', hs]; rfl, ?_⟩
  exact post_true hW' hb Try.laidOut (by kernel_rfl) rfl rfl rfl Try.underlying4

theorem play_holds : Rows.LanesPlaySaid :=
  OpenClaim.holds_of_wide 7 Try.f7 rfl rfl rfl rfl rfl rfl rfl ⟨rfl, rfl, rfl, rfl, rfl⟩ rfl rfl rfl rfl rfl (by kernel_rfl) Try.func7 (by kernel_rfl)
    (of_decide_eq_true (by kernel_rfl)) (by unfold Func.isWrapper; first | (rw [if_pos (by decide +kernel)]; kernel_rfl) | (rw [if_neg (by decide +kernel)]; exact ⟨rfl, rfl⟩))
    (fun os started H enc _ => play_lifted os started H enc)
end Go.Proofs.Ytpkkkeckefnmeaa

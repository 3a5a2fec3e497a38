import Derived.Test.YtpkkkeckefnmeaaL12b
import Derived.JoinedOf
namespace Go.Proofs.Ytpkkkeckefnmeaa
open Go Go.Vc Go.ChangeShapes Go.WideShapes Go.RowKit
set_option linter.unusedSimpArgs false
set_option linter.unusedVariables false

set_option maxRecDepth 100000 in
theorem bounds_lifted (os : Os) (started : os.Started) (H : Type) (enc : TypeId × Value → H) :
    ReturnsInHanded {} Try.checked os 6 .any (Rows.lanesBoundsSpec.pre6 enc Try.prog Try.f6 Rows.lanesBoundsRow.domain false) (Rows.lanesBoundsSpec.post enc Try.prog Try.f6 false true false false) := by
  refine returnsInHanded_of_change (C := Try.checked) Try.own started (by kernel_rfl) Try.func6
    (ChangeSpec.witness6 (enc := enc) (C := Try.checked) false ⟨#[], #[.int .u8 0, .int .u8 0, .int .u8 0], []⟩ 8 (by kernel_rfl) (by kernel_rfl) (by kernel_rfl) (by kernel_rfl)) ?_
  intro W base args ds gs before hval0 hW _ _
  have hval : ∀ (j : Nat) t v, Try.f6.params[j]? = some t → args[j]? = some v → Value.okWide Try.prog W .any base t v := hval0
  have hW' := hW
  obtain ⟨p, q, hA0, hV, rfl, _, _⟩ := hW
  have hA : DataW.TrodAll enc Try.prog W 0 (fun _ => true) true Try.f6.params.toList args.toList ds p := hA0
  rw [Try.params6] at hA hval
  obtain ⟨v0, v1, v2, d0, d1, d2, p0, p1, p2, rfl, rfl, rfl, h0, h1, h2⟩ := trodAll_three hA
  obtain ⟨rfl, rfl⟩ := trodVars_none hV
  obtain ⟨a, rfl, rfl, rfl, ha⟩ := open_int Try.underlying5 (hval 0 5 v0 rfl rfl) h0
  obtain ⟨b, rfl, rfl, rfl, hb⟩ := open_int Try.underlying5 (hval 1 5 v1 rfl rfl) h1
  obtain ⟨e, rfl, rfl, rfl, he⟩ := open_int Try.underlying5 (hval 2 5 v2 rfl rfl) h2
  have ha' : (0 : Int) ≤ a ∧ a ≤ 255 := wf_range ha
  have hb' : (0 : Int) ≤ b ∧ b ≤ 255 := wf_range hb
  have he' : (0 : Int) ≤ e ∧ e ≤ 255 := wf_range he
  obtain ⟨a, rfl⟩ : ∃ m : Nat, a = m := ⟨a.toNat, by omega⟩
  obtain ⟨b, rfl⟩ : ∃ m : Nat, b = m := ⟨b.toNat, by omega⟩
  obtain ⟨e, rfl⟩ : ∃ m : Nat, e = m := ⟨e.toNat, by omega⟩
  have hc := (law_Bounds (a := a) (b := b) (e := e) (by omega) (by omega) (by omega)).calls (W := W) (ρ := fun _ => 0) (by simp) hpP_nil (by simp) (vs := #[.int .u8 a, .int .u8 b, .int .u8 e]) rfl (Try.call6 _ _)
  refine hc.mono fun e W' ⟨v, he, ⟨ρ', s, hp', hv', hs⟩, hb⟩ => ⟨.bool true, by rw [he, hv', hs]; rfl, ?_⟩
  exact post_true hW' hb Try.laidOut (by kernel_rfl) rfl rfl rfl Try.underlying4

theorem bounds_holds : Rows.LanesBoundsSaid :=
  OpenClaim.holds_of_wide 6 Try.f6 rfl rfl rfl rfl rfl rfl rfl ⟨rfl, rfl, rfl, rfl, rfl⟩ rfl rfl rfl rfl rfl (by kernel_rfl) Try.func6 (by kernel_rfl)
    (of_decide_eq_true (by kernel_rfl)) (by unfold Func.isWrapper; first | (rw [if_pos (by decide +kernel)]; kernel_rfl) | (rw [if_neg (by decide +kernel)]; exact ⟨rfl, rfl⟩))
    (fun os started H enc _ => bounds_lifted os started H enc)
end Go.Proofs.Ytpkkkeckefnmeaa

import Derived.Test.YtggpldcdhkhdmaaMi
namespace Go.Proofs.Ytggpldcdhkhdmaa
open Go Go.Vc
set_option linter.unusedSimpArgs false
set_option linter.unusedVariables false
set_option maxRecDepth 100000
set_option maxHeartbeats 4000000

def ofOwn (o : Option Nat) : Option (Nat × Nat) := o.map fun c => (0, c)
theorem slV_ra (k len : Nat) (o : Option Nat) : slV k len o = raV k len (ofOwn o) := by cases o <;> rfl
theorem src_sl {l : List Vd} {o : Option Nat} (h : SlOK l.length o) (ty : TypeId) : SrcOK Vd.c 7 l (slB (vds l) ty 7 o) (ofOwn o) := by
  cases o with
  | none => exact ⟨List.length_eq_zero_iff.1 h, rfl⟩
  | some c => exact src_own h ty
/-- Two slices of the same validators are the same. -/
theorem ref07_Same {l : List Vd} {o o' : Option (Nat × Nat)} {B B' : Blk} (ho : SrcOK Vd.c 7 l B o) (hB : Plain B) (ho' : SrcOK Vd.c 7 l B' o') (hB' : Plain B') (hl : l.length ≤ 1048576) : Ctr Try.prog F_egressref07_Same [raV 0 l.length o, raV 1 l.length o'] [B, B'] (fun s hp => s = bv true ∧ hp = [B, B']) := by
  refine Ctr.fin (in_egressref07_Same (by simp) ?_)
  have h1 := src_len ho 0 slc_22
  have h2 := src_len ho' 1 slc_22
  simp [mc_egressref07_Same, h1, h2]
  refine ⟨{ i : Nat // i ≤ l.length }, fun i => ([(0, raV 0 l.length o), (1, raV 1 l.length o'), (5, iv (i.1 : Nat))], [B, B']), fun i => l.length - i.1, ⟨⟨0, by omega⟩, Le.by [0, 1] (by simp [hB.1, hB.2, hB'.1, hB'.2])⟩, fun i => ?_⟩
  obtain ⟨i, hi⟩ := i
  simp [h1]
  refine ⟨fun hlt => ?_, fun hge => ?_⟩
  · obtain ⟨x, hx⟩ : ∃ x, l[i]? = some x := ⟨_, List.getElem?_eq_getElem (by omega)⟩
    obtain ⟨off, cap, ho0, _⟩ := ho.src_ne (fun h => by simp [h] at hlt)
    obtain ⟨off', cap', ho0', _⟩ := ho'.src_ne (fun h => by simp [h] at hlt)
    subst ho0 ho0'
    have r := ho.2.2 i x hx
    have r' := ho'.2.2 i x hx
    have hw : IntKind.i64.wrap ((i : Int) + 1) = (i : Int) + 1 := w64 (by omega)
    simp [hlt, r, r']
    have he : eqTs Try.prog [24, 3, 4, 3, 3, 3, 3] x.c x.c = some true := by simp [Vd.c]
    simp [he, hw]
    exact ⟨i + 1, Le.by [0, 1] (by simp [hB.1, hB.2, hB'.1, hB'.2]), by omega, by omega⟩
  · exact Fin.cut 2 (Ent.refl _) (by simp [hB.1, hB'.1]) (by simp)
theorem bvs_row (l : List Bool) (m : Nat) (ty : TypeId) {i : Nat} {b : Bool} (h : l[i]? = some b) : (Blk.row (bvs l) m ty).rd1 i = some (bv b) := by simp [h]
@[simp] theorem bvs_getElem (l : List Bool) (i : Nat) (h : i < (bvs l).length) : (bvs l)[i] = .v (.bool (l[i]'(by simpa using h))) := by simp [bvs]
/-- Two slices of the same truth values are the same. -/
theorem slices_Equal {l : List Bool} {o o' : Option Nat} (ho : SlOK l.length o) (ho' : SlOK l.length o') (hl : l.length ≤ 1048576) : Ctr Try.prog F_slices_Equal_bool_bool [slV 0 l.length o, slV 1 l.length o'] [slB (bvs l) ty_bool 1 o, slB (bvs l) ty_bool 1 o'] (fun s hp => s = bv true ∧ hp = [slB (bvs l) ty_bool 1 o, slB (bvs l) ty_bool 1 o']) := by
  refine Ctr.fin (in_slices_Equal_bool_bool (by simp) ?_)
  have hlen : ∀ (k : Nat) (o : Option Nat), SlOK l.length o → lenV Try.prog 29 (slV k l.length o) = some (l.length : Int) := fun k o ho => by
    cases o with
    | none => have : l.length = 0 := ho; simp [this]
    | some c => simp
  have h1 := hlen 0 o ho
  have h2 := hlen 1 o' ho'
  simp [mc_slices_Equal_bool_bool, h1, h2]
  refine ⟨{ i : Nat // i ≤ l.length }, fun i => ([(0, slV 0 l.length o), (1, slV 1 l.length o'), (12, iv l.length), (13, iv (i.1 : Nat))], [slB (bvs l) ty_bool 1 o, slB (bvs l) ty_bool 1 o']), fun i => l.length - i.1, ⟨⟨0, by omega⟩, Le.by [0, 1] (by simp)⟩, fun i => ?_⟩
  obtain ⟨i, hi⟩ := i
  simp
  refine ⟨fun hlt => ?_, fun hge => ?_⟩
  · obtain ⟨x, hx⟩ : ∃ x, l[i]? = some x := ⟨_, List.getElem?_eq_getElem (by omega)⟩
    have hw : IntKind.i64.wrap ((i : Int) + 1) = (i : Int) + 1 := w64 (by omega)
    cases o with
    | none => have : l.length = 0 := ho; omega
    | some cp =>
      cases o' with
      | none => have : l.length = 0 := ho'; omega
      | some cp' =>
        simp [hlt, hx, hw]
        exact ⟨i + 1, Le.by [0, 1] (by simp), by omega, by omega⟩
  · exact Fin.cut 2 (Ent.refl _) (by simp) (by simp)
end Go.Proofs.Ytggpldcdhkhdmaa

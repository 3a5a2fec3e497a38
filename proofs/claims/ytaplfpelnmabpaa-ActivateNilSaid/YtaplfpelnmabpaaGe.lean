import Derived.Test.YtaplfpelnmabpaaGd
namespace Go.Proofs.Ytaplfpelnmabpaa
open Go Go.Vc
set_option linter.unusedSimpArgs false
set_option linter.unusedVariables false
set_option maxRecDepth 100000
set_option maxHeartbeats 4000000

@[simp] theorem cells_raV (k len : Nat) (o : Option (Nat × Nat)) : cellsSV (raV k len o) = [raV k len o] := by cases o <;> rfl
@[simp] theorem flat_raV (k len : Nat) (o : Option (Nat × Nat)) : (raV k len o).flat = true := by cases o <;> rfl
theorem activate_batch {size : Nat} {l ws : List Int} {limit : Int} {o : Option (Nat × Nat)} {B : Blk} (hB : Plain B) : Ctr Try.prog F_activate_batch [.ptr 0 0, iv 0, uv limit, raV 1 ws.length o] [.res (ringR size l), B]
    (fun s hp => s = .fn F_activate_batch_1 [] [.ptr 4 0, .ptr 2 0, .ptr 3 0, .ptr 5 0] ∧ hp = [.res (ringR size l), B, .row [.ptr 0 0] 1 ty_ptr_ring_Ring_int, .row [iv 0] 1 ty_int, .row [uv limit] 1 ty_uint64, .row [raV 1 ws.length o] 1 ty_slice_uint64]) := by
  refine in_activate_batch (by simp) ?_
  simp [mc_activate_batch]
theorem activate_Step {size : Nat} {l ws : List Int} {limit : Int} {o : Option (Nat × Nat)} {B : Blk} (ho : SrcI .u64 ws B o) (hB : Plain B) (hw : UOK ws) (hl : l.length ≤ 1048576) (hlim : limit ≤ 18446744073709551615) :
    Ctr Try.prog F_activate_Step [.ptr 0 0, uv limit, raV 1 ws.length o] [.res (ringR size l), B]
      (fun s hp => ∃ n, IsAct ws limit l n ∧ ∃ oo, SlOK n oo ∧ s = slV 2 n oo ∧ hp = [.res (ringR size (l.drop n)), B, slB (ivs .i64 (l.take n)) ty_int 1 oo]) := by
  refine Ctr.fin (in_activate_Step (by simp) ?_)
  simp [mc_activate_Step]
  refine Ctr.useEq (activate_batch (size := size) (l := l) (ws := ws) (limit := limit) (o := o) hB) [0, 1] (by simp [hB.1, hB.2]) ?_
  simp [hB.2]
  refine RangeOK.of 1048576 (fun x : Int => [iv x]) (fun xs st => st.1 = xs ∧ SlOK xs.length st.2) (fun st : List Int × Option Nat => [.row [slV 1 st.1.length st.2] 1 ty_slice_int, slB (ivs .i64 st.1) ty_int 1 st.2]) [2] [(7, .ptr 0 0)] [.row [.v (.slice none 0 0)] 1 ty_slice_int] (by simp) (by simp) ⟨([], none), by simp, Le.ent ent_more [0, 1] (by simp)⟩ ?_ (f := F_activate_batch_1) (fst := []) (caps := [.ptr 5 0, .ptr 3 0, .ptr 4 0, .ptr 6 0]) (by simp) (fun _ _ => Try.call32 _ _) ?_
  · intro xs st x hM hI
    obtain ⟨xs', os⟩ := st
    obtain ⟨e1, hos⟩ := hI
    simp only at e1 hos
    subst e1
    simp
    refine apV_slV (cs := ivs .i64 xs') (l := [iv x]) (by simp) hos (by simp) (by simp) (by simp) (by simp; omega) (by simp) fun cd hcd => ?_
    simp
    exact ⟨xs' ++ [x], some cd, ⟨rfl, hcd⟩, Le.by [0, 3] (by simp)⟩
  · intro Y hY
    simp
    refine Ctr.use (batch_1 (Y := Y) hY (size := size) (l := l) (limit := limit) ho hB hw hl hl hlim) [7, 5, 3, 4, 6, 0, 1] (by simp [hB.1, hB.2]) fun s hc _ ⟨n, hn, e⟩ => ?_
    subst e
    refine behK.by (l.take n) (by simp) fun st hI => ?_
    obtain ⟨xs', os⟩ := st
    obtain ⟨e1, hos⟩ := hI
    simp only at e1 hos
    subst e1
    have hmin : min n l.length = n := by have := hn.le; omega
    rw [List.length_take, hmin] at hos
    have hlo : lenV Try.prog 22 (slV 8 n os) = some (n : Int) := by
      cases os with
      | none => have h0 : n = 0 := hos; rw [h0]; simp
      | some _ => simp
    simp [hB.2, hmin, hlo]
    refine ⟨{ j : Nat // j ≤ n }, fun j => ([(0, .ptr 0 0), (7, .ptr 2 0), (19, iv n), (20, iv (j.1 : Nat))], [.res (ringR size (l.drop j.1)), B, .row [slV 3 n os] 1 ty_slice_int, slB (ivs .i64 (l.take n)) ty_int 1 os]), fun j => n - j.1, ⟨⟨0, by omega⟩, Le.by [0, 1, 2, 8] (by simp [hB.1, hB.2])⟩, fun j => ?_⟩
    obtain ⟨j, hj⟩ := j
    simp
    refine ⟨fun hlt => ?_, fun hge => ?_⟩
    · refine Ctr.useEq (ring_Pop (size := size) (l := l.drop j)) [0] (by simp) ?_
      have hwj : IntKind.i64.wrap ((j : Int) + 1) = (j : Int) + 1 := w64 (by have := hn.le; omega)
      simp [hwj, hB.2]
      exact ⟨j + 1, Le.by [0, 1, 2, 3] (by simp [hB.1, hB.2]), by omega, by omega⟩
    · obtain rfl : j = n := by omega
      exact Fin.sel [0, 1, 3] (slV 2 j os) [.res (ringR size (l.drop j)), B, slB (ivs .i64 (l.take j)) ty_int 1 os] ⟨by simp, by simp [hB.1], by simp, by simp [hB.2]⟩ ⟨j, hn, os, hos, rfl, rfl⟩
end Go.Proofs.Ytaplfpelnmabpaa

import Derived.Test.YtaplfpelnmabpaaGj
namespace Go.Proofs.Ytaplfpelnmabpaa
open Go Go.Vc
set_option linter.unusedSimpArgs false
set_option linter.unusedVariables false
set_option maxRecDepth 100000
set_option maxHeartbeats 4000000

@[simp] theorem slB_e_lt' (el : TypeId) (sz n : Nat) (o : Option Nat) : (slB [] el sz o).lt n ↔ True := by simp; exact slB_lt _ _ _ _ _ (by simp)
/-! a nil ring -/
theorem activate_batch0 {limit : Int} : Ctr Try.prog F_activate_batch [.v (.pointer none), iv 0, uv limit, .v (.slice none 0 0)] []
    (fun s hp => s = .fn F_activate_batch_1 [] [.ptr 2 0, .ptr 0 0, .ptr 1 0, .ptr 3 0] ∧ hp = [.row [.v (.pointer none)] 1 ty_ptr_ring_Ring_int, .row [iv 0] 1 ty_int, .row [uv limit] 1 ty_uint64, .row [.v (.slice none 0 0)] 1 ty_slice_uint64]) := by
  refine in_activate_batch (by simp) ?_
  simp [mc_activate_batch]
theorem batch_10 {Y : List Int → Nat → HP} {limit : Int} :
    Ctr Try.prog F_activate_batch_1 [.yl 0, .ptr 1 0, .ptr 2 0, .ptr 3 0, .ptr 4 0] [.res (Y []), .row [uv limit] 1 ty_uint64, .row [.v (.pointer none)] 1 ty_ptr_ring_Ring_int, .row [iv 0] 1 ty_int, .row [.v (.slice none 0 0)] 1 ty_slice_uint64]
      (fun s hp => hp = [.res (Y []), .row [uv limit] 1 ty_uint64, .row [.v (.pointer none)] 1 ty_ptr_ring_Ring_int, .row [iv 0] 1 ty_int, .row [.v (.slice none 0 0)] 1 ty_slice_uint64]) := by
  refine Ctr.fin (in_activate_batch_1 (by simp) ?_)
  simp [mc_activate_batch_1]
  refine Ctr.useEq (activate_budget (n := limit)) [] (by simp) ?_
  simp
  refine ⟨Unit, fun i => ([(0, .yl 0), (1, .ptr 1 0), (2, .ptr 2 0), (3, .ptr 3 0), (4, .ptr 4 0)], [.res (Y []), .row [uv limit] 1 ty_uint64, .row [.v (.pointer none)] 1 ty_ptr_ring_Ring_int, .row [iv 0] 1 ty_int, .row [.v (.slice none 0 0)] 1 ty_slice_uint64]), fun i => 0,
    ⟨(), Le.by [0, 1, 2, 3, 4] (by simp)⟩, fun i => ?_⟩
  simp
  refine Ctr.useEq (ring_Peek0 (i := 0)) [] (by simp) ?_
  simp
  exact Fin.cut 5 (Ent.refl _) (by simp) (by simp)
theorem activate_Step0 {limit : Int} :
    Ctr Try.prog F_activate_Step [.v (.pointer none), uv limit, .v (.slice none 0 0)] [] (fun s hp => ∃ oo, SlOK 0 oo ∧ s = slV 0 0 oo ∧ hp = [slB (ivs .i64 []) ty_int 1 oo]) := by
  refine Ctr.fin (in_activate_Step (by simp) ?_)
  simp [mc_activate_Step]
  refine Ctr.useEq (activate_batch0 (limit := limit)) [] (by simp) ?_
  simp
  refine RangeOK.of 0 (fun x : Int => [iv x]) (fun xs st => xs = [] ∧ SlOK 0 st) (fun st : Option Nat => [.row [slV 1 0 st] 1 ty_slice_int, slB (ivs .i64 []) ty_int 1 st]) [0] [(7, .ptr 0 0)] [.row [.v (.slice none 0 0)] 1 ty_slice_int] (by simp) (by simp) ⟨none, by simp, Le.ent ent_more [0, 1] (by simp)⟩ (fun xs st x hM => by omega) (f := F_activate_batch_1) (fst := []) (caps := [.ptr 3 0, .ptr 1 0, .ptr 2 0, .ptr 4 0]) (by simp) (fun _ _ => Try.call32 _ _) ?_
  intro Y hY
  simp
  refine Ctr.use (batch_10 (Y := Y) (limit := limit)) [5, 3, 1, 2, 4] (by simp) fun s hc _ e => ?_
  subst e
  refine behK.by [] (by simp) fun os hI => ?_
  obtain ⟨_, hos⟩ := hI
  have hlo : lenV Try.prog 22 (slV 6 0 os) = some 0 := by cases os <;> simp
  simp [hlo]
  refine ⟨Unit, fun _ => ([(7, .ptr 0 0), (19, iv 0), (20, iv 0)], [.row [slV 1 0 os] 1 ty_slice_int, slB (ivs .i64 []) ty_int 1 os]), fun j => 0, ⟨(), Le.by [0, 6] (by simp)⟩, fun j => ?_⟩
  simp
  exact Fin.sel [1] (slV 0 0 os) [slB (ivs .i64 []) ty_int 1 os] ⟨by simp, by simp, by simp, by simp⟩ ⟨os, hos, rfl, rfl⟩
theorem activate_Wait0 {limit weight : Int} {w : SV} : Ctr Try.prog F_activate_Wait [.v (.pointer none), uv limit, .v (.slice none 0 0), uv weight] [] (fun s hp => s = iv 0 ∧ hp = []) := by
  refine in_activate_Wait (by simp) ?_
  simp [mc_activate_Wait]
theorem ofW_nil (i : Int) : ofW [] i = 0 := by unfold ofW; split <;> rfl
theorem usum_zero : ∀ l : List Int, usum (l.map (ofW [])) = 0
  | [] => rfl
  | a :: l => by
    have := usum_zero l
    simp only [List.map_cons, ofW_nil, usum, List.foldr_cons] at *
    omega
theorem act_nil {limit : Int} (h0 : 0 ≤ limit) (l : List Int) : IsAct [] limit l l.length := by
  refine ⟨Nat.le_refl _, fun i _ => .inr ?_, .inl rfl⟩
  unfold psum
  rw [usum_zero]; exact h0
/-- ActivateNil is true. -/
theorem law_Nil {l : List Int} {limit : Int} {ol : Option (Nat × Nat)} {BL : Blk} (hol : SrcI .i64 l BL ol) (hBL : Plain BL) (hlim : 0 ≤ limit ∧ limit ≤ 18446744073709551615) :
    Ctr Try.prog F_egresslaw14_ActivateNil [raV 0 l.length ol, uv limit] [BL] (fun s _ => s = bv true) := by
  refine in_egresslaw14_ActivateNil (by simp) ?_
  have hll := srcI_len (t := ty_slice_int) (el := ty_int) (s := 1) hol 0 (by simp)
  simp only [ty_slice_int] at hll
  have hw0 : UOK [] := fun x hx => by simp at hx
  by_cases hl : l.length ≤ 60
  · have hl2 : ¬ 60 < (l.length : Int) := by omega
    simp [mc_egresslaw14_ActivateNil, hll, hl2]
    refine Ctr.useEq (law_queue hol hBL (by omega)) [0] (by simp [hBL.1, hBL.2]) ?_
    simp [hBL.2]
    refine Ctr.useEq ref14_Max [] (by simp) ?_
    simp
    have ha : Ent [BL, .res (ringR (max l.length 1) l)] (fun h => h = [BL, .res (ringR (max l.length 1) l)] ++ [.any]) := ent_more
    refine Ctr.ent (ent_more (hp := [BL, .res (ringR (max l.length 1) l)])) (by simp) fun h e => ?_
    subst e
    simp
    refine Ctr.use (activate_Step (size := max l.length 1) (l := l) (ws := []) (limit := 18446744073709551615) (o := none) (B := .any) ⟨rfl, rfl⟩ ⟨fun _ => trivial, fun _ => rfl⟩ hw0 (by omega) (by omega)) [1, 2] (by simp) fun s hc _ ⟨n, hn, oa, hoa, e1, e2⟩ => ?_
    obtain rfl := hn.uniq (act_nil (by omega) l)
    subst e1 e2
    simp [hBL.2]
    refine Ctr.useEq law_alive [] (by simp) ?_
    simp
    refine Ctr.useEq (slices_EqSame (l := l) (o := ofOwn oa) (o' := ol) (B := slB (ivs .i64 l) ty_int 1 oa) (B' := BL) (srcI_sl hoa _) (plain_slB _ _ _ _ _) hol hBL (by omega)) [3, 0] (by simp [← slV_ra, hBL.1, hBL.2]) ?_
    simp [hBL.2]
    refine Ctr.use (activate_Step0 (limit := limit)) [] (by simp) fun s hc _ ⟨ob, hob, e1, e2⟩ => ?_
    subst e1 e2
    have hlo : lenV Try.prog 22 (slV 4 0 ob) = some 0 := by cases ob <;> simp
    simp [hlo]
    refine Ctr.useEq (activate_Wait0 (limit := limit) (weight := limit) (w := iv 0)) [] (by simp) ?_
    simp
    refine Ctr.useEq (activate_Wait (size := max l.length 1) (l := []) (ws := []) (limit := limit) (weight := limit) (o := none) (B := .any) ⟨rfl, rfl⟩ ⟨fun _ => trivial, fun _ => rfl⟩ hw0 (by simp) hlim.2 hlim) [1, 2] (by simp) ?_
    have hwf : (wfold limit (([] : List Int).map (ofW []) ++ [limit])).1 = 1 := by simp [wfold, wstep]
    rw [hwf]
    simp
  · have hl2 : 60 < (l.length : Int) := by omega
    simp [mc_egresslaw14_ActivateNil, hll, hl2]
    refine Ctr.useEq law_alive [] (by simp) ?_
    simp
end Go.Proofs.Ytaplfpelnmabpaa

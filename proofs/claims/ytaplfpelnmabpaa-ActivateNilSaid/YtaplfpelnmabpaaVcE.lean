/- The reading operations do what 'vq' says: the theorem. -/
import Derived.Test.YtaplfpelnmabpaaVcD
namespace Go.Vc
open Go.RowKit
set_option linter.unusedSimpArgs false
set_option linter.unusedVariables false

section
variable {P : Program} {w0 w : World} {F : HP} {ρ : Nat → Nat} {fr : List (Nat × SV)} {hp : List Blk} {a : Act}

/-! ### literals -/

theorem foldl_set (vs : List Value) : ∀ (arr : Array Value) (off k : Nat), off + k + vs.length ≤ arr.size →
    ((vs.zipIdx k).foldl (fun cs (x : Value × Nat) => cs.setIfInBounds (off + x.2) x.1) arr).toList = arr.toList.take (off + k) ++ vs ++ arr.toList.drop (off + k + vs.length) := by
  induction vs with
  | nil => intro arr off k _; simp
  | cons v vs ih =>
    intro arr off k hk
    simp only [List.length_cons] at hk
    simp only [List.zipIdx_cons, List.foldl_cons]
    rw [ih (arr.setIfInBounds (off + k) v) off (k + 1) (by simp; omega)]
    rw [Array.toList_setIfInBounds]
    have hlt : off + k < arr.toList.length := by simp; omega
    rw [show off + (k + 1) = off + k + 1 by omega]
    rw [List.take_add_one, List.take_set_of_le (Nat.le_refl _), List.getElem?_set_self hlt]
    simp only [Option.toList_some, List.length_cons, List.append_assoc, List.cons_append, List.nil_append]
    rw [List.drop_set_of_lt (by omega)]
    rw [show off + k + 1 + vs.length = off + k + (vs.length + 1) by omega]

theorem denL_append (ρ : Nat → Nat) (l m : List SV) : SV.denL ρ (l ++ m) = SV.denL ρ l ++ SV.denL ρ m := by simp [denL_eq]
theorem denL_take (ρ : Nat → Nat) (l : List SV) (k : Nat) : SV.denL ρ (l.take k) = (SV.denL ρ l).take k := by simp [denL_eq, List.map_take]
theorem denL_drop (ρ : Nat → Nat) (l : List SV) (k : Nat) : SV.denL ρ (l.drop k) = (SV.denL ρ l).drop k := by simp [denL_eq, List.map_drop]
theorem denL_length (ρ : Nat → Nat) (l : List SV) : (SV.denL ρ l).length = l.length := by simp [denL_eq]
theorem denL_setR (ρ : Nat → Nat) (cs new : List SV) (off : Nat) : SV.denL ρ (setR cs off new) = (SV.denL ρ cs).take off ++ SV.denL ρ new ++ (SV.denL ρ cs).drop (off + new.length) := by
  simp [setR, denL_append, denL_take, denL_drop]

theorem cells_den (s : SV) : (s.den ρ).cells.toList = SV.denL ρ (cellsSV s) := by
  cases s with
  | v x => cases x <;> simp [SV.den, Value.cells, cellsSV, denL_eq, Function.comp_def]
  | _ => simp [SV.den, Value.cells, cellsSV, SV.denL]

theorem setR_length {cs new : List SV} {off : Nat} (h : off + new.length ≤ cs.length) : (setR cs off new).length = cs.length := by
  simp [setR]; omega

theorem fill_den {pl : List (Nat × Nat)} {place : Nat → Option (Nat × Nat)} (hpl : ∀ i x, pl[i]? = some x → place i = some x) : ∀ {ps : List (Nat × SV)} {cells out : List SV}, fillS pl cells ps = some out →
    Instr.fill place (SV.denL ρ cells).toArray (ps.map fun x => (x.1, x.2.den ρ)) = some (SV.denL ρ out).toArray
  | [], cells, out, h => by simp [fillS] at h; subst h; simp [Instr.fill]
  | (i, s) :: rest, cells, out, h => by
    simp only [fillS] at h
    cases hi : pl[i]? with
    | none => simp [hi] at h
    | some x =>
      obtain ⟨off, size⟩ := x
      simp only [hi] at h
      split at h
      · rename_i hc
        have hsz : (s.den ρ).cells.size = (cellsSV s).length := by rw [← Array.length_toList, cells_den, denL_length]
        simp only [List.map_cons, Instr.fill, hpl i _ hi]
        rw [if_neg (by simp [hsz, denL_length]; omega)]
        have ih := fill_den hpl h
        have : (Array.foldl (fun cs (x : Value × Nat) => cs.setIfInBounds (off + x.2) x.1) (SV.denL ρ cells).toArray (s.den ρ).cells.zipIdx) = (SV.denL ρ (setR cells off (cellsSV s))).toArray := by
          apply Array.toList_inj.1
          rw [← Array.foldl_toList, Array.toList_zipIdx, foldl_set _ _ _ 0 (by simp [← Array.length_toList, cells_den, denL_length]; omega)]
          simp [denL_setR, cells_den, denL_length]
        rw [← ih, ← this]
      · cases h

theorem fillS_lt {n : Nat} {pl : List (Nat × Nat)} : ∀ {ps : List (Nat × SV)} {cells out : List SV}, fillS pl cells ps = some out → SV.ltL n cells → (∀ x ∈ ps, x.2.lt n) → SV.ltL n out
  | [], cells, out, h, hc, _ => by simp [fillS] at h; subst h; exact hc
  | (i, s) :: rest, cells, out, h, hc, hp => by
    simp only [fillS] at h
    split at h
    · cases h
    · split at h
      · refine fillS_lt h ?_ (fun x hx => hp x (by simp [hx]))
        have hs : SV.ltL n (cellsSV s) := by
          have := hp (i, s) (by simp)
          cases s with
          | v x => cases x <;> simp [cellsSV, SV.lt, ltL_iff]
          | agg cs => simpa [cellsSV, SV.lt] using this
          | _ => simpa [cellsSV, SV.ltL, SV.lt] using this
        rw [ltL_iff] at *
        intro u hu
        simp only [setR, List.mem_append] at hu
        rcases hu with (hu | hu) | hu
        · exact hc u (List.mem_of_mem_take hu)
        · exact hs u hu
        · exact hc u (List.mem_of_mem_drop hu)
      · cases h

theorem evP_spec {n : Nat} (hfr : ∀ t s, look t fr = some s → a.tmps[t]? = some (s.den ρ)) (hsc : ∀ t s, look t fr = some s → s.lt n) : ∀ {xs : List (Nat × Operand)} {l : List (Nat × SV)}, evP fr xs = some l →
    xs.map (fun x => (x.1, a.eval x.2)) = l.map (fun x => (x.1, x.2.den ρ)) ∧ ∀ x ∈ l, x.2.lt n
  | [], l, h => by simp [evP] at h; subst h; simp
  | (i, x) :: r, l, h => by
    simp only [evP] at h
    cases hx : ev fr x with
    | none => simp [hx] at h
    | some s =>
      cases hr : evP fr r with
      | none => simp [hx, hr] at h
      | some l' =>
        simp [hx, hr] at h; subst h
        have ih := evP_spec hfr hsc hr
        refine ⟨by simp [ev_eval hfr hx, ih.1], fun y hy => ?_⟩
        rcases List.mem_cons.1 hy with rfl | hy
        · exact ev_lt hsc hx
        · exact ih.2 y hy

theorem run_mapM {α β : Type} (f : α → Sem β) (g : α → β) : ∀ (l : List α), (∀ x ∈ l, ∀ w, (f x).run P w = .ok (g x) w) → ∀ w, (l.mapM f).run P w = .ok (l.map g) w
  | [], _, w => by simp
  | x :: r, h, w => by
    rw [List.mapM_cons]
    simp [h x (by simp), run_mapM f g r (fun y hy => h y (by simp [hy]))]

theorem run_mapMA {α β : Type} (f : α → Sem β) (g : α → β) (l : Array α) (h : ∀ x ∈ l.toList, ∀ w, (f x).run P w = .ok (g x) w) (w : World) : (l.mapM f).run P w = .ok (l.map g) w := by
  rw [Array.mapM_eq_mapM_toList]
  simp only [Sem.run_map, run_mapM f g l.toList h w, Result.andThen_ok]
  congr 1
  apply Array.toList_inj.1
  simp

theorem run_build {t : TypeId} {z : List Value} {pl : List (Nat × Nat)} {ps : List (Nat × SV)} {cs : List SV} (hz : zeroOf P t = some z) (hpl : placesT P t = some pl)
    (hf : fillS pl (z.map SV.v) ps = some cs) (w : World) : (Instr.build t (ps.map fun x => (x.1, x.2.den ρ)).toArray).run P w = .ok (.agg (SV.denL ρ cs).toArray) w := by
  obtain ⟨v, hv, hi, hrun⟩ := zeroOf_spec hz
  have hzc : (SV.denL ρ (z.map SV.v)).toArray = v.cells := by
    rw [denL_eq, ← hv]; simp [SV.den, Function.comp_def]
  unfold placesT at hpl
  split at hpl
  · rename_i fs hd
    split at hpl
    · rename_i hall
      simp only [Option.some.injEq] at hpl; subst hpl
      have hm : ∀ w : World, (Array.mapM (m := Sem) (fun (f : Field) => do pure (f.offset, ← sizeOf f.type)) fs).run P w = .ok (fs.map fun (f : Field) => (f.offset, P.cellsOf f.type)) w := fun w =>
        run_mapMA _ _ fs (fun x hx w => by
          have := List.all_eq_true.1 hall x hx
          simp [run_size this]) w
      have hfill := fill_den (ρ := ρ) (pl := fs.toList.map fun f => (f.offset, P.cellsOf f.type)) (place := fun i => (fs.map fun f => (f.offset, P.cellsOf f.type))[i]?) (fun i x hx => by
        rw [← hx]; simp) hf
      rw [hzc] at hfill
      simp only [Instr.build, Sem.run_bind, hrun, Result.andThen_ok, run_und hd, hm]
      simp only [hfill, Sem.run_pure]
    · cases hpl
  · rename_i n el hd
    split at hpl
    · rename_i hall
      simp only [Option.some.injEq] at hpl; subst hpl
      have hfill := fill_den (ρ := ρ) (pl := (List.range n).map fun i => (i * P.cellsOf el, P.cellsOf el)) (place := fun i => some (i * P.cellsOf el, P.cellsOf el)) (fun i x hx => by
        rw [List.getElem?_map] at hx
        obtain ⟨j, hj, rfl⟩ := Option.map_eq_some_iff.1 hx
        have hjn := (List.getElem?_eq_some_iff.1 hj)
        obtain ⟨h1, h2⟩ := hjn
        simp at h2; subst h2; rfl) hf
      rw [hzc] at hfill
      simp only [Instr.build, Sem.run_bind, hrun, Result.andThen_ok, run_und hd, run_size hall]
      simp only [hfill, Sem.run_pure]
    · cases hpl
  · cases hpl

end
end Go.Vc

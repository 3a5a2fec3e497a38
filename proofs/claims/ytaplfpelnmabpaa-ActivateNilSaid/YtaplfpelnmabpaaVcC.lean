/- The model's run of the reading operations. -/
import Derived.Test.YtaplfpelnmabpaaVcB
import Derived.Laws.Cells
import Derived.Laws.StructEq
import Derived.Laws.Pointers
namespace Go.Vc
open Go.RowKit
set_option linter.unusedSimpArgs false
set_option linter.unusedVariables false

section
variable {P : Program} {w0 w : World} {F : HP} {ρ : Nat → Nat} {fr : List (Nat × SV)} {hp : List Blk} {a : Act}

theorem run_und {t : TypeId} {d : TypeDesc} (h : P.underlying t = some d) : (underlying t).run P w = .ok d w := by simp [underlying, h]
theorem run_size {t : TypeId} (h : (P.info? t).isSome = true) : (sizeOf t).run P w = .ok (P.cellsOf t) w := by
  obtain ⟨i, hi⟩ := Option.isSome_iff_exists.1 h
  simp [sizeOf, typeInfo, hi, Program.cellsOf]
theorem info_of_und {t : TypeId} {d : TypeDesc} (h : P.underlying t = some d) : (P.info? t).isSome = true := by
  unfold Program.underlying at h
  cases hi : P.info? t with
  | none => rw [hi] at h; simp at h
  | some i => rfl
theorem und_of_agg {t : TypeId} {b : Bool} (h : isAggT P t = some b) : ∃ d, P.underlying t = some d := by
  unfold isAggT at h
  cases hd : P.underlying t with
  | none => simp [hd] at h
  | some d => exact ⟨d, rfl⟩
theorem run_isAgg {t : TypeId} {b : Bool} (h : isAggT P t = some b) : (isAgg t).run P w = .ok b w := by
  obtain ⟨d, hd⟩ := und_of_agg h
  simp only [isAgg, Sem.run_bind, run_und hd, Result.andThen_ok]
  unfold isAggT at h
  rw [hd] at h
  cases d <;> simp_all

theorem ev_eval (hfr : ∀ t s, look t fr = some s → a.tmps[t]? = some (s.den ρ)) {x : Operand} {s : SV} (h : ev fr x = some s) : a.eval x = s.den ρ := by
  cases x with
  | tmp t => have := hfr t s h; simp [Act.eval, this]
  | const v => simp only [ev, Option.some.injEq] at h; subst h; simp [Act.eval, SV.den]
  | func f => simp only [ev, Option.some.injEq] at h; subst h; simp [Act.eval, SV.den, SV.denL]
  | global g => simp [ev] at h
theorem ev_lt {n : Nat} (hsc : ∀ t s, look t fr = some s → s.lt n) {x : Operand} {s : SV} (h : ev fr x = some s) : s.lt n := by
  cases x with
  | tmp t => exact hsc t s h
  | const v => simp only [ev, Option.some.injEq] at h; subst h; simp [SV.lt]
  | func f => simp only [ev, Option.some.injEq] at h; subst h; simp [SV.lt, SV.ltL]
  | global g => simp [ev] at h
theorem evL_eval (hfr : ∀ t s, look t fr = some s → a.tmps[t]? = some (s.den ρ)) : ∀ {xs : List Operand} {l : List SV}, evL fr xs = some l → xs.map a.eval = SV.denL ρ l
  | [], l, h => by simp [evL] at h; subst h; simp [SV.denL]
  | x :: r, l, h => by
    simp only [evL] at h
    cases hx : ev fr x with
    | none => simp [hx] at h
    | some s =>
      cases hr : evL fr r with
      | none => simp [hx, hr] at h
      | some l' =>
        simp [hx, hr] at h; subst h
        simp [SV.denL, ev_eval hfr hx, evL_eval hfr hr]
theorem evL_lt {n : Nat} (hsc : ∀ t s, look t fr = some s → s.lt n) : ∀ {xs : List Operand} {l : List SV}, evL fr xs = some l → SV.ltL n l
  | [], l, h => by simp [evL] at h; subst h; simp [SV.ltL]
  | x :: r, l, h => by
    simp only [evL] at h
    cases hx : ev fr x with
    | none => simp [hx] at h
    | some s =>
      cases hr : evL fr r with
      | none => simp [hx, hr] at h
      | some l' =>
        simp [hx, hr] at h; subst h
        exact ⟨ev_lt hsc hx, evL_lt hsc hr⟩

theorem Sat.row (s : Sat w0 (star F (hpP ρ 0 hp)) w) {n : Nat} {cs : List SV} {m : Nat} {ty : TypeId} (h : hp[n]? = some (.row cs m ty)) :
    ∃ arr : Array Value, w.heap[ρ n]? = some (.cells arr ty (0, 0)) ∧ m ≤ arr.size ∧ ∀ (j : Nat) (u : SV), cs[j]? = some u → arr[j]? = some (u.den ρ) := by
  have h1 := s.right
  rw [hpP_take ρ 0 hp n _ h, Nat.zero_add] at h1
  obtain ⟨g, ⟨g1, g2, d, e, ⟨arr, hs, hc, hp1⟩, _⟩, ho⟩ := h1.own
  exact ⟨arr, (ho (ρ n) (.cells arr ty (0, 0)) (by rw [e, hp1]; simp)).2, hs, hc⟩

theorem Sat.rd1 (s : Sat w0 (star F (hpP ρ 0 hp)) w) {n off : Nat} {u : SV} (h : rd1 hp n off = some u) : w.cell? ⟨ρ n, off, none⟩ = some (u.den ρ) := by
  unfold Vc.rd1 at h
  cases hn : hp[n]? with
  | none => rw [hn] at h; simp at h
  | some B =>
    rw [hn] at h
    cases B with
    | row cs m ty =>
      obtain ⟨arr, hw, _, hc⟩ := s.row hn
      simp only [Blk.rd1] at h
      simp [World.cell?, hw, hc off u h]
    | ro o cs =>
      simp only [Blk.rd1] at h
      split at h
      · rename_i ho
        obtain ⟨v, hv, rfl⟩ := Option.map_eq_some_iff.1 h
        have h1 := s.right
        rw [hpP_take ρ 0 hp n _ hn, Nat.zero_add] at h1
        obtain ⟨g, ⟨g1, g2, d, e, ⟨_, hb, hc⟩, _⟩, _⟩ := h1.own
        have := hc (off - o) v hv
        rw [show o + (off - o) = off by omega] at this
        rw [SV.den, ← this]
        exact s.below.cell (p := ⟨ρ n, off, none⟩) hb
      · cases h
    | res R => simp [Blk.rd1] at h
    | any => simp [Blk.rd1] at h
    | mapB es => simp [Blk.rd1] at h
    | lp f N fr ps as bd => simp [Blk.rd1] at h

theorem rd1_lt {N : Nat} (hsh : ∀ B ∈ hp, B.lt N) {n off : Nat} {u : SV} (h : rd1 hp n off = some u) : u.lt N := by
  unfold Vc.rd1 at h
  cases hn : hp[n]? with
  | none => rw [hn] at h; simp at h
  | some B =>
    rw [hn] at h
    cases B with
    | row cs m ty => exact hsh _ (List.mem_of_getElem? hn) u (List.mem_of_getElem? h)
    | ro o cs =>
      simp only [Blk.rd1] at h
      split at h
      · obtain ⟨v, hv, rfl⟩ := Option.map_eq_some_iff.1 h; simp [SV.lt]
      · cases h
    | res R => simp [Blk.rd1] at h
    | any => simp [Blk.rd1] at h
    | mapB es => simp [Blk.rd1] at h
    | lp f N fr ps as bd => simp [Blk.rd1] at h

/-- A row read is its cells read. -/
theorem rdN_rd1 {n off sz : Nat} {l : List SV} (h : rdN hp n off sz = some l) : l.length = sz ∧ ∀ (j : Nat) (u : SV), l[j]? = some u → rd1 hp n (off + j) = some u := by
  unfold rdN at h
  unfold Vc.rd1
  cases hn : hp[n]? with
  | none => rw [hn] at h; simp at h
  | some B =>
    rw [hn] at h
    cases B with
    | row cs m ty =>
      simp only [Blk.rdN] at h
      split at h
      · rename_i hle
        simp only [Option.some.injEq] at h; subst h
        refine ⟨by simp; omega, fun j u hu => ?_⟩
        simp only [Blk.rd1]
        rw [List.getElem?_take] at hu
        split at hu
        · simpa using hu
        · cases hu
      · cases h
    | ro o cs =>
      simp only [Blk.rdN] at h
      split at h
      · rename_i hle
        simp only [Option.some.injEq] at h; subst h
        refine ⟨by simp; omega, fun j u hu => ?_⟩
        simp only [Blk.rd1]
        rw [List.getElem?_map, List.getElem?_take] at hu
        split at hu
        · rw [if_pos (by omega), show off + j - o = off - o + j by omega]
          simpa using hu
        · cases hu
      · cases h
    | res R => simp [Blk.rdN] at h
    | any => simp [Blk.rdN] at h
    | mapB es => simp [Blk.rdN] at h
    | lp f N fr ps as bd => simp [Blk.rdN] at h

theorem rdN_lt {N : Nat} (hsh : ∀ B ∈ hp, B.lt N) {n off sz : Nat} {l : List SV} (h : rdN hp n off sz = some l) : SV.ltL N l := by
  rw [ltL_iff]
  intro u hu
  obtain ⟨j, hj⟩ := List.mem_iff_getElem?.1 hu
  exact rd1_lt hsh ((rdN_rd1 h).2 j u hj)

theorem addr_add (b o j : Nat) : (⟨b, o, none⟩ : Addr).add j = ⟨b, o + j, none⟩ := by
  unfold Addr.add; split
  · rename_i h; subst h; simp
  · rfl

theorem Sat.rdN (s : Sat w0 (star F (hpP ρ 0 hp)) w) {n off sz : Nat} {l : List SV} (h : rdN hp n off sz = some l) :
    (loadCells ⟨ρ n, off, none⟩ sz).run P w = .ok (SV.denL ρ l).toArray w := by
  obtain ⟨hl, hc⟩ := rdN_rd1 h
  have := run_loadCells_list (P := P) (w := w) ⟨ρ n, off, none⟩ (SV.denL ρ l) (fun j v hv => by
    rw [denL_eq, List.getElem?_map] at hv
    obtain ⟨u, hu, rfl⟩ := Option.map_eq_some_iff.1 hv
    rw [addr_add]
    exact s.rd1 (hc j u hu))
  rw [denL_eq, List.length_map, hl] at this
  rw [denL_eq]; exact this

end
end Go.Vc

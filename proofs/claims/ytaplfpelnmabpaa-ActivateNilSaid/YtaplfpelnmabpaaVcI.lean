/- Heaps behind a new block, a store, a move of a row to a new name. -/
import Derived.Test.YtaplfpelnmabpaaVcH
namespace Go.Vc
open Go.RowKit
set_option linter.unusedSimpArgs false
set_option linter.unusedVariables false

section
variable {P : Program} {w0 w : World} {F : HP} {ρ : Nat → Nat} {fr : List (Nat × SV)} {hp : List Blk} {a : Act}

def upd (ρ : Nat → Nat) (n b : Nat) : Nat → Nat := fun k => if k = n then b else ρ k
theorem upd_old (ρ : Nat → Nat) (n b : Nat) : ∀ k, k < n → upd ρ n b k = ρ k := fun k hk => by simp [upd, Nat.ne_of_lt hk]
theorem upd_new (ρ : Nat → Nat) (n b : Nat) : upd ρ n b n = b := by simp [upd]

theorem hpP_upd (b : Nat) (hsh : ∀ B ∈ hp, B.lt hp.length) : hpP (upd ρ hp.length b) 0 hp = hpP ρ 0 hp :=
  hpP_congr (n := hp.length) (upd_old ρ hp.length b) 0 hp (by omega) hsh

/-- A row opened. -/
theorem Sat.openRow (s : Sat w0 (star F (hpP ρ 0 hp)) w) {n : Nat} {cs : List SV} {m : Nat} {ty : TypeId} (h : hp[n]? = some (.row cs m ty)) :
    ∃ arr : Array Value, m ≤ arr.size ∧ (∀ (j : Nat) (u : SV), cs[j]? = some u → arr[j]? = some (u.den ρ)) ∧ w.heap[ρ n]? = some (.cells arr ty (0, 0)) ∧
      Sat w0 (star (Vc.pto (ρ n) (.cells arr ty (0, 0))) (star F (hpP ρ 0 (hp.set n .any)))) w := by
  rw [hpP_take ρ 0 hp n _ h, Nat.zero_add, star_left_comm] at s
  obtain ⟨g, ⟨g1, g2, d, e, ⟨arr, hs, hc, hp1⟩, f⟩, ho⟩ := s.own
  have : Sat w0 (star (Vc.pto (ρ n) (.cells arr ty (0, 0))) (star F (hpP ρ 0 (hp.set n .any)))) w := ⟨s.below, g, ⟨g1, g2, d, e, hp1, f⟩, ho⟩
  exact ⟨arr, hs, hc, this.pto.2, this⟩

/-- A row shut under the name that it had. -/
theorem Sat.shutRow {n : Nat} {cs : List SV} {m : Nat} {ty : TypeId} {arr : Array Value} (hn : n < hp.length) (hs : m ≤ arr.size) (hc : ∀ (j : Nat) (u : SV), cs[j]? = some u → arr[j]? = some (u.den ρ))
    (s : Sat w0 (star (Vc.pto (ρ n) (.cells arr ty (0, 0))) (star F (hpP ρ 0 (hp.set n .any)))) w) : Sat w0 (star F (hpP ρ 0 (hp.set n (.row cs m ty)))) w := by
  rw [hpP_put ρ 0 hp n _ hn, Nat.zero_add, star_left_comm]
  exact s.mono (star_mono (fun h hh => ⟨arr, hs, hc, hh⟩) (fun _ h => h))

/-- A row shut under a new name. -/
theorem Sat.shutNew {cs : List SV} {m : Nat} {ty : TypeId} {arr : Array Value} {b : Nat} (hsh : ∀ B ∈ hp, B.lt hp.length) (hl : SV.ltL hp.length cs) (hs : m ≤ arr.size)
    (hc : ∀ (j : Nat) (u : SV), cs[j]? = some u → arr[j]? = some (u.den ρ)) (s : Sat w0 (star (Vc.pto b (.cells arr ty (0, 0))) (star F (hpP ρ 0 hp))) w) :
    Sat w0 (star F (hpP (upd ρ hp.length b) 0 (hp ++ [.row cs m ty]))) w := by
  rw [hpP_append, hpP_upd b hsh]
  simp only [hpP, star_emp, Nat.zero_add, upd_new]
  rw [← star_assoc, star_comm]
  refine s.mono (star_mono (fun h hh => ⟨arr, hs, fun j u hu => ?_, hh⟩) (fun _ h => h))
  rw [den_congr (upd_old ρ hp.length b) u ((ltL_iff _ _).1 hl u (List.mem_of_getElem? hu))]
  exact hc j u hu

theorem lt_append_row {cs : List SV} {m : Nat} {ty : TypeId} (hsh : ∀ B ∈ hp, B.lt hp.length) (hl : SV.ltL hp.length cs) : ∀ B ∈ hp ++ [Blk.row cs m ty], B.lt (hp ++ [Blk.row cs m ty]).length := by
  intro B hB
  rw [List.length_append]
  rcases List.mem_append.1 hB with h | h
  · exact Blk.lt_mono (by omega) (hsh B h)
  · simp at h; subst h
    exact Blk.lt_mono (n := hp.length) (by omega) ((ltL_iff _ _).1 hl)

theorem lt_set {n : Nat} {B' : Blk} (hsh : ∀ B ∈ hp, B.lt hp.length) (hl : B'.lt hp.length) : ∀ B ∈ hp.set n B', B.lt (hp.set n B').length := by
  intro B hB
  rw [List.length_set]
  rcases List.mem_or_eq_of_mem_set hB with h | h
  · exact hsh B h
  · subst h; exact hl

/-- A new block. -/
theorem aft_new {K : SV → List Blk → Prop} (s : Sat w0 (star F (hpP ρ 0 hp)) w) (hsh : ∀ B ∈ hp, B.lt hp.length) {cs : List SV} {m : Nat} {ty : TypeId} {arr : Array Value} (hl : SV.ltL hp.length cs) (hs : m ≤ arr.size)
    (hc : ∀ (j : Nat) (u : SV), cs[j]? = some u → arr[j]? = some (u.den ρ)) (val : SV) (hv : val.lt (hp.length + 1)) (h : K val (hp ++ [.row cs m ty])) :
    Aft w0 F ρ hp K (val.den (upd ρ hp.length w.heap.size)) { w with heap := w.heap.push (.cells arr ty (0, 0)) } :=
  ⟨_, val, _, rfl, upd_old _ _ _, by simp, by simpa using hv, lt_append_row hsh hl, Sat.shutNew hsh hl hs hc (s.alloc _), h⟩

theorem cells_list (ρ : Nat → Nat) (cs : List SV) : ∀ (j : Nat) (u : SV), cs[j]? = some u → ((SV.denL ρ cs).toArray)[j]? = some (u.den ρ) := fun j u hu => by
  rw [denL_eq]; simp [hu]

theorem cellsSV_lt {n : Nat} {s : SV} (h : s.lt n) : SV.ltL n (cellsSV s) := by
  cases s with
  | v x => cases x <;> simp [cellsSV, SV.lt, ltL_iff]
  | agg cs => simpa [cellsSV, SV.lt] using h
  | _ => simpa [cellsSV, SV.ltL, SV.lt] using h

theorem flat_den {s : SV} (h : s.flat = true) : (s.den ρ).oneCell' = true := by
  cases s <;> simp_all [SV.flat, SV.den, Value.oneCell']

theorem ltL_mapv (n : Nat) (z : List Value) : SV.ltL n (z.map SV.v) := by
  rw [ltL_iff]; intro s hs; obtain ⟨v, _, rfl⟩ := List.mem_map.1 hs; simp [SV.lt]
theorem denL_mapv (ρ : Nat → Nat) (z : List Value) : SV.denL ρ (z.map SV.v) = z := by
  rw [denL_eq]; simp [SV.den, Function.comp_def]

theorem zeros_lt (n : Nat) (z : List Value) (k : Nat) : SV.ltL n (zeros z k) := by
  rw [ltL_iff]; intro s hs
  simp only [zeros, List.mem_flatten, List.mem_replicate] at hs
  obtain ⟨l, ⟨_, rfl⟩, hs⟩ := hs
  exact (ltL_iff _ _).1 (ltL_mapv n z) s hs

theorem zeros_den (ρ : Nat → Nat) (z : List Value) (k : Nat) : SV.denL ρ (zeros z k) = (List.replicate k z).flatten := by
  induction k with
  | zero => simp [zeros, SV.denL]
  | succ k ih =>
    have : zeros z (k + 1) = z.map SV.v ++ zeros z k := by simp [zeros, List.replicate_succ]
    rw [this, denL_append, ih, denL_mapv]; simp [List.replicate_succ]

theorem range_mod (z : List Value) (k : Nat) : ((Array.range (k * z.length)).map fun i => z.toArray[i % z.toArray.size]!).toList = (List.replicate k z).flatten := by
  rw [Array.toList_map, Array.toList_range]
  apply List.ext_getElem?
  intro i
  induction k generalizing i with
  | zero => simp
  | succ k ih =>
    rw [List.replicate_succ, List.flatten_cons]
    by_cases hi : i < z.length
    · rw [List.getElem?_append_left hi, List.getElem?_map, List.getElem?_range (by rw [Nat.succ_mul]; omega)]
      simp [Nat.mod_eq_of_lt hi, hi]
    · rw [List.getElem?_append_right (by omega), ← ih (i - z.length)]
      rw [List.getElem?_map, List.getElem?_map]
      by_cases h2 : i < (k + 1) * z.length
      · rw [List.getElem?_range h2, List.getElem?_range (by rw [Nat.succ_mul] at h2; omega)]
        simp only [Option.map_some, Option.some.injEq, List.size_toArray]
        rw [← Nat.mod_eq_sub_mod (by omega)]
      · rw [List.getElem?_eq_none (by simp; omega), List.getElem?_eq_none (by simp; rw [Nat.succ_mul] at h2; omega)]

end
end Go.Vc

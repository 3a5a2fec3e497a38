/- Operations that make or write memory, and calls, do what 'vop' says. -/
import Derived.Test.YtaplfpelnmabpaaVcI
import Derived.Laws.MakeOwn
namespace Go.Vc
open Go.RowKit
set_option linter.unusedSimpArgs false
set_option linter.unusedVariables false

section
variable {P : Program} {w0 w : World} {F : HP} {ρ : Nat → Nat} {fr : List (Nat × SV)} {hp : List Blk} {a : Act}

theorem zeroOf_info {t : TypeId} {z : List Value} (h : zeroOf P t = some z) : ∃ i v, P.info? t = some i ∧ i.zero = some v ∧ v.cells.toList = z ∧ P.cellsOf t = i.size ∧ P.bytesOf t = i.bytes := by
  unfold zeroOf at h
  split at h
  · rename_i i hi
    split at h
    · rename_i v hz
      simp only [Option.some.injEq] at h
      exact ⟨i, v, hi, hz, h, by simp [Program.cellsOf, hi], by simp [Program.bytesOf, hi]⟩
    · cases h
  · cases h

theorem put_setRow {n : Nat} {arr : Array Value} {ty : TypeId} (s : Sat w0 (star (Vc.pto n (.cells arr ty (0, 0))) F) w) (arr' : Array Value) : Sat w0 (star (Vc.pto n (.cells arr' ty (0, 0))) F) (w.setRow n arr') :=
  s.put _ (fun k hk => setRow_other w n k arr' hk) (by simp [World.setRow]) (setRow_heap w n arr arr' ty (0, 0) s.pto.2) rfl rfl rfl

theorem row_list {arr : Array Value} {cs : List SV} (hc : ∀ (j : Nat) (u : SV), cs[j]? = some u → arr[j]? = some (u.den ρ)) : arr.toList.take cs.length = SV.denL ρ cs := by
  rw [denL_eq]
  apply List.ext_getElem?
  intro j
  rw [List.getElem?_take]
  split
  · rename_i hj
    have := hc j cs[j] (by simp [hj])
    simp only [Array.getElem?_toList]
    rw [this]; simp [hj]
  · rw [List.getElem?_eq_none (by simp; omega)]

theorem getElem_take_append {l : List Value} {arr : List Value} {m k : Nat} {cs : List SV} {j : Nat} {u : SV} (h : cs[j]? = some u) (hl : SV.denL ρ cs = l) (harr : arr.take m = l.take k) (hj : j < k) (hm : j < m) : arr[j]? = some (u.den ρ) := by
  have h1 : (arr.take m)[j]? = arr[j]? := by rw [List.getElem?_take, if_pos hm]
  have h2 : (l.take k)[j]? = l[j]? := by rw [List.getElem?_take, if_pos hj]
  rw [← h1, harr, h2, ← hl, denL_eq]; simp [h]

/-- The cells behind a store into a row. -/
theorem setR_cells {arr : Array Value} {cs new : List SV} {off : Nat} (hc : ∀ (j : Nat) (u : SV), cs[j]? = some u → arr[j]? = some (u.den ρ)) (hoff : off + new.length ≤ cs.length) (hsz : cs.length ≤ arr.size) :
    ∀ (j : Nat) (u : SV), (setR cs off new)[j]? = some u → ((arr.toList.take off ++ SV.denL ρ new ++ arr.toList.drop (off + (SV.denL ρ new).length)).toArray)[j]? = some (u.den ρ) := by
  intro j u hu
  rw [denL_length]
  simp only [List.getElem?_toArray]
  have ht : (arr.toList.take off).length = off := by simp; omega
  have ht' : (cs.take off).length = off := by simp; omega
  unfold setR at hu
  by_cases h1 : j < off
  · rw [List.append_assoc, List.getElem?_append_left (by omega), List.getElem?_take, if_pos h1] at *
    rw [Array.getElem?_toList]; exact hc j u hu
  · by_cases h2 : j < off + new.length
    · rw [List.append_assoc, List.getElem?_append_right (by omega), List.getElem?_append_left (by simp [denL_length, ht]; omega), ht]
      rw [List.append_assoc, List.getElem?_append_right (by omega), List.getElem?_append_left (by simp [ht']; omega), ht'] at hu
      rw [denL_eq]; simp [hu]
    · rw [List.append_assoc, List.getElem?_append_right (by omega), List.getElem?_append_right (by simp [denL_length, ht]; omega), ht, denL_length, List.getElem?_drop]
      rw [List.append_assoc, List.getElem?_append_right (by omega), List.getElem?_append_right (by simp [ht']; omega), ht', List.getElem?_drop] at hu
      rw [show off + new.length + (j - off - new.length) = j by omega] at *
      rw [Array.getElem?_toList]; exact hc j u hu

theorem setR_lt {n off : Nat} {cs new : List SV} (h1 : SV.ltL n cs) (h2 : SV.ltL n new) : SV.ltL n (setR cs off new) := by
  rw [ltL_iff] at *
  intro s hs
  simp only [setR, List.mem_append] at hs
  rcases hs with (hs | hs) | hs
  · exact h1 s (List.mem_of_mem_take hs)
  · exact h2 s hs
  · exact h1 s (List.mem_of_mem_drop hs)

theorem row_lt (hsh : ∀ B ∈ hp, B.lt hp.length) {n : Nat} {cs : List SV} {m : Nat} {ty : TypeId} (h : hp[n]? = some (.row cs m ty)) : SV.ltL hp.length cs := by
  rw [ltL_iff]; exact hsh _ (List.mem_of_getElem? h)

theorem cells_size {arr : Array Value} {cs : List SV} (hc : ∀ (j : Nat) (u : SV), cs[j]? = some u → arr[j]? = some (u.den ρ)) : cs.length ≤ arr.size := by
  rcases Nat.lt_or_ge arr.size cs.length with hlt | hge
  · have := hc (cs.length - 1) cs[cs.length - 1] (by simp)
    have := (Array.getElem?_eq_some_iff.1 this).1
    omega
  · exact hge

/-- A store of cells into a row. -/
theorem aft_store {K : SV → List Blk → Prop} (s : Sat w0 (star F (hpP ρ 0 hp)) w) (hsh : ∀ B ∈ hp, B.lt hp.length) {n m : Nat} {ty : TypeId} {cs new : List SV} {off : Nat} (hn : hp[n]? = some (.row cs m ty))
    (hoff : off + new.length ≤ cs.length) (hl : SV.ltL hp.length new) (hfl : new.all SV.flat = true) (val : SV) (hv : val.lt hp.length) (h : K val (hp.set n (.row (setR cs off new) m ty))) :
    ∃ w', (storeCells ⟨ρ n, off, none⟩ (SV.denL ρ new)).run P w = .ok () w' ∧ Aft w0 F ρ hp K (val.den ρ) w' := by
  obtain ⟨arr, hs, hc, hw, s'⟩ := s.openRow hn
  have hsz := cells_size hc
  have hnl : n < hp.length := (List.getElem?_eq_some_iff.1 hn).1
  refine ⟨_, run_storeCells_at P (ρ n) off ty (SV.denL ρ new) 0 arr w hw (by rw [denL_length]; omega) (fun v hv => ?_), ?_⟩
  · rw [denL_eq] at hv
    obtain ⟨u, hu, rfl⟩ := List.mem_map.1 hv
    exact flat_den (List.all_eq_true.1 hfl u hu)
  · have hlt := lt_set (n := n) hsh (B' := .row (setR cs off new) m ty) ((ltL_iff _ _).1 (setR_lt (row_lt hsh hn) hl))
    refine ⟨ρ, val, _, rfl, fun _ _ => rfl, by simp, by simpa using hv, hlt, ?_, h⟩
    refine Sat.shutRow hnl (arr := (arr.toList.take (off + 0) ++ SV.denL ρ new ++ arr.toList.drop (off + 0 + (SV.denL ρ new).length)).toArray) ?_ ?_ (put_setRow s' _)
    · simp [denL_length]; omega
    · simpa using setR_cells hc hoff (by omega)

theorem run_firstCells {n off len cap k sz : Nat} {l : List SV} (s : Sat w0 (star F (hpP ρ 0 hp)) w) (h : rdN hp n off (k * sz) = some l) : (Builtin.firstCells sz k (.slice (some ⟨ρ n, off, none⟩) len cap)).run P w = .ok (SV.denL ρ l).toArray w := by
  simp [Builtin.firstCells, s.rdN h]

/-- Cells appended to a row of one's own, in place or in a new block: the row goes on under a new name. -/
theorem aft_append {K : SV → List Blk → Prop} (s : Sat w0 (star F (hpP ρ 0 hp)) w) (hsh : ∀ B ∈ hp, B.lt hp.length) {t el : TypeId} {sz n m off' len cap k c2 mm : Nat} {z : List Value} {cs l : List SV}
    (ht : slcT P t = some (el, sz)) (hz : zeroOf P el = some z) (hzl : z.length = sz) (_h0 : 0 < sz) (hn : hp[n]? = some (.row cs mm el)) (hlen : len * sz ≤ cs.length) (_hlc : len ≤ cap) (hmm : cap * sz ≤ mm)
    (hb1 : len + k ≤ 140737488355328) (hb2 : (len + k) * P.bytesOf el ≤ 140737488355328) (hl : rdN hp m off' (k * sz) = some l) (hfl : l.all SV.flat = true)
    (h : ∀ cap', len + k ≤ cap' → K (.slc hp.length 0 (len + k) cap') (hp.set n .any ++ [.row (cs.take (len * sz) ++ l) (cap' * sz) el])) (ty : TypeId) :
    ∃ v w', (Builtin.append_ #[t, t] ty #[.slice (some ⟨ρ n, 0, none⟩) len cap, .slice (some ⟨ρ m, off', none⟩) k c2]).run P w = .ok v w' ∧ Aft w0 F ρ hp K v w' := by
  obtain ⟨hd, _, hcs⟩ := slcT_spec ht
  obtain ⟨i, zv, hi, hzv, hzc, hci, hby⟩ := zeroOf_info hz
  have hisz : i.size = sz := by rw [← hci, hcs]
  rw [hby] at hb2
  obtain ⟨hll, hlr⟩ := rdN_rd1 hl
  obtain ⟨arr, hs, hc, hw, s'⟩ := s.openRow hn
  have hnl : n < hp.length := (List.getElem?_eq_some_iff.1 hn).1
  have hlt : SV.ltL hp.length l := rdN_lt hsh hl
  have hcl : SV.ltL hp.length cs := row_lt hsh hn
  have hnewl : (SV.denL ρ l).length = k * i.size := by rw [denL_length, hll, hisz]
  have hnews : ∀ (j : Nat) (v : Value), (SV.denL ρ l)[j]? = some v → w.cell? ((⟨ρ m, off', none⟩ : Addr).add j) = some v := fun j v hv => by
    rw [denL_eq, List.getElem?_map] at hv
    obtain ⟨u, hu, rfl⟩ := Option.map_eq_some_iff.1 hv
    rw [addr_add]; exact s.rd1 (hlr j u hu)
  have hset : ∀ B ∈ hp.set n .any, B.lt (hp.set n .any).length := lt_set hsh trivial
  have hlenset : (hp.set n Blk.any).length = hp.length := by simp
  have hnewlt : SV.ltL (hp.set n Blk.any).length (cs.take (len * sz) ++ l) := by
    rw [hlenset, ltL_iff]; intro u hu
    rcases List.mem_append.1 hu with h1 | h1
    · exact (ltL_iff _ _).1 hcl u (List.mem_of_mem_take h1)
    · exact (ltL_iff _ _).1 hlt u h1
  have fin : ∀ (b cap' : Nat) (arr' : Array Value) (w' : World), len + k ≤ cap' → cap' * sz ≤ arr'.size → (∀ (j : Nat) (u : SV), (cs.take (len * sz) ++ l)[j]? = some u → arr'[j]? = some (u.den ρ)) →
      Sat w0 (star (Vc.pto b (.cells arr' el (0, 0))) (star F (hpP ρ 0 (hp.set n .any)))) w' → Aft w0 F ρ hp K (.slice (some ⟨b, 0, none⟩) (len + k) cap') w' := fun b cap' arr' w' h1 h2 h3 h4 => by
    have := Sat.shutNew hset hnewlt h2 h3 h4
    have hlr := lt_append_row (m := cap' * sz) (ty := el) hset hnewlt
    rw [hlenset] at this
    exact ⟨upd ρ hp.length b, .slc hp.length 0 (len + k) cap', _, by simp [SV.den, upd_new], upd_old _ _ _, by simp, by simp [SV.lt], hlr, this, h cap' h1⟩
  have hcells : ∀ (rest : List Value) (j : Nat) (u : SV), (cs.take (len * sz) ++ l)[j]? = some u → ((SV.denL ρ (cs.take (len * sz) ++ l) ++ rest).toArray)[j]? = some (u.den ρ) := fun rest j u hu => by
    have hj := (List.getElem?_eq_some_iff.1 hu).1
    simp only [List.getElem?_toArray]
    rw [List.getElem?_append_left (by rw [denL_length]; exact hj), denL_eq]; simp only [List.getElem?_map, hu, Option.map_some]
  by_cases hroom : len + k ≤ cap
  · have hfit : len * i.size + (SV.denL ρ l).length ≤ arr.size := by
      rw [hnewl, ← Nat.add_mul, hisz]
      have : (len + k) * sz ≤ cap * sz := Nat.mul_le_mul_right _ hroom
      omega
    refine ⟨_, _, run_append_room w t ty el i hd hi (ρ n) len cap arr hw ⟨ρ m, off', none⟩ k c2 (SV.denL ρ l) hnewl hnews (fun v hv => ?_) hroom hfit, ?_⟩
    · rw [denL_eq] at hv
      obtain ⟨u, hu, rfl⟩ := List.mem_map.1 hv
      exact flat_den (List.all_eq_true.1 hfl u hu)
    · refine fin (ρ n) cap _ _ hroom ?_ ?_ (put_setRow s' _)
      · simp only [List.size_toArray, List.length_append, List.length_take, List.length_drop, Array.length_toList]
        rw [hnewl, hisz]; rw [hnewl, hisz] at hfit; omega
      · intro j u hu
        have e : (arr.toList.take (len * i.size)) = SV.denL ρ (cs.take (len * sz)) := by
          rw [hisz, denL_take, ← row_list hc, List.take_take, Nat.min_eq_left hlen]
        rw [e, ← denL_append]
        exact hcells _ j u hu
  · have hg : cap < len + k := by omega
    have hfit := growslice_fits hg hb2
    have hlo : (SV.denL ρ (cs.take (len * sz))).length = len * i.size := by rw [denL_length, hisz]; simp; omega
    refine ⟨_, _, run_append_grow w t ty el i zv hd hi hzv ⟨ρ n, 0, none⟩ len cap (SV.denL ρ (cs.take (len * sz))) hlo (fun j v hv => ?_) ⟨ρ m, off', none⟩ k c2 (SV.denL ρ l) hnewl hnews hg (by omega) hfit, ?_⟩
    · rw [denL_eq, List.getElem?_map] at hv
      obtain ⟨u, hu, rfl⟩ := Option.map_eq_some_iff.1 hv
      rw [List.getElem?_take] at hu
      split at hu
      · rw [addr_add]
        simp [World.cell?, hw, hc j u hu]
      · cases hu
    · have hge := grownCap_ge w (len + k) cap el
      have sd : Sat w0 (star F (hpP ρ 0 (hp.set n .any))) w.drew := by
        have := s'.right
        exact this.drew
      have hsz0 : zv.cells.size = sz := by rw [← hzl, ← hzc]; simp
      refine fin w.heap.size (grownCap w (len + k) cap el) _ _ hge ?_ ?_ (sd.alloc _)
      · have e1 : ((SV.denL ρ (cs.take (len * sz))).toArray ++ (SV.denL ρ l).toArray ++ Builtin.zeroCells zv.cells (grownCap w (len + k) cap el - (len + k))).size = len * sz + k * sz + (grownCap w (len + k) cap el - (len + k)) * sz := by
          simp only [Array.size_append, List.size_toArray, hlo, hnewl, size_zeroCells, hsz0, hisz]
        rw [e1, ← Nat.add_mul, ← Nat.add_mul]
        exact Nat.mul_le_mul_right _ (by omega)
      · intro j u hu
        have e : ((SV.denL ρ (cs.take (len * sz))).toArray ++ (SV.denL ρ l).toArray ++ Builtin.zeroCells zv.cells (grownCap w (len + k) cap el - (len + k))) =
            (SV.denL ρ (cs.take (len * sz) ++ l) ++ (Builtin.zeroCells zv.cells (grownCap w (len + k) cap el - (len + k))).toList).toArray := by
          apply Array.toList_inj.1; simp [denL_append]
        rw [e]
        exact hcells _ j u hu

/-- Cells appended to nil. -/
theorem aft_append_nil {K : SV → List Blk → Prop} (s : Sat w0 (star F (hpP ρ 0 hp)) w) (hsh : ∀ B ∈ hp, B.lt hp.length) {t el : TypeId} {sz m off' k c2 : Nat} {z : List Value} {l : List SV}
    (ht : slcT P t = some (el, sz)) (hz : zeroOf P el = some z) (hzl : z.length = sz) (hk : k ≠ 0)
    (hb1 : k ≤ 140737488355328) (hb2 : k * P.bytesOf el ≤ 140737488355328) (hl : rdN hp m off' (k * sz) = some l)
    (h : ∀ cap', k ≤ cap' → K (.slc hp.length 0 k cap') (hp ++ [.row l (cap' * sz) el])) (ty : TypeId) :
    ∃ v w', (Builtin.append_ #[t, t] ty #[.slice none 0 0, .slice (some ⟨ρ m, off', none⟩) k c2]).run P w = .ok v w' ∧ Aft w0 F ρ hp K v w' := by
  obtain ⟨hd, _, hcs⟩ := slcT_spec ht
  obtain ⟨i, zv, hi, hzv, hzc, hci, hby⟩ := zeroOf_info hz
  have hisz : i.size = sz := by rw [← hci, hcs]
  rw [hby] at hb2
  obtain ⟨hll, hlr⟩ := rdN_rd1 hl
  have hlt : SV.ltL hp.length l := rdN_lt hsh hl
  have hnewl : (SV.denL ρ l).length = k * i.size := by rw [denL_length, hll, hisz]
  have hnews : ∀ (j : Nat) (v : Value), (SV.denL ρ l)[j]? = some v → w.cell? ((⟨ρ m, off', none⟩ : Addr).add j) = some v := fun j v hv => by
    rw [denL_eq, List.getElem?_map] at hv
    obtain ⟨u, hu, rfl⟩ := Option.map_eq_some_iff.1 hv
    rw [addr_add]; exact s.rd1 (hlr j u hu)
  have hge := grownCap_ge w k 0 el
  refine ⟨_, _, run_append_nil w t ty el i zv hd hi hzv ⟨ρ m, off', none⟩ k c2 (SV.denL ρ l) hnewl hnews (by omega) (by omega) (by omega), ?_⟩
  have sd : Sat w0 (star F (hpP ρ 0 hp)) w.drew := s.drew
  have hsz0 : zv.cells.size = sz := by rw [← hzl, ← hzc]; simp
  have hcells : ∀ (j : Nat) (u : SV), l[j]? = some u → ((SV.denL ρ l).toArray ++ Builtin.zeroCells zv.cells (grownCap w k 0 el - k))[j]? = some (u.den ρ) := fun j u hu => by
    have hj := (List.getElem?_eq_some_iff.1 hu).1
    rw [Array.getElem?_append_left (by simp [denL_length]; exact hj), denL_eq]; simp [hu]
  have := Sat.shutNew (m := grownCap w k 0 el * sz) (ty := el) hsh hlt (by
    simp only [Array.size_append, List.size_toArray, hnewl, size_zeroCells, hsz0, hisz]
    rw [← Nat.add_mul]; exact Nat.mul_le_mul_right _ (by omega)) hcells (sd.alloc _)
  exact ⟨upd ρ hp.length w.drew.heap.size, .slc hp.length 0 k (grownCap w k 0 el), _, by simp [SV.den, upd_new], upd_old _ _ _, by simp, by simp [SV.lt], lt_append_row hsh hlt, this, h _ hge⟩

end
end Go.Vc

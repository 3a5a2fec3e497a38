/- Operations do what 'vop' says. -/
import Derived.Test.YtaplfpelnmabpaaVcV
namespace Go.Vc
open Go.RowKit
set_option linter.unusedSimpArgs false
set_option linter.unusedVariables false

section
variable {P : Program} {w0 w : World} {F : HP} {ρ : Nat → Nat} {fr : List (Nat × SV)} {hp : List Blk} {a : Act}

/-- The state's part that an operation looks at. -/
structure Rel0 (ρ : Nat → Nat) (fr : List (Nat × SV)) (hp : List Blk) (a : Act) : Prop where
  hfr : ∀ t s, look t fr = some s → a.tmps[t]? = some (s.den ρ)
  sc : ∀ t s, look t fr = some s → s.lt hp.length
  sh : ∀ B ∈ hp, B.lt hp.length

theorem aft_same {K : SV → List Blk → Prop} (s : Sat w0 (star F (hpP ρ 0 hp)) w) (hsh : ∀ B ∈ hp, B.lt hp.length) (val : SV) (hv : val.lt hp.length) (h : K val hp) : Aft w0 F ρ hp K (val.den ρ) w :=
  ⟨ρ, val, hp, rfl, fun _ _ => rfl, Nat.le_refl _, hv, hsh, s, h⟩

theorem vq_runs {o : Oper} {K : SV → List Blk → Prop} (r : Rel0 ρ fr hp a) (s : Sat w0 (star F (hpP ρ 0 hp)) w) (h : vq P fr hp (fun s => K s hp) o.op) : Runs P (Aft w0 F ρ hp K) ((execOp a.eval o).run P w) := by
  obtain ⟨u, hK, hlt, hy⟩ := vq_sound (w0 := w0) r.hfr r.sc r.sh h
  rw [hy F w s]
  exact aft_same s r.sh u hlt hK

theorem vop_sound {o : Oper} {K : SV → List Blk → Prop} (r : Rel0 ρ fr hp a) (s : Sat w0 (star F (hpP ρ 0 hp)) w) (h : vop P fr hp K o.op) : Runs P (Aft w0 F ρ hp K) ((execOp a.eval o).run P w) := by
  have hq := fun hv => vq_runs (P := P) (o := o) (K := K) r s hv
  obtain ⟨dst, op, ty, pos, after, guard⟩ := o
  simp only at h hq
  unfold vop at h
  split at h
  · -- alloc
    rename_i t
    split at h
    · rename_i z hz
      obtain ⟨v, hv, _, hr⟩ := zeroOf_spec hz
      have := aft_new (arr := v.cells) s r.sh (ltL_mapv _ z) (by rw [← hv]; simp) (fun j u hu => by
        rw [← hv] at hu; simp at hu
        obtain ⟨x, hx, rfl⟩ := hu
        simp [hx, SV.den]) (.ptr hp.length 0) (by simp [SV.lt]) h
      simpa [execOp, Instr.alloc, hr, newVar, newRow, Runs, SV.den, upd_new] using this
    · exact h.elim
  · -- box
    rename_i t x
    split at h
    · rename_i u hu
      have e1 := ev_eval r.hfr hu
      have := aft_new (arr := (u.den ρ).cells) s r.sh (cellsSV_lt (ev_lt r.sc hu)) (by rw [← Array.length_toList, cells_den, denL_length]; omega) (fun j q hq => by
        rw [← Array.getElem?_toList, cells_den, denL_eq]; simp [hq]) (.ptr hp.length 0) (by simp [SV.lt]) h
      simpa [execOp, Instr.box, e1, newVar, newRow, Runs, SV.den, upd_new] using this
    · exact h.elim
  · -- buildSlice
    rename_i t len parts
    split at h
    · rename_i ps hps
      split at h
      · rename_i el sz ht
        split at h
        · rename_i z hz
          obtain ⟨⟨hzl, h0, hlim⟩, cs, hcs, h⟩ := h
          obtain ⟨hd, hi, hsz⟩ := slcT_spec ht
          obtain ⟨v, hv, _, hr⟩ := zeroOf_spec hz
          obtain ⟨h1, h2⟩ := evP_spec r.hfr r.sc hps
          have hfill := fill_den (ρ := ρ) (pl := (List.range len).map fun i => (i * sz, sz)) (place := fun i => some (i * sz, sz)) (fun i x hx => by
            rw [List.getElem?_map] at hx
            obtain ⟨j, hj, rfl⟩ := Option.map_eq_some_iff.1 hx
            obtain ⟨h1, h2⟩ := List.getElem?_eq_some_iff.1 hj
            simp at h2; subst h2; rfl) hcs
          rw [← h1] at hfill
          have hcl : cs.length = len * sz := by
            have : ∀ {ps : List (Nat × SV)} {c o : List SV} {pl : List (Nat × Nat)}, fillS pl c ps = some o → o.length = c.length := by
              intro ps
              induction ps with
              | nil => intro c o pl h; simp [fillS] at h; rw [h]
              | cons p ps ih =>
                intro c o pl h
                simp only [fillS] at h
                split at h
                · cases h
                · split at h
                  · rename_i hc; rw [ih h, setR_length hc.2]
                  · cases h
            rw [this hcs]; simp [zeros, hzl]
          have := aft_new (arr := (SV.denL ρ cs).toArray) (m := len * sz) (ty := el) s r.sh (fillS_lt hcs (zeros_lt _ z len) h2) (by simp [denL_length, hcl]) (cells_list ρ cs) (.slc hp.length 0 len len) (by simp [SV.lt]) h
          have hz0 : (if len * sz = 0 then #[] else v.cells) = if len * sz = 0 then #[] else z.toArray := by rw [← hv]
          have hvz : v.cells = z.toArray := by apply Array.toList_inj.1; simp [hv]
          have harr : ((Array.range (len * sz)).map fun i => v.cells[i % v.cells.size]!) = (SV.denL ρ (zeros z len)).toArray := by
            apply Array.toList_inj.1
            rw [hvz, ← hzl, range_mod, zeros_den]
          have hparts : (Array.map (fun x : Nat × Operand => match x with | (i, x) => (i, a.eval x)) parts).toList = parts.toList.map fun x => (x.1, a.eval x.2) := by simp
          have hlim' : ¬ (16777216 < len * sz) := by omega
          simp only [execOp, Instr.buildSlice, Sem.run_bind, run_und hd, Result.andThen_ok, run_size hi, hsz]
          rw [if_neg (by omega)]
          by_cases hl0 : len * sz = 0
          · have hlen0 : len = 0 := by
              rcases Nat.mul_eq_zero.1 hl0 with h | h
              · exact h
              · omega
            subst hlen0
            have hcs0 : cs = [] := List.length_eq_zero_iff.1 (by rw [hcl]; simp)
            subst hcs0
            have hps0 : Instr.fill (fun i => some (i * sz, sz)) #[] (parts.toList.map fun x => (x.1, a.eval x.2)) = some #[] := by simpa [zeros, SV.denL] using hfill
            simp only [Nat.zero_mul, if_true, Sem.run_pure, Sem.run_bind, Result.andThen_ok, Array.range_zero', Array.map_empty]
            rw [hparts, hps0]
            simpa [newRow, Runs, SV.den, upd_new, SV.denL] using this
          · simp only [Sem.run_pure, Sem.run_bind, Result.andThen_ok, hl0, if_false, hr]
            rw [hparts, harr, hfill]
            simpa [newRow, Runs, SV.den, upd_new] using this
        · exact h.elim
      · exact h.elim
    · exact h.elim
  · -- makeSlice
    rename_i t l c
    split at h
    · rename_i kl l hl
      split at h
      · rename_i kc c hc
        split at h
        · rename_i el sz ht
          split at h
          · rename_i z hz
            obtain ⟨⟨hzl, h0, hl0, hlc, hcb, hby⟩, h⟩ := h
            obtain ⟨hd, hi, hsz⟩ := slcT_spec ht
            obtain ⟨i, zv, hi', hzv, hzc, hci, hbi⟩ := zeroOf_info hz
            have e1 := ev_eval r.hfr hl
            have e2 := ev_eval r.hfr hc
            have hm := run_make w t el i zv hd hi' hzv kl kc l c hl0 hlc (by rw [← hbi]; exact hby) (by omega)
            have hsz2 : i.size = sz := by rw [← hci, hsz]
            have hvz : zv.cells = z.toArray := by apply Array.toList_inj.1; simp [hzc]
            have harr : madeCells zv.cells (c.toNat * i.size) = (SV.denL ρ (zeros z c.toNat)).toArray := by
              apply Array.toList_inj.1
              rw [hsz2, madeCells, hvz, ← hzl, range_mod, zeros_den]
            have := aft_new (arr := (SV.denL ρ (zeros z c.toNat)).toArray) (m := c.toNat * sz) (ty := el) s r.sh (zeros_lt _ z _) (by simp [denL_length, zeros, hzl]) (cells_list ρ _) (.slc hp.length 0 l.toNat c.toNat) (by simp [SV.lt]) h
            rw [harr] at hm
            simpa [execOp, e1, e2, SV.den, hm, Runs, upd_new] using this
          · exact h.elim
        · exact h.elim
      · exact h.elim
    · exact h.elim
  · -- store
    rename_i t x y
    split at h
    · rename_i n off hx
      split at h
      · rename_i u hy
        split at h
        · rename_i cs m ty' hn
          obtain ⟨⟨hlen, hoff, hfl, hi⟩, h⟩ := h
          have e1 := ev_eval r.hfr hx
          have e2 := ev_eval r.hfr hy
          rw [stR_eq hoff] at h
          obtain ⟨w', hr, ha⟩ := aft_store (P := P) s r.sh hn hoff (cellsSV_lt (ev_lt r.sc hy)) hfl undefV (by simp [undefV, SV.lt]) h
          have hsz : (u.den ρ).cells.size = P.cellsOf t := by rw [← Array.length_toList, cells_den, denL_length, hlen]
          rw [← cells_den] at hr
          simpa [execOp, e1, e2, SV.den, Instr.storeAt, Instr.sureAddr, storeVar, run_size hi, hsz, hr, Runs, undefV] using ha
        · exact h.elim
      · exact h.elim
    · exact h.elim
  · -- makeMap
    simpa [execOp, Instr.makeMap, Runs] using aft_newMap s r.sh h
  · -- insert
    rename_i t m k v
    split at h
    · rename_i kt el ht
      split at h
      · rename_i n hm
        split at h
        · rename_i ks hk
          split at h
          · rename_i vs hv
            split at h
            · rename_i es hn
              have e1 := ev_eval r.hfr hm
              have e2 := ev_eval r.hfr hk
              have e3 := ev_eval r.hfr hv
              obtain ⟨w', hr, ha⟩ := insert_sound s r.sh ht (ev_lt r.sc hk) (ev_lt r.sc hv) hn h.1.1 h.1.2 h.2
              simpa [execOp, e1, e2, e3, SV.den, hr, Runs] using ha
            · exact h.elim
          · exact h.elim
        · exact h.elim
      · exact h.elim
    · exact h.elim
  · -- lookup
    rename_i t m k ok
    split at h
    · rename_i kt el ht
      split at h
      · rename_i z hz
        split at h
        · rename_i ks hk
          split at h
          · rename_i n hm
            split at h
            · rename_i es hn
              have e1 := ev_eval r.hfr hm
              have e2 := ev_eval r.hfr hk
              obtain ⟨v, hr, ha⟩ := lookup_sound s r.sh ht hz hn h.1.1 (fun e he => Option.isSome_iff_exists.1 (h.1.2.1 e he)) h.1.2.2 h.2
              simpa [execOp, e1, e2, SV.den, hr, Runs] using ha
            · exact h.elim
          · exact h.elim
        · exact h.elim
      · exact h.elim
    · exact h.elim
  · -- append
    rename_i args ts
    split at h
    · rename_i t u hts
      split at h
      · rename_i el sz ht
        split at h
        · rename_i htu
          have htu : t = u := by simpa using htu
          subst htu
          split at h
          · rename_i z hz
            have et : ts = #[t, t] := Array.toList_inj.1 hts
            subst et
            split at h
            rotate_left
            · exact h.elim
            rename_i lst hargs
            unfold apV at h
            split at h
            · rename_i n off len cap m off' k c2
              split at h
              · rename_i cs mm ty' hn
                obtain ⟨⟨hzl, h0, rfl, rfl, hlen, hlc, hmm, hb1, hb2⟩, l, hl, hfl, h⟩ := h
                have e1 := evL_eval r.hfr hargs
                have ea : args.map a.eval = #[.slice (some ⟨ρ n, 0, none⟩) len cap, .slice (some ⟨ρ m, off', none⟩) k c2] := by
                  apply Array.toList_inj.1; simp [e1, SV.denL, SV.den]
                obtain ⟨v, w', hr, ha⟩ := aft_append s r.sh ht hz hzl h0 hn hlen hlc hmm hb1 hb2 hl hfl h ty (c2 := c2)
                simpa [execOp, resolve, invoke, builtin, ea, hr, Runs] using ha
              · exact h.elim
            · rename_i m off' k c2
              obtain ⟨⟨hzl, h0, hb1, hb2⟩, hk0, hk1⟩ := h
              have e1 := evL_eval r.hfr hargs
              have ea : args.map a.eval = #[.slice none 0 0, .slice (some ⟨ρ m, off', none⟩) k c2] := by
                apply Array.toList_inj.1; simp [e1, SV.denL, SV.den]
              by_cases hk : k = 0
              · subst hk
                obtain ⟨hd, hi, hsz⟩ := slcT_spec ht
                have := aft_same s r.sh (.v (.slice none 0 0)) (by simp [SV.lt]) (hk0 rfl)
                have hr : (Builtin.append_ #[t, t] ty #[.slice none 0 0, .slice (some ⟨ρ m, off', none⟩) 0 c2]).run P w = .ok (.slice none 0 0) w := by
                  have : (loadCells ⟨ρ m, off', none⟩ 0).run P w = .ok #[] w := by simp [loadCells, loadCellsFrom]
                  simp [Builtin.append_, run_und hd, run_size hi, Builtin.lenOf, Builtin.firstCells, this]
                simpa [execOp, resolve, invoke, builtin, ea, hr, Runs, SV.den] using this
              · obtain ⟨l, hl, h⟩ := hk1 hk
                obtain ⟨v, w', hr, ha⟩ := aft_append_nil s r.sh ht hz hzl hk hb1 hb2 hl h ty (c2 := c2)
                simpa [execOp, resolve, invoke, builtin, ea, hr, Runs] using ha
            · rename_i n off len cap
              obtain ⟨hu, h⟩ := h
              have e1 := evL_eval r.hfr hargs
              have hlt := (evL_lt r.sc hargs).1
              have ea : args.map a.eval = #[.slice (some ⟨ρ n, off, none⟩) len cap, .slice none 0 0] := by
                apply Array.toList_inj.1; simp [e1, SV.denL, SV.den]
              obtain ⟨hd, hi, hsz⟩ := slcT_spec ht
              have hr : (Builtin.append_ #[t, t] ty #[.slice (some ⟨ρ n, off, none⟩) len cap, .slice none 0 0]).run P w = .ok (.slice (some ⟨ρ n, off, none⟩) len cap) w := by
                simp [Builtin.append_, run_und hd, run_size hi, Builtin.lenOf, Builtin.firstCells, hu, storeCells]
              have := aft_same s r.sh (.slc n off len cap) hlt h
              simpa [execOp, resolve, invoke, builtin, ea, hr, Runs, SV.den] using this
            · have e1 := evL_eval r.hfr hargs
              have ea : args.map a.eval = #[.slice none 0 0, .slice none 0 0] := by
                apply Array.toList_inj.1; simp [e1, SV.denL, SV.den]
              obtain ⟨hd, hi, hsz⟩ := slcT_spec ht
              have hr : (Builtin.append_ #[t, t] ty #[.slice none 0 0, .slice none 0 0]).run P w = .ok (.slice none 0 0) w := by
                simp [Builtin.append_, run_und hd, run_size hi, Builtin.lenOf, Builtin.firstCells]
              have := aft_same s r.sh (.v (.slice none 0 0)) (by simp [SV.lt]) h
              simpa [execOp, resolve, invoke, builtin, ea, hr, Runs, SV.den] using this
            · exact h.elim
          · exact h.elim
        · exact h.elim
      · exact h.elim
    · exact h.elim
  · -- copy
    rename_i args ts
    split at h
    · rename_i t u hts
      split at h
      · rename_i el sz ht
        obtain ⟨hd, hi, hsz⟩ := slcT_spec ht
        have et : ts = #[t, u] := Array.toList_inj.1 hts
        subst et
        split at h
        · rename_i n off len c1 m off' len' c2 hargs
          split at h
          · rename_i cs mm ty' hn
            obtain ⟨hoff, l, hl, hfl, h⟩ := h
            have e1 := evL_eval r.hfr hargs
            have ea : args.map a.eval = #[.slice (some ⟨ρ n, off, none⟩) len c1, .slice (some ⟨ρ m, off', none⟩) len' c2] := by
              apply Array.toList_inj.1; simp [e1, SV.denL, SV.den]
            obtain ⟨hll, _⟩ := rdN_rd1 hl
            have hle : min len' len * sz ≤ len * sz := Nat.mul_le_mul_right _ (Nat.min_le_right _ _)
            obtain ⟨w', hr, ha⟩ := aft_store (P := P) s r.sh hn (off := off) (new := l) (by omega) (rdN_lt r.sh hl) hfl (.v (.int .i64 ((min len' len : Nat) : Int))) (by simp [SV.lt]) h
            have hf := run_firstCells (P := P) (len := len') (cap := c2) s hl
            have hr2 : (Builtin.copy_ #[t, u] ty #[.slice (some ⟨ρ n, off, none⟩) len c1, .slice (some ⟨ρ m, off', none⟩) len' c2]).run P w = .ok (.int .i64 ((min len' len : Nat) : Int)) w' := by
              simp only [Builtin.copy_, List.getElem?_toArray, List.getElem?_cons_zero, List.getElem?_cons_succ, Sem.run_bind, run_und hd, Result.andThen_ok, Builtin.lenOf, Sem.run_pure, run_size hi, hsz]
              rw [show Nat.min len' len = min len' len from rfl, hf]
              simp only [Result.andThen_ok, hr, goInt]
            simpa [execOp, resolve, invoke, builtin, ea, hr2, Runs, SV.den] using ha
          · exact h.elim
        · rename_i n off len c1 hargs
          have e1 := evL_eval r.hfr hargs
          have ea : args.map a.eval = #[.slice (some ⟨ρ n, off, none⟩) len c1, .slice none 0 0] := by
            apply Array.toList_inj.1; simp [e1, SV.denL, SV.den]
          have hr2 : (Builtin.copy_ #[t, u] ty #[.slice (some ⟨ρ n, off, none⟩) len c1, .slice none 0 0]).run P w = .ok (.int .i64 0) w := by
            simp [Builtin.copy_, run_und hd, Builtin.lenOf, run_size hi, Builtin.firstCells, storeCells, goInt]
          have := aft_same s r.sh (.v (.int .i64 0)) (by simp [SV.lt]) h
          simpa [execOp, resolve, invoke, builtin, ea, hr2, Runs, SV.den] using this
        · rename_i hargs
          have e1 := evL_eval r.hfr hargs
          have ea : args.map a.eval = #[.slice none 0 0, .slice none 0 0] := by
            apply Array.toList_inj.1; simp [e1, SV.denL, SV.den]
          have hr2 : (Builtin.copy_ #[t, u] ty #[.slice none 0 0, .slice none 0 0]).run P w = .ok (.int .i64 0) w := by
            simp [Builtin.copy_, run_und hd, Builtin.lenOf, run_size hi, Builtin.firstCells, goInt]
          have := aft_same s r.sh (.v (.int .i64 0)) (by simp [SV.lt]) h
          simpa [execOp, resolve, invoke, builtin, ea, hr2, Runs, SV.den] using this
        · exact h.elim
      · exact h.elim
    · exact h.elim
  · -- call
    rename_i g args ts
    split at h
    · rename_i f fst caps hg
      split at h
      · rename_i l hl
        have e1 := ev_eval r.hfr hg
        have e2 := evL_eval r.hfr hl
        have hgl := ev_lt r.sc hg
        simp only [SV.lt] at hgl
        have := h w0 F ρ w r.sh (by
          rw [ltL_iff]; intro u hu
          rcases List.mem_append.1 hu with hu | hu
          · rcases List.mem_append.1 hu with hu | hu
            · exact (ltL_iff _ _).1 hgl.1 u hu
            · exact (ltL_iff _ _).1 (evL_lt r.sc hl) u hu
          · exact (ltL_iff _ _).1 hgl.2 u hu) s
        have ea : (SV.denL ρ fst).toArray ++ args.map a.eval ++ (SV.denL ρ caps).toArray = (SV.denL ρ (fst ++ l ++ caps)).toArray := by
          apply Array.toList_inj.1; simp [denL_append, ← e2]
        simp only [execOp, resolve, e1, SV.den, Deferred.ofValue, Sem.run_bind, Sem.run_pure, Result.andThen_ok, invoke]
        rw [ea]; exact this
      · exact h.elim
    · rename_i n hg
      split at h
      · rename_i l hl
        have e1 := ev_eval r.hfr hg
        have e2 := evL_eval r.hfr hl
        have hgl := ev_lt r.sc hg
        simp only [SV.lt] at hgl
        have := h w0 F ρ w r.sh (evL_lt r.sc hl) hgl s
        have ea : (#[] : Array Value) ++ args.map a.eval = (SV.denL ρ l).toArray := by
          apply Array.toList_inj.1; simp [← e2]
        simp only [execOp, resolve, e1, SV.den, Deferred.ofValue, Sem.run_bind, Sem.run_pure, Result.andThen_ok, invoke]
        rw [ea]; exact this
      · exact h.elim
    · exact h.elim
  · exact hq h

end
end Go.Vc

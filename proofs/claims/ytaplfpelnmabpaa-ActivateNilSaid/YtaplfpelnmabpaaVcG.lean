/- The reading operations do what 'vq' says: the theorem. -/
import Derived.Test.YtaplfpelnmabpaaVcF
namespace Go.Vc
open Go.RowKit
set_option linter.unusedSimpArgs false
set_option linter.unusedVariables false

section
variable {P : Program} {w0 : World} {ρ : Nat → Nat} {fr : List (Nat × SV)} {hp : List Blk} {a : Act}

theorem tup_get {n : Nat} {vs : List SV} {i : Nat} {s : SV} (h : vs[i]? = some s) (hl : SV.ltL n vs) : s.lt n ∧ ((SV.denL ρ vs).toArray)[i]? = some (s.den ρ) := by
  refine ⟨(ltL_iff n vs).1 hl s (List.mem_of_getElem? h), ?_⟩
  rw [denL_eq]; simp [h]

/-- One value, whatever the world, as long as the heap is as the state says. -/
def Yld (P : Program) (w0 : World) (ρ : Nat → Nat) (hp : List Blk) (a : Act) (o : Oper) (s : SV) : Prop :=
  ∀ (F : HP) (w : World), Sat w0 (star F (hpP ρ 0 hp)) w → (execOp a.eval o).run P w = .ok (.value (s.den ρ)) w

theorem vq_sound {N : Nat} {o : Oper} {K : SV → Prop} (hfr : ∀ t s, look t fr = some s → a.tmps[t]? = some (s.den ρ)) (hsc : ∀ t s, look t fr = some s → s.lt N)
    (hsh : ∀ B ∈ hp, B.lt N) (h : vq P fr hp K o.op) : ∃ s, K s ∧ s.lt N ∧ Yld P w0 ρ hp a o s := by
  obtain ⟨dst, op, ty, pos, after, guard⟩ := o
  simp only at h
  unfold vq at h
  split at h
  · -- move
    rename_i x
    split at h
    · rename_i s hs
      exact ⟨s, h, ev_lt hsc hs, fun F w _ => by simp [execOp, ev_eval hfr hs]⟩
    · exact h.elim
  · rename_i x
    split at h
    · rename_i s hs
      exact ⟨s, h, ev_lt hsc hs, fun F w _ => by simp [execOp, ev_eval hfr hs]⟩
    · exact h.elim
  · -- pick
    rename_i c x y
    split at h
    · rename_i b hc
      split at h
      · rename_i sx hx
        split at h
        · rename_i sy hy
          refine ⟨_, h, ?_, fun F w _ => ?_⟩
          · cases b
            · exact ev_lt hsc hy
            · exact ev_lt hsc hx
          · have e1 := ev_eval hfr hc
            have e2 := ev_eval hfr hx
            have e3 := ev_eval hfr hy
            cases b <;> simp [execOp, e1, e2, e3, SV.den, asBool]
        · exact h.elim
      · exact h.elim
    · exact h.elim
  · -- load
    rename_i t x
    split at h
    · rename_i n off hx
      have e1 := ev_eval hfr hx
      split at h
      · rename_i hag
        obtain ⟨l, hl, h⟩ := h
        obtain ⟨d, hd⟩ := und_of_agg hag
        refine ⟨_, h, rdN_lt hsh hl, fun F w hs => ?_⟩
        simp [execOp, Instr.loadAt, Instr.sureAddr, e1, SV.den, loadVar, run_isAgg hag, run_size (info_of_und hd), hs.rdN hl]
      · rename_i hag
        obtain ⟨s, hl, h⟩ := h
        refine ⟨_, h, rd1_lt hsh hl, fun F w hs => ?_⟩
        simp [execOp, Instr.loadAt, Instr.sureAddr, e1, SV.den, loadVar, run_isAgg hag, hs.rd1 hl]
      · exact h.elim
    · exact h.elim
  · -- nilCheck
    rename_i x
    split at h
    · rename_i n off hx
      have e1 := ev_eval hfr hx
      exact ⟨_, h, ev_lt hsc hx, fun F w _ => by simp [execOp, e1, SV.den]⟩
    · rename_i f p q hx
      have e1 := ev_eval hfr hx
      exact ⟨_, h, ev_lt hsc hx, fun F w _ => by simp [execOp, e1, SV.den]⟩
    · exact h.elim
  · -- binOp
    rename_i op t x y _
    split at h
    · rename_i sx hx
      split at h
      · rename_i sy hy
        have e1 := ev_eval hfr hx
        have e2 := ev_eval hfr hy
        obtain ⟨u, hu, hr⟩ := binV_sound (ρ := ρ) h x y
        refine ⟨_, hu, by simp [SV.lt], fun F w _ => ?_⟩
        have := hr w
        simp only [execOp, e1, e2, Sem.run_bind, SV.den] at this ⊢
        simp [this]
      · exact h.elim
    · exact h.elim
  · -- unOp
    rename_i op t x
    split at h
    · rename_i b hx
      obtain ⟨rfl, h⟩ := h
      have e1 := ev_eval hfr hx
      exact ⟨_, h, by simp [SV.lt], fun F w _ => by simp [execOp, e1, SV.den, Op.unary]⟩
    · rename_i k n hx
      obtain ⟨rfl, h⟩ := h
      have e1 := ev_eval hfr hx
      exact ⟨_, h, by simp [SV.lt], fun F w _ => by simp [execOp, e1, SV.den, Op.unary, Op.intArith]⟩
    · exact h.elim
  · -- convert
    rename_i src dst x
    split at h
    · rename_i k0 n hx
      split at h
      · rename_i k1 hsrc
        split at h
        · rename_i k hdst
          have e1 := ev_eval hfr hx
          refine ⟨_, h, by simp [SV.lt], fun F w _ => ?_⟩
          simp [execOp, e1, SV.den, convert, run_und (intT_spec hsrc), run_und (intT_spec hdst), Conv.intToInt]
        · exact h.elim
      · exact h.elim
    · exact h.elim
  · -- fieldAddr
    rename_i s x f
    split at h
    · rename_i n off hx
      split at h
      · rename_i o hf
        obtain ⟨fs, fd, hd, hfd, hi, hc, rfl⟩ := fldOff_spec hf
        have e1 := ev_eval hfr hx
        have hl := ev_lt hsc hx
        refine ⟨_, h, by simpa [SV.lt] using hl, fun F w _ => ?_⟩
        simp [execOp, e1, SV.den, Instr.fieldAt, run_und hd, hfd, Instr.sureAddr, fieldPlace, run_size hi, hc, addr_add]
      · exact h.elim
    · exact h.elim
  · -- indexAddr
    rename_i t x i
    split at h
    · rename_i k i hi
      have e0 := ev_eval hfr hi
      split at h
      · rename_i n off hx
        have e1 := ev_eval hfr hx
        have hl := ev_lt hsc hx
        split at h
        · rename_i len sz ht
          obtain ⟨el, hd, hi2, rfl⟩ := arrT_spec ht
          obtain ⟨hb, h⟩ := h
          refine ⟨_, h, by simpa [SV.lt] using hl, fun F w _ => ?_⟩
          simp [execOp, e0, e1, SV.den, Instr.indexAt, asIntOf, run_und hd, Instr.sureAddr, hb.1, hb.2, run_size hi2, addr_add]
        · exact h.elim
      · rename_i n off len cap hx
        have e1 := ev_eval hfr hx
        have hl := ev_lt hsc hx
        split at h
        · rename_i el sz ht
          obtain ⟨hd, hi2, rfl⟩ := slcT_spec ht
          obtain ⟨hb, h⟩ := h
          refine ⟨_, h, by simpa [SV.lt] using hl, fun F w _ => ?_⟩
          simp [execOp, e0, e1, SV.den, Instr.indexAt, asIntOf, run_und hd, hb.1, hb.2, run_size hi2, addr_add]
        · exact h.elim
      · exact h.elim
    · exact h.elim
  · -- index
    rename_i t x i
    split at h
    · rename_i k i hi
      have e0 := ev_eval hfr hi
      split at h
      · rename_i cs hx
        have e1 := ev_eval hfr hx
        have hl := ev_lt hsc hx
        split at h
        · rename_i len ht
          obtain ⟨el, hd, hag, hc⟩ := arrOne_spec ht
          obtain ⟨de, hde⟩ := und_of_agg hag
          obtain ⟨hb, s, hs, h⟩ := h
          simp only [SV.lt] at hl
          obtain ⟨h1, h2⟩ := tup_get (ρ := ρ) hs hl
          refine ⟨_, h, h1, fun F w _ => ?_⟩
          have hp := run_part (w := w) hag _ (i.toNat * 1) _ (by rw [Nat.mul_one]; exact h2)
          simp only [execOp, e0, e1, SV.den, Instr.index, asIntOf, Sem.run_bind, Sem.run_pure, Result.andThen_ok, run_und hd]
          rw [if_pos hb]
          simp only [Sem.run_bind, run_size (info_of_und hde), hc, Result.andThen_ok, hp]
        · exact h.elim
      · exact h.elim
    · exact h.elim
  · -- field
    rename_i t x f
    split at h
    · rename_i cs hx
      have e1 := ev_eval hfr hx
      have hl := ev_lt hsc hx
      split at h
      · rename_i o ht
        obtain ⟨fs, fd, hd, hfd, hag, rfl⟩ := fldOne_spec ht
        obtain ⟨s, hs, h⟩ := h
        simp only [SV.lt] at hl
        obtain ⟨h1, h2⟩ := tup_get (ρ := ρ) hs hl
        refine ⟨_, h, h1, fun F w _ => ?_⟩
        simp [execOp, e1, SV.den, Instr.field, asAgg, run_und hd, hfd, run_part hag _ _ _ h2]
      · exact h.elim
    · exact h.elim
  · -- extract
    rename_i x i
    split at h
    · rename_i vs hx
      have e1 := ev_eval hfr hx
      have hl := ev_lt hsc hx
      split at h
      · rename_i s hs
        simp only [SV.lt] at hl
        obtain ⟨h1, h2⟩ := tup_get (ρ := ρ) hs hl
        refine ⟨_, h, h1, fun F w _ => ?_⟩
        simp [execOp, e1, SV.den, Instr.extract, h2]
      · exact h.elim
    · exact h.elim
  · -- build
    rename_i t parts
    split at h
    · rename_i ps hps
      split at h
      · rename_i z hz
        split at h
        · rename_i pl hpl
          obtain ⟨cs, hcs, h⟩ := h
          obtain ⟨h1, h2⟩ := evP_spec hfr hsc hps
          refine ⟨_, h, ?_, fun F w _ => ?_⟩
          · simp only [SV.lt]
            refine fillS_lt hcs ?_ h2
            rw [ltL_iff]; intro s hs
            obtain ⟨v, _, rfl⟩ := List.mem_map.1 hs
            simp [SV.lt]
          · have hb := run_build (ρ := ρ) hz hpl hcs w
            rw [← h1] at hb
            have : (parts.toList.map fun x => (x.1, a.eval x.2)).toArray = parts.map fun x => (x.1, a.eval x.2) := by
              apply Array.toList_inj.1; simp
            rw [this] at hb
            simp only [execOp, Sem.run_bind, SV.den]
            rw [show (Array.map (fun x => (x.fst, a.eval x.snd)) parts) = (Array.map (fun x => match x with | (i, x) => (i, a.eval x)) parts) from rfl] at hb
            rw [hb]; simp
        · exact h.elim
      · exact h.elim
    · exact h.elim
  · -- makeFunc
    rename_i f fst caps
    split at h
    · rename_i x hx
      split at h
      · rename_i y hy
        have e1 := evL_eval hfr hx
        have e2 := evL_eval hfr hy
        refine ⟨_, h, by simp only [SV.lt]; exact ⟨evL_lt hsc hx, evL_lt hsc hy⟩, fun F w _ => ?_⟩
        simp only [execOp, SV.den, Instr.makeFunc, Sem.run_bind, Sem.run_pure, Result.andThen_ok, ← e1, ← e2]
        simp only [Result.ok.injEq, Next.value.injEq, Value.func.injEq, true_and, and_true]
        constructor <;> (apply Array.toList_inj.1; simp)
      · exact h.elim
    · exact h.elim
  · -- slice
    rename_i t x lo hi
    split at h
    · rename_i n off len cap hx
      have e1 := ev_eval hfr hx
      have hl := ev_lt hsc hx
      split at h
      · rename_i el sz ht
        obtain ⟨hd, hi2, rfl⟩ := slcT_spec ht
        split at h
        · rename_i l hlo
          split at h
          · rename_i u hhi
            obtain ⟨hb, h⟩ := h
            refine ⟨_, h, by simpa [SV.lt] using hl, fun F w _ => ?_⟩
            have hsb := run_sliceBounds (P := P) (w := w) (isS := true) hfr hlo hhi hb
            simp only [execOp, e1, SV.den, Instr.sliceAt, Instr.slice, Sem.run_bind, run_und hd, Result.andThen_ok, Option.map_none, hsb, run_size hi2, Sem.run_pure]
            have := addr_add_if (ρ n) off cap l.toNat (l.toNat * P.cellsOf el)
            by_cases hc : cap = l.toNat
            · simp [hc]
            · simp [hc, addr_add]
          · exact h.elim
        · exact h.elim
      · exact h.elim
    · rename_i hx
      have e1 := ev_eval hfr hx
      split at h
      · rename_i els ht
        obtain ⟨el, sz⟩ := els
        obtain ⟨hd, hi2, rfl⟩ := slcT_spec ht
        split at h
        · rename_i l hlo
          split at h
          · rename_i u hhi
            obtain ⟨⟨rfl, rfl⟩, h⟩ := h
            refine ⟨_, h, by simp [SV.lt], fun F w _ => ?_⟩
            have hsb := run_sliceBounds (P := P) (w := w) (isS := true) (len := 0) (cap := 0) hfr hlo hhi ⟨by omega, by omega, by omega⟩
            simp [execOp, e1, SV.den, Instr.sliceAt, Instr.slice, run_und hd, hsb, run_size hi2]
          · exact h.elim
        · exact h.elim
      · exact h.elim
    · rename_i m off hx
      have e1 := ev_eval hfr hx
      have hl := ev_lt hsc hx
      split at h
      · rename_i n sz ht
        obtain ⟨el, hd, hi2, rfl⟩ := arrT_spec ht
        split at h
        · rename_i l hlo
          split at h
          · rename_i u hhi
            obtain ⟨hb, h⟩ := h
            refine ⟨_, h, by simpa [SV.lt] using hl, fun F w _ => ?_⟩
            have hsb := run_sliceBounds (P := P) (w := w) (isS := false) hfr hlo hhi hb
            simp only [execOp, e1, SV.den, Instr.sliceAt, Sem.run_bind, run_und hd, Result.andThen_ok, Option.map_none, Instr.sureAddr, hsb, run_size hi2, Sem.run_pure]
            by_cases hc : n = l.toNat
            · simp [hc]
            · simp [hc, addr_add]
          · exact h.elim
        · exact h.elim
      · exact h.elim
    · exact h.elim
  · -- len
    rename_i args ts
    split at h
    · rename_i x hxs
      split at h
      · rename_i t hts
        split at h
        · rename_i s hx
          split at h
          · rename_i n hn
            have e1 := ev_eval hfr hx
            refine ⟨_, h, by simp [SV.lt], fun F w _ => ?_⟩
            have hl := lenV_sound (ρ := ρ) hn w
            have ea : args = #[x] := Array.toList_inj.1 hxs
            have et : ts = #[t] := Array.toList_inj.1 hts
            subst ea et
            rw [len_type _ 0 ty] at hl
            simp [execOp, resolve, invoke, builtin, e1, hl, SV.den]
          · exact h.elim
        · exact h.elim
      · exact h.elim
    · exact h.elim
  · -- min
    rename_i args ts
    split at h
    · rename_i k x r hx
      split at h
      · rename_i n hn
        refine ⟨_, h, by simp [SV.lt], fun F w _ => ?_⟩
        have e1 := evL_eval hfr hx
        have hm := run_minMax (P := P) (ρ := ρ) hn w
        have ea : args.toList.map a.eval = .int k x :: SV.denL ρ r := by rw [e1]; simp [SV.denL, SV.den]
        simp only [Bool.false_eq_true, if_false] at hm
        simp [execOp, resolve, invoke, builtin, Builtin.min_, ea, hm, SV.den]
      · exact h.elim
    · exact h.elim
  · -- max
    rename_i args ts
    split at h
    · rename_i k x r hx
      split at h
      · rename_i n hn
        refine ⟨_, h, by simp [SV.lt], fun F w _ => ?_⟩
        have e1 := evL_eval hfr hx
        have hm := run_minMax (P := P) (ρ := ρ) hn w
        have ea : args.toList.map a.eval = .int k x :: SV.denL ρ r := by rw [e1]; simp [SV.denL, SV.den]
        simp only [if_true] at hm
        simp [execOp, resolve, invoke, builtin, Builtin.max_, ea, hm, SV.den]
      · exact h.elim
    · exact h.elim
  · exact h.elim

end
end Go.Vc

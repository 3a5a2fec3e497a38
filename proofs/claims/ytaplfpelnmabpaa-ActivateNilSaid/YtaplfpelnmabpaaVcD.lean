/- The reading operations do what 'vq' says. -/
import Derived.Test.YtaplfpelnmabpaaVcC
namespace Go.Vc
open Go.RowKit
set_option linter.unusedSimpArgs false
set_option linter.unusedVariables false

section
variable {P : Program} {w0 w : World} {F : HP} {ρ : Nat → Nat} {fr : List (Nat × SV)} {hp : List Blk} {a : Act}

/-! ### facts on types -/

theorem arrT_spec {t : TypeId} {n sz : Nat} (h : arrT P t = some (n, sz)) : ∃ el, P.underlying t = some (.array n el) ∧ (P.info? el).isSome = true ∧ P.cellsOf el = sz := by
  unfold arrT at h
  split at h
  · rename_i m el hd
    split at h
    · rename_i hi; simp only [Option.some.injEq, Prod.mk.injEq] at h; obtain ⟨rfl, rfl⟩ := h; exact ⟨el, hd, hi, rfl⟩
    · cases h
  · cases h
theorem slcT_spec {t : TypeId} {el : TypeId} {sz : Nat} (h : slcT P t = some (el, sz)) : P.underlying t = some (.slice el) ∧ (P.info? el).isSome = true ∧ P.cellsOf el = sz := by
  unfold slcT at h
  split at h
  · rename_i el' hd
    split at h
    · rename_i hi; simp only [Option.some.injEq, Prod.mk.injEq] at h; obtain ⟨rfl, rfl⟩ := h; exact ⟨hd, hi, rfl⟩
    · cases h
  · cases h
theorem fldOff_spec {t : TypeId} {f o : Nat} (h : fldOff P t f = some o) : ∃ fs fd, P.underlying t = some (.struct fs) ∧ fs[f]? = some fd ∧ (P.info? fd.type).isSome = true ∧ P.cellsOf fd.type ≠ 0 ∧ fd.offset = o := by
  unfold fldOff at h
  split at h
  · rename_i fs hd
    split at h
    · rename_i fd hf
      split at h
      · rename_i hi
        simp only [Bool.and_eq_true, bne_iff_ne] at hi
        simp only [Option.some.injEq] at h
        exact ⟨fs, fd, hd, hf, hi.1, hi.2, h⟩
      · cases h
    · cases h
  · cases h
theorem fldOne_spec {t : TypeId} {f o : Nat} (h : fldOne P t f = some o) : ∃ fs fd, P.underlying t = some (.struct fs) ∧ fs[f]? = some fd ∧ isAggT P fd.type = some false ∧ fd.offset = o := by
  unfold fldOne at h
  split at h
  · rename_i fs hd
    split at h
    · rename_i fd hf
      split at h
      · rename_i hi
        simp only [Option.some.injEq] at h
        exact ⟨fs, fd, hd, hf, hi, h⟩
      · cases h
    · cases h
  · cases h
theorem arrOne_spec {t : TypeId} {n : Nat} (h : arrOne P t = some n) : ∃ el, P.underlying t = some (.array n el) ∧ isAggT P el = some false ∧ P.cellsOf el = 1 := by
  unfold arrOne at h
  split at h
  · rename_i m el hd
    split at h
    · rename_i hi; simp only [Option.some.injEq] at h; subst h; exact ⟨el, hd, hi.1, hi.2⟩
    · cases h
  · cases h
theorem intT_spec {t : TypeId} {k : IntKind} (h : intT P t = some k) : P.underlying t = some (.int k) := by
  unfold intT at h
  split at h
  · rename_i k' hd; simp only [Option.some.injEq] at h; subst h; exact hd
  · cases h
theorem strT_spec {t : TypeId} (h : strT P t = true) : P.underlying t = some .string := by
  unfold strT at h
  split at h
  · assumption
  · cases h
theorem zeroOf_spec {t : TypeId} {z : List Value} (h : zeroOf P t = some z) : ∃ v, v.cells.toList = z ∧ (P.info? t).isSome = true ∧ ∀ w, (zeroValue t).run P w = .ok v w := by
  unfold zeroOf at h
  split at h
  · rename_i i hi
    split at h
    · rename_i v hz
      simp only [Option.some.injEq] at h
      exact ⟨v, h, by rw [hi]; rfl, fun w => by simp [zeroValue, typeInfo, hi, hz]⟩
    · cases h
  · cases h

/-! ### arithmetic and tests -/

theorem intBin_sound {op : BinOp} {k : IntKind} {x y : Int} {K : SV → Prop} {t : TypeId} (h : intBin op k x y K) :
    ∃ u : Value, K (.v u) ∧ ∀ w : World, (binOp op t (.int k x) (.int k y)).run P w = .ok u w := by
  cases op <;> simp only [intBin] at h <;> try exact h.elim
  case shl => exact ⟨_, h.2, fun w => by simp [binOp, Op.shift, Int.not_lt.2 h.1]⟩
  case shr => exact ⟨_, h.2, fun w => by simp [binOp, Op.shift, Int.not_lt.2 h.1]⟩
  all_goals first
    | exact ⟨_, h, fun w => by simp [binOp, Op.intArith, Op.intCmp, Op.intBits, bitI]⟩
    | exact ⟨_, h.2, fun w => by simp [binOp, Op.intDiv, h.1]⟩

theorem eqT_sound {t : TypeId} {x y : SV} {b : Bool} (h : eqT P t x y = some b) (d : Nat) :
    x.flat = true ∧ y.flat = true ∧ ∀ w, (Op.equalIn (d + 1) t (x.den ρ) (y.den ρ)).run P w = .ok b w := by
  cases x <;> cases y <;> simp only [eqT] at h <;> try cases h
  rename_i x y
  cases x <;> cases y <;> simp only at h <;> try cases h
  · split at h
    · rename_i hd
      simp only [Option.some.injEq] at h; subst h
      exact ⟨rfl, rfl, fun w => run_equalIn_bool' w d t _ _ hd⟩
    · cases h
  · split at h
    · rename_i k' hd
      split at h
      · rename_i hk; subst hk
        simp only [Option.some.injEq] at h; subst h
        exact ⟨rfl, rfl, fun w => run_equalIn_int w d t _ k' _ _ hd⟩
      · cases h
    · cases h

theorem eqTs_length {ts : List TypeId} {xs ys : List SV} {b : Bool} (h : eqTs P ts xs ys = some b) : xs.length = ts.length ∧ ys.length = ts.length := by
  induction ts generalizing xs ys b with
  | nil => cases xs <;> cases ys <;> simp_all [eqTs]
  | cons t ts ih =>
    cases xs with
    | nil => simp [eqTs] at h
    | cons x r =>
      cases ys with
      | nil => simp [eqTs] at h
      | cons y s =>
        simp only [eqTs] at h
        cases h1 : eqT P t x y with
        | none => simp [h1] at h
        | some b1 =>
          cases h2 : eqTs P ts r s with
          | none => simp [h1, h2] at h
          | some b2 => have := ih h2; simp; omega

theorem run_part {t : TypeId} (h : isAggT P t = some false) (cs : Array Value) (o : Nat) (v : Value) (hv : cs[o]? = some v) : (part t cs o).run P w = .ok v w := by
  simp [part, run_isAgg h, hv]

theorem eqFields_sound (d : Nat) (xs ys : Array Value) : ∀ (fs : List Field) (o : Nat) (r s : List SV) (b : Bool),
    (fs.zipIdx o).all (fun (f, i) => f.name != "_" && f.offset == i && isAggT P f.type == some false) = true →
    (∀ (j : Nat) (u : SV), r[j]? = some u → xs[o + j]? = some (u.den ρ)) → (∀ (j : Nat) (u : SV), s[j]? = some u → ys[o + j]? = some (u.den ρ)) →
    eqTs P (fs.map (·.type)) r s = some b → (Op.eqFields (d + 1) xs ys fs).run P w = .ok b w
  | [], o, r, s, b, _, _, _, h => by
    cases r <;> cases s <;> simp_all [eqTs, Op.eqFields]
  | f :: fs, o, r, s, b, hall, hx, hy, h => by
    cases r with
    | nil => simp [eqTs] at h
    | cons x r =>
      cases s with
      | nil => simp [eqTs] at h
      | cons y s =>
        simp only [List.map_cons, eqTs] at h
        simp only [List.zipIdx_cons, List.all_cons, Bool.and_eq_true, bne_iff_ne, beq_iff_eq] at hall
        obtain ⟨⟨⟨hn, ho⟩, hag⟩, hall⟩ := hall
        cases h1 : eqT P f.type x y with
        | none => simp [h1] at h
        | some b1 =>
          cases h2 : eqTs P (fs.map (·.type)) r s with
          | none => simp [h1, h2] at h
          | some b2 =>
            simp only [h1, h2, Option.some.injEq] at h
            have e1 := (eqT_sound (ρ := ρ) h1 d).2.2
            have px := run_part (w := w) hag xs f.offset (x.den ρ) (by rw [ho]; exact hx 0 x rfl)
            have py := run_part (w := w) hag ys f.offset (y.den ρ) (by rw [ho]; exact hy 0 y rfl)
            have ih := eqFields_sound d xs ys fs (o + 1) r s b2 (by simpa using hall) (fun j u hu => by rw [show o + 1 + j = o + (j + 1) by omega]; exact hx (j + 1) u (by simpa using hu)) (fun j u hu => by rw [show o + 1 + j = o + (j + 1) by omega]; exact hy (j + 1) u (by simpa using hu)) h2
            simp only [Op.eqFields, Sem.run_bind, Sem.run_ite]
            rw [if_pos hn]
            simp only [px, py, Result.andThen_ok, e1]
            cases b1 <;> simp_all

theorem equal_array_sound (d : Nat) (el : TypeId) (hag : isAggT P el = some false) (xs ys : Array Value) : ∀ (m i : Nat) (r s : List SV) (b : Bool),
    (∀ (j : Nat) (u : SV), r[j]? = some u → xs[i + j]? = some (u.den ρ)) → (∀ (j : Nat) (u : SV), s[j]? = some u → ys[i + j]? = some (u.den ρ)) →
    eqTs P (List.replicate m el) r s = some b →
    (forIn (m := Sem) (List.range' i m) (none (α := Bool), PUnit.unit) (fun j _ => do
      if !(← Op.equalIn (d + 1) el (← part el xs (j * 1)) (← part el ys (j * 1))) then pure (ForInStep.done (some false, PUnit.unit)) else pure (ForInStep.yield (none, PUnit.unit)))).run P w
     = .ok (if b then (none, PUnit.unit) else (some false, PUnit.unit)) w
  | 0, i, r, s, b, hx, hy, h => by
    cases r <;> cases s <;> simp_all [eqTs]
  | m + 1, i, r, s, b, hx, hy, h => by
    cases r with
    | nil => simp [List.replicate_succ, eqTs] at h
    | cons x r =>
      cases s with
      | nil => simp [List.replicate_succ, eqTs] at h
      | cons y s =>
        simp only [List.replicate_succ, eqTs] at h
        cases h1 : eqT P el x y with
        | none => simp [h1] at h
        | some b1 =>
          cases h2 : eqTs P (List.replicate m el) r s with
          | none => simp [h1, h2] at h
          | some b2 =>
            simp only [h1, h2, Option.some.injEq] at h
            have e1 := (eqT_sound (ρ := ρ) h1 d).2.2
            have px := run_part (w := w) hag xs (i * 1) (x.den ρ) (by rw [Nat.mul_one]; exact hx 0 x rfl)
            have py := run_part (w := w) hag ys (i * 1) (y.den ρ) (by rw [Nat.mul_one]; exact hy 0 y rfl)
            have ih := equal_array_sound d el hag xs ys m (i + 1) r s b2 (fun j u hu => by rw [show i + 1 + j = i + (j + 1) by omega]; exact hx (j + 1) u (by simpa using hu)) (fun j u hu => by rw [show i + 1 + j = i + (j + 1) by omega]; exact hy (j + 1) u (by simpa using hu)) h2
            rw [List.range'_succ, List.forIn_cons]
            simp only [Sem.run_bind, px, py, Result.andThen_ok, e1]
            cases b1
            · simp_all
            · simp only [Bool.not_true, Bool.false_eq_true, if_false, Sem.run_pure, Result.andThen_ok, ih]
              simp_all

theorem run_equalIn_array (d n : Nat) (t el : TypeId) (hd : P.underlying t = some (.array n el)) (hag : isAggT P el = some false) (h1 : P.cellsOf el = 1) {xs ys : List SV} {b : Bool}
    (h : eqTs P (List.replicate n el) xs ys = some b) : (Op.equalIn (d + 1 + 1) t (.agg (SV.denL ρ xs).toArray) (.agg (SV.denL ρ ys).toArray)).run P w = .ok b w := by
  have hx : ∀ (l : List SV) (j : Nat) (u : SV), l[j]? = some u → ((SV.denL ρ l).toArray)[0 + j]? = some (u.den ρ) := fun l j u hu => by
    rw [denL_eq]; simp [hu]
  obtain ⟨de, hde⟩ := und_of_agg hag
  have := equal_array_sound (w := w) (ρ := ρ) d el hag (SV.denL ρ xs).toArray (SV.denL ρ ys).toArray n 0 xs ys b (hx xs) (hx ys) h
  unfold Op.equalIn
  simp only [Sem.run_bind, run_und hd, Result.andThen_ok, run_size (info_of_und hde), h1]
  simp only [Std.Legacy.Range.forIn_eq_forIn_range', Std.Legacy.Range.size, Nat.sub_zero, Nat.add_sub_cancel, Nat.div_one]
  rw [show (Sem.run P _ w = _) from this]
  cases b <;> simp

theorem binOp_agg_sound {t : TypeId} {ts : List TypeId} (ht : eqTypes P t = some ts) {xs ys : List SV} {b : Bool} (h : eqTs P ts xs ys = some b) :
    P.eqGuardType P.depth t = false ∧ ∀ w, (Op.equal t (.agg (SV.denL ρ xs).toArray) (.agg (SV.denL ρ ys).toArray)).run P w = .ok b w := by
  have hx : ∀ (l : List SV) (j : Nat) (u : SV), l[j]? = some u → ((SV.denL ρ l).toArray)[0 + j]? = some (u.den ρ) := fun l j u hu => by
    rw [denL_eq]; simp [hu]
  unfold eqTypes at ht
  split at ht
  · rename_i fs hd
    split at ht
    · rename_i hc
      simp only [Bool.and_eq_true, Bool.not_eq_true'] at hc
      obtain ⟨⟨h1, h2⟩, h3⟩ := hc
      simp only [Option.some.injEq] at ht; subst ht
      refine ⟨h2, fun w => ?_⟩
      have hf : P.fieldsOf t = fs := by simp [Program.fieldsOf, hd]
      show (Op.equalIn (9999 + 1) t _ _).run P w = _
      rw [run_equalIn_struct w 9999 t _ _ (by rw [hf]; exact hd) h1, hf]
      exact eqFields_sound 9998 _ _ fs.toList 0 xs ys b (by simpa using h3) (hx xs) (hx ys) h
    · cases ht
  · rename_i n el hd
    split at ht
    · rename_i hc
      simp only [Bool.and_eq_true, Bool.not_eq_true', beq_iff_eq] at hc
      obtain ⟨⟨h1, h2⟩, h3⟩ := hc
      simp only [Option.some.injEq] at ht; subst ht
      refine ⟨h1, fun w => ?_⟩
      show (Op.equalIn (9998 + 1 + 1) t _ _).run P w = _
      exact run_equalIn_array 9998 n t el hd h2 h3 h
    · cases ht
  · cases ht

end
end Go.Vc

/- From a contract to what a row says: the arguments opened, 'true' handed back, the arguments as they were. -/
import Derived.Test.YtaplfpelnmabpaaVcT
import Derived.ProofKit
import Derived.Deep.Slices
namespace Go.Vc
open Go.RowKit Go.ChangeShapes Go.WideShapes
set_option linter.unusedSimpArgs false
set_option linter.unusedVariables false

section
variable {P : Program}

theorem Ctr.calls {f : FuncId} {args : List SV} {hp : List Blk} {K : SV → List Blk → Prop} {W : World} {ρ : Nat → Nat} {vs : Array Value} (h : Ctr P f args hp K) (hargs : SV.ltL hp.length args) (hB : hpP ρ 0 hp W (fun _ => none)) (hlt : ∀ B ∈ hp, B.lt hp.length)
    (hvs : vs = (SV.denL ρ args).toArray) (hcall : (callFunc f vs).run P W = .ok (.enter f vs) W) :
    Calls P f vs W (fun e W' => ∃ v, e = .returned v ∧ (∃ (ρ' : Nat → Nat) (s : SV) (hp' : List Blk), v = s.den ρ' ∧ K s hp') ∧ Below W.heap.size W W') := by
  have s : Sat W (star emp (hpP ρ 0 hp)) W := ⟨Below.refl _ _, fun _ => none, by rw [emp_star]; exact hB, fun _ _ h => by cases h⟩
  have := h W emp ρ W hlt hargs s
  rw [← hvs, hcall] at this
  simp only [Runs] at this
  exact this.mono fun e W' ⟨v, he, ρ', u, hp', hv, _, _, _, _, s', hk⟩ => ⟨v, he, ⟨ρ', u, hp', hv, hk⟩, s'.below⟩

/-- A read-only slice among the arguments: nil, or a part of a block. -/
def raV (k len : Nat) : Option (Nat × Nat) → SV
  | none => .v (.slice none 0 0)
  | some (off, cap) => .slc k off len cap
def raB (cells : List Value) : Option (Nat × Nat) → Blk
  | none => .any
  | some (off, _) => .ro off cells
def RaOK (len : Nat) : Option (Nat × Nat) → Prop
  | none => len = 0
  | some (_, cap) => len ≤ cap ∧ cap ≤ 9223372036854775807
@[simp] theorem raV_none (k len : Nat) : raV k len none = .v (.slice none 0 0) := rfl
@[simp] theorem raV_some (k len off cap : Nat) : raV k len (some (off, cap)) = .slc k off len cap := rfl
@[simp] theorem raB_none (cells : List Value) : raB cells none = .any := rfl
@[simp] theorem raB_some (cells : List Value) (off cap : Nat) : raB cells (some (off, cap)) = .ro off cells := rfl
@[simp] theorem raB_lt (cells : List Value) (o : Option (Nat × Nat)) (n : Nat) : (raB cells o).lt n ↔ True := by cases o <;> simp [raB]
@[simp] theorem raB_ren (cells : List Value) (o : Option (Nat × Nat)) (σ : Nat → Nat) : (raB cells o).ren σ = raB cells o := by cases o <;> rfl
@[simp] theorem raV_lt (k len n : Nat) (o : Option (Nat × Nat)) : (raV k len o).lt n ↔ (o = none ∨ k < n) := by cases o <;> simp [raV]
@[simp] theorem raV_ren (k len : Nat) (σ : Nat → Nat) (o : Option (Nat × Nat)) : (raV k len o).ren σ = raV (σ k) len o := by cases o <;> rfl

theorem raV_len {t el : TypeId} {sz : Nat} {o : Option (Nat × Nat)} (k len : Nat) (ht : slcT P t = some (el, sz)) (h : RaOK len o) : lenV P t (raV k len o) = some (len : Int) := by
  cases o with
  | none => have : len = 0 := h; simp [this, ht]
  | some p => simp [ht, raV]
theorem hpP_nil {W : World} {ρ : Nat → Nat} {i : Nat} : hpP ρ i [] W (fun _ => none) := fun _ => rfl
theorem hpP_cons {W : World} {ρ : Nat → Nat} {i : Nat} {B : Blk} {r : List Blk} (h : B.P ρ (ρ i) W (fun _ => none)) (h' : hpP ρ (i + 1) r W (fun _ => none)) : hpP ρ i (B :: r) W (fun _ => none) :=
  ⟨fun _ => none, fun _ => none, fun _ => .inl rfl, fun _ => rfl, h, h'⟩

/-- The elements of a slice by their cells. -/
theorem flat_cells {E : Type} (enc : E → List Value) (sz : Nat) (henc : ∀ x, (enc x).length = sz) : ∀ (xs : List E) (i j : Nat) (v : Value), i < xs.length → j < sz → ((xs.flatMap enc)[i * sz + j]? = some v ↔ ∃ x, xs[i]? = some x ∧ (enc x)[j]? = some v)
  | [], i, j, v, h, _ => by simp at h
  | x :: r, 0, j, v, _, hj => by
    simp only [Nat.zero_mul, Nat.zero_add, List.flatMap_cons, List.getElem?_cons_zero]
    rw [List.getElem?_append_left (by rw [henc]; exact hj)]
    simp
  | x :: r, i + 1, j, v, hi, hj => by
    simp only [List.flatMap_cons, List.getElem?_cons_succ]
    rw [List.getElem?_append_right (by rw [henc, Nat.succ_mul]; omega), henc, show (i + 1) * sz + j - sz = i * sz + j by rw [Nat.succ_mul]; omega]
    exact flat_cells enc sz henc r i j v (by simpa using hi) hj
theorem flat_length {E : Type} (enc : E → List Value) (sz : Nat) (henc : ∀ x, (enc x).length = sz) : ∀ (xs : List E), (xs.flatMap enc).length = xs.length * sz
  | [] => by simp
  | x :: r => by simp [flat_length enc sz henc r, henc, Nat.succ_mul]; omega
theorem flat_take {E : Type} (enc : E → List Value) (sz : Nat) (henc : ∀ x, (enc x).length = sz) : ∀ (xs : List E) (i : Nat) (x : E), xs[i]? = some x → ((xs.flatMap enc).drop (i * sz)).take sz = enc x
  | [], i, x, h => by simp at h
  | y :: r, 0, x, h => by
    simp at h; subst h
    simp only [Nat.zero_mul, List.drop_zero, List.flatMap_cons]
    rw [List.take_append_of_le_length (by rw [henc]; exact Nat.le_refl _), List.take_of_length_le (by rw [henc]; exact Nat.le_refl _)]
  | y :: r, i + 1, x, h => by
    simp only [List.flatMap_cons]
    rw [List.drop_append, List.drop_eq_nil_of_le (by rw [henc, Nat.succ_mul]; omega), henc, show (i + 1) * sz - sz = i * sz by rw [Nat.succ_mul]; omega, List.nil_append]
    exact flat_take enc sz henc r i x (by simpa using h)

section
variable {H : Type} {enc : TypeId × Value → H} {W : World}

theorem arg_slice {E : Type} (el : E → List Value) (sz : Nat) (hel : ∀ x, (el x).length = sz) (R : E → Prop) {t e : TypeId} (ht : P.underlying t = some (.slice e)) (hsz : P.cellsOf e = sz)
    (hdec : ∀ (n : Nat) (cs : List Value) (y : DataW H × List MemPlace), cs.length = sz → DataW.trod enc P W 0 (fun _ => true) true n e cs = some y → ∃ x, cs = el x ∧ R x)
    {base : Nat} {v : Value} {d : DataW H} {ps : List MemPlace} (hok : Value.okWide P W .any base t v) (h : DataW.Trod enc P W 0 (fun _ => true) true t v d ps) :
    ∃ (xs : List E) (o : Option (Nat × Nat)) (b : Nat), (∀ ρ k, ρ k = b → v = (raV k xs.length o).den ρ) ∧ RaOK xs.length o ∧ (∀ x ∈ xs, R x) ∧ ∀ ρ, (raB (xs.flatMap el) o).P ρ b W (fun _ => none) := by
  obtain ⟨fuel, hf⟩ := h
  have hv : v.cells.toList = [v] := by
    obtain ⟨a, len, cap, rfl⟩ := okWide_slice ht hok; rfl
  rw [hv] at hf
  rcases Deep.open_slice ht hf with ⟨h0, _⟩ | ⟨a, len, cap, m, n, D, Pl, h0, _, hlc, hcap, hm, _, hx⟩
  · simp only [List.cons.injEq, and_true] at h0
    exact ⟨[], none, 0, fun _ _ _ => h0, rfl, by simp, fun _ _ => rfl⟩
  · simp only [List.cons.injEq, and_true] at h0
    subst h0
    simp only [if_true] at hm
    have hhas : W.has P .any base a e cap := by
      simp only [Value.okWide, ht, Cell.okWide, Cell.ok] at hok
      exact hok.2.2
    obtain ⟨_, hspot, row, cells, hsh, _⟩ := hhas
    have hb : a.block < W.heap.size := by
      unfold World.shape? at hsh
      cases hh : W.heap[a.block]? with
      | none => rw [hh] at hsh; cases hsh
      | some o => exact (Array.getElem?_eq_some_iff.1 hh).1
    obtain ⟨b, off, sp⟩ := a
    simp only at hspot hb
    subst hspot
    by_cases hlen : len = 0
    · subst hlen
      exact ⟨[], some (off, cap), b, fun ρ k hk => by simp [SV.den, hk], ⟨Nat.zero_le _, by simpa [maxLen] using hcap⟩, by simp, fun ρ => ⟨fun _ => rfl, hb, fun j v hj => by simp at hj⟩⟩
    have hxs : ∀ i, i < len → ∃ x, R x ∧ ∀ j, j < sz → W.cell? ⟨b, off + (i * sz + j), none⟩ = (el x)[j]? := fun i hi => by
      obtain ⟨cs', h1, h2⟩ := hx i (by omega)
      rw [hsz] at h1
      obtain ⟨_, hl, hg⟩ := World.cells?_some h1
      obtain ⟨x, rfl, hr⟩ := hdec _ _ _ hl h2
      refine ⟨x, hr, fun j hj => ?_⟩
      rw [← hg j hj]
      congr 1
      by_cases e1 : i * sz = 0 <;> by_cases e2 : j = 0 <;> simp [Addr.add, e1, e2, Nat.add_assoc]
    have : ∃ f : Nat → Option E, ∀ i, i < len → ∃ x, f i = some x ∧ R x ∧ ∀ j, j < sz → W.cell? ⟨b, off + (i * sz + j), none⟩ = (el x)[j]? := by
      classical
      refine ⟨fun i => if hi : i < len then some (Classical.choose (hxs i hi)) else none, fun i hi => ?_⟩
      simp only [dif_pos hi]
      exact ⟨_, rfl, (Classical.choose_spec (hxs i hi)).1, (Classical.choose_spec (hxs i hi)).2⟩
    obtain ⟨f, hf'⟩ := this
    have hall : ∀ n, n ≤ len → ∃ xs : List E, xs.length = n ∧ ∀ i, i < n → xs[i]? = f i := by
      intro n
      induction n with
      | zero => exact fun _ => ⟨[], rfl, fun i hi => by omega⟩
      | succ n ih =>
        intro hn
        obtain ⟨xs, h1, h2⟩ := ih (by omega)
        obtain ⟨x, h3, _⟩ := hf' n (by omega)
        refine ⟨xs ++ [x], by simp [h1], fun i hi => ?_⟩
        by_cases e : i = n
        · subst e; rw [List.getElem?_append_right (by omega), h1]; simp [h3]
        · rw [List.getElem?_append_left (by omega)]; exact h2 i (by omega)
    obtain ⟨xs, hl, hg⟩ := hall len (Nat.le_refl _)
    refine ⟨xs, some (off, cap), b, fun ρ k hk => by simp [SV.den, hk, hl], ⟨by omega, by simpa [maxLen] using hcap⟩, fun x hx => ?_, fun ρ => ⟨fun _ => rfl, hb, fun j v hj => ?_⟩⟩
    · obtain ⟨i, hi⟩ := List.mem_iff_getElem?.1 hx
      have hil := (List.getElem?_eq_some_iff.1 hi).1
      obtain ⟨x', h3, h4, _⟩ := hf' i (by omega)
      rw [hg i (by omega), h3] at hi
      cases hi; exact h4
    · have hjl := (List.getElem?_eq_some_iff.1 hj).1
      rw [flat_length el sz hel, hl] at hjl
      have hsz0 : 0 < sz := by
        rcases Nat.eq_zero_or_pos sz with e | e
        · subst e; simp at hjl
        · exact e
      have hi : j / sz < len := Nat.div_lt_of_lt_mul (by rw [Nat.mul_comm]; exact hjl)
      have hjj : j = j / sz * sz + j % sz := by rw [Nat.mul_comm]; exact (Nat.div_add_mod j sz).symm
      have hm' := Nat.mod_lt j hsz0
      obtain ⟨x, h3, _, h5⟩ := hf' (j / sz) hi
      rw [hjj, flat_cells el sz hel xs _ _ _ (by omega) hm'] at hj
      obtain ⟨x', h6, h7⟩ := hj
      rw [hg _ hi, h3] at h6
      cases h6
      rw [hjj, h5 _ hm', h7]

/-- A struct's cells, field by field. -/
theorem trod_fields {t : TypeId} {fs : Array Field} {n : Nat} {cs : List Value} {x : DataW H × List MemPlace} (ht : P.underlying t = some (.struct fs)) (h : DataW.trod enc P W 0 (fun _ => true) true n t cs = some x) :
    cs.length = P.cellsOf t ∧ ∃ m, ∀ (i : Nat) (f : Field), fs.toList[i]? = some f → ∃ y, DataW.trod enc P W 0 (fun _ => true) true m f.type ((cs.drop f.offset).take (P.cellsOf f.type)) = some y := by
  cases n with
  | zero => simp [DataW.trod] at h
  | succ n =>
    unfold DataW.trod at h
    simp only [ht] at h
    split at h
    · rename_i hl
      refine ⟨hl, n, fun i f hf => ?_⟩
      cases hm : (fs.toList.mapM fun f => DataW.trod enc P W 0 (fun _ => true) true n f.type ((cs.drop f.offset).take (P.cellsOf f.type))) with
      | none => rw [hm] at h; cases h
      | some l =>
        have := mapM_some_get hm i f hf
        have hlen : l.length = fs.toList.length := by simpa using mapM_some_length hm
        rw [this, List.getElem?_eq_getElem (by rw [hlen]; exact (List.getElem?_eq_some_iff.1 hf).1)]
        exact ⟨_, rfl⟩
    · cases h

theorem dec_int {t : TypeId} {k : IntKind} {n : Nat} {cs : List Value} {x : DataW H × List MemPlace} (ht : P.underlying t = some (.int k)) (h : DataW.trod enc P W 0 (fun _ => true) true n t cs = some x) : ∃ m, cs = [.int k m] ∧ k.min ≤ m ∧ m ≤ k.max := by
  obtain ⟨m, h1, _, h2⟩ := DataW.trod_int ht h
  simp only [Lit.wf, Bool.and_eq_true, decide_eq_true_eq] at h2
  exact ⟨m, h1, h2.1, h2.2⟩
theorem dec_bool {t : TypeId} {n : Nat} {cs : List Value} {x : DataW H × List MemPlace} (ht : P.underlying t = some .bool) (h : DataW.trod enc P W 0 (fun _ => true) true n t cs = some x) : ∃ b, cs = [.bool b] := by
  obtain ⟨m, h1, _⟩ := DataW.trod_bool ht h
  exact ⟨m, h1⟩

theorem wf_range {k : IntKind} {n : Int} (h : (Lit.int k n).wf = true) : k.min ≤ n ∧ n ≤ k.max := by
  simp only [Lit.wf, Bool.and_eq_true, decide_eq_true_eq] at h
  exact h

theorem all_below {W' : World} (hl : laidOutB P = true) (hb : Below W.heap.size W W') (sp : Nat → Bool) : ∀ {ts : List TypeId} {vs : List Value} {ds : List (DataW H)} {ps : List MemPlace}, (∀ t ∈ ts, P.readableRec t = true ∧ t < P.types.size) →
    DataW.TrodAll enc P W 0 (fun _ => true) true ts vs ds ps → (∀ x ∈ ps, x.block < W.heap.size) → (∀ p ∈ ps, sp p.block = true) → DataW.TrodAll enc P W' 0 sp true ts vs ds ps
  | [], [], [], _, _, h, _, _ => h
  | t :: _, _ :: _, _ :: _, _, hT, ⟨p, q, h1, h2, e⟩, hlt, hs =>
    ⟨p, q, WideElems.Trod_stays hl (hT t (by simp)).1 (hT t (by simp)).2 h1 (fun x hx => hb.same (hlt x (by rw [e]; simp [hx]))) (fun x hx => hs x (by rw [e]; simp [hx])),
      all_below hl hb sp (fun t ht => hT t (by simp [ht])) h2 (fun x hx => hlt x (by rw [e]; simp [hx])) (fun x hx => hs x (by rw [e]; simp [hx])), e⟩

/-- 'true', and the arguments as they were. -/
theorem post_true {f : Func} {s : ChangeSpec} {apart fresh handsOn : Bool} {W' : World} {args : Array Value} {ds gs : List (DataW H)} {before : List MemPlace} {tb : TypeId}
    (hW : DataW.Whole enc P f.params.toList s.vars apart W args.toList ds gs before) (hb : Below W.heap.size W W') (hl : laidOutB P = true) (hT0 : (f.params.toList.all fun t => P.readableRec t && decide (t < P.types.size)) = true)
    (hvars : s.vars = []) (hs : s.fn H ds = { results := [.lit (.bool true)], args := ds }) (hr : f.resultTypes = #[tb]) (hbool : P.underlying tb = some .bool) :
    s.post enc P f apart fresh handsOn false W args (.bool true) W' := by
  have hT : ∀ t ∈ f.params.toList, P.readableRec t = true ∧ t < P.types.size := fun t ht => by simpa using List.all_eq_true.1 hT0 t ht
  have hW' := hW
  obtain ⟨p, q, hA, hV, rfl, _, _⟩ := hW
  rw [hvars] at hV
  obtain ⟨rfl, rfl⟩ := trodVars_none hV
  rw [List.append_nil] at hW'
  have hlt : ∀ x ∈ p, x.block < W.heap.size := fun x hx => by simpa using hW'.lt x hx
  refine ⟨ds, [], p, [], p, [], by simpa using hW', ?_, ?_, ?_, ?_, fun h => by cases h⟩
  · rw [List.append_nil, hs, hr]
    exact ⟨[], [], ⟨1, by simp [Value.cells, DataW.trod, hbool]⟩, rfl, rfl⟩
  · rw [List.append_nil, hs]
    exact all_below hl hb _ hT hA hlt (fun x hx => by simpa using hlt x hx)
  · rw [List.append_nil, hs, hvars]
    rfl
  · exact World.keptBut_mono (fun x hx => ⟨hx, .inr (.inl hx)⟩) (hb.frame (· ∈ p))
end
end
end Go.Vc

import Derived.Test.YtggpldcdhkhdmaaMc
namespace Go.Proofs.Ytggpldcdhkhdmaa
open Go Go.Vc
set_option linter.unusedSimpArgs false
set_option linter.unusedVariables false
set_option maxRecDepth 100000
set_option maxHeartbeats 4000000

/-! What lies in a read-only argument. -/
theorem ro_rd {E : Type} (el : E → List Value) (sz : Nat) (hel : ∀ x, (el x).length = sz) (xs : List E) (off : Nat) {i : Nat} {x : E} (h : xs[i]? = some x) : (Blk.ro off (xs.flatMap el)).rdN (off + i * sz) sz = some ((el x).map SV.v) := by
  have hi := (List.getElem?_eq_some_iff.1 h).1
  have hl := flat_length el sz hel xs
  have : i * sz + sz ≤ xs.length * sz := by rw [← Nat.succ_mul]; exact Nat.mul_le_mul_right _ hi
  rw [rdN_ro, if_pos (by omega), show off + i * sz - off = i * sz by omega, flat_take el sz hel xs i x h]
/-- All of it. -/
theorem ro_all {E : Type} (el : E → List Value) (sz : Nat) (hel : ∀ x, (el x).length = sz) (xs : List E) (off : Nat) : (Blk.ro off (xs.flatMap el)).rdN off (xs.length * sz) = some ((xs.flatMap el).map SV.v) := by
  have hl := flat_length el sz hel xs
  rw [rdN_ro, if_pos (by omega), Nat.sub_self, List.drop_zero, List.take_of_length_le (by omega)]
theorem Vd.v_len (v : Vd) : v.v.length = 7 := rfl
theorem vds_v (l : List Vd) : (l.flatMap Vd.v).map SV.v = vds l := by
  unfold vds
  induction l with
  | nil => rfl
  | cons a l ih => simp only [List.flatMap_cons, List.map_append, ih]; rfl

/-- Elements of a slice that is read: nil, or a part of a block. -/
def SrcOK {E : Type} (enc : E → List SV) (sz : Nat) (l : List E) (B : Blk) : Option (Nat × Nat) → Prop
  | none => l = [] ∧ B = .any
  | some (off, cap) => l.length ≤ cap ∧ B.rdN off (l.length * sz) = some (l.flatMap enc) ∧ ∀ i x, l[i]? = some x → B.rdN (off + i * sz) sz = some (enc x)
/-- A block that names nothing. -/
def Plain (B : Blk) : Prop := (∀ n, B.lt n) ∧ ∀ σ, B.ren σ = B
theorem src_len {E : Type} {enc : E → List SV} {sz : Nat} {l : List E} {B : Blk} {o : Option (Nat × Nat)} (h : SrcOK enc sz l B o) {t el : TypeId} {s : Nat} (k : Nat) (ht : slcT Try.prog t = some (el, s)) : lenV Try.prog t (raV k l.length o) = some (l.length : Int) := by
  cases o with
  | none => simp [h.1, ht]
  | some p => simp [ht, raV]
theorem src_ra {l : List Vd} {o : Option (Nat × Nat)} (h : RaOK l.length o) : SrcOK Vd.c 7 l (raB (l.flatMap Vd.v) o) o := by
  cases o with
  | none => exact ⟨List.length_eq_zero_iff.1 h, rfl⟩
  | some p => exact ⟨h.1, by rw [raB_some, ro_all Vd.v 7 Vd.v_len]; rw [vds_v]; rfl, fun i x hx => by rw [raB_some, ro_rd Vd.v 7 Vd.v_len l _ hx]; rfl⟩
theorem plain_ra (cells : List Value) (o : Option (Nat × Nat)) : Plain (raB cells o) := ⟨fun n => by simp, fun σ => by simp⟩
theorem src_own {l : List Vd} {c : Nat} (h : l.length ≤ c) (ty : TypeId) : SrcOK Vd.c 7 l (.row (vds l) (c * 7) ty) (some (0, c)) :=
  ⟨h, by simp only [Blk.rdN, Nat.zero_add]; rw [if_pos (by simp), List.drop_zero, List.take_of_length_le (by simp)]; rfl, fun i x hx => by rw [Nat.zero_add]; exact vds_rd l _ ty hx⟩
theorem plain_own (l : List Vd) (m : Nat) (ty : TypeId) : Plain (.row (vds l) m ty) := ⟨fun n => by simp, fun σ => by simp⟩
/-- A pair of indices. -/
def pr (x : Int × Int) : List Value := [.int .i64 x.1, .int .i64 x.2]
def prC (x : Int × Int) : List SV := [iv x.1, iv x.2]

theorem slices_Clone {l : List Vd} {o : Option (Nat × Nat)} {B : Blk} (ho : SrcOK Vd.c 7 l B o) (hB : Plain B) (hl : l.length ≤ 1048576) : Ctr Try.prog F_slices_Clone_api_Validator_api_Validator [raV 0 l.length o] [B] (fun s hp => ∃ o', SlOK l.length o' ∧ s = slV 1 l.length o' ∧ hp = [B, slB (vds l) ty_api_Validator 7 o']) := by
  refine Ctr.fin (in_slices_Clone_api_Validator_api_Validator (by simp) ?_)
  match o, ho with
  | none, ⟨hl0, hb⟩ =>
    subst hl0 hb
    simp [mc_slices_Clone_api_Validator_api_Validator]
    exact Fin.by _ [] (by simpa using ent_more) (by simp) ⟨none, rfl, rfl, by simp⟩
  | some (off, cap), ⟨h1, h2, h3⟩ =>
    have h2 : B.rdN off (l.length * 7) = some (vds l) := h2
    simp [mc_slices_Clone_api_Validator_api_Validator, h2]
    refine ⟨by omega, fun c hc => ?_⟩
    · exact Fin.sel [0, 2] (slV 1 l.length (some c)) [B, slB (vds l) ty_api_Validator 7 (some c)] ⟨by simp, by simp [hB.1], by simp, by simp [hB.2]⟩ ⟨some c, hc, rfl, rfl⟩

/-! merge.Step -/
/-- One pair. -/
def step1 (c : Cf) (x : Int × Int) (st : List Vd × List Bool) : List Vd × List Bool :=
  if reqE st.1 x.1 x.2 c = 0 then ((st.1.set x.1.toNat (mvA (st.1.getD x.1.toNat Vd.z))).set x.2.toNat (mvB (st.1.getD x.1.toNat Vd.z) (st.1.getD x.2.toNat Vd.z)), st.2 ++ [true]) else (st.1, st.2 ++ [false])
def stepN (c : Cf) (l : List Vd) (q : List (Int × Int)) : List Vd × List Bool := q.foldl (fun st x => step1 c x st) (l, [])
theorem step1_len (c : Cf) (x : Int × Int) (st : List Vd × List Bool) : (step1 c x st).1.length = st.1.length ∧ (step1 c x st).2.length = st.2.length + 1 := by
  unfold step1; split <;> simp
theorem reqE_0 {l : List Vd} {p q : Int} {c : Cf} (h : reqE l p q c = 0) : (0 ≤ p ∧ p < l.length) ∧ (0 ≤ q ∧ q < l.length) ∧ p ≠ q ∧ chkE (l.getD p.toNat Vd.z) (l.getD q.toNat Vd.z) c = 0 := by
  unfold reqE at h
  split at h
  · cases h
  · split at h
    · cases h
    · exact ⟨by omega, by omega, by assumption, h⟩
theorem step1_OK {c : Cf} {x : Int × Int} {st : List Vd × List Bool} (h : ∀ v ∈ st.1, v.OK) : ∀ v ∈ (step1 c x st).1, v.OK := by
  unfold step1
  split
  · rename_i hr
    obtain ⟨_, _, _, hc⟩ := reqE_0 hr
    obtain ⟨_, _, hs⟩ := chkE_0 hc
    have ha := VOK_get h x.1.toNat
    have hb := VOK_get h x.2.toNat
    intro v hv
    rcases List.mem_or_eq_of_mem_set hv with hv | rfl
    · rcases List.mem_or_eq_of_mem_set hv with hv | rfl
      · exact h v hv
      · simp [Vd.OK, mvA]
    · have h1 := hs.1
      have h2 := ha.1
      have h3 := hb.1
      simp only [Vd.OK, mvB] at *
      omega
  · exact h

def cSt (l : List Vd) (q : List (Int × Int)) (c : Cf) (i : Nat) : List Vd × List Bool := stepN c l (q.take i)
theorem cSt_step {l : List Vd} {q : List (Int × Int)} {c : Cf} {i : Nat} {x : Int × Int} (h : q[i]? = some x) : cSt l q c (i + 1) = step1 c x (cSt l q c i) := by
  unfold cSt stepN
  rw [List.take_add_one, h, Option.toList_some, List.foldl_append]; rfl
theorem cSt_len (l : List Vd) (q : List (Int × Int)) (c : Cf) : ∀ i, i ≤ q.length → (cSt l q c i).1.length = l.length ∧ (cSt l q c i).2.length = i
  | 0, _ => by simp [cSt, stepN]
  | i + 1, hi => by
    have := cSt_len l q c i (by omega)
    rw [cSt_step (List.getElem?_eq_getElem (by omega))]
    have h2 := step1_len c q[i] (cSt l q c i)
    omega
theorem cSt_OK {l : List Vd} (q : List (Int × Int)) (c : Cf) (h : ∀ v ∈ l, v.OK) : ∀ i, i ≤ q.length → ∀ v ∈ (cSt l q c i).1, v.OK
  | 0, _ => by simpa [cSt, stepN] using h
  | i + 1, hi => by
    rw [cSt_step (List.getElem?_eq_getElem (by omega))]
    exact step1_OK (cSt_OK q c h i (by omega))
end Go.Proofs.Ytggpldcdhkhdmaa

import Derived.Test.YtggpldcdhkhdmaaMb
namespace Go.Proofs.Ytggpldcdhkhdmaa
open Go Go.Vc
set_option linter.unusedSimpArgs false
set_option linter.unusedVariables false
set_option maxRecDepth 100000
set_option maxHeartbeats 4000000

/-! Rows of elements of one size. -/
section
variable {E : Type} (enc : E → List SV) (sz : Nat) (henc : ∀ x, (enc x).length = sz)
include henc
theorem fl_length : ∀ (xs : List E), (xs.flatMap enc).length = xs.length * sz
  | [] => by simp
  | x :: r => by simp [fl_length r, henc, Nat.succ_mul]; omega
theorem fl_take : ∀ (xs : List E) (i : Nat) (x : E), xs[i]? = some x → ((xs.flatMap enc).drop (i * sz)).take sz = enc x
  | [], i, x, h => by simp at h
  | y :: r, 0, x, h => by
    simp at h; subst h
    simp only [Nat.zero_mul, List.drop_zero, List.flatMap_cons]
    rw [List.take_append_of_le_length (by rw [henc]; exact Nat.le_refl _), List.take_of_length_le (by rw [henc]; exact Nat.le_refl _)]
  | y :: r, i + 1, x, h => by
    simp only [List.flatMap_cons]
    rw [List.drop_append, List.drop_eq_nil_of_le (by rw [henc, Nat.succ_mul]; omega), henc, show (i + 1) * sz - sz = i * sz by rw [Nat.succ_mul]; omega, List.nil_append]
    exact fl_take r i x (by simpa using h)
theorem fl_set : ∀ (xs : List E) (i : Nat) (x : E), i < xs.length → setR (xs.flatMap enc) (i * sz) (enc x) = (xs.set i x).flatMap enc
  | [], i, x, h => by simp at h
  | y :: r, 0, x, _ => by
    simp only [setR, Nat.zero_mul, List.take_zero, List.nil_append, Nat.zero_add, List.flatMap_cons, List.set_cons_zero, henc]
    rw [List.drop_append, List.drop_eq_nil_of_le (by rw [henc]; exact Nat.le_refl _), henc, Nat.sub_self, List.nil_append, List.drop_zero]
  | y :: r, i + 1, x, h => by
    have ih := fl_set r i x (by simpa using h)
    simp only [setR, henc] at ih ⊢
    simp only [List.flatMap_cons, List.set_cons_succ]
    rw [List.take_append, List.drop_append, henc, List.take_of_length_le (by rw [henc, Nat.succ_mul]; omega), List.drop_eq_nil_of_le (by rw [henc, Nat.succ_mul]; omega),
      show (i + 1) * sz - sz = i * sz by rw [Nat.succ_mul]; omega, show (i + 1) * sz + sz - sz = i * sz + sz by rw [Nat.succ_mul]; omega, List.nil_append, List.append_assoc, List.append_assoc, ← ih, List.append_assoc]
theorem fl_rd (xs : List E) (m : Nat) (ty : TypeId) : RdN (.row (xs.flatMap enc) m ty) 0 sz (xs.map enc) := fun i x h => by
  obtain ⟨e, he, rfl⟩ := by simpa using h
  have hi := (List.getElem?_eq_some_iff.1 he).1
  have : i * sz + sz ≤ xs.length * sz := by rw [← Nat.succ_mul]; exact Nat.mul_le_mul_right _ hi
  simp only [Blk.rdN, Nat.zero_add]
  rw [if_pos (by rw [fl_length enc sz henc]; exact this), fl_take enc sz henc xs i e he]
end
theorem ren_plain {σ : Nat → Nat} {l : List Value} : (l.map SV.v).map (SV.ren σ) = l.map SV.v := by simp [SV.ren, Function.comp_def]

def Vd.v (v : Vd) : List Value := [.int .u64 v.bal, .int .i64 v.st, .bool v.sl, .int .i64 v.rq, .int .i64 v.ex, .int .i64 v.wd, .int .i64 v.dl]
theorem Vd.c_v (v : Vd) : v.c = v.v.map SV.v := rfl
@[simp] theorem Vd.c_renL (σ : Nat → Nat) (v : Vd) : SV.renL σ v.c = v.c := rfl
@[simp] theorem Vd.c_ltL (n : Nat) (v : Vd) : SV.ltL n v.c ↔ True := by simp [Vd.c]
@[simp] theorem Cf.c_renL (σ : Nat → Nat) (v : Cf) : SV.renL σ v.c = v.c := rfl
@[simp] theorem Cf.c_ltL (n : Nat) (v : Cf) : SV.ltL n v.c ↔ True := by simp [Cf.c]
@[simp] theorem Vd.c_len (v : Vd) : v.c.length = 7 := rfl
/-- The cells of validators. -/
def vds (l : List Vd) : List SV := l.flatMap Vd.c
@[simp] theorem vds_len (l : List Vd) : (vds l).length = l.length * 7 := fl_length _ 7 Vd.c_len l
@[simp] theorem vds_ren (σ : Nat → Nat) (l : List Vd) : (vds l).map (SV.ren σ) = vds l := by
  unfold vds
  induction l with
  | nil => rfl
  | cons a l ih => simp only [List.flatMap_cons, List.map_append, ih]; rfl
theorem vds_lt (l : List Vd) (n : Nat) : ∀ s ∈ vds l, s.lt n := fun s hs => by
  obtain ⟨v, _, hv⟩ := List.mem_flatMap.1 hs
  rw [Vd.c_v] at hv
  obtain ⟨x, _, rfl⟩ := List.mem_map.1 hv
  trivial
@[simp] theorem vds_lt' (l : List Vd) (n : Nat) : (∀ s ∈ vds l, s.lt n) ↔ True := by simp; exact vds_lt l n
@[simp] theorem vds_flat (l : List Vd) : (vds l).all SV.flat = true := by
  rw [List.all_eq_true]
  intro s hs
  obtain ⟨v, _, hv⟩ := List.mem_flatMap.1 hs
  rw [Vd.c_v] at hv
  obtain ⟨x, hx, rfl⟩ := List.mem_map.1 hv
  simp [Vd.v] at hx
  rcases hx with rfl | rfl | rfl | rfl | rfl | rfl | rfl <;> rfl
@[simp] theorem slB_vds_lt (l : List Vd) (el : TypeId) (sz m : Nat) (o : Option Nat) : (slB (vds l) el sz o).lt m ↔ True := by simp; exact slB_lt _ _ _ _ _ (vds_lt l m)
@[simp] theorem vds_flat' (l : List Vd) : (∀ s ∈ vds l, s.flat = true) ↔ True := by
  have := vds_flat l; rw [List.all_eq_true] at this; simpa using this
theorem vds_rd (l : List Vd) (m : Nat) (ty : TypeId) {i : Nat} {v : Vd} (h : l[i]? = some v) : (Blk.row (vds l) m ty).rdN (i * 7) 7 = some v.c := by
  have := fl_rd Vd.c 7 Vd.c_len l m ty i v.c (by simp [h])
  rw [Nat.zero_add] at this
  exact this
theorem vds_set (l : List Vd) {i : Nat} (v : Vd) (h : i < l.length) : setR (vds l) (i * 7) v.c = vds (l.set i v) := fl_set _ 7 Vd.c_len l i v h

@[simp high] theorem stR_vds (l : List Vd) {i : Nat} (v : Vd) (h : i < l.length) : stR (vds l) (i * 7) v.c = vds (l.set i v) := by
  rw [stR_eq (by simp; omega)]; exact vds_set l v h
/-! merge.Request -/
/-- What Request answers. -/
def reqE (l : List Vd) (p q : Int) (c : Cf) : Int := if p < 0 ∨ (l.length : Int) ≤ p ∨ q < 0 ∨ (l.length : Int) ≤ q then 7 else if p = q then 12 else chkE (l.getD p.toNat Vd.z) (l.getD q.toNat Vd.z) c
theorem VOK_get {l : List Vd} (h : ∀ v ∈ l, v.OK) (i : Nat) : (l.getD i Vd.z).OK := by
  rw [List.getD_eq_getElem?_getD]
  cases hi : l[i]? with
  | none => simp [Vd.OK, Vd.z]
  | some v => exact h v (List.mem_of_getElem? hi)
theorem merge_Request {l : List Vd} {o : Option Nat} {p q : Int} {c : Cf} (ho : SlOK l.length o) (hv : ∀ v ∈ l, v.OK) : Ctr Try.prog F_merge_Request [slV 0 l.length o, iv p, iv q, .agg c.c] [slB (vds l) ty_api_Validator 7 o] (fun s hp => s = iv (reqE l p q c) ∧ hp = [slB (vds l) ty_api_Validator 7 o]) := by
  refine Ctr.fin (in_merge_Request (by simp) ?_)
  have hlen : lenV Try.prog 22 (slV 0 l.length o) = some (l.length : Int) := by
    cases o with
    | none => have : l.length = 0 := ho; simp [this]
    | some c => simp
  have hb : (slB (vds l) 33 7 o).lt 1 := slB_lt _ _ _ _ _ (vds_lt l 1)
  simp [mc_merge_Request, Cf.c]
  refine ⟨{ i : Nat // i ≤ 2 ∧ (1 ≤ i → 0 ≤ p ∧ p < l.length) ∧ (2 ≤ i → 0 ≤ q ∧ q < l.length) }, fun i => ([(0, slV 0 l.length o), (1, iv p), (2, iv q), (7, .ptr 1 0), (13, .agg [iv p, iv q]), (14, iv (i.1 : Nat))], [slB (vds l) ty_api_Validator 7 o, .row c.c 20 ty_api_Config]), fun i => 2 - i.1, ⟨⟨0, by simp⟩, Le.by [0, 1] (by simp [Cf.c, hb])⟩, fun i => ?_⟩
  obtain ⟨i, hi, h1, h2⟩ := i
  have done : ∀ (e : Int) (hp : List Blk), reqE l p q c = e → hp.take 1 = [slB (vds l) 33 7 o] → Vc.Fin 1 (fun s hp => s = iv (reqE l p q c) ∧ hp = [slB (vds l) ty_api_Validator 7 o]) (iv e) hp := fun e hp he hh => Fin.cut 1 (Ent.refl _) (by rw [hh]; simp [hb]) (by rw [hh]; simp [he])
  rcases (show i = 0 ∨ i = 1 ∨ i = 2 by omega) with rfl | rfl | rfl
  · simp [Cf.c]
    refine ⟨fun hp0 => ?_, fun hp0 => ?_⟩
    · simp [hlen]
      refine ⟨fun hp1 => ?_, fun hp1 => ?_⟩
      · exact done 7 _ (by simp [reqE, hp1]) (by simp)
      · exact ⟨1, Le.by [0, 1] (by simp [hb]), ⟨by omega, fun _ => by omega, fun h => by omega⟩, by omega⟩
    · exact done 7 _ (by simp [reqE, hp0]) (by simp)
  · simp [Cf.c]
    have h1 := h1 (by omega)
    refine ⟨fun hp0 => ?_, fun hp0 => ?_⟩
    · simp [hlen]
      refine ⟨fun hp1 => ?_, fun hp1 => ?_⟩
      · exact done 7 _ (by simp [reqE, hp1]) (by simp)
      · exact ⟨2, Le.by [0, 1] (by simp [hb]), ⟨by omega, fun _ => h1, fun h => by omega⟩, by omega⟩
    · exact done 7 _ (by simp [reqE, hp0]) (by simp)
  · have h1 := h1 (by omega)
    have h2 := h2 (by omega)
    have hnot : ¬ (p < 0 ∨ (l.length : Int) ≤ p ∨ q < 0 ∨ (l.length : Int) ≤ q) := by omega
    simp [Cf.c]
    refine ⟨fun e => ?_, fun e => ?_⟩
    · exact done 12 _ (by simp [reqE, if_neg hnot, e]; omega) (by simp)
    · cases o with
      | none => have : l.length = 0 := ho; omega
      | some cp =>
        obtain ⟨x, hx⟩ : ∃ x, l[p.toNat]? = some x := ⟨_, List.getElem?_eq_getElem (by omega)⟩
        obtain ⟨y, hy⟩ : ∃ y, l[q.toNat]? = some y := ⟨_, List.getElem?_eq_getElem (by omega)⟩
        have rx := vds_rd l (cp * 7) 33 hx
        have ry := vds_rd l (cp * 7) 33 hy
        have gx : l.getD p.toNat Vd.z = x := by simp [List.getD_eq_getElem?_getD, hx]
        have gy : l.getD q.toNat Vd.z = y := by simp [List.getD_eq_getElem?_getD, hy]
        simp [h1, h2, rx, ry, -rdN_row]
        simp
        refine Ctr.useEq (merge_Check (a := x) (b := y) (c := c) (hv x (List.mem_of_getElem? hx)) (hv y (List.mem_of_getElem? hy))) [] (by simp [Cf.c]) ?_
        simp
        exact done _ _ (by simp only [reqE, if_neg hnot, if_neg e, gx, gy]) (by simp)
end Go.Proofs.Ytggpldcdhkhdmaa

/- Some of the heap's blocks, under other names: for a callee's contract, for a loop's relation, for an object opened and shut. -/
import Derived.Test.YtaplfpelnmabpaaVcK
namespace Go.Vc
open Go.RowKit
set_option linter.unusedSimpArgs false
set_option linter.unusedVariables false

/-- Name j of the part is name 'sel j' of the whole; what the part has made anew comes behind the whole's n names. -/
def nm (sel : List Nat) (n : Nat) (j : Nat) : Nat := match sel[j]? with
  | some k => k
  | none => n + (j - sel.length)

def wipe (hp : List Blk) : List Nat → List Blk
  | [] => hp
  | k :: r => wipe (hp.set k .any) r

theorem wipe_length : ∀ (ks : List Nat) (hp : List Blk), (wipe hp ks).length = hp.length
  | [], _ => rfl
  | k :: r, hp => by simp [wipe, wipe_length r]

theorem wipe_get : ∀ (ks : List Nat) (hp : List Blk) (j : Nat), (wipe hp ks)[j]? = if j ∈ ks ∧ j < hp.length then some .any else hp[j]?
  | [], hp, j => by simp [wipe]
  | k :: r, hp, j => by
    simp only [wipe, wipe_get r, List.length_set, List.getElem?_set, List.mem_cons]
    by_cases h1 : j ∈ r
    · by_cases h2 : j < hp.length
      · simp [h1, h2]
      · simp only [h1, h2, and_false, if_false]
        by_cases h3 : k = j
        · subst h3; simp [h2]
        · simp [h3]
    · by_cases h3 : k = j
      · subst h3
        by_cases h2 : k < hp.length
        · simp [h1, h2]
        · simp [h1, h2]
      · have h4 : ¬ j = k := fun e => h3 e.symm
        simp [h1, h3, h4]

theorem wipe_lt {n : Nat} (ks : List Nat) {hp : List Blk} (h : ∀ B ∈ hp, B.lt n) : ∀ B ∈ wipe hp ks, B.lt n := by
  intro B hB
  obtain ⟨j, hj⟩ := List.mem_iff_getElem?.1 hB
  rw [wipe_get] at hj
  split at hj
  · simp at hj; subst hj; trivial
  · exact h B (List.mem_of_getElem? hj)

/-- The part and the rest. -/
theorem hpP_sel (ρ τ : Nat → Nat) : ∀ (i : Nat) (T hp : List Blk), (∀ j B, T[j]? = some B → hp[τ (i + j)]? = some (B.ren τ)) → (∀ j k, j < T.length → k < T.length → τ (i + j) = τ (i + k) → j = k) →
    hpP ρ 0 hp = star (hpP (fun k => ρ (τ k)) i T) (hpP ρ 0 (wipe hp ((List.range T.length).map fun j => τ (i + j))))
  | i, [], hp, _, _ => by simp [hpP, emp_star, wipe]
  | i, B :: r, hp, h, hinj => by
    have h0 := h 0 B rfl
    simp only [Nat.add_zero] at h0
    rw [hpP_take ρ 0 hp (τ i) _ h0, Nat.zero_add, Blk.P_ren]
    have ih := hpP_sel ρ τ (i + 1) r (hp.set (τ i) .any) (fun j C hC => by
      have h1 := h (j + 1) C (by simpa using hC)
      have hlt : j < r.length := (List.getElem?_eq_some_iff.1 hC).1
      have hne : τ i ≠ τ (i + 1 + j) := fun e => by
        have := hinj 0 (j + 1) (by simp) (by simp; omega) (by rw [Nat.add_zero, show i + (j + 1) = i + 1 + j by omega]; exact e)
        omega
      rw [List.getElem?_set, if_neg hne, show i + 1 + j = i + (j + 1) by omega]; exact h1) (fun j k hj hk e => by
      have := hinj (j + 1) (k + 1) (by simp; omega) (by simp; omega) (by rw [show i + (j + 1) = i + 1 + j by omega, show i + (k + 1) = i + 1 + k by omega]; exact e)
      omega)
    rw [ih, ← star_assoc]
    simp only [hpP]
    have : (List.range (B :: r).length).map (fun j => τ (i + j)) = τ i :: (List.range r.length).map (fun j => τ (i + 1 + j)) := by
      rw [List.length_cons, List.range_succ_eq_map]
      simp only [List.map_cons, Nat.add_zero, List.map_map, Function.comp_def]
      congr 1
      apply List.map_congr_left
      intro j _
      congr 1; omega
    rw [this]; rfl

theorem hpP_anys (ρ : Nat → Nat) : ∀ (i n : Nat), hpP ρ i (List.replicate n .any) = emp
  | i, 0 => by simp [hpP]
  | i, n + 1 => by simp [List.replicate_succ, hpP, Blk.P, emp_star, hpP_anys]

/-- The whole behind a call: the part's blocks put back, the new ones behind. -/
def back (hp : List Blk) (τ : Nat → Nat) : Nat → List Blk → List Blk
  | _, [] => hp
  | j, B :: r => back (hp.set (τ j) (B.ren τ)) τ (j + 1) r

def merge (hp : List Blk) (sel : List Nat) (hc : List Blk) : List Blk :=
  back hp (nm sel hp.length) 0 (hc.take sel.length) ++ (hc.drop sel.length).map (Blk.ren (nm sel hp.length))

theorem back_length (τ : Nat → Nat) : ∀ (l : List Blk) (j : Nat) (hp : List Blk), (back hp τ j l).length = hp.length
  | [], _, _ => rfl
  | B :: r, j, hp => by simp [back, back_length τ r]

theorem back_other (τ : Nat → Nat) : ∀ (l : List Blk) (j : Nat) (hp : List Blk) (k : Nat), (∀ i, i < l.length → τ (j + i) ≠ k) → (back hp τ j l)[k]? = hp[k]?
  | [], _, _, _, _ => rfl
  | B :: r, j, hp, k, h => by
    simp only [back]
    rw [back_other τ r (j + 1) _ k (fun i hi => by rw [show j + 1 + i = j + (i + 1) by omega]; exact h (i + 1) (by simp; omega))]
    rw [List.getElem?_set, if_neg (by have := h 0 (by simp); simpa using this)]

theorem back_get (τ : Nat → Nat) : ∀ (l : List Blk) (j : Nat) (hp : List Blk) (i : Nat) (B : Blk), l[i]? = some B → (∀ a b, a < l.length → b < l.length → τ (j + a) = τ (j + b) → a = b) → (∀ a, a < l.length → τ (j + a) < hp.length) →
    (back hp τ j l)[τ (j + i)]? = some (B.ren τ)
  | C :: r, j, hp, 0, B, h, hinj, hlt => by
    simp at h; subst h
    simp only [back, Nat.add_zero]
    rw [back_other τ r (j + 1) _ (τ j) (fun i hi e => by
      have := hinj (i + 1) 0 (by simp; omega) (by simp) (by rw [Nat.add_zero, show j + (i + 1) = j + 1 + i by omega]; exact e)
      omega)]
    rw [List.getElem?_set_self (by have := hlt 0 (by simp); simpa using this)]
  | C :: r, j, hp, i + 1, B, h, hinj, hlt => by
    simp only [back]
    rw [show j + (i + 1) = j + 1 + i by omega]
    exact back_get τ r (j + 1) _ i B (by simpa using h) (fun a b ha hb e => by
      have := hinj (a + 1) (b + 1) (by simp; omega) (by simp; omega) (by rw [show j + (a + 1) = j + 1 + a by omega, show j + (b + 1) = j + 1 + b by omega]; exact e)
      omega) (fun a ha => by rw [List.length_set, show j + 1 + a = j + (a + 1) by omega]; exact hlt (a + 1) (by simp; omega))
  | [], _, _, _, _, h, _, _ => by simp at h

structure Sel (sel : List Nat) (n : Nat) : Prop where
  lt : ∀ k ∈ sel, k < n
  nodup : sel.Nodup

theorem nm_lt {sel : List Nat} {n : Nat} (hs : Sel sel n) {j : Nat} (hj : j < sel.length) : nm sel n j < n ∧ sel[j]? = some (nm sel n j) := by
  have : sel[j]? = some sel[j] := by simp [hj]
  simp only [nm, this]
  exact ⟨hs.lt _ (List.getElem_mem hj), trivial⟩
theorem nm_ge {sel : List Nat} {n : Nat} {j : Nat} (hj : sel.length ≤ j) : nm sel n j = n + (j - sel.length) := by
  have : sel[j]? = none := by simp [hj]
  simp only [nm, this]
theorem nm_inj {sel : List Nat} {n : Nat} (hs : Sel sel n) {j k : Nat} (h : nm sel n j = nm sel n k) : j = k := by
  by_cases hj : j < sel.length <;> by_cases hk : k < sel.length
  · have h1 := (nm_lt hs hj).2
    have h2 := (nm_lt hs hk).2
    rw [h] at h1
    have e1 := (List.getElem?_eq_some_iff.1 h1).2
    have e2 := (List.getElem?_eq_some_iff.1 h2).2
    exact (List.getElem_inj hs.nodup).1 (e1.trans e2.symm)
  · have h1 := (nm_lt hs hj).1
    rw [nm_ge (j := k) (by omega)] at h; omega
  · have h1 := (nm_lt hs hk).1
    rw [nm_ge (sel := sel) (n := n) (j := j) (by omega)] at h; omega
  · rw [nm_ge (by omega), nm_ge (by omega)] at h; omega

theorem merge_length (hp hc : List Blk) (sel : List Nat) (_h : sel.length ≤ hc.length) : (merge hp sel hc).length = hp.length + (hc.length - sel.length) := by
  simp [merge, back_length]

theorem merge_get {hp hc : List Blk} {sel : List Nat} (hs : Sel sel hp.length) (hl : sel.length ≤ hc.length) {j : Nat} {B : Blk} (h : hc[j]? = some B) :
    (merge hp sel hc)[nm sel hp.length j]? = some (B.ren (nm sel hp.length)) := by
  have hjl : j < hc.length := (List.getElem?_eq_some_iff.1 h).1
  unfold merge
  by_cases hj : j < sel.length
  · rw [List.getElem?_append_left (by rw [back_length]; exact (nm_lt hs hj).1)]
    have := back_get (nm sel hp.length) (hc.take sel.length) 0 hp j B (by rw [List.getElem?_take, if_pos hj]; exact h) (fun a b _ _ e => by simpa using nm_inj hs e) (fun a ha => by
      simp at ha; rw [Nat.zero_add]; exact (nm_lt hs (by omega)).1)
    simpa using this
  · rw [nm_ge (by omega), List.getElem?_append_right (by rw [back_length]; omega), back_length]
    rw [show hp.length + (j - sel.length) - hp.length = j - sel.length by omega, List.getElem?_map, List.getElem?_drop, show sel.length + (j - sel.length) = j by omega, h]
    rfl

theorem merge_wipe {hp hc : List Blk} {sel : List Nat} (hs : Sel sel hp.length) (hl : sel.length ≤ hc.length) :
    wipe (merge hp sel hc) ((List.range hc.length).map fun j => nm sel hp.length (0 + j)) = wipe hp sel ++ List.replicate (hc.length - sel.length) .any := by
  apply List.ext_getElem?
  intro k
  rw [wipe_get, merge_length _ _ _ hl]
  simp only [List.mem_map, List.mem_range, Nat.zero_add]
  by_cases hk : k < hp.length
  · rw [List.getElem?_append_left (by rw [wipe_length]; exact hk), wipe_get]
    by_cases hm : k ∈ sel
    · obtain ⟨j, hj, rfl⟩ := List.getElem_of_mem hm
      have e : nm sel hp.length j = sel[j] := by have := (nm_lt hs hj).2; simp [hj] at this; exact this.symm
      rw [if_pos ⟨⟨j, by omega, e⟩, by omega⟩, if_pos ⟨List.getElem_mem hj, hk⟩]
    · rw [if_neg (by
        rintro ⟨⟨j, hj, e⟩, _⟩
        by_cases hjs : j < sel.length
        · have := (nm_lt hs hjs).2; rw [e] at this; exact hm (List.mem_of_getElem? this)
        · rw [nm_ge (by omega)] at e; omega), if_neg (by simp [hm])]
      unfold merge
      rw [List.getElem?_append_left (by rw [back_length]; exact hk)]
      refine back_other _ _ _ _ _ (fun i hi e => ?_)
      simp at hi
      have := (nm_lt hs (j := i) (by omega)).2
      rw [Nat.zero_add] at e
      rw [e] at this; exact hm (List.mem_of_getElem? this)
  · rw [List.getElem?_append_right (by rw [wipe_length]; omega), wipe_length, List.getElem?_replicate]
    by_cases h2 : k < hp.length + (hc.length - sel.length)
    · rw [if_pos (by refine ⟨⟨sel.length + (k - hp.length), by omega, by rw [nm_ge (by omega)]; omega⟩, h2⟩), if_pos (by omega)]
    · rw [if_neg (by omega), if_neg (by omega)]
      have : (merge hp sel hc).length ≤ k := by rw [merge_length _ _ _ hl]; omega
      simp [this]

theorem merge_lt {hp hc : List Blk} {sel : List Nat} (hs : Sel sel hp.length) (hl : sel.length ≤ hc.length) (h1 : ∀ B ∈ hp, B.lt hp.length) (h2 : ∀ B ∈ hc, B.lt hc.length) :
    ∀ B ∈ merge hp sel hc, B.lt (merge hp sel hc).length := by
  have hlt : ∀ k, k < hc.length → nm sel hp.length k < (merge hp sel hc).length := fun k hk => by
    rw [merge_length _ _ _ hl]
    by_cases h : k < sel.length
    · have := (nm_lt hs h).1; omega
    · rw [nm_ge (by omega)]; omega
  have hb : ∀ (l : List Blk) (j : Nat) (hp' : List Blk), (∀ B ∈ hp', B.lt (merge hp sel hc).length) → (∀ B ∈ l, B.lt hc.length) → ∀ B ∈ back hp' (nm sel hp.length) j l, B.lt (merge hp sel hc).length := by
    intro l
    induction l with
    | nil => intro j hp' h _; exact h
    | cons C r ih =>
      intro j hp' h hl
      refine ih (j + 1) _ (fun B hB => ?_) (fun B hB => hl B (by simp [hB]))
      rcases List.mem_or_eq_of_mem_set hB with hB | hB
      · exact h B hB
      · subst hB; exact Blk.lt_ren hlt (hl C (by simp))
  intro B hB
  unfold merge at hB
  rcases List.mem_append.1 hB with hB | hB
  · exact hb _ 0 hp (fun B hB => Blk.lt_mono (by rw [merge_length _ _ _ hl]; omega) (h1 B hB)) (fun B hB => h2 B (List.mem_of_mem_take hB)) B hB
  · obtain ⟨C, hC, rfl⟩ := List.mem_map.1 hB
    exact Blk.lt_ren hlt (h2 C (List.mem_of_mem_drop hC))

/-- **A contract used on a greater heap**: 'sel' picks the callee's blocks out of the caller's. -/
theorem Ctr.call {P : Program} {f : FuncId} {args0 : List SV} {hp0 : List Blk} {K0 : SV → List Blk → Prop} (h : Ctr P f args0 hp0 K0) (sel : List Nat) {args : List SV} {hp : List Blk} {K : SV → List Blk → Prop}
    (hs : Sel sel hp.length) (hl : hp0.length = sel.length) (ha : args = args0.map (SV.ren (nm sel hp.length))) (hal : SV.ltL hp0.length args0) (hhl : ∀ B ∈ hp0, B.lt hp0.length)
    (hh : ∀ j B, hp0[j]? = some B → hp[nm sel hp.length j]? = some (B.ren (nm sel hp.length)))
    (hK : ∀ s hc, hp0.length ≤ hc.length → K0 s hc → K (s.ren (nm sel hp.length)) (merge hp sel hc)) : Ctr P f args hp K := by
  intro w0 F ρ w hsh hargs s
  have hsel := hpP_sel ρ (nm sel hp.length) 0 hp0 hp (fun j B hB => by rw [Nat.zero_add]; exact hh j B hB) (fun j k _ _ e => by simpa using nm_inj hs e)
  rw [hsel, ← star_assoc, star_comm F, star_assoc] at s
  rw [star_comm] at s
  have h1 := h w0 _ _ w hhl hal s
  have ea : SV.denL (fun k => ρ (nm sel hp.length k)) args0 = SV.denL ρ args := by rw [ha, ← renL_eq, denL_ren]
  rw [ea] at h1
  refine h1.mono fun v w' ⟨ρ', u, hc, hv, hag, hlen, hul, hcl, s', hk⟩ => ?_
  rw [hl] at hlen hag
  let ρ2 : Nat → Nat := fun k => if k < hp.length then ρ k else ρ' (sel.length + (k - hp.length))
  have hcomp : ∀ k, ρ2 (nm sel hp.length k) = ρ' k := fun k => by
    by_cases hk' : k < sel.length
    · have := (nm_lt hs hk').1
      simp only [ρ2, this, if_true]
      exact (hag k hk').symm
    · rw [nm_ge (by omega)]
      simp only [ρ2]
      rw [if_neg (by omega)]
      congr 1; omega
  refine ⟨ρ2, u.ren (nm sel hp.length), merge hp sel hc, ?_, fun k hk' => by simp only [ρ2, hk', if_true], by rw [merge_length _ _ _ hlen]; omega, ?_, merge_lt hs hlen hsh hcl, ?_, hK u hc (by omega) hk⟩
  · rw [hv, den_ren]
    exact den_congr (n := hc.length) (fun k _ => (hcomp k).symm) u hul
  · refine lt_ren (n := hc.length) (fun k hk' => ?_) u hul
    rw [merge_length _ _ _ hlen]
    by_cases h : k < sel.length
    · have := (nm_lt hs h).1; omega
    · rw [nm_ge (by omega)]; omega
  · have hsel2 := hpP_sel ρ2 (nm sel hp.length) 0 hc (merge hp sel hc) (fun j B hB => by rw [Nat.zero_add]; exact merge_get hs hlen hB) (fun j k _ _ e => by simpa using nm_inj hs e)
    rw [merge_wipe hs hlen, hpP_append, hpP_anys, star_emp] at hsel2
    have e1 : hpP ρ2 0 (wipe hp sel) = hpP ρ 0 (wipe hp sel) := hpP_congr (n := hp.length) (fun k hk' => by simp only [ρ2, hk', if_true]) 0 _ (by rw [wipe_length]; omega) (wipe_lt sel hsh)
    have e2 : hpP (fun k => ρ2 (nm sel hp.length k)) 0 hc = hpP ρ' 0 hc := by
      rw [show (fun k => ρ2 (nm sel hp.length k)) = ρ' from funext hcomp]
    rw [hsel2, e1, e2]
    have e3 : (List.range hp0.length).map (fun j => nm sel hp.length (0 + j)) = sel := by
      apply List.ext_getElem?
      intro j
      rw [hl, List.getElem?_map]
      by_cases hj : j < sel.length
      · rw [List.getElem?_range hj, Option.map_some, Nat.zero_add, (nm_lt hs hj).2]
      · rw [List.getElem?_eq_none (by simp; omega), List.getElem?_eq_none (by omega)]; rfl
    rw [e3] at s'
    rw [star_comm (hpP ρ' 0 hc), ← star_assoc]
    exact s'

end Go.Vc

/- Objects: blocks behind one name, opened and shut. -/
import Derived.Test.YtaplfpelnmabpaaVcR
namespace Go.Vc
open Go.RowKit
set_option linter.unusedSimpArgs false
set_option linter.unusedVariables false

section
variable {P : Program} {hp : List Blk}

theorem Ctr.ent {f : FuncId} {args : List SV} {A : List Blk → Prop} {K : SV → List Blk → Prop} (h : Ent hp A) (hargs : SV.ltL hp.length args) (hc : ∀ hp', A hp' → Ctr P f args hp' K) : Ctr P f args hp K := by
  intro w0 F ρ w h1 h2 s
  obtain ⟨ρ', hp', ha, hag, hl, hsh, s'⟩ := h w0 F ρ w h1 s
  have := hc hp' ha w0 F ρ' w hsh (ltL_mono hl args h2) s'
  rw [← denL_congr (fun k hk => (hag k hk).symm) args hargs] at this
  refine this.mono fun v w' ⟨ρ2, u, hp2, hv, hag2, hl2, hu, hsh2, s2, hk⟩ => ?_
  exact ⟨ρ2, u, hp2, hv, fun k hk' => (hag2 k (by omega)).trans (hag k hk'), by omega, hu, hsh2, s2, hk⟩

theorem Ctr.post {f : FuncId} {args : List SV} {K K' : SV → List Blk → Prop} (h : Ctr P f args hp K) (hk : ∀ s hp', K s hp' → Ent hp' (fun h => K' s h)) : Ctr P f args hp K' := by
  intro w0 F ρ w h1 h2 s
  refine (h w0 F ρ w h1 h2 s).mono fun v w' ⟨ρ2, u, hp2, hv, hag2, hl2, hu, hsh2, s2, hK⟩ => ?_
  obtain ⟨ρ3, hp3, ha, hag, hl, hsh, s'⟩ := hk u hp2 hK w0 F ρ2 w' hsh2 s2
  exact ⟨ρ3, u, hp3, by rw [hv]; exact den_congr (fun k hk => (hag k hk).symm) u hu, fun k hk' => (hag k (by omega)).trans (hag2 k hk'), by omega, lt_mono hl u hu, hsh, s', ha⟩

/-- An object: its blocks, the first of them the one that it is known by. -/
def mkRes {σ : Type} (pre : σ → Prop) (shape : σ → List Blk) : Nat → HP := fun b w0 h =>
  ∃ (x : σ) (ρ : Nat → Nat), pre x ∧ ρ 0 = b ∧ 0 < (shape x).length ∧ (∀ B ∈ shape x, B.lt (shape x).length) ∧ hpP ρ 0 (shape x) w0 h

theorem ent_open {σ : Type} {pre : σ → Prop} {shape : σ → List Blk} (k : Nat) (hk : hp[k]? = some (.res (mkRes pre shape))) : Ent hp (fun hp' => ∃ x, pre x ∧ hp' = merge hp [k] (shape x)) := by
  intro w0 F ρ w hsh s
  have hkl := (List.getElem?_eq_some_iff.1 hk).1
  rw [hpP_take ρ 0 hp k _ hk, Nat.zero_add, star_left_comm] at s
  obtain ⟨g, ⟨g1, g2, d, e, ⟨x, ρ', hpre, hρ0, hpos, hlt, hsx⟩, f⟩, ho⟩ := s.own
  have s1 : Sat w0 (star (hpP ρ' 0 (shape x)) (star F (hpP ρ 0 (hp.set k .any)))) w := ⟨s.below, g, ⟨g1, g2, d, e, hsx, f⟩, ho⟩
  have hs : Sel [k] hp.length := ⟨by simpa using hkl, by simp⟩
  have hl1 : [k].length ≤ (shape x).length := hpos
  let ρ2 : Nat → Nat := fun j => if j < hp.length then ρ j else ρ' (1 + (j - hp.length))
  have hcomp : ∀ j, ρ2 (nm [k] hp.length j) = ρ' j := fun j => by
    by_cases hj : j < [k].length
    · obtain rfl : j = 0 := by simpa using hj
      have e0 : nm [k] hp.length 0 = k := rfl
      rw [e0, hρ0]; simp only [ρ2, hkl, if_true]
    · rw [nm_ge (by omega)]
      simp only [ρ2, List.length_cons, List.length_nil, Nat.zero_add] at *
      rw [if_neg (by omega)]; congr 1; omega
  refine ⟨ρ2, merge hp [k] (shape x), ⟨x, hpre, rfl⟩, fun j hj => by simp only [ρ2, hj, if_true], by rw [merge_length _ _ _ hl1]; omega, merge_lt hs hl1 hsh hlt, ?_⟩
  have hsel := hpP_sel ρ2 (nm [k] hp.length) 0 (shape x) (merge hp [k] (shape x)) (fun j B hB => by rw [Nat.zero_add]; exact merge_get hs hl1 hB) (fun a b _ _ e => by simpa using nm_inj hs e)
  rw [merge_wipe hs hl1, hpP_append, hpP_anys, star_emp] at hsel
  have e1 : hpP ρ2 0 (wipe hp [k]) = hpP ρ 0 (wipe hp [k]) := hpP_congr (n := hp.length) (fun j hj => by simp only [ρ2, hj, if_true]) 0 _ (by rw [wipe_length]; omega) (wipe_lt [k] hsh)
  rw [hsel, e1, show (fun j => ρ2 (nm [k] hp.length j)) = ρ' from funext hcomp, star_left_comm]
  exact s1

theorem ent_shut {σ : Type} {pre : σ → Prop} {shape : σ → List Blk} (k : Nat) (sel : List Nat) (x : σ) (hpre : pre x) (hs : Sel (k :: sel) hp.length) (hl : (shape x).length = (k :: sel).length) (hlt : ∀ B ∈ shape x, B.lt (shape x).length)
    (hh : ∀ j B, (shape x)[j]? = some B → hp[nm (k :: sel) hp.length j]? = some (B.ren (nm (k :: sel) hp.length))) : Ent hp (fun hp' => hp' = (wipe hp (k :: sel)).set k (.res (mkRes pre shape))) := by
  intro w0 F ρ w hsh s
  have hkl : k < hp.length := hs.lt k (by simp)
  have hsel := hpP_sel ρ (nm (k :: sel) hp.length) 0 (shape x) hp (fun j B hB => by rw [Nat.zero_add]; exact hh j B hB) (fun a b _ _ e => by simpa using nm_inj hs e)
  have e3 : (List.range (shape x).length).map (fun j => nm (k :: sel) hp.length (0 + j)) = k :: sel := by
    apply List.ext_getElem?
    intro j
    rw [hl, List.getElem?_map]
    by_cases hj : j < (k :: sel).length
    · rw [List.getElem?_range hj, Option.map_some, Nat.zero_add, (nm_lt hs hj).2]
    · rw [List.getElem?_eq_none (by simp at hj ⊢; omega), List.getElem?_eq_none (by omega)]; rfl
  rw [hsel, e3] at s
  refine ⟨ρ, _, rfl, fun _ _ => rfl, by rw [List.length_set, wipe_length]; exact Nat.le_refl _, lt_set (by rw [wipe_length]; exact wipe_lt _ hsh) trivial, ?_⟩
  have hany : (wipe hp (k :: sel)).set k .any = wipe hp (k :: sel) := by
    apply List.ext_getElem?
    intro j
    rw [List.getElem?_set, wipe_length]
    by_cases e : k = j
    · subst e
      rw [if_pos rfl, if_pos hkl, wipe_get, if_pos ⟨by simp, hkl⟩]
    · rw [if_neg e]
  rw [hpP_put ρ 0 _ k _ (by rw [wipe_length]; exact hkl), hany, Nat.zero_add]
  refine s.mono (star_mono (fun _ h => h) (star_mono (fun h hh => ⟨x, _, hpre, rfl, by rw [hl]; simp, hlt, hh⟩) (fun _ h => h)))

/-- What is known of some blocks is given up. -/
theorem ent_any (ks : List Nat) : Ent hp (fun hp' => hp' = wipe hp ks) := by
  induction ks generalizing hp with
  | nil => exact Ent.refl hp
  | cons k r ih =>
    refine Ent.trans (A := fun h => h = hp.set k .any) (fun w0 F ρ w hsh s => ?_) fun h e => by subst e; exact ih
    refine ⟨ρ, _, rfl, fun _ _ => rfl, by simp, lt_set hsh trivial, ?_⟩
    cases hk : hp[k]? with
    | none =>
      have : hp.length ≤ k := by simpa using hk
      rw [List.set_eq_of_length_le this]; exact s
    | some B =>
      rw [hpP_take ρ 0 hp k _ hk, ← star_assoc, star_comm F, star_assoc] at s
      exact s.right

attribute [simp] merge back nm wipe

end
end Go.Vc

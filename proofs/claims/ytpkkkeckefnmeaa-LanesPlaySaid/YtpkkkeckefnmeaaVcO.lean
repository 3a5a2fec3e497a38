/- A region whose order is open, walked in one order that serves. -/
import Derived.Test.YtpkkkeckefnmeaaVcN
namespace Go.Vc
open Go.RowKit

section
variable {P : Program} {w0 w : World} {F : HP} {n0 N : Nat} {ρ0 ρ : Nat → Nat} {D : List Deferred} {fr : List (Nat × SV)} {hp : List Blk} {a : Act} {ops : Array Oper} {Q : Exit → Act → World → Prop}

def planB (ops : Array Oper) (n : Nat) : Array Bool → List (Tag × Nat) → Bool
  | listed, [] => (Region.ready .any ops listed).isEmpty
  | listed, (.take, i) :: rest => decide (i < n) && (Region.ready .any ops listed).contains i && Region.free .any ops listed i && planB ops n (listed.setIfInBounds i true) rest
  | listed, (.held, i) :: rest => (Region.ready .any ops listed == [i]) && planB ops n (listed.setIfInBounds i true) rest
  | listed, (.free, i) :: rest => (Region.ready .any ops listed == [i]) && decide (n ≤ i) && rest.all (fun x => decide (x.1 = .free)) && planB ops n (listed.setIfInBounds i true) rest

def dslim (ops : Array Oper) (N : Nat) : List DOp → Prop
  | [] => True
  | d :: r => (∃ o, ops[d.idx]? = some o ∧ slimOf ops N o d.m) ∧ dslim ops N r

theorem agree_sat : ∀ (S hp : List Blk) (i : Nat) (F : HP), agree S hp → Sat w0 (star F (hpP ρ i hp)) w → Sat w0 (star anyH (hpP ρ i S)) w
  | [], hp, i, F, _, s => by
    simp only [hpP, star_emp]
    exact s.mono fun _ _ => trivial
  | B :: S, [], i, F, h, _ => h.elim
  | B :: S, C :: hp, i, F, h, s => by
    simp only [hpP] at *
    rcases h.1 with rfl | rfl
    · rw [← star_assoc] at s
      simp only [Blk.P, emp_star]
      exact agree_sat S hp (i + 1) _ h.2 s
    · have h1 := agree_sat_keep S hp (i + 1) F _ h.2 (by rw [star_left_comm] at s; exact s)
      rw [star_left_comm]; exact h1
where
  agree_sat_keep : ∀ (S hp : List Blk) (i : Nat) (F G : HP), agree S hp → Sat w0 (star G (star F (hpP ρ i hp))) w → Sat w0 (star G (star anyH (hpP ρ i S))) w
  | [], hp, i, F, G, _, s => by
    simp only [hpP, star_emp]
    exact s.mono (star_mono (fun _ h => h) (fun _ _ => trivial))
  | B :: S, [], i, F, G, h, _ => h.elim
  | B :: S, C :: hp, i, F, G, h, s => by
    simp only [hpP] at *
    rcases h.1 with rfl | rfl
    · rw [← star_assoc F] at s
      simp only [Blk.P, emp_star]
      exact agree_sat_keep S hp (i + 1) _ G h.2 s
    · have h1 := agree_sat_keep S hp (i + 1) F (star G (C.P ρ (ρ i))) h.2 (by rw [star_assoc, star_left_comm (C.P ρ (ρ i))]; exact s)
      rw [star_assoc, star_left_comm (C.P ρ (ρ i))] at h1
      exact h1

theorem agree_wipe : ∀ (ks : List Nat) (hp : List Blk), agree (wipe hp ks) hp := by
  have refl : ∀ hp, agree hp hp := fun hp => by induction hp with | nil => trivial | cons B r ih => exact ⟨.inr rfl, ih⟩
  have set : ∀ (S hp : List Blk) (k : Nat), agree S hp → agree (S.set k .any) hp := by
    intro S
    induction S with
    | nil => intro hp k h; simpa using h
    | cons B S ih =>
      intro hp k h
      cases hp with
      | nil => exact h.elim
      | cons C hp =>
        cases k with
        | zero => exact ⟨.inl rfl, h.2⟩
        | succ k => exact ⟨h.1, ih hp k h.2⟩
  have gen : ∀ (ks : List Nat) (S hp : List Blk), agree S hp → agree (wipe S ks) hp := by
    intro ks
    induction ks with
    | nil => intro S hp h; exact h
    | cons k r ih => intro S hp h; exact ih _ _ (set _ _ _ h)
  exact fun ks hp => gen ks hp hp (refl hp)

theorem vdops_sound {K : List (Nat × SV) → List Blk → Prop} {n : Nat} (ht : tailB ops n = true) (hns : Region.noSelect ops = true) (hQp : ∀ c a w, ¬ Q (.panic c) a w)
    (hQ : ∀ fr hp a w, Good w0 F n0 ρ0 N D fr hp a w → K fr hp → Q .normal a w) (ρ1 : Nat → Nat) (S : List Blk) (hSl : ∀ B ∈ S, B.lt S.length) :
    ∀ (ds : List DOp) (listed : Array Bool) (fr : List (Nat × SV)) (hp : List Blk) (ρ : Nat → Nat) (a : Act) (w : World),
      planB ops n listed (ds.map fun d => (d.tag, d.idx)) = true → dslim ops N ds → Closed ops listed → (∀ k, k < n0 → ρ k = ρ0 k) → n0 ≤ hp.length → (∀ k, k < S.length → ρ k = ρ1 k) → S.length ≤ hp.length →
      ((∃ d ∈ ds, d.tag ≠ .free) → Sat w0 (star anyH (hpP ρ1 0 S)) w) → Rel w0 F ρ N D fr hp a w → vdops P S ds fr hp K →
      wpAnyG P ops Q (fun w => Sat w0 (star anyH (hpP ρ1 0 S)) w) n ds.length listed a w
  | [], listed, fr, hp, ρ, a, w, hp0, _, _, hag0, hn0, _, _, _, r, h => by
    simp only [List.map_nil, planB, List.isEmpty_iff] at hp0
    exact ⟨hp0, hQ fr hp a w ⟨ρ, hag0, hn0, r⟩ h⟩
  | ⟨tag, i, m⟩ :: ds, listed, fr, hp, ρ, a, w, hp0, ⟨⟨o, ho, hsl⟩, hsr⟩, hcl, hag0, hn0, hag1, hSle, hSw, r, h => by
    have hsl' := hsl
    obtain ⟨e1, e2, e3, _⟩ := hsl'
    simp only at ho e1 e2
    have hSP : ∀ {ρ' : Nat → Nat}, (∀ k, k < S.length → ρ' k = ρ1 k) → hpP ρ' 0 S = hpP ρ1 0 S := fun hh => hpP_congr (n := S.length) hh 0 S (by omega) hSl
    have cont : ∀ (s : SV) (hp' : List Blk) (w' : World) (fr' : List (Nat × SV)) (ρ' : Nat → Nat), Rel w0 F ρ N D fr' hp a w → (∀ k, k < hp.length → ρ' k = ρ k) → hp.length ≤ hp'.length → s.lt hp'.length → (∀ B ∈ hp', B.lt hp'.length) →
        Sat w0 (star F (hpP ρ' 0 hp')) w' → planB ops n (listed.setIfInBounds i true) (ds.map fun d => (d.tag, d.idx)) = true → i ∈ Region.ready .any ops listed →
        ((∃ d ∈ ds, d.tag ≠ .free) → Sat w0 (star anyH (hpP ρ1 0 S)) w') → vdops P S ds (putF o.dst s fr') hp' K →
        wpAnyG P ops Q (fun w => Sat w0 (star anyH (hpP ρ1 0 S)) w) n ds.length (listed.setIfInBounds i true) (a.put o.dst (s.den ρ')) w' :=
      fun s hp' w' fr' ρ' r' hag hl hs hsh hsat hpl hr hS hk => vdops_sound ht hns hQp hQ ρ1 S hSl ds _ _ hp' ρ' _ w' hpl hsr (closed_set hcl hr) (fun k hk => (hag k (by omega)).trans (hag0 k hk)) (by omega)
        (fun k hk => (hag k (by omega)).trans (hag1 k hk)) (by omega) hS (rel_step r' e3 hag hl hs hsh hsat) hk
    have skip : ∀ (fr' : List (Nat × SV)), Rel w0 F ρ N D fr' hp a w → planB ops n (listed.setIfInBounds i true) (ds.map fun d => (d.tag, d.idx)) = true → i ∈ Region.ready .any ops listed →
        vdops P S ds (putF o.dst undefV fr') hp K → wpAnyG P ops Q (fun w => Sat w0 (star anyH (hpP ρ1 0 S)) w) n ds.length (listed.setIfInBounds i true) (a.put o.dst undef) w :=
      fun fr' r' hpl hr hk => cont undefV hp w fr' ρ r' (fun _ _ => rfl) (Nat.le_refl _) (by simp [undefV, SV.lt]) r.sh r.sat hpl hr (fun ⟨d, hd, e⟩ => hSw ⟨d, by simp [hd], e⟩) hk
    cases tag with
    | take =>
      simp only [List.map_cons, planB, Bool.and_eq_true, decide_eq_true_eq] at hp0
      obtain ⟨⟨⟨hin, hrd⟩, hfree⟩, hpl⟩ := hp0
      have hrd' : i ∈ Region.ready .any ops listed := by simpa using hrd
      have hS0 := hSw ⟨_, List.mem_cons_self, by simp⟩
      simp only [vdops] at h
      obtain ⟨fr', r', hc⟩ := guard_cases r hsl h
      rcases hc with ⟨hw, hy⟩ | ⟨hw, hy⟩
      · simp only [e2] at hy
        obtain ⟨s, hk, hs, hyl⟩ := vq_sound (w0 := w0) r'.hfr r'.sc (fun B hB => Blk.lt_mono hSle (hSl B hB)) hy
        refine wpAnyG_first ht ho hin (Region.noSelect_spec hns) (fun c a w h => (hQp _ _ _ h).elim) ds.length listed a w hcl (Region.free_spec ho hfree) hrd' (v := s.den ρ) (.inl ⟨hw, fun w' hw' => hyl anyH w' (by rw [hSP hag1]; exact hw')⟩) hS0 ?_
        rw [e1] at hk
        exact cont s hp w fr' ρ r' (fun _ _ => rfl) (Nat.le_refl _) hs r.sh r.sat hpl hrd' (fun _ => hS0) hk
      · refine wpAnyG_first ht ho hin (Region.noSelect_spec hns) (fun c a w h => (hQp _ _ _ h).elim) ds.length listed a w hcl (Region.free_spec ho hfree) hrd' (v := undef) (.inr ⟨hw, rfl⟩) hS0 ?_
        rw [e1] at hy
        exact skip fr' r' hpl hrd' hy
    | held =>
      simp only [List.map_cons, planB, Bool.and_eq_true, beq_iff_eq] at hp0
      obtain ⟨hrd, hpl⟩ := hp0
      have hrd' : i ∈ Region.ready .any ops listed := by rw [hrd]; simp
      simp only [vdops] at h
      obtain ⟨fr', r', hc⟩ := guard_cases r hsl h
      refine ⟨fun h0 => (by rw [hrd] at h0; cases h0), fun j hj => ?_⟩
      rw [hrd] at hj
      obtain rfl : j = i := by simpa using hj
      unfold wpOp
      simp only [ho]
      rcases hc with ⟨hw, hy⟩ | ⟨hw, hy⟩
      · rw [if_pos hw]
        simp only [e2] at hy
        refine .inl (wp_of_runs (vop_sound r'.toRel0 r'.sat hy) fun v w' ⟨ρ', s, hp', hv, hag, hl, hs, hsh, hsat, hagr, hk⟩ => ?_)
        subst hv
        have hS' : Sat w0 (star anyH (hpP ρ1 0 S)) w' := by
          rw [← hSP (ρ' := ρ') (fun k hk => (hag k (by omega)).trans (hag1 k hk))]
          exact agree_sat S hp' 0 F hagr hsat
        rw [e1] at hk
        exact ⟨fun _ => hS', cont s hp' w' fr' ρ' r' hag hl hs hsh hsat hpl hrd' (fun _ => hS') hk⟩
      · rw [if_neg (by rw [hw]; simp)]
        rw [e1] at hy
        exact ⟨fun _ => hSw ⟨_, List.mem_cons_self, by simp⟩, skip fr' r' hpl hrd' hy⟩
    | free =>
      simp only [List.map_cons, planB, Bool.and_eq_true, beq_iff_eq, decide_eq_true_eq] at hp0
      obtain ⟨⟨⟨hrd, hni⟩, hno⟩, hpl⟩ := hp0
      have hrd' : i ∈ Region.ready .any ops listed := by rw [hrd]; simp
      have hnone : ¬ ∃ d ∈ ds, d.tag ≠ .free := fun ⟨d, hd, e⟩ => by
        have := List.all_eq_true.1 hno (d.tag, d.idx) (List.mem_map.2 ⟨d, hd, rfl⟩)
        exact e (of_decide_eq_true this)
      simp only [vdops] at h
      obtain ⟨fr', r', hc⟩ := guard_cases r hsl h
      refine ⟨fun h0 => (by rw [hrd] at h0; cases h0), fun j hj => ?_⟩
      rw [hrd] at hj
      obtain rfl : j = i := by simpa using hj
      unfold wpOp
      simp only [ho]
      rcases hc with ⟨hw, hy⟩ | ⟨hw, hy⟩
      · rw [if_pos hw]
        simp only [e2] at hy
        refine .inl (wp_of_runs (vop_sound r'.toRel0 r'.sat hy) fun v w' ⟨ρ', s, hp', hv, hag, hl, hs, hsh, hsat, hk⟩ => ?_)
        subst hv
        rw [e1] at hk
        exact ⟨fun h => by omega, cont s hp' w' fr' ρ' r' hag hl hs hsh hsat hpl hrd' (fun h => (hnone h).elim) hk⟩
      · rw [if_neg (by rw [hw]; simp)]
        rw [e1] at hy
        exact ⟨fun h => by omega, skip fr' r' hpl hrd' hy⟩

end
end Go.Vc

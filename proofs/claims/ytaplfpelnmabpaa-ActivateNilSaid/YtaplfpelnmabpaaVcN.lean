/- Regions: a list of operations in the text's order; a region whose order is open. -/
import Derived.Test.YtaplfpelnmabpaaVcM
namespace Go.Vc
open Go.RowKit
set_option linter.unusedSimpArgs false
set_option linter.unusedVariables false

section
variable {P : Program} {w0 w : World} {F : HP} {n0 N : Nat} {ρ0 ρ : Nat → Nat} {D : List Deferred} {fr : List (Nat × SV)} {hp : List Blk} {a : Act} {ops : Array Oper} {Q : Exit → Act → World → Prop}

/-- The operation without what the run does not look at. -/
def slimOf (ops : Array Oper) (N : Nat) (o : Oper) (m : MOp) : Prop :=
  m.dst = o.dst ∧ m.op = o.op ∧ (∀ d, o.dst = some d → d < N) ∧ match o.guard with
    | none => m.g = none
    | some (j, want) => ∃ t, (ops[j]?).bind (·.dst) = some t ∧ m.g = some (t, want)

def slimL (ops : Array Oper) (N : Nat) : List Oper → List MOp → Prop
  | [], [] => True
  | o :: l, m :: ml => slimOf ops N o m ∧ slimL ops N l ml
  | _, _ => False

/-- An operation carried out; passed over, if its guard says so. -/
def wpOpR (P : Program) (ops : Array Oper) (i : Nat) (K : Act → World → Prop) (a : Act) (w : World) : Prop :=
  match ops[i]? with
  | none => K a w
  | some o => if Region.wanted o (yielded ops a.tmps) then Runs P (fun v w' => K (a.put o.dst v) w') ((execOp a.eval o).run P w) else K (a.put o.dst undef) w
def wpOpsR (P : Program) (ops : Array Oper) (Q : Act → World → Prop) : List Nat → Act → World → Prop
  | [], a, w => Q a w
  | i :: rest, a, w => wpOpR P ops i (wpOpsR P ops Q rest) a w

theorem wpOpR_mono {i : Nat} {a : Act} {w : World} {K K' : Act → World → Prop} (h : ∀ a w, K a w → K' a w) (hh : wpOpR P ops i K a w) : wpOpR P ops i K' a w := by
  unfold wpOpR at *
  split
  · exact h _ _ (by simpa [*] using hh)
  · rename_i o ho
    simp only [ho] at hh
    split
    · rename_i hw; simp only [hw, if_true] at hh; exact hh.mono fun _ _ he => h _ _ he
    · rename_i hw; simp only [hw] at hh; exact h _ _ hh

def wideR (r : Option Nat) : Fence := { Fence.wide with round := r }
theorem calls_wideR {r : Option Nat} {k : Nat} {f : FuncId} {args : Array Value} {R : Ending → World → Prop} (h : Calls P f args w R) : CallsIn (wideR r) k P f args w R := callsIn_wide.2 h

theorem wpOpsR_in (r : Option Nat) {Q : Exit → Act → World → Prop} (hd : ∀ (i : Nat) (o : Oper), ops[i]? = some o → ∀ c, o.op ≠ .defer c) : ∀ (l : List Nat) (a : Act) (w : World), wpOpsR P ops (Q .normal) l a w → wpOpsIn (wideR r) 0 P ops Q l a w := by
  intro l
  induction l with
  | nil => exact fun a w h => h
  | cons i rest ih =>
    intro a w h
    simp only [wpOpsR, wpOpR] at h
    simp only [wpOpsIn]
    cases ho : ops[i]? with
    | none => simp only [ho] at h; exact ih a w h
    | some o =>
      simp only [ho] at h ⊢
      have hsem : o.semAt (wideR r).round a.eval = execOp a.eval o := by
        unfold Oper.semAt
        split
        · rename_i c _ hc; exact absurd hc (hd i o ho c)
        · rfl
      split
      · rename_i hw
        rw [if_pos hw] at h
        refine ⟨fun _ _ => trivial, ?_⟩
        rw [hsem]
        generalize (execOp a.eval o).run P w = res at *
        unfold Runs at h
        split at h
        · exact ih _ _ h
        · exact ih _ _ h
        · refine ⟨fun hh => by simp [wideR, Fence.wide] at hh, calls_wideR (h.mono fun e w'' ⟨v, he, hv⟩ => ?_)⟩
          subst he; exact ih _ _ hv
        · refine ⟨fun hh => by simp [wideR, Fence.wide] at hh, RoundIn.mono (F := wideR r) (n := 0) h fun e w'' ⟨v, he, hv⟩ => ?_⟩
          subst he; exact ih _ _ hv
        · exact h.elim
      · rename_i hw
        rw [if_neg hw] at h
        exact ⟨fun _ _ => trivial, ih _ _ h⟩

theorem rel_step {dst : Option Nat} (r : Rel w0 F ρ N D fr hp a w) (hd : ∀ d, dst = some d → d < N) {ρ' : Nat → Nat} {s : SV} {hp' : List Blk} {w' : World} (hag : ∀ k, k < hp.length → ρ' k = ρ k) (hl : hp.length ≤ hp'.length) (hs : s.lt hp'.length)
    (hsh : ∀ B ∈ hp', B.lt hp'.length) (hsat : Sat w0 (star F (hpP ρ' 0 hp')) w') : Rel w0 F ρ' N D (putF dst s fr) hp' (a.put dst (s.den ρ')) w' := by
  have old : ∀ t u, look t fr = some u → a.tmps[t]? = some (u.den ρ') := fun t u h => by
    rw [den_congr hag u (r.sc t u h)]; exact r.hfr t u h
  cases dst with
  | none => exact ⟨⟨old, fun t u h => lt_mono hl u (r.sc t u h), hsh⟩, r.size, r.dfs, hsat⟩
  | some d =>
    have hdN := hd d rfl
    refine ⟨⟨fun t u h => ?_, fun t u h => ?_, hsh⟩, by simp [Act.put, r.size], r.dfs, hsat⟩
    · simp only [putF, look] at h
      simp only [Act.put]
      split at h
      · rename_i e; subst e; simp at h; subst h
        rw [Array.getElem?_setIfInBounds_self, if_pos (by rw [r.size]; exact hdN)]
      · rename_i e
        rw [Array.getElem?_setIfInBounds_ne e]; exact old t u h
    · simp only [putF, look] at h
      split at h
      · simp at h; subst h; exact hs
      · exact lt_mono hl u (r.sc t u h)

theorem good_step {dst : Option Nat} {s : SV} {hp' : List Blk} {w' : World} {ρ' : Nat → Nat} (hag0 : ∀ k, k < n0 → ρ k = ρ0 k) (hn0 : n0 ≤ hp.length) (r : Rel w0 F ρ N D fr hp a w) (hd : ∀ d, dst = some d → d < N)
    (hag : ∀ k, k < hp.length → ρ' k = ρ k) (hl : hp.length ≤ hp'.length) (hs : s.lt hp'.length) (hsh : ∀ B ∈ hp', B.lt hp'.length) (hsat : Sat w0 (star F (hpP ρ' 0 hp')) w') :
    Good w0 F n0 ρ0 N D (putF dst s fr) hp' (a.put dst (s.den ρ')) w' :=
  ⟨ρ', fun k hk => (hag k (by omega)).trans (hag0 k hk), by omega, rel_step r hd hag hl hs hsh hsat⟩

theorem rel_skip {dst : Option Nat} (r : Rel w0 F ρ N D fr hp a w) (hd : ∀ d, dst = some d → d < N) : Rel w0 F ρ N D (putF dst undefV fr) hp (a.put dst undef) w :=
  rel_step (s := undefV) r hd (fun _ _ => rfl) (Nat.le_refl _) (by simp [undefV, SV.lt]) r.sh r.sat

theorem rel_lit {t : Nat} {b : Bool} (r : Rel w0 F ρ N D fr hp a w) (h : look t fr = some (.v (.bool b))) : Rel w0 F ρ N D ((t, .v (.bool b)) :: fr) hp a w := by
  refine ⟨⟨fun u s hu => ?_, fun u s hu => ?_, r.sh⟩, r.size, r.dfs, r.sat⟩
  · simp only [look] at hu
    split at hu
    · rename_i e; subst e; simp only [Option.some.injEq] at hu; subst hu; exact r.hfr _ _ h
    · exact r.hfr u s hu
  · simp only [look] at hu
    split at hu
    · simp at hu; subst hu; simp [SV.lt]
    · exact r.sc u s hu

theorem guard_cases {o : Oper} {m : MOp} {yes no : List (Nat × SV) → Prop} (r : Rel w0 F ρ N D fr hp a w) (hsl : slimOf ops N o m) (h : guardV m.g fr yes no) :
    ∃ fr', Rel w0 F ρ N D fr' hp a w ∧ ((Region.wanted o (yielded ops a.tmps) = true ∧ yes fr') ∨ (Region.wanted o (yielded ops a.tmps) = false ∧ no fr')) := by
  obtain ⟨_, _, _, hg⟩ := hsl
  unfold Region.wanted
  cases hgd : o.guard with
  | none =>
    rw [hgd] at hg; simp only at hg
    rw [hg] at h
    exact ⟨fr, r, .inl ⟨rfl, h⟩⟩
  | some jw =>
    obtain ⟨j, want⟩ := jw
    rw [hgd] at hg; simp only at hg
    obtain ⟨t, ht, hg⟩ := hg
    rw [hg] at h
    simp only [guardV] at h
    have hy : yielded ops a.tmps j = match a.tmps[t]? with | some (.bool b) => some b | _ => none := by
      unfold yielded; rw [ht]; rfl
    split at h
    · rename_i b hb
      have hb' := r.hfr _ _ hb
      simp only [SV.den] at hb'
      rw [hb'] at hy
      by_cases e : b = want
      · subst e
        exact ⟨_, rel_lit r hb, .inl ⟨by simp only [hy, beq_self_eq_true], h.1 rfl⟩⟩
      · have e' : b = !want := by cases b <;> cases want <;> simp_all
        subst e'
        exact ⟨_, rel_lit r hb, .inr ⟨by simp only [hy]; cases want <;> rfl, h.2 rfl⟩⟩
    · rename_i vs hb
      have hb' := r.hfr _ _ hb
      simp only [SV.den] at hb'
      rw [hb'] at hy
      exact ⟨fr, r, .inr ⟨by simp only [hy]; rfl, h⟩⟩
    · exact h.elim

/-- One operation of a region. -/
theorem vop_step {o : Oper} {m : MOp} {K : SV → List Blk → Prop} (hag0 : ∀ k, k < n0 → ρ k = ρ0 k) (hn0 : n0 ≤ hp.length) (r : Rel w0 F ρ N D fr hp a w) (hsl : slimOf ops N o m) (h : vop P fr hp K m.op) {next : Act → World → Prop}
    (hnext : ∀ s hp' a' w', Good w0 F n0 ρ0 N D (putF m.dst s fr) hp' a' w' → K s hp' → next a' w') : Runs P (fun v w' => next (a.put o.dst v) w') ((execOp a.eval o).run P w) := by
  obtain ⟨h1, h2, h3, _⟩ := hsl
  rw [h2] at h
  refine (vop_sound r.toRel0 r.sat h).mono fun v w' ⟨ρ', s, hp', hv, hag, hl, hs, hsh, hsat, hk⟩ => ?_
  subst hv
  refine hnext s hp' _ w' ?_ hk
  rw [h1]
  exact good_step hag0 hn0 r h3 hag hl hs hsh hsat

theorem vops_sound {K : List (Nat × SV) → List Blk → Prop} {Qn : Act → World → Prop} (hQ : ∀ fr hp a w, Good w0 F n0 ρ0 N D fr hp a w → K fr hp → Qn a w) : ∀ (l : List Oper) (ml : List MOp) (k : Nat) (fr : List (Nat × SV)) (hp : List Blk) (a : Act) (w : World),
    (∀ j, l[j]? = ops[k + j]?) → slimL ops N l ml → Good w0 F n0 ρ0 N D fr hp a w → vops P ml fr hp K → wpOpsR P ops Qn (List.range' k l.length) a w
  | [], [], k, fr, hp, a, w, _, _, g, h => hQ fr hp a w g h
  | [], _ :: _, _, _, _, _, _, _, hf, _, _ => hf.elim
  | _ :: _, [], _, _, _, _, _, _, hf, _, _ => hf.elim
  | o :: l, m :: ml, k, fr, hp, a, w, hl, ⟨hsl, hf⟩, g, h => by
    have h0 : ops[k]? = some o := by simpa using (hl 0).symm
    obtain ⟨ρ, hag0, hn0, r⟩ := g
    obtain ⟨fr', r', hc⟩ := guard_cases r hsl h
    have hl' : ∀ j, l[j]? = ops[k + 1 + j]? := fun j => by have := hl (j + 1); simpa [Nat.add_assoc, Nat.add_comm 1 j] using this
    simp only [List.length_cons, List.range'_succ, wpOpsR, wpOpR, h0]
    rcases hc with ⟨hw, hy⟩ | ⟨hw, hy⟩
    · rw [if_pos hw]
      exact vop_step hag0 hn0 r' hsl hy fun s hp' a' w' g' hk => vops_sound hQ l ml (k + 1) _ hp' a' w' hl' hf g' hk
    · rw [if_neg (by rw [hw]; simp)]
      refine vops_sound hQ l ml (k + 1) _ hp _ w hl' hf ⟨ρ, hag0, hn0, ?_⟩ hy
      obtain ⟨h1, _, h3, _⟩ := hsl
      rw [h1]; exact rel_skip r' h3

/-! ### A region whose order is open -/

def Closed (ops : Array Oper) (listed : Array Bool) : Prop := ∀ j oj, ops[j]? = some oj → listed.getD j false = true → ∀ e ∈ oj.after, Region.binds .any e = true → listed.getD e.on false = true

/-- From operation n on each waits for the one ahead of it, and n for all that lie ahead. -/
def tailB (ops : Array Oper) (n : Nat) : Bool := decide (ops.size ≤ n) || (Region.sinkB .any ops n && Region.chainB .any ops n)

theorem getD_ft {listed : Array Bool} {i : Nat} (h : listed.getD i true = false) : listed.getD i false = false := getD_both h

theorem ready_pred {listed : Array Bool} {j i : Nat} (hr : j ∈ Region.ready .any ops listed ∨ (Closed ops listed ∧ listed.getD j false = true)) (hw : Region.waitsFor .any ops j i = true) : listed.getD i false = true := by
  obtain ⟨oj, hoj, e, he, hb, rfl⟩ := Region.waitsFor_spec hw
  rcases hr with hr | ⟨hc, hl⟩
  · obtain ⟨_, oj', hoj', hall⟩ := mem_ready.1 hr
    rw [hoj] at hoj'; cases hoj'
    have := hall e he hb
    exact this
  · exact hc j oj hoj hl e he hb

theorem tail_all {listed : Array Bool} {n j i : Nat} (ht : tailB ops n = true) (hc : Closed ops listed) (hj : n ≤ j) (hr : j ∈ Region.ready .any ops listed) (hi : i < n) : listed.getD i false = true := by
  obtain ⟨_, oj, hoj, _⟩ := mem_ready.1 hr
  have hjs : j < ops.size := (Array.getElem?_eq_some_iff.1 hoj).1
  simp only [tailB, Bool.or_eq_true, decide_eq_true_eq, Bool.and_eq_true] at ht
  rcases ht with ht | ⟨hs, hch⟩
  · omega
  -- n itself is listed or ready
  have hn : ∀ d, n + d ≤ j → (j ∈ Region.ready .any ops listed ∧ n + d = j) ∨ listed.getD (n + d) false = true := by
    intro d hd
    obtain ⟨m, hm⟩ : ∃ m, j = n + d + m := ⟨j - (n + d), by omega⟩
    induction m generalizing d with
    | zero => exact .inl ⟨hr, by omega⟩
    | succ m ih =>
      have h1 := ih (d + 1) (by omega) (by omega)
      have hw : Region.waitsFor .any ops (n + (d + 1)) (n + d) = true := by
        have := List.all_eq_true.1 hch (n + (d + 1)) (List.mem_range.2 (by omega))
        simp only [Bool.or_eq_true, decide_eq_true_eq] at this
        rcases this with h | h
        · omega
        · rwa [show n + (d + 1) - 1 = n + d by omega] at h
      right
      rcases h1 with ⟨h, e⟩ | h
      · exact ready_pred (.inl (by rw [e]; exact h)) hw
      · exact ready_pred (.inr ⟨hc, h⟩) hw
  have key : ∀ d i, i + d + 1 = n → listed.getD i false = true := by
    intro d
    induction d using Nat.strongRecOn with
    | _ d ih =>
      intro i hi
      have := List.all_eq_true.1 hs i (List.mem_range.2 (by omega))
      obtain ⟨k, hk, hkw⟩ := List.any_eq_true.1 this
      simp only [List.mem_range, Bool.and_eq_true, decide_eq_true_eq] at hk hkw
      by_cases hkn : k = n
      · subst hkn
        rcases hn 0 (by omega) with ⟨h, e⟩ | h
        · exact ready_pred (.inl (by rw [show k = j by omega]; exact h)) hkw.2
        · exact ready_pred (.inr ⟨hc, h⟩) hkw.2
      · exact ready_pred (.inr ⟨hc, ih (n - k - 1) (by omega) k (by omega)⟩) hkw.2
  exact key (n - i - 1) i (by omega)

/-- An operation waits for another, by edges. -/
inductive Waits (ops : Array Oper) : Nat → Nat → Prop
  | one {j : Nat} {o : Oper} {e : Edge} : ops[j]? = some o → e ∈ o.after → Region.binds .any e = true → Waits ops j e.on
  | step {j i : Nat} {o : Oper} {e : Edge} : ops[j]? = some o → e ∈ o.after → Region.binds .any e = true → Waits ops e.on i → Waits ops j i
theorem Waits.listed {listed : Array Bool} (hc : Closed ops listed) {j i : Nat} (h : Waits ops j i) : (j ∈ Region.ready .any ops listed ∨ listed.getD j false = true) → listed.getD i false = true := by
  have step : ∀ {j : Nat} {o : Oper} {e : Edge}, ops[j]? = some o → e ∈ o.after → Region.binds .any e = true → (j ∈ Region.ready .any ops listed ∨ listed.getD j false = true) → listed.getD e.on false = true := by
    intro j o e ho he hb h
    rcases h with h | h
    · obtain ⟨_, o', ho', hall⟩ := mem_ready.1 h
      rw [ho] at ho'; cases ho'
      exact hall e he hb
    · exact hc j o ho h e he hb
  induction h with
  | one ho he hb => exact step ho he hb
  | step ho he hb _ ih => exact fun h => ih (.inr (step ho he hb h))

/-- The operations that each of the first k waits for. -/
def ancOf (ops : Array Oper) : Nat → List (List Nat)
  | 0 => []
  | k + 1 => ancOf ops k ++ [match ops[k]? with
    | some o => ((o.after.toList.filter fun e => Region.binds .any e).flatMap fun e => e.on :: (ancOf ops k).getD e.on []).eraseDups
    | none => []]
theorem ancOf_length : ∀ k, (ancOf ops k).length = k
  | 0 => rfl
  | k + 1 => by simp [ancOf, ancOf_length k]
theorem ancOf_waits : ∀ (k j i : Nat), i ∈ (ancOf ops k).getD j [] → Waits ops j i
  | 0, j, i, h => by simp [ancOf] at h
  | k + 1, j, i, h => by
    simp only [ancOf] at h
    rcases Nat.lt_trichotomy j k with hj | hj | hj
    · rw [List.getD_eq_getElem?_getD, List.getElem?_append_left (by rw [ancOf_length]; exact hj), ← List.getD_eq_getElem?_getD] at h
      exact ancOf_waits k j i h
    · subst hj
      rw [List.getD_eq_getElem?_getD, List.getElem?_append_right (by rw [ancOf_length]; exact Nat.le_refl _), ancOf_length, Nat.sub_self] at h
      simp only [List.getElem?_cons_zero, Option.getD_some] at h
      split at h
      · rename_i o ho
        rw [List.mem_eraseDups, List.mem_flatMap] at h
        obtain ⟨e, he, hi⟩ := h
        obtain ⟨he, hb⟩ := List.mem_filter.1 he
        rcases List.mem_cons.1 hi with rfl | hi
        · exact .one ho (by simpa using he) hb
        · exact .step ho (by simpa using he) hb (ancOf_waits j e.on i hi)
      · cases h
    · rw [List.getD_eq_getElem?_getD, List.getElem?_append_right (by rw [ancOf_length]; omega), ancOf_length] at h
      have : j - k = (j - k - 1) + 1 := by omega
      rw [this] at h
      simp at h

/-- Whatever order is picked from here on; behind operation i below n T i holds of the worlds ahead of it and behind it. -/
def wpAnyG (P : Program) (ops : Array Oper) (Q : Act → World → Prop) (T : Nat → World → World → Prop) (n : Nat) : Nat → Array Bool → Act → World → Prop
  | 0, listed, a, w => Region.ready .any ops listed = [] ∧ Q a w
  | fuel + 1, listed, a, w =>
    (Region.ready .any ops listed = [] → Q a w) ∧
    ∀ i ∈ Region.ready .any ops listed, wpOpR P ops i (fun a' w' => (i < n → T i w w') ∧ wpAnyG P ops Q T n fuel (listed.setIfInBounds i true) a' w') a w

theorem wpAnyG_sound {Qn : Act → World → Prop} {T : Nat → World → World → Prop} {n : Nat} : ∀ (fuel t : Nat) (listed : Array Bool) (a : Act) (w : World), wpAnyG P ops Qn T n fuel listed a w →
    wpOpsR P ops Qn (Region.linearise.go .any ops fuel t listed []) a w := by
  intro fuel
  induction fuel with
  | zero => intro t listed a w h; simpa [Region.linearise.go, wpOpsR] using h.2
  | succ fuel ih =>
    intro t listed a w h
    obtain ⟨h₀, h₁⟩ := h
    simp only [Region.linearise.go]
    change wpOpsR P ops Qn (match (Region.ready .any ops listed)[t % (Region.ready .any ops listed).length]? with
      | some i => Region.linearise.go .any ops fuel (t / (Region.ready .any ops listed).length) (listed.setIfInBounds i true) [i]
      | none => [].reverse) a w
    cases hi : (Region.ready .any ops listed)[t % (Region.ready .any ops listed).length]? with
    | none =>
      have hnil : Region.ready .any ops listed = [] := by
        cases hr : Region.ready .any ops listed with
        | nil => rfl
        | cons x xs =>
          rw [hr] at hi
          have hlt : t % (x :: xs).length < (x :: xs).length := Nat.mod_lt _ (by simp)
          simp at hi
          simp at hlt
          omega
      simpa [wpOpsR] using h₀ hnil
    | some i =>
      simp only []
      rw [linearise_go_acc, List.reverse_singleton, List.singleton_append]
      exact wpOpR_mono (fun a w h => ih _ _ a w h.2) (h₁ i (List.mem_of_getElem? hi))

theorem closed_set {listed : Array Bool} {i : Nat} (hc : Closed ops listed) (hr : i ∈ Region.ready .any ops listed) : Closed ops (listed.setIfInBounds i true) := by
  obtain ⟨_, oi, hoi, hall⟩ := mem_ready.1 hr
  have keep : ∀ k, listed.getD k false = true → (listed.setIfInBounds i true).getD k false = true := fun k hk => by
    by_cases e : i = k
    · subst e
      rcases Nat.lt_or_ge i listed.size with h | h
      · simp [h]
      · simp [Array.getElem?_eq_none h] at hk
    · rw [getD_set_ne false e]; exact hk
  intro j oj hoj hj e he hb
  by_cases eji : i = j
  · subst eji
    rw [hoi] at hoj; cases hoj
    exact keep _ (hall e he hb)
  · rw [getD_set_ne false eji] at hj
    exact keep _ (hc j oj hoj hj e he hb)

theorem yieldsIf_wpOpR {S : World → Prop} {i : Nat} {o : Oper} {v : Value} {a : Act} (hi : ops[i]? = some o) (hy : YieldsIf P ops S o v a) {K : Act → World → Prop} {w : World} (hS : S w) (h : K (a.put o.dst v) w) : wpOpR P ops i K a w := by
  unfold wpOpR
  simp only [hi]
  rcases hy with ⟨hw, hv⟩ | ⟨hw, rfl⟩
  · simp only [hw, if_true, hv w hS]; exact h
  · simp only [hw, Bool.false_eq_true, if_false]; exact h

theorem wpOpR_putIf {S : World → Prop} {j : Nat} {oi oj : Oper} {v : Value} (hj : ops[j]? = some oj) (hap : oi.apart ops oj = true)
    (hsi : ∀ cs b, oi.op ≠ .select cs b) (hsj : ∀ cs b, oj.op ≠ .select cs b) {K : Act → World → Prop} {a : Act} {w : World}
    (hy : YieldsIf P ops S oi v a) (h : wpOpR P ops j K (a.put oi.dst v) w) :
    wpOpR P ops j (fun a' w' => YieldsIf P ops S oi v a' ∧ K (a'.put oi.dst v) w') a w := by
  obtain ⟨h1, h2, h3⟩ := Oper.apart_spec hap
  have keep : ∀ (a : Act), YieldsIf P ops S oi v a → ∀ u, YieldsIf P ops S oi v (a.put oj.dst u) := fun a hy u =>
    hy.of_same (execOp_put oi hsi a oj.dst u h3) (wanted_put oi a oj.dst u h3)
  unfold wpOpR at *
  simp only [hj] at *
  rw [wanted_put oj a oi.dst v h1] at h
  split
  · rename_i hw
    simp only [hw, if_true] at h
    rw [execOp_put oj hsj a oi.dst v h1] at h
    exact h.mono fun u w'' he => ⟨keep a hy u, by rw [← Act.put_comm a v u h2]; exact he⟩
  · rename_i hw
    simp only [hw] at h
    exact ⟨keep a hy _, by rw [← Act.put_comm a v undef h2]; exact h⟩

theorem wpAnyG_first {Qn : Act → World → Prop} {T : Nat → World → World → Prop} {C : World → Prop} {n : Nat} (ht : tailB ops n = true) {i : Nat} {oi : Oper} {v : Value} (hi : ops[i]? = some oi) (hin : i < n) (hsel : ∀ (j : Nat) (o : Oper) cs b, ops[j]? = some o → o.op ≠ .select cs b)
    (hself : ∀ w, T i w w) (hT : ∀ j w w', j < n → ¬ Waits ops j i → C w → T j w w' → C w') :
    ∀ (fuel : Nat) (listed : Array Bool) (a : Act) (w : World), Closed ops listed →
      (∀ j oj, ops[j]? = some oj → j ≠ i → listed.getD j true = false → (∀ e ∈ oj.after, Region.binds .any e = true → e.on ≠ i) → oi.apart ops oj = true) →
      i ∈ Region.ready .any ops listed → YieldsIf P ops C oi v a → C w →
      wpAnyG P ops Qn T n fuel (listed.setIfInBounds i true) (a.put oi.dst v) w → wpAnyG P ops Qn T n (fuel + 1) listed a w := by
  intro fuel
  induction fuel with
  | zero =>
    intro listed a w _ _ hr hy hS H
    refine ⟨fun h => (by rw [h] at hr; cases hr), fun j hj => ?_⟩
    by_cases hji : j = i
    · subst hji; exact yieldsIf_wpOpR hi hy hS ⟨fun _ => hself w, H⟩
    · have := ready_mono hj hji
      rw [H.1] at this; cases this
  | succ fuel ih =>
    intro listed a w hcl hfree hr hy hS H
    refine ⟨fun h => (by rw [h] at hr; cases hr), fun j hj => ?_⟩
    by_cases hji : j = i
    · subst hji; exact yieldsIf_wpOpR hi hy hS ⟨fun _ => hself w, H⟩
    · have h1 := H.2 j (ready_mono hj hji)
      obtain ⟨hjun, oj, hoj, hall⟩ := mem_ready.1 hj
      have hiun := (mem_ready.1 hr).1
      have hjn : j < n := by
        rcases Nat.lt_or_ge j n with h | h
        · exact h
        · have := tail_all ht hcl h hj hin
          rw [getD_ft hiun] at this; cases this
      have hnw : ¬ Waits ops j i := fun hw => by
        have := hw.listed hcl (.inl hj)
        rw [getD_ft hiun] at this; cases this
      have hnot : ∀ e ∈ oj.after, Region.binds .any e = true → e.on ≠ i := fun e he hb heq => by
        have h1 := hall e he hb
        rw [heq] at h1
        rw [getD_ft hiun] at h1; cases h1
      have h2 := wpOpR_putIf hoj (hfree j oj hoj hji hjun hnot) (fun cs b => hsel i oi cs b hi) (fun cs b => hsel j oj cs b hoj) hy h1
      have hfree' : ∀ k ok, ops[k]? = some ok → k ≠ i → (listed.setIfInBounds j true).getD k true = false →
          (∀ e ∈ ok.after, Region.binds .any e = true → e.on ≠ i) → oi.apart ops ok = true := fun k ok hk hki hun hno => by
        refine hfree k ok hk hki ?_ hno
        by_cases hjk : j = k
        · subst hjk; exact hjun
        · rw [getD_set_ne true hjk] at hun; exact hun
      refine wpOpR_mono (fun a' w' h3 => ⟨fun _ => h3.2.1 hjn, ih (listed.setIfInBounds j true) a' w' (closed_set hcl hj) hfree' (ready_mono hr (Ne.symm hji)) h3.1 (hT j w w' hjn hnw hS (h3.2.1 hjn)) ?_⟩) h2
      rw [Array.setIfInBounds_comm _ _ hji]
      exact h3.2.2

end
end Go.Vc

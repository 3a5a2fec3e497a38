/- The theorem on code; a function's contract from its code. -/
import Derived.Test.YtaplfpelnmabpaaVcW
namespace Go.Vc
open Go.RowKit
set_option linter.unusedSimpArgs false
set_option linter.unusedVariables false

section
variable {P : Program} {w0 w : World} {F : HP} {n0 N : Nat} {ρ0 ρ : Nat → Nat} {D : List Deferred} {fr : List (Nat × SV)} {hp : List Blk} {a : Act} {ops : Array Oper} {Q : Exit → Act → World → Prop}

theorem PostK.mono {K K' : Exit → List (Nat × SV) → List Blk → Prop} (h : ∀ e fr hp, K e fr hp → K' e fr hp) : ∀ e a w, PostK w0 F n0 ρ0 N D K e a w → PostK w0 F n0 ρ0 N D K' e a w :=
  fun _ _ _ ⟨fr, hp, hk, r⟩ => ⟨fr, hp, h _ _ _ hk, r⟩

theorem PostK.ext {F' : HP} {D' : List Deferred} (hx : ExtM F D F' D') {K : Exit → List (Nat × SV) → List Blk → Prop} {e : Exit} : PostK w0 F' n0 ρ0 N D' K e a w → PostK w0 F n0 ρ0 N D K e a w :=
  fun ⟨fr, hp, hk, ⟨F2, D2, h2, g⟩, r⟩ => ⟨fr, hp, hk, ⟨F2, D2, hx.trans h2, g⟩, r⟩

theorem reg_sound {id : Nat} (r : Option Nat) (hok : ∀ o ∈ ops.toList, okOp ops N o = true) {K : Exit → List (Nat × SV) → List Blk → Prop} (g : Good w0 F n0 ρ0 N D fr hp a w) (h : vops P (ops.toList.map (mkOp ops)) fr hp (K .normal)) :
    (Code.region id ops false).wpIn (wideR r) 0 P (PostK w0 F n0 ρ0 N D K) a w := by
  refine wpIn_region (wpOpsR_in r (fun i o ho => (mkOp_slim (hok o (by simpa using Array.mem_of_getElem? ho))).2) _ a w ?_)
  have := vops_sound (w0 := w0) (F := F) (n0 := n0) (ρ0 := ρ0) (N := N) (D := D) (Qn := PostK w0 F n0 ρ0 N D K .normal) (ops := ops) (fun fr hp a w g hk => ⟨fr, hp, hk, ⟨F, D, ExtM.refl F D, g⟩, by simp, by simp⟩) ops.toList (ops.toList.map (mkOp ops)) 0 fr hp a w (by simp) (slimL_map _ hok) g h
  rw [List.range_eq_range']
  simpa using this

theorem vdops_any (S : List Blk) (fz fz' : Nat → List Nat) {K : List (Nat × SV) → List Blk → Prop} : ∀ (p : List (Tag × Nat)) (fr : List (Nat × SV)) (hp : List Blk), vdops P S (fun _ => []) (mkD ops fz p) fr hp K = vdops P S (fun _ => []) (mkD ops fz' p) fr hp K
  | [], fr, hp => rfl
  | (t, i) :: p, fr, hp => by
    unfold mkD
    cases ho : ops[i]? with
    | none => rfl
    | some o =>
      have ih := vdops_any S fz fz' (K := K) p
      cases t <;> simp only [vdops, wipeF_none, ih]

theorem dreg_sound {id : Nat} (hm : P.follows .mixedOrders = true) (r : Option Nat) (mask : Nat → List Nat) (hok : ∀ o ∈ ops.toList, okOp ops N o = true) (hns : Region.noSelect ops = true) (ht : tailB ops (tailOf ops) = true)
    (hpl : planB ops (tailOf ops) (Array.replicate ops.size false) (planOf ops) = true) (hlen : (planOf ops).length = ops.size) {K : Exit → List (Nat × SV) → List Blk → Prop} (g : Good w0 F n0 ρ0 N D fr hp a w)
    (h : vdops P hp mask (mkD ops (freesOf ops (heldOf (planOf ops))) (planOf ops)) fr hp (K .normal)) : (Code.region id ops true).wpIn (wideR r) 0 P (PostK w0 F n0 ρ0 N D K) a w := by
  obtain ⟨ρ, hag, hn0, rl⟩ := g
  refine wpIn_region_draw fun t => wpOpsR_in r (fun i o ho => (mkOp_slim (hok o (by simpa using Array.mem_of_getElem? ho))).2) _ a _ ?_
  simp only [Region.schedule, hm, Bool.true_or, if_true]
  obtain ⟨e1, e2⟩ := mkD_plan (ops := ops) (freesOf ops (heldOf (planOf ops))) (planOf ops) (planB_lt _ _ hpl)
  have rl' : Rel w0 F ρ N D fr hp a { w with drawn := w.drawn + 1 } := ⟨rl.toRel0, rl.size, rl.dfs, rl.sat.drew⟩
  have := vdops_sound (P := P) (w0 := w0) (F := F) (n0 := n0) (ρ0 := ρ0) (N := N) (D := D) (Qn := PostK w0 F n0 ρ0 N D K .normal) ht hns (fun fr hp a w g hk => ⟨fr, hp, hk, ⟨F, D, ExtM.refl F D, g⟩, by simp, by simp⟩) ρ hp mask (heldOf (planOf ops))
    rl.sh (mkD ops (freesOf ops (heldOf (planOf ops))) (planOf ops)) (Array.replicate ops.size false) fr hp ρ a { w with drawn := w.drawn + 1 } (by rw [e1]; exact hpl) (mkD_slim hok _ _) (mkD_held _ _)
    (fun j oj _ hj => by rw [getD_replicate_false] at hj; cases hj) hag hn0 (fun _ _ => rfl) (Nat.le_refl _) (fun d _ _ => agree_sat _ hp 0 F (agree_wipe _ hp) rl'.sat) rl' h
  rw [e2, hlen] at this
  exact wpAnyG_sound ops.size t _ a _ this

theorem stepR_scope {b : Frame} {k : List Item} {cs : List Frame} {c : Code} :
    step P (lone (b.atR a (.code (.scope c) :: k)) cs w) = .next (lone (b.atR a (.code c :: .inScope c :: k)) cs w) :=
  step_lone_go (by simp [stepG, stepG.exec, Frame.atR])

theorem stepR_inScope {b : Frame} {k : List Item} {cs : List Frame} {c : Code} :
    step P (lone (b.atR a (.inScope c :: k)) cs w) = .next (lone (b.atR a k) cs w) :=
  step_lone_go (by simp [stepG, stepG.exec, Frame.atR])

theorem wpIn_scope {Fn : Fence} {n : Nat} {c : Code} (hg : ∀ l a w, ¬ Q (.goto l) a w) (h : c.wpIn Fn n P Q a w) : (Code.scope c).wpIn Fn n P Q a w := by
  intro b k cs hro hb hr
  have h0 : (lone (b.atR a (.code (.scope c) :: k)) cs w).fenced P Fn := fenced_calm hb hr rfl
  obtain ⟨e, a₁, w₁, hq, harr⟩ := h b (.inScope c :: k) cs hro hb hr
  cases e with
  | normal => exact ⟨.normal, a₁, w₁, hq, .head h0 stepR_scope (StepsIn.trans harr (.one (fenced_calm hb hr rfl) stepR_inScope))⟩
  | exit id =>
    have hx : exitTo id (.inScope c :: k) = exitTo id k := by simp [exitTo]
    exact ⟨_, a₁, w₁, hq, fun k' hk => .head h0 stepR_scope (harr.1 k' (by rw [hx]; exact hk)), fun hr' hk => let ⟨k₁, h1, h2⟩ := harr.2 hr' (by rw [hx]; exact hk); ⟨k₁, h1, .head h0 stepR_scope h2⟩⟩
  | goto l => exact absurd hq (hg l a₁ w₁)
  | ret => exact ⟨_, a₁, w₁, hq, .of_steps (.one h0 stepR_scope) harr⟩
  | panic ch => exact ⟨_, a₁, w₁, hq, .of_steps (.one h0 stepR_scope) harr⟩
  | outgrown => exact ⟨_, a₁, w₁, hq, .of_steps (b := b) (k := k) (cs := cs) (e := .outgrown) (.one h0 stepR_scope) harr⟩

theorem least {p : Nat → Prop} (h : ∃ k, p k) : ∃ k, p k ∧ ∀ j, p j → k ≤ j := by
  obtain ⟨k, hk⟩ := h
  induction k using Nat.strongRecOn with
  | _ k ih =>
    by_cases h : ∃ j, j < k ∧ p j
    · obtain ⟨j, hj, hp⟩ := h; exact ih j hj hp
    · exact ⟨k, hk, fun j hj => by
        rcases Nat.lt_or_ge j k with h' | h'
        · exact absurd ⟨j, h', hj⟩ h
        · exact h'⟩

/-- A loop whose measure stands on a ghost. -/
theorem wpIn_loop_ghost {Fn : Fence} {n : Nat} {σ : Type} {c : Code} (I : σ → Act → World → Prop) (μ : σ → Nat) (s0 : σ) (h0 : I s0 a w)
    (round : ∀ s a w, I s a w → c.wpIn Fn n P (Exit.then (fun a' w' => ∃ s', I s' a' w' ∧ μ s' < μ s) Q) a w) : (Code.loop c).wpIn Fn n P Q a w := by
  classical
  let m : Act → World → Nat := fun a w => if h : ∃ k, ∃ s, μ s = k ∧ I s a w then Classical.choose (least h) else 0
  have hm : ∀ a w s, I s a w → (∃ s', μ s' = m a w ∧ I s' a w) ∧ m a w ≤ μ s := fun a w s hI => by
    have hex : ∃ k, ∃ s, μ s = k ∧ I s a w := ⟨_, s, rfl, hI⟩
    have hch := Classical.choose_spec (least hex)
    have e : m a w = Classical.choose (least hex) := by simp only [m, dif_pos hex]
    rw [e]
    exact ⟨hch.1, hch.2 _ ⟨s, rfl, hI⟩⟩
  refine wpIn_loop (fun a w => ∃ s, I s a w) m ⟨s0, h0⟩ fun a w ⟨s, hI⟩ => ?_
  obtain ⟨⟨s', hs', hI'⟩, _⟩ := hm a w s hI
  refine wpIn_mono (round s' a w hI') fun e a' w' hq => ?_
  cases e <;> first | exact hq | skip
  obtain ⟨s2, hI2, hlt⟩ := hq
  refine ⟨⟨s2, hI2⟩, ?_⟩
  have := (hm a' w' s2 hI2).2
  omega

theorem vc_sound (hm : P.follows .mixedOrders = true) : ∀ (c : Code), ok N c = true → ∀ (r : Option Nat), (r = none ∨ flatC c = true) → ∀ (n0 : Nat) (w0 : World) (F : HP) (ρ0 : Nat → Nat) (D : List Deferred) (fr : List (Nat × SV)) (hp : List Blk) (K : Exit → List (Nat × SV) → List Blk → Prop) (a : Act) (w : World),
    vc P n0 (mk c) fr hp K → Good w0 F n0 ρ0 N D fr hp a w → c.wpIn (wideR r) 0 P (PostK w0 F n0 ρ0 N D K) a w := by
  intro c
  induction c with
  | skip => exact fun _ r _ n0 w0 F ρ0 D fr hp K a w h g => wpIn_skip ⟨fr, hp, h, ⟨F, D, ExtM.refl F D, g⟩, by simp, by simp⟩
  | label l => exact fun _ r _ n0 w0 F ρ0 D fr hp K a w h g => wpIn_label ⟨fr, hp, h, ⟨F, D, ExtM.refl F D, g⟩, by simp, by simp⟩
  | region id ops draw =>
    intro hok r _ n0 w0 F ρ0 D fr hp K a w h g
    cases draw with
    | false =>
      simp only [ok] at hok
      exact reg_sound r (List.all_eq_true.1 hok) g h
    | true =>
      simp only [ok, Bool.and_eq_true, beq_iff_eq] at hok
      obtain ⟨⟨⟨⟨h1, h2⟩, h3⟩, h4⟩, h5⟩ := hok
      simp only [mk, mkR] at h
      cases hmk : asksOf ops (planOf ops) with
      | false =>
        rw [hmk] at h
        simp only [cond, vc] at h
        rw [vdops_any _ _ (freesOf ops (heldOf (planOf ops)))] at h
        exact dreg_sound hm r (fun _ => []) (List.all_eq_true.1 h1) h2 h3 h4 h5 g h
      | true =>
        rw [hmk] at h
        obtain ⟨mask, h⟩ := h
        exact dreg_sound hm r mask (List.all_eq_true.1 h1) h2 h3 h4 h5 g h
  | seq x y ihx ihy =>
    intro hok r hr n0 w0 F ρ0 D fr hp K a w h g
    simp only [ok, Bool.and_eq_true] at hok
    have hr2 : (r = none ∨ flatC x = true) ∧ (r = none ∨ flatC y = true) := by
      simp only [flatC, Bool.and_eq_true] at hr
      rcases hr with h | h
      · exact ⟨.inl h, .inl h⟩
      · exact ⟨.inr h.1, .inr h.2⟩
    refine wpIn_seq (wpIn_mono (ihx hok.1 r hr2.1 n0 w0 F ρ0 D fr hp _ a w h g) fun e a' w' ⟨fr', hp', hk, ⟨F', D', hx, g'⟩, h1, h2⟩ => ?_)
    cases e <;> first
      | exact wpIn_mono (ihy hok.2 r hr2.2 n0 w0 F' ρ0 D' fr' hp' K a' w' hk g') fun e a w h => PostK.ext hx h
      | exact ⟨fr', hp', hk, ⟨F', D', hx, g'⟩, h1, h2⟩
  | cond c x y ihx ihy =>
    intro hok r hr n0 w0 F ρ0 D fr hp K a w h g
    simp only [ok, Bool.and_eq_true] at hok
    have hr2 : (r = none ∨ flatC x = true) ∧ (r = none ∨ flatC y = true) := by
      simp only [flatC, Bool.and_eq_true] at hr
      rcases hr with h | h
      · exact ⟨.inl h, .inl h⟩
      · exact ⟨.inr h.1, .inr h.2⟩
    simp only [mk, vc] at h
    split at h
    · rename_i b hb
      obtain ⟨ρ, hag, hn0, rl⟩ := g
      refine wpIn_cond_split (t := b) (by rw [ev_eval rl.hfr hb]; rfl) (fun e => ihx hok.1 r hr2.1 n0 w0 F ρ0 D fr hp K a w (h.1 e) ⟨ρ, hag, hn0, rl⟩) (fun e => ihy hok.2 r hr2.2 n0 w0 F ρ0 D fr hp K a w (h.2 e) ⟨ρ, hag, hn0, rl⟩)
    · exact h.elim
  | block id b ih =>
    intro hok r hr n0 w0 F ρ0 D fr hp K a w h g
    refine wpIn_block (wpIn_mono (ih hok r (by simpa [flatC] using hr) n0 w0 F ρ0 D fr hp _ a w h g) fun e a' w' ⟨fr', hp', hk, g', h1, h2⟩ => ?_)
    cases e with
    | exit j =>
      simp only [blkK] at hk
      simp only [Exit.inBlock]
      split
      · rename_i e; rw [if_pos e] at hk; exact ⟨fr', hp', hk, g', by simp, by simp⟩
      · rename_i e; rw [if_neg e] at hk; exact ⟨fr', hp', hk, g', by simp, by simp⟩
    | _ => exact ⟨fr', hp', hk, g', h1, h2⟩
  | loop b ih =>
    intro hok r hr n0 w0 F ρ0 D fr hp K a w h g
    simp only [mk, vc] at h
    obtain ⟨σ, I, μ, ⟨s0, hle⟩, hrn⟩ := h
    refine wpIn_loop_ghost (fun s a w => ∃ F' D', ExtM F D F' D' ∧ Good w0 F' n0 ρ0 N D' (I s).1 (I s).2 a w) μ s0 ⟨F, D, ExtM.refl F D, g.le' hle⟩ fun s a w ⟨F', D', hx, g⟩ => ?_
    refine wpIn_mono (ih hok r (by simpa [flatC] using hr) n0 w0 F' ρ0 D' _ _ _ a w (hrn s) g) fun e a' w' ⟨fr', hp', hk, ⟨F2, D2, hx2, g'⟩, h1, h2⟩ => ?_
    cases e with
    | normal =>
      obtain ⟨s', hle', hlt⟩ := hk
      exact ⟨s', ⟨F2, D2, hx.trans hx2, g'.le' hle'⟩, hlt⟩
    | _ => exact ⟨fr', hp', hk, ⟨F2, D2, hx.trans hx2, g'⟩, h1, h2⟩
  | exit id => exact fun _ r _ n0 w0 F ρ0 D fr hp K a w h g => wpIn_exit ⟨fr, hp, h, ⟨F, D, ExtM.refl F D, g⟩, by simp, by simp⟩
  | scope b ih =>
    intro hok r hr n0 w0 F ρ0 D fr hp K a w h g
    refine wpIn_mono (wpIn_scope (fun l a w ⟨_, _, h, _⟩ => h) (ih hok r (by simpa [flatC] using hr) n0 w0 F ρ0 D fr hp _ a w h g)) fun e a' w' ⟨fr', hp', hk, g', h1, h2⟩ => ?_
    cases e <;> first | exact ⟨fr', hp', hk, g', h1, h2⟩ | exact hk.elim
  | ret => exact fun _ r _ n0 w0 F ρ0 D fr hp K a w h g => wpIn_ret ⟨fr, hp, h, ⟨F, D, ExtM.refl F D, g⟩, by simp, by simp⟩
  | rangeFunc f ps as b iha ihb =>
    intro hok r hr n0 w0 F ρ0 D fr hp K a w h g
    simp only [ok, Bool.and_eq_true, List.all_eq_true, decide_eq_true_eq] at hok
    obtain ⟨⟨⟨⟨ha, hb⟩, fa⟩, fb⟩, hps⟩ := hok
    obtain rfl : r = none := hr.resolve_right (by simp [flatC])
    exact range_sound (fun m l w0 F ρ0 D fr hp K a w => iha ha (some l) (.inr fa) m w0 F ρ0 D fr hp K a w) (fun m l w0 F ρ0 D fr hp K a w => ihb hb (some l) (.inr fb) m w0 F ρ0 D fr hp K a w) hps h g
  | goto l => exact fun _ r _ n0 w0 F ρ0 D fr hp K a w h g => h w0 F ρ0 N D r a w g
  | refuse s => exact fun _ r _ n0 w0 F ρ0 D fr hp K a w h g => h w0 F ρ0 N D r a w g

/-! ### A function's contract -/

/-- The results read off the frame. -/
def resV (P : Program) (fr : List (Nat × SV)) (hp : List Blk) : List ResultVar → (List SV → Prop) → Prop
  | [], K => K []
  | .tmp t :: r, K => match look t fr with
    | some s => resV P fr hp r fun l => K (s :: l)
    | none => False
  | .cell t ty :: r, K => match look t fr with
    | some (.ptr n off) => match isAggT P ty with
      | some true => need (rdN hp n off (P.cellsOf ty)) fun l => resV P fr hp r fun k => K (.agg l :: k)
      | some false => need (rd1 hp n off) fun s => resV P fr hp r fun k => K (s :: k)
      | none => False
    | _ => False

def tupV : List SV → SV
  | [s] => s
  | l => .tup l

def retK (P : Program) (rs : List ResultVar) (K : SV → List Blk → Prop) : Exit → List (Nat × SV) → List Blk → Prop
  | .normal, fr, hp => resV P fr hp rs fun l => K (tupV l) hp
  | .ret, fr, hp => resV P fr hp rs fun l => K (tupV l) hp
  | _, _, _ => False

def resOf (tmps : Array Value) : ResultVar → Sem Value
  | .tmp t => pure (tmps.getD t undef)
  | .cell x t => do loadVar t (← asAddr (tmps.getD x undef))

theorem results_eq (fn : Func) (tmps : Array Value) : results fn tmps = (do
    let vs ← fn.results.mapM (resOf tmps)
    pure (if h : vs.size = 1 then vs[0] else .tuple vs)) := by
  unfold results
  congr 1

theorem resV_sound (s : Sat w0 (star F (hpP ρ 0 hp)) w) (r0 : Rel0 ρ fr hp a) : ∀ {rs : List ResultVar} {K : List SV → Prop}, resV P fr hp rs K →
    ∃ l, K l ∧ SV.ltL hp.length l ∧ (rs.mapM (resOf a.tmps)).run P w = .ok (SV.denL ρ l) w
  | [], K, h => ⟨[], h, trivial, by simp [SV.denL]⟩
  | .tmp t :: r, K, h => by
    simp only [resV] at h
    split at h
    · rename_i u hu
      obtain ⟨l, hk, hl, hr⟩ := resV_sound s r0 h
      have e := r0.hfr _ _ hu
      refine ⟨u :: l, hk, ⟨r0.sc _ _ hu, hl⟩, ?_⟩
      rw [List.mapM_cons]
      have e1 : (resOf a.tmps (.tmp t)).run P w = .ok (u.den ρ) w := by simp [resOf, e]
      simp only [Sem.run_bind, e1, hr, Result.andThen_ok, Sem.run_pure, SV.denL]
    · exact h.elim
  | .cell t ty :: r, K, h => by
    simp only [resV] at h
    split at h
    · rename_i n off hu
      have e := r0.hfr _ _ hu
      simp only [SV.den] at e
      split at h
      · rename_i hag
        obtain ⟨u, hu', h⟩ := h
        obtain ⟨d, hd⟩ := und_of_agg hag
        obtain ⟨l, hk, hl, hr⟩ := resV_sound s r0 h
        refine ⟨.agg u :: l, hk, ⟨rdN_lt r0.sh hu', hl⟩, ?_⟩
        rw [List.mapM_cons]
        have e1 : (resOf a.tmps (.cell t ty)).run P w = .ok (.agg (SV.denL ρ u).toArray) w := by simp [resOf, e, asAddr, loadVar, run_isAgg hag, run_size (info_of_und hd), s.rdN hu']
        simp only [Sem.run_bind, e1, hr, Result.andThen_ok, Sem.run_pure, SV.denL, SV.den]
      · rename_i hag
        obtain ⟨u, hu', h⟩ := h
        obtain ⟨l, hk, hl, hr⟩ := resV_sound s r0 h
        refine ⟨u :: l, hk, ⟨rd1_lt r0.sh hu', hl⟩, ?_⟩
        rw [List.mapM_cons]
        have e1 : (resOf a.tmps (.cell t ty)).run P w = .ok (u.den ρ) w := by simp [resOf, e, asAddr, loadVar, run_isAgg hag, s.rd1 hu']
        simp only [Sem.run_bind, e1, hr, Result.andThen_ok, Sem.run_pure, SV.denL]
      · exact h.elim
    · exact h.elim

def argF : Nat → List SV → List (Nat × SV)
  | _, [] => []
  | i, s :: r => (i, s) :: argF (i + 1) r

theorem argF_look : ∀ (i : Nat) (l : List SV) (t : Nat) (s : SV), look t (argF i l) = some s → i ≤ t ∧ l[t - i]? = some s
  | i, [], t, s, h => by simp [argF, look] at h
  | i, x :: r, t, s, h => by
    simp only [argF, look] at h
    split at h
    · rename_i e; subst e; simp at h; subst h; simp
    · rename_i e
      obtain ⟨h1, h2⟩ := argF_look (i + 1) r t s h
      refine ⟨by omega, ?_⟩
      rw [show t - i = (t - (i + 1)) + 1 by omega]; simpa using h2

/-- A function leaves with marks: their blocks are shut. -/
theorem leaves_marks {fn : Func} {tmps : Array Value} {R : Ending → World → Prop} {X : HP} : ∀ (ms : List Nat) (w : World), Sat w0 (star (star F (msP ms)) X) w →
    (∀ w', Sat w0 (star F X) w' → LeavesIn Fence.wide 0 P fn tmps R [] .returning w') → LeavesInM Fence.wide 0 P fn tmps R (marksOf ms) .returning w
  | [], w, s, h => by
    simp only [msP, star_emp] at s
    exact h w s
  | b :: ms, w, s, h => by
    simp only [msP] at s
    rw [star_left_comm F, star_assoc] at s
    obtain ⟨_, hget⟩ := s.pto
    have hlt := (Array.getElem?_eq_some_iff.1 hget).1
    have s2 := (s.put (w' := w.putObj b (.deferred none)) (.deferred none) (fun k hk => World.putObj_heap_other hk) World.putObj_size (World.putObj_heap_same hlt) rfl rfl rfl).right
    exact ⟨by simp, .inl ⟨b, _, rfl, run_takeDeferred hget, leaves_marks ms _ s2 h⟩⟩

/-- **THE CONTRACT OF A FUNCTION FROM ITS CODE.** -/
theorem Ctr.intro (hm : P.follows .mixedOrders = true) {f : FuncId} {fn : Func} {c : Code} {mc : MC} (hf : P.funcs[f]? = some fn) (hb : fn.body = some c) (hcall : ∀ (args : Array Value) (w : World), (callFunc f args).run P w = .ok (.enter f args) w)
    (hok : ok fn.ntmps c = true) (hmk : mk c = mc) {args : List SV} {hp : List Blk} {K : SV → List Blk → Prop} (hle : args.length ≤ fn.ntmps)
    (h : vc P hp.length mc (argF 0 args) hp (retK P fn.results.toList K)) : Ctr P f args hp K := by
  intro w0 F ρ w hsh hargs s
  rw [hcall]
  simp only [Runs]
  subst hmk
  refine callsIn_wide.1 (callsIn_of_wp_marks (F := Fence.wide) (n := 0) hf hb trivial ?_)
  have g : Good w0 F hp.length ρ fn.ntmps [] (argF 0 args) hp { tmps := (SV.denL ρ args).toArray ++ Array.replicate (fn.ntmps - (SV.denL ρ args).toArray.size) undef, defers := [] } w := by
    refine ⟨ρ, fun _ _ => rfl, Nat.le_refl _, ⟨⟨fun t u hu => ?_, fun t u hu => ?_, hsh⟩, by simp [denL_length]; omega, rfl, s⟩⟩
    · obtain ⟨_, h2⟩ := argF_look 0 args t u hu
      have hlt := (List.getElem?_eq_some_iff.1 h2).1
      simp only [Nat.sub_zero] at h2 hlt
      rw [Array.getElem?_append_left (by simp [denL_length]; exact hlt), denL_eq]
      simp [h2]
    · obtain ⟨_, h2⟩ := argF_look 0 args t u hu
      exact (ltL_iff _ _).1 hargs u (List.mem_of_getElem? h2)
  refine wpIn_mono (vc_sound hm c hok none (.inl rfl) _ _ _ _ _ _ _ _ _ _ h g) fun e a' w' ⟨fr', hp', hk, ⟨F', D', ⟨ms, hF', hD'⟩, ρ', hag, hn0, rl⟩, _, _⟩ => ?_
  subst hF'
  have fin : resV P fr' hp' fn.results.toList (fun l => K (tupV l) hp') → LeavesInM Fence.wide 0 P fn a'.tmps (fun e w' => ∃ v, e = Ending.returned v ∧ Aft w0 F ρ hp K v w') a'.defers .returning w' := fun hk => by
    rw [rl.dfs, hD', List.append_nil]
    refine leaves_marks ms w' rl.sat fun w' s' => ?_
    obtain ⟨l, hkl, hl, hr⟩ := resV_sound s' rl.toRel0 hk
    refine ⟨(tupV l).den ρ', ?_, _, rfl, ρ', tupV l, hp', rfl, hag, hn0, ?_, rl.sh, s', hkl⟩
    · rw [results_eq, Array.mapM_eq_mapM_toList]
      simp only [Sem.run_bind, Sem.run_map, hr, Result.andThen_ok, Sem.run_pure]
      congr 1
      match l with
      | [] => simp [tupV, SV.denL, SV.den]
      | [u] => simp [tupV, SV.denL]
      | u :: u' :: r => simp [tupV, SV.denL, SV.den]
    · match l, hl with
      | [], _ => simp [tupV, SV.lt, SV.ltL]
      | [u], hl => exact hl.1
      | u :: u' :: r, hl => simpa [tupV, SV.lt] using hl
  cases e <;> first
    | exact fin hk
    | exact hk.elim

end
end Go.Vc

/- A range over a function: what it asks, and that the model runs it so. -/
import Derived.Test.YtaplfpelnmabpaaVcP
import Derived.RangeFuncLeaves
import Derived.RangeFuncRecord
namespace Go.Vc
open Go.RowKit
set_option linter.unusedSimpArgs false
set_option linter.unusedVariables false

section
variable {P : Program} {w0 w : World} {F : HP} {n0 N : Nat} {ρ0 ρ : Nat → Nat} {D : List Deferred} {fr : List (Nat × SV)} {hp : List Blk} {a : Act}

theorem sat_wipe : ∀ (ks : List Nat) (hp : List Blk), Sat w0 (star F (hpP ρ 0 hp)) w → Sat w0 (star F (hpP ρ 0 (wipe hp ks))) w
  | [], hp, s => s
  | k :: ks, hp, s => by
    refine sat_wipe ks (hp.set k .any) ?_
    cases hk : hp[k]? with
    | none =>
      have : hp.set k .any = hp := by
        apply List.ext_getElem?
        intro j
        rw [List.getElem?_set]
        by_cases e : k = j
        · subst e
          have := List.getElem?_eq_none_iff.1 hk
          rw [if_pos rfl, if_neg (by omega), hk]
        · rw [if_neg e]
      rw [this]; exact s
    | some B =>
      rw [hpP_take ρ 0 hp k B hk, star_comm (B.P ρ _), ← star_assoc] at s
      exact s.left

/-- The caller's heap and the part's, put together. -/
theorem merge_sat {hc : List Blk} {sel : List Nat} {ρ' : Nat → Nat} (hs : Sel sel hp.length) (hlen : sel.length ≤ hc.length) (hsh : ∀ B ∈ hp, B.lt hp.length) (hcl : ∀ B ∈ hc, B.lt hc.length) (hag : ∀ k, k < sel.length → ρ' k = ρ (nm sel hp.length k))
    (s : Sat w0 (star (star F (hpP ρ 0 (wipe hp sel))) (hpP ρ' 0 hc)) w) : ∃ ρ2 : Nat → Nat, (∀ k, k < hp.length → ρ2 k = ρ k) ∧ Sat w0 (star F (hpP ρ2 0 (merge hp sel hc))) w := by
  let ρ2 : Nat → Nat := fun k => if k < hp.length then ρ k else ρ' (sel.length + (k - hp.length))
  have hcomp : ∀ k, ρ2 (nm sel hp.length k) = ρ' k := fun k => by
    by_cases hk' : k < sel.length
    · have := (nm_lt hs hk').1
      simp only [ρ2, this, if_true]
      exact (hag k hk').symm
    · rw [nm_ge (by omega)]
      simp only [ρ2]
      rw [if_neg (by omega)]
      congr 1; omega
  refine ⟨ρ2, fun k hk => by simp only [ρ2, hk, if_true], ?_⟩
  have hsel2 := hpP_sel ρ2 (nm sel hp.length) 0 hc (merge hp sel hc) (fun j B hB => by rw [Nat.zero_add]; exact merge_get hs hlen hB) (fun j k _ _ e => by simpa using nm_inj hs e)
  rw [merge_wipe hs hlen, hpP_append, hpP_anys, star_emp] at hsel2
  have e1 : hpP ρ2 0 (wipe hp sel) = hpP ρ 0 (wipe hp sel) := hpP_congr (n := hp.length) (fun k hk' => by simp only [ρ2, hk', if_true]) 0 _ (by rw [wipe_length]; omega) (wipe_lt sel hsh)
  have e2 : hpP (fun k => ρ2 (nm sel hp.length k)) 0 hc = hpP ρ' 0 hc := by
    rw [show (fun k => ρ2 (nm sel hp.length k)) = ρ' from funext hcomp]
  rw [hsel2, e1, e2, star_comm (hpP ρ' 0 hc), ← star_assoc]
  exact s

theorem Good.noFr (g : Good w0 F n0 ρ0 N D fr hp a w) : Good w0 F n0 ρ0 N D [] hp a w := by
  obtain ⟨ρ, h1, h2, r⟩ := g
  exact ⟨ρ, h1, h2, ⟨⟨fun _ _ h => by simp [look] at h, fun _ _ h => by simp [look] at h, r.sh⟩, r.size, r.dfs, r.sat⟩⟩

theorem Sat.ex {β : Type} {G : β → HP} (s : Sat w0 (star F (fun w h => ∃ x, G x w h)) w) : ∃ x, Sat w0 (star F (G x)) w := by
  obtain ⟨h, ⟨h1, h2, d, e, f, x, g⟩, ho⟩ := s.own
  exact ⟨x, s.below, h, ⟨h1, h2, d, e, f, g⟩, ho⟩

/-! ### The record -/
def recOf (fn : FuncId) (tmps : Array Value) (ps : Array Tmp) (as bd : Code) (d : Nat) (st : LoopState) : Obj :=
  .loop { state := st, pending := none, fn := fn, tmps := tmps, params := ps, assign := as, body := bd, defers := d }

def loopY {α σ : Type} (I : List α → σ → Prop) (T : σ → List Blk) (m : Nat) (ρm : Nat → Nat) (rec : Obj) (xs : List α) (b : Nat) : HP :=
  fun w0 h => ∃ p : { p : σ × (Nat → Nat) // I xs p.1 ∧ (∀ k, k < m → p.2 k = ρm k) ∧ m ≤ (T p.1).length ∧ ∀ B ∈ T p.1, B.lt (T p.1).length }, star (pto b rec) (hpP p.1.2 0 (T p.1.1)) w0 h

section
variable {α σ : Type} {I : List α → σ → Prop} {T : σ → List Blk} {m b : Nat} {ρm : Nat → Nat} {rec : Obj} {xs : List α}
theorem openY (s : Sat w0 (star F (loopY I T m ρm rec xs b)) w) : ∃ st ρ', I xs st ∧ (∀ k, k < m → ρ' k = ρm k) ∧ m ≤ (T st).length ∧ (∀ B ∈ T st, B.lt (T st).length) ∧ Sat w0 (star (star (pto b rec) F) (hpP ρ' 0 (T st))) w := by
  obtain ⟨⟨⟨st, ρ'⟩, h1, h2, h3, h4⟩, s⟩ := Sat.ex s
  refine ⟨st, ρ', h1, h2, h3, h4, ?_⟩
  rw [← star_assoc, star_comm F] at s
  exact s
theorem shutY {st : σ} {ρ' : Nat → Nat} (h1 : I xs st) (h2 : ∀ k, k < m → ρ' k = ρm k) (h3 : m ≤ (T st).length) (h4 : ∀ B ∈ T st, B.lt (T st).length) (s : Sat w0 (star (star (pto b rec) F) (hpP ρ' 0 (T st))) w) : Sat w0 (star F (loopY I T m ρm rec xs b)) w := by
  rw [star_comm (pto b rec), star_assoc] at s
  exact s.mono fun h hh => star_mono (fun _ x => x) (fun h hh => ⟨⟨(st, ρ'), h1, h2, h3, h4⟩, hh⟩) h hh
end

theorem look_putPs {ρ' : Nat → Nat} : ∀ (ps : List Nat) (vs : List SV) (fr : List (Nat × SV)) (tmps : Array Value), vs.length = ps.length → (∀ p ∈ ps, p < tmps.size) → (∀ t s, look t fr = some s → tmps[t]? = some (s.den ρ')) →
    (∀ t s, look t (putPs ps vs fr) = some s → ((ps.zip (SV.denL ρ' vs)).foldl (fun tmps x => tmps.setIfInBounds x.1 x.2) tmps)[t]? = some (s.den ρ'))
  | [], [], fr, tmps, _, _, h => by simpa [putPs, SV.denL] using h
  | p :: ps, v :: vs, fr, tmps, hl, hp, h => by
    simp only [putPs, SV.denL, List.zip_cons_cons, List.foldl_cons]
    refine look_putPs ps vs ((p, v) :: fr) _ (by simpa using hl) (fun q hq => by simpa using hp q (by simp [hq])) fun t s hts => ?_
    simp only [look] at hts
    rw [Array.getElem?_setIfInBounds]
    by_cases e : p = t
    · subst e
      rw [if_pos rfl] at hts
      cases hts
      rw [if_pos rfl, if_pos (hp p (by simp))]
    · rw [if_neg e] at hts
      rw [if_neg e]; exact h t s hts
theorem lt_putPs {n : Nat} : ∀ (ps : List Nat) (vs : List SV) (fr : List (Nat × SV)), SV.ltL n vs → (∀ t s, look t fr = some s → s.lt n) → ∀ t s, look t (putPs ps vs fr) = some s → s.lt n
  | [], vs, fr, _, h => by simpa [putPs] using h
  | p :: ps, [], fr, _, h => by simpa [putPs] using h
  | p :: ps, v :: vs, fr, hv, h => by
    simp only [putPs]
    simp only [SV.ltL] at hv
    refine lt_putPs ps vs _ hv.2 fun t s hts => ?_
    simp only [look] at hts
    split at hts
    · cases hts; exact hv.1
    · exact h t s hts
theorem size_putPs : ∀ (l : List (Nat × Value)) (tmps : Array Value), (l.foldl (fun tmps x => tmps.setIfInBounds x.1 x.2) tmps).size = tmps.size
  | [], _ => rfl
  | x :: l, tmps => by simp [size_putPs l]

/-- A round. -/
theorem round_ctr {α σ : Type} {I : List α → σ → Prop} {T : σ → List Blk} {enc : α → List SV} {m d : Nat} {ρm : Nat → Nat} {fn : FuncId} {tmps : Array Value} {ps : Array Tmp} {as bd : Code} {frC : List (Nat × SV)}
    {VA VB : List (Nat × SV) → List Blk → (Exit → List (Nat × SV) → List Blk → Prop) → Prop}
    (hfr : ∀ t s, look t frC = some s → tmps[t]? = some (s.den ρm)) (hlt : ∀ t s, look t frC = some s → s.lt m) (hN : tmps.size = N) (hps : ∀ p ∈ ps.toList, p < N)
    (hA : ∀ (l : Nat) (w0 : World) (F : HP) (ρ0 : Nat → Nat) (D : List Deferred) (fr : List (Nat × SV)) (hp : List Blk) (K : Exit → List (Nat × SV) → List Blk → Prop) (a : Act) (w : World), VA fr hp K → Good w0 F m ρ0 N D fr hp a w → as.wpIn (wideR (some l)) 0 P (PostK w0 F m ρ0 N D K) a w)
    (hB : ∀ (l : Nat) (w0 : World) (F : HP) (ρ0 : Nat → Nat) (D : List Deferred) (fr : List (Nat × SV)) (hp : List Blk) (K : Exit → List (Nat × SV) → List Blk → Prop) (a : Act) (w : World), VB fr hp K → Good w0 F m ρ0 N D fr hp a w → bd.wpIn (wideR (some l)) 0 P (PostK w0 F m ρ0 N D K) a w)
    (xs : List α) (x : α) (hround : ∀ st, I xs st → VA (putPs ps.toList (enc x) frC) (T st) (seqK (fun fr' hp' => VB fr' hp' (rndK m I T (xs ++ [x]))) failK))
    (henc : ∀ x, (enc x).length = ps.toList.length ∧ SV.ltL 0 (enc x)) :
    YCtr P 0 (enc x) [.res (loopY I T m ρm (recOf fn tmps ps as bd d .ready) xs)] (fun s hp' => s = .v (.bool true) ∧ hp' = [.res (loopY I T m ρm (recOf fn tmps ps as bd d .ready) (xs ++ [x]))]) := by
  intro w0 F ρ w hsh hargs hn s
  simp only [hpP, Blk.P, star_emp] at s
  obtain ⟨st, ρ', hI, hag, hm, hT, s⟩ := openY s
  have hpt := s
  rw [star_assoc] at hpt
  obtain ⟨_, hget⟩ := hpt.pto
  obtain ⟨he1, he2⟩ := henc x
  have hd : SV.denL ρ (enc x) = SV.denL ρ' (enc x) := denL_congr (n := 0) (fun k hk => absurd hk (Nat.not_lt_zero k)) _ he2
  rw [run_yield (by exact hget) (by simp [denL_length, he1])]
  simp only [Runs]
  have hfold : ((ps.zip (SV.denL ρ (enc x)).toArray).foldl (fun tmps (t, a) => tmps.setIfInBounds t a) tmps) = ((ps.toList.zip (SV.denL ρ' (enc x))).foldl (fun tmps x => tmps.setIfInBounds x.1 x.2) tmps) := by
    rw [hd, ← Array.foldl_toList, Array.toList_zip]
  rw [hfold]
  refine roundIn_of_wpIn (F := Fence.wide) (n := 0) trivial ?_
  have g : Good w0 (star (pto (ρ 0) (recOf fn tmps ps as bd d .ready)) F) m ρm N [] (putPs ps.toList (enc x) frC) (T st) { tmps := ((ps.toList.zip (SV.denL ρ' (enc x))).foldl (fun tmps x => tmps.setIfInBounds x.1 x.2) tmps), defers := [] } w := by
    refine ⟨ρ', hag, hm, ⟨⟨look_putPs ps.toList (enc x) frC tmps he1 (fun p hp => by rw [hN]; exact hps p hp) (fun t s hts => by rw [hfr t s hts, den_congr hag s (hlt t s hts)]), lt_putPs _ _ _ (ltL_mono (Nat.zero_le _) _ he2) (fun t s hts => lt_mono hm s (hlt t s hts)), hT⟩, by rw [size_putPs]; exact hN, rfl, s⟩⟩
  refine wpIn_mono (hA (ρ 0) w0 _ ρm [] _ _ _ _ w (hround st hI) g) fun e a1 w1 hq => ?_
  obtain ⟨fr1, hp1, hk, ⟨F1, D1, ⟨ms, hF1, _⟩, g1⟩, _, _⟩ := hq
  cases e with
  | normal =>
    simp only [seqK] at hk
    obtain ⟨ρ1, hag1, hm1, r1⟩ := g1
    subst hF1
    have s1 := r1.sat
    rw [star_assoc, star_assoc] at s1
    obtain ⟨_, hget1⟩ := s1.pto
    have hbr := run_beginRound (P := P) (w := w1) (by exact hget1) rfl
    have hlt1 : ρ 0 < w1.heap.size := (Array.getElem?_eq_some_iff.1 hget1).1
    have s2 := s1.put (w' := w1.putObj (ρ 0) (recOf fn tmps ps as bd d .busy)) (recOf fn tmps ps as bd d .busy) (fun k hk => World.putObj_heap_other hk) World.putObj_size (World.putObj_heap_same hlt1) rfl rfl rfl
    refine ⟨_, hbr, ?_⟩
    have s2' := s2
    rw [← star_assoc, ← star_assoc] at s2'
    refine wpIn_mono (hB (ρ 0) w0 _ ρm D1 fr1 hp1 _ a1 _ hk ⟨ρ1, hag1, hm1, ⟨r1.toRel0, r1.size, r1.dfs, s2'⟩⟩) fun e2 a2 w2 hq2 => ?_
    obtain ⟨fr2, hp2, hk2, ⟨F2, D2, ⟨ms2, hF2, _⟩, g2⟩, _, _⟩ := hq2
    cases e2 with
    | normal =>
      obtain ⟨st', hI', hle⟩ := hk2
      obtain ⟨ρ3, hag3, hm3, r3⟩ := (g2.noFr).le' hle
      subst hF2
      have s3 := r3.sat
      rw [star_assoc, star_assoc, star_assoc] at s3
      obtain ⟨_, hget3⟩ := s3.pto
      have hend := run_endRound (P := P) (w := w2) (none : Option Code) (by exact hget3)
      have hlt3 : ρ 0 < w2.heap.size := (Array.getElem?_eq_some_iff.1 hget3).1
      have s4 := s3.put (w' := w2.putObj (ρ 0) (recOf fn tmps ps as bd d .ready)) (recOf fn tmps ps as bd d .ready) (fun k hk => World.putObj_heap_other hk) World.putObj_size (World.putObj_heap_same hlt3) rfl rfl rfl
      refine ⟨_, _, hend, _, rfl, ρ, .v (.bool true), [.res (loopY I T m ρm (recOf fn tmps ps as bd d .ready) (xs ++ [x]))], rfl, fun _ _ => rfl, Nat.le_refl _, trivial, fun B hB => by simp at hB; subst hB; trivial, ?_, rfl, rfl⟩
      simp only [hpP, Blk.P, star_emp]
      refine shutY hI' hag3 hm3 r3.sh ?_
      have : star (pto (ρ 0) (recOf fn tmps ps as bd d .ready)) (star F (star (msP ms) (star (msP ms2) (hpP ρ3 0 (T st'))))) = star (star (star (pto (ρ 0) (recOf fn tmps ps as bd d .ready)) F) (hpP ρ3 0 (T st'))) (star (msP ms) (msP ms2)) := by
        rw [star_assoc, star_assoc]
        congr 2
        rw [← star_assoc (msP ms), star_comm (star (msP ms) (msP ms2))]
      have s5 : Sat w0 (star (pto (ρ 0) (recOf fn tmps ps as bd d .ready)) (star F (star (msP ms) (star (msP ms2) (hpP ρ3 0 (T st')))))) (w2.putObj (ρ 0) (recOf fn tmps ps as bd d .ready)) := s4
      rw [this] at s5
      exact s5.left
    | _ => exact hk2.elim
  | _ => exact hk.elim

/-- **A LOOP OVER WHAT A FUNCTION YIELDS.** -/
theorem range_sound {g : Operand} {ps : Array Tmp} {as bd : Code} {VA VB : Nat → List (Nat × SV) → List Blk → (Exit → List (Nat × SV) → List Blk → Prop) → Prop} {K : Exit → List (Nat × SV) → List Blk → Prop}
    (hA : ∀ (m l : Nat) (w0 : World) (F : HP) (ρ0 : Nat → Nat) (D : List Deferred) (fr : List (Nat × SV)) (hp : List Blk) (K : Exit → List (Nat × SV) → List Blk → Prop) (a : Act) (w : World), VA m fr hp K → Good w0 F m ρ0 N D fr hp a w → as.wpIn (wideR (some l)) 0 P (PostK w0 F m ρ0 N D K) a w)
    (hB : ∀ (m l : Nat) (w0 : World) (F : HP) (ρ0 : Nat → Nat) (D : List Deferred) (fr : List (Nat × SV)) (hp : List Blk) (K : Exit → List (Nat × SV) → List Blk → Prop) (a : Act) (w : World), VB m fr hp K → Good w0 F m ρ0 N D fr hp a w → bd.wpIn (wideR (some l)) 0 P (PostK w0 F m ρ0 N D K) a w)
    (hps : ∀ p ∈ ps.toList, p < N) (h : RangeOK P g ps.toList VA VB fr hp K) (gd : Good w0 F n0 ρ0 N D fr hp a w) : (Code.rangeFunc g ps as bd).wpIn (wideR none) 0 P (PostK w0 F n0 ρ0 N D K) a w := by
  obtain ⟨α, σ, M, enc, I, T, sel, frC, T0, ⟨hs, hl0, hT0, hsel⟩, ⟨hf1, hf2⟩, henc, ⟨st0, hI0, hle0⟩, hround, f, fst, caps, hg, hcall, hit⟩ := h
  obtain ⟨ρ, hag, hn0, rl⟩ := gd
  refine wpIn_rangeFunc fun fn _ => ?_
  obtain ⟨ρm, hρm⟩ : ∃ ρm : Nat → Nat, ρm = fun k => ρ (nm sel hp.length k) := ⟨_, rfl⟩
  obtain ⟨l, hl⟩ : ∃ l, l = w.heap.size + 1 := ⟨_, rfl⟩
  obtain ⟨rec, hrec⟩ : ∃ rec, rec = recOf fn a.tmps ps as bd w.heap.size .ready := ⟨_, rfl⟩
  obtain ⟨Y, hY⟩ : ∃ Y : List α → Nat → HP, Y = loopY I T sel.length ρm rec := ⟨_, rfl⟩
  obtain ⟨w1, hw1⟩ : ∃ w1, w1 = (w.alloc (.deferred (some []))).alloc rec := ⟨_, rfl⟩
  have s1 : Sat w0 (star (pto l rec) (star (pto w.heap.size (.deferred (some []))) (star F (hpP ρ 0 hp)))) w1 := by
    have := (rl.sat.alloc (.deferred (some []))).alloc rec
    have e : ({ w with heap := w.heap.push (.deferred (some [])) } : World).heap.size = w.heap.size + 1 := Array.size_push ..
    rw [e] at this
    rw [hw1, hl]
    exact this
  have hselP := hpP_sel ρ (nm sel hp.length) 0 T0 hp (fun j B hB => by rw [Nat.zero_add]; exact hsel j B hB) (fun j k _ _ e => by simpa using nm_inj hs e)
  have e3 : (List.range T0.length).map (fun j => nm sel hp.length (0 + j)) = sel := by
    apply List.ext_getElem?
    intro j
    rw [hl0, List.getElem?_map]
    by_cases hj : j < sel.length
    · rw [List.getElem?_range hj, Option.map_some, Nat.zero_add, (nm_lt hs hj).2]
    · rw [List.getElem?_eq_none (by simp; omega), List.getElem?_eq_none (by omega)]; rfl
  rw [e3, ← hρm] at hselP
  have s2 : Sat w0 (star (star (star (pto w.heap.size (.deferred (some []))) F) (star (hpP ρ 0 (wipe hp sel)) (pto l rec))) (hpP ρm 0 T0)) w1 := by
    rw [hselP] at s1
    have : star (pto l rec) (star (pto w.heap.size (.deferred (some []))) (star F (star (hpP ρm 0 T0) (hpP ρ 0 (wipe hp sel))))) = star (star (star (pto w.heap.size (.deferred (some []))) F) (star (hpP ρ 0 (wipe hp sel)) (pto l rec))) (hpP ρm 0 T0) := by
      rw [star_comm (pto l rec)]
      simp only [star_assoc]
      congr 2
      rw [star_comm (hpP ρm 0 T0)]
      simp only [star_assoc]
    rw [this] at s1; exact s1
  have gC : Good w0 (star (star (pto w.heap.size (.deferred (some []))) F) (star (hpP ρ 0 (wipe hp sel)) (pto l rec))) sel.length ρm N D [] T0 a w1 :=
    ⟨ρm, fun _ _ => rfl, by omega, ⟨⟨fun _ _ h => by simp [look] at h, fun _ _ h => by simp [look] at h, hT0⟩, rl.size, rl.dfs, s2⟩⟩
  obtain ⟨ρ', hag', hm', r'⟩ := gC.le' hle0
  have s3 : Sat w0 (star (star (star (pto w.heap.size (.deferred (some []))) F) (hpP ρ 0 (wipe hp sel))) (Y [] l)) w1 := by
    rw [hY]
    refine shutY hI0 hag' hm' r'.sh ?_
    have := r'.sat
    rw [← star_assoc, star_comm _ (pto l rec)] at this
    exact this
  have s4 : Sat w0 (star (star (pto w.heap.size (.deferred (some []))) F) (hpP (upd ρ hp.length l) 0 (wipe hp sel ++ [.res (Y [])]))) w1 := by
    have e1 : hpP (upd ρ hp.length l) 0 (wipe hp sel) = hpP ρ 0 (wipe hp sel) := hpP_congr (n := hp.length) (upd_old ρ hp.length l) 0 _ (by rw [wipe_length]; omega) (wipe_lt sel rl.sh)
    rw [hpP_append, e1, Nat.zero_add, wipe_length]
    simp only [hpP, Blk.P, star_emp, upd_new]
    rw [← star_assoc]; exact s3
  have hgl : SV.lt hp.length (.fn f fst caps) := ev_lt rl.sc hg
  simp only [SV.lt] at hgl
  have hlen1 : (wipe hp sel ++ [Blk.res (Y [])]).length = hp.length + 1 := by simp [wipe_length]
  have hc := hit Y (fun xs x hM => by
      rw [hY, hrec]
      exact round_ctr (VA := VA sel.length) (VB := VB sel.length) (fun t s hts => by rw [hρm, ← den_ren]; exact rl.hfr t _ (frLe_look hf1 t s hts)) (frLt_look hf2) rl.size hps (hA sel.length) (hB sel.length) xs x (fun st hI => hround xs st x hM hI) henc)
    w0 _ (upd ρ hp.length l) w1 (fun B hB => by
      rw [hlen1]
      rcases List.mem_append.1 hB with hB | hB
      · exact Blk.lt_mono (by omega) (wipe_lt sel rl.sh B hB)
      · simp at hB; subst hB; trivial) (by
      rw [hlen1, ltL_iff]
      intro u hu
      rcases List.mem_append.1 hu with hu | hu
      · rcases List.mem_append.1 hu with hu | hu
        · exact lt_mono (by omega) u ((ltL_iff _ _).1 hgl.1 u hu)
        · simp at hu; subst hu; simp [SV.lt]
      · exact lt_mono (by omega) u ((ltL_iff _ _).1 hgl.2 u hu)) s4
  rw [hcall] at hc
  simp only [Runs] at hc
  have ed : SV.denL (upd ρ hp.length l) (fst ++ [.yl hp.length] ++ caps) = SV.denL ρ fst ++ [.func (.yield l) #[] #[]] ++ SV.denL ρ caps := by
    rw [denL_append, denL_append, denL_congr (upd_old ρ hp.length l) _ hgl.1, denL_congr (upd_old ρ hp.length l) _ hgl.2]
    simp [SV.denL, SV.den, upd_new]
  rw [ed] at hc
  have e1 := ev_eval rl.hfr hg
  refine ⟨l, [{ target := .collected w.heap.size, args := #[] }], w1, { target := .fn (.func f) (SV.denL ρ caps).toArray, args := (SV.denL ρ fst).toArray ++ #[Value.func (.yield l) #[] #[]] }, w1, f, (SV.denL ρ fst ++ [Value.func (.yield l) #[] #[]] ++ SV.denL ρ caps).toArray, w1,
    by rw [hw1, hl, hrec]; exact run_enterLoop_outer fn a.tmps ps as bd, ?_, fun _ _ => trivial, ?_, fun h => by simp [wideR, Fence.wide] at h, ?_⟩
  · simp only [resolve, rangeCall, e1, SV.den, Deferred.ofValue, Sem.run_pure]
    simp [Act.eval]
  · simp only [invoke]
    rw [hcall]
    congr 2
    apply Array.toList_inj.1; simp
  · refine (calls_wideR hc).mono fun e w3 ⟨v, he, ρ2, u, hp', _, hag2, hl2, _, hsh2, s5, xs, hx, hk⟩ => ?_
    subst he
    rw [hlen1] at hl2 hag2
    have hnl : hp.length < hp'.length := by omega
    rw [hpP_take ρ2 0 hp' hp.length _ hx, Nat.zero_add] at s5
    have hρl : ρ2 hp.length = l := by rw [hag2 _ (by omega), upd_new]
    rw [hρl] at s5
    simp only [Blk.P] at s5
    rw [star_comm (Y xs l), ← star_assoc, hY] at s5
    obtain ⟨st, ρ3, hI, hag3, hm3, hT3, s6⟩ := openY s5
    have s7 := s6
    rw [star_assoc] at s7
    obtain ⟨_, hget⟩ := s7.pto
    rw [hrec] at hget s7
    have hend := run_endLoop (P := P) (w := w3) (by exact hget) (by simp)
    have hlt3 : l < w3.heap.size := (Array.getElem?_eq_some_iff.1 hget).1
    have s8 := (s7.put (w' := w3.putObj l (recOf fn a.tmps ps as bd w.heap.size .exhausted)) (recOf fn a.tmps ps as bd w.heap.size .exhausted) (fun k hk => World.putObj_heap_other hk) World.putObj_size (World.putObj_heap_same hlt3) rfl rfl rfl).right
    refine ⟨_, _, hend, ?_⟩
    have hsn : Sel sel (hp'.set hp.length .any).length := ⟨fun k hk => by have := hs.1 k hk; simp; omega, hs.2⟩
    have hsh4 : ∀ B ∈ hp'.set hp.length .any, B.lt (hp'.set hp.length .any).length := fun B hB => by
      rw [List.length_set]
      rcases List.mem_or_eq_of_mem_set hB with hB | rfl
      · exact hsh2 B hB
      · trivial
    have hnm : ∀ k, k < sel.length → nm sel (hp'.set hp.length .any).length k = nm sel hp.length k := fun k hk => by
      have h1 := (nm_lt hs hk).2
      have h2 := (nm_lt hsn hk).2
      rw [h1] at h2; exact (Option.some.inj h2).symm
    have s9 : Sat w0 (star (star (star (pto w.heap.size (.deferred (some []))) F) (hpP ρ2 0 (wipe (hp'.set hp.length .any) sel))) (hpP ρ3 0 (T st))) (w3.putObj l (recOf fn a.tmps ps as bd w.heap.size .exhausted)) := by
      rw [star_assoc, star_comm (hpP ρ2 0 _), ← star_assoc]
      refine sat_wipe sel _ ?_
      rw [star_assoc, star_comm (hpP ρ3 0 _), ← star_assoc]
      exact s8
    obtain ⟨ρ4, hag4, s10⟩ := merge_sat hsn hm3 hsh4 hT3 (fun k hk => by
      rw [hag3 k hk, hρm, hnm k hk]
      have := (nm_lt hs hk).1
      show ρ (nm sel hp.length k) = _
      rw [hag2 _ (by omega), upd_old ρ hp.length l _ this]) s9
    have hagf : ∀ k, k < hp.length → ρ4 k = ρ k := fun k hk => by
      rw [hag4 k (by simp; omega), hag2 k (by omega), upd_old ρ hp.length l k hk]
    have hml : hp.length ≤ (merge (hp'.set hp.length .any) sel (T st)).length := by rw [merge_length _ _ _ hm3]; simp; omega
    refine ⟨fr, merge (hp'.set hp.length .any) sel (T st), hk st hI, ⟨star F (msP [w.heap.size]), marksOf [w.heap.size] ++ D, ⟨[w.heap.size], rfl, rfl⟩, ρ4, fun k hk' => by rw [hagf k (by omega)]; exact hag k hk', by omega, ⟨⟨fun t s hts => ?_, fun t s hts => lt_mono hml s (rl.sc t s hts), merge_lt hsn hm3 hsh4 hT3⟩, rl.size, ?_, ?_⟩⟩, by simp, by simp⟩
    · rw [den_congr hagf s (rl.sc t s hts)]; exact rl.hfr t s hts
    · rw [← rl.dfs]; rfl
    · simp only [msP, star_emp]
      rw [star_comm F]; exact s10
end
end Go.Vc

/- A region whose order is open, walked in one order that serves. -/
import Derived.Test.YtaplfpelnmabpaaVcN
namespace Go.Vc
open Go.RowKit
set_option linter.unusedSimpArgs false
set_option linter.unusedVariables false

section
variable {P : Program} {w0 w : World} {F : HP} {n0 N : Nat} {ρ0 ρ : Nat → Nat} {D : List Deferred} {fr : List (Nat × SV)} {hp : List Blk} {a : Act} {ops : Array Oper} {Q : Exit → Act → World → Prop}

/-- An entry put into a map: the map's type, the slot that holds it. -/
def insT (o : Oper) : Option (TypeId × Nat) := match o.op, o.dst, o.guard with
  | .insert t (.tmp a) _ _, none, none => some (t, a)
  | _, _, _ => none
def insPre : List (Tag × Nat) → List Nat
  | (.ins, i) :: r => i :: insPre r
  | _ => []
/-- The entries of a group go into one map, all may come up, nothing else comes up before all have. -/
def insOK (ops : Array Oper) (listed : Array Bool) (G : List Nat) (i : Nat) : Bool :=
  ((ops[i]?).bind insT).isSome && (G.all fun g => (ops[g]?).bind insT == (ops[i]?).bind insT) && (Region.ready .any ops listed == G) &&
    ((List.range ops.size).all fun j => listed.getD j true || G.contains j || G.all fun g => Region.waitsFor .any ops j g)

def planB (ops : Array Oper) (n : Nat) : Array Bool → List (Tag × Nat) → Bool
  | listed, [] => (Region.ready .any ops listed).isEmpty
  | listed, (.take, i) :: rest => decide (i < n) && (Region.ready .any ops listed).contains i && Region.free .any ops listed i && planB ops n (listed.setIfInBounds i true) rest
  | listed, (.held, i) :: rest => (Region.ready .any ops listed == [i]) && planB ops n (listed.setIfInBounds i true) rest
  | listed, (.ins, i) :: rest => insOK ops listed (i :: insPre rest) i && planB ops n (listed.setIfInBounds i true) rest
  | listed, (.free, i) :: rest => (Region.ready .any ops listed == [i]) && decide (n ≤ i) && rest.all (fun x => decide (x.1 = .free)) && planB ops n (listed.setIfInBounds i true) rest

/-- The operations of the plan that may write, and what each reading one need not wait for. -/
def heldOf (p : List (Tag × Nat)) : List Nat := p.filterMap fun x => match x.1 with | .held => some x.2 | .ins => some x.2 | _ => none
def freesOf (ops : Array Oper) (H : List Nat) (i : Nat) : List Nat := H.filter fun j => !((ancOf ops ops.size).getD j []).contains i

def dslim (ops : Array Oper) (N : Nat) (H : List Nat) : List DOp → Prop
  | [] => True
  | d :: r => (∃ o, ops[d.idx]? = some o ∧ slimOf ops N o d.m) ∧ (d.tag = .take → d.fs = freesOf ops H d.idx) ∧ dslim ops N H r

theorem agree_sat : ∀ (S hp : List Blk) (i : Nat) (F : HP), agree S hp → Sat w0 (star F (hpP ρ i hp)) w → Sat w0 (star anyH (hpP ρ i S)) w
  | [], hp, i, F, _, s => by
    simp only [hpP, star_emp]
    exact s.mono fun _ _ => trivial
  | B :: S, [], i, F, h, _ => h.elim
  | B :: S, C :: hp, i, F, h, s => by
    simp only [hpP] at *
    rcases h.1 with rfl | rfl
    · rw [← star_assoc] at s
      simp only [Blk.P, emp_star]
      exact agree_sat S hp (i + 1) _ h.2 s
    · have h1 := agree_sat_keep S hp (i + 1) F _ h.2 (by rw [star_left_comm] at s; exact s)
      rw [star_left_comm]; exact h1
where
  agree_sat_keep : ∀ (S hp : List Blk) (i : Nat) (F G : HP), agree S hp → Sat w0 (star G (star F (hpP ρ i hp))) w → Sat w0 (star G (star anyH (hpP ρ i S))) w
  | [], hp, i, F, G, _, s => by
    simp only [hpP, star_emp]
    exact s.mono (star_mono (fun _ h => h) (fun _ _ => trivial))
  | B :: S, [], i, F, G, h, _ => h.elim
  | B :: S, C :: hp, i, F, G, h, s => by
    simp only [hpP] at *
    rcases h.1 with rfl | rfl
    · rw [← star_assoc F] at s
      simp only [Blk.P, emp_star]
      exact agree_sat_keep S hp (i + 1) _ G h.2 s
    · have h1 := agree_sat_keep S hp (i + 1) F (star G (C.P ρ (ρ i))) h.2 (by rw [star_assoc, star_left_comm (C.P ρ (ρ i))]; exact s)
      rw [star_assoc, star_left_comm (C.P ρ (ρ i))] at h1
      exact h1

theorem agree_wipe : ∀ (ks : List Nat) (hp : List Blk), agree (wipe hp ks) hp := by
  have refl : ∀ hp, agree hp hp := fun hp => by induction hp with | nil => trivial | cons B r ih => exact ⟨.inr rfl, ih⟩
  have set : ∀ (S hp : List Blk) (k : Nat), agree S hp → agree (S.set k .any) hp := by
    intro S
    induction S with
    | nil => intro hp k h; simpa using h
    | cons B S ih =>
      intro hp k h
      cases hp with
      | nil => exact h.elim
      | cons C hp =>
        cases k with
        | zero => exact ⟨.inl rfl, h.2⟩
        | succ k => exact ⟨h.1, ih hp k h.2⟩
  have gen : ∀ (ks : List Nat) (S hp : List Blk), agree S hp → agree (wipe S ks) hp := by
    intro ks
    induction ks with
    | nil => intro S hp h; exact h
    | cons k r ih => intro S hp h; exact ih _ _ (set _ _ _ h)
  exact fun ks hp => gen ks hp hp (refl hp)

theorem wipe_sat {S : List Blk} {ρ : Nat → Nat} : ∀ (l m : List Nat), (∀ k, k ∈ l → k ∈ m) → Sat w0 (star anyH (hpP ρ 0 (wipe S l))) w → Sat w0 (star anyH (hpP ρ 0 (wipe S m))) w := by
  intro l m h s
  refine agree_sat _ _ 0 _ ?_ s
  have : ∀ (A B : List Blk), A.length = B.length → (∀ k : Nat, A[k]? = some Blk.any ∨ A[k]? = B[k]?) → agree A B := by
    intro A
    induction A with
    | nil => intro B _ _; trivial
    | cons a A ih =>
      intro B hl hk
      cases B with
      | nil => simp at hl
      | cons b B =>
        refine ⟨?_, ih B (by simpa using hl) fun k => by simpa using hk (k + 1)⟩
        have := hk 0
        simp at this
        rcases this with h | h
        · exact .inl h
        · exact .inr h.symm
  refine this _ _ (by simp [wipe_length]) fun k => ?_
  rw [wipe_get, wipe_get]
  by_cases hm : k ∈ m ∧ k < S.length
  · rw [if_pos hm]; exact .inl rfl
  · rw [if_neg hm]
    right
    by_cases hl : k ∈ l ∧ k < S.length
    · exact absurd ⟨h k hl.1, hl.2⟩ hm
    · rw [if_neg hl]

/-- What holds of the worlds ahead of and behind an operation. -/
def TG (w0 : World) (ρ1 : Nat → Nat) (S : List Blk) (mask : Nat → List Nat) (H : List Nat) (j : Nat) (w w' : World) : Prop :=
  w' = w ∨ (j ∈ H ∧ Sat w0 (star anyH (hpP ρ1 0 (wipeF S mask [j]))) w')

theorem insOK_spec {listed : Array Bool} {G : List Nat} {i : Nat} (h : insOK ops listed G i = true) : Region.ready .any ops listed = G ∧ (∃ x, (ops[i]?).bind insT = some x ∧ ∀ g ∈ G, (ops[g]?).bind insT = some x) ∧ (∀ j, j < ops.size → listed.getD j true = false → j ∉ G → ∀ g ∈ G, Region.waitsFor .any ops j g = true) := by
  simp only [insOK, Bool.and_eq_true, beq_iff_eq] at h
  obtain ⟨⟨⟨h1, h2⟩, h3⟩, h4⟩ := h
  obtain ⟨x, hx⟩ := Option.isSome_iff_exists.1 h1
  refine ⟨h3, ⟨x, hx, fun g hg => ?_⟩, fun j hj hl hG g hg => ?_⟩
  · have := List.all_eq_true.1 h2 g hg
    rw [hx] at this
    simpa using this
  · have := List.all_eq_true.1 h4 j (List.mem_range.2 hj)
    simp only [Bool.or_eq_true] at this
    rcases this with (h | h) | h
    · rw [hl] at h; cases h
    · exact absurd (by simpa using h) hG
    · exact List.all_eq_true.1 h g hg

theorem insT_spec {o : Oper} {t : TypeId} {s : Nat} (h : insT o = some (t, s)) : ∃ k v, o.op = .insert t (.tmp s) k v ∧ o.dst = none ∧ o.guard = none := by
  unfold insT at h
  split at h
  · rename_i h1 h2 h3
    simp only [Option.some.injEq, Prod.mk.injEq] at h
    obtain ⟨rfl, rfl⟩ := h
    exact ⟨_, _, h1, h2, h3⟩
  · cases h

theorem plan_unlisted {n : Nat} : ∀ {ds : List (Tag × Nat)} {listed : Array Bool}, planB ops n listed ds = true → ∀ d ∈ ds, listed.getD d.2 true = false
  | [], _, _, d, h => by cases h
  | (t, i) :: r, listed, h, d, hd => by
    have hi : i ∈ Region.ready .any ops listed ∧ planB ops n (listed.setIfInBounds i true) r = true := by
      cases t <;> simp only [planB, Bool.and_eq_true, beq_iff_eq] at h
      · exact ⟨by simpa using h.1.1.2, h.2⟩
      · exact ⟨by rw [h.1]; simp, h.2⟩
      · exact ⟨by rw [(insOK_spec h.1).1]; simp, h.2⟩
      · exact ⟨by rw [h.1.1.1]; simp, h.2⟩
    rcases List.mem_cons.1 hd with rfl | hd
    · exact (mem_ready.1 hi.1).1
    · have := plan_unlisted hi.2 d hd
      by_cases e : i = d.2
      · subst e; exact (mem_ready.1 hi.1).1
      · rwa [getD_set_ne true e] at this

theorem frees_spec {H : List Nat} {i j : Nat} (hj : j ∈ H) (h : ¬ Waits ops j i) : j ∈ freesOf ops H i := by
  unfold freesOf
  rw [List.mem_filter]
  refine ⟨hj, ?_⟩
  simp only [Bool.not_eq_true']
  rw [← Bool.not_eq_true]
  intro hc
  exact h (ancOf_waits ops.size j i (by simpa using hc))

/-- Entries put into a map in whatever order. -/
theorem group_any {Qn : Act → World → Prop} {T : Nat → World → World → Prop} {n' m : Nat} {t kt el : TypeId} (ht : mapT P t = some (kt, el)) (kv : Nat → SV × SV) (hm : m < hp.length) {LE : Array Bool} {fuel : Nat}
    :
    ∀ (N : Nat) (Gr : List Nat) (listed : Array Bool) (E : List (SV × SV)) (w : World), Gr.length = N → Gr.Nodup →
      (∀ g ∈ Gr, ∃ o, ops[g]? = some o ∧ o.dst = none ∧ o.guard = none ∧ ∀ w, (execOp a.eval o).run P w = ((Instr.mapUpdate t (.map (some (ρ m))) ((kv g).1.den ρ) ((kv g).2.den ρ)).run P w).andThen (fun _ w => .ok .skip w)) →
      (Gr ≠ [] → ∀ j, j ∈ Region.ready .any ops listed ↔ j ∈ Gr) → (∀ j, j < ops.size → listed.getD j true = false → j ∉ Gr → ∀ g ∈ Gr, Region.waitsFor .any ops j g = true) → (∀ g ∈ Gr, listed.getD g true = false) →
      (∀ g ∈ Gr, keyOK P kt (kv g).1 = true ∧ ∀ e ∈ E, keq P kt (kv g).1 e.1 = some false) → (∀ g ∈ Gr, ∀ g' ∈ Gr, g ≠ g' → keq P kt (kv g).1 (kv g').1 = some false) →
      (∀ g ∈ Gr, ∀ w w' X, Sat w0 (star F (hpP ρ 0 (hp.set m (.mapB X)))) w' → T g w w') →
      Sat w0 (star F (hpP ρ 0 (hp.set m (.mapB E)))) w → Gr.foldl (fun l g => l.setIfInBounds g true) listed = LE →
      (∀ X w', X.Perm (E ++ Gr.map kv) → Sat w0 (star F (hpP ρ 0 (hp.set m (.mapB X)))) w' → wpAnyG P ops Qn T n' fuel LE a w') →
      wpAnyG P ops Qn T n' (Gr.length + fuel) listed a w := by
  intro N
  induction N with
  | zero =>
    intro Gr listed E w hN _ _ _ _ _ _ _ _ hs hLE hend
    obtain rfl : Gr = [] := List.length_eq_zero_iff.1 hN
    simp only [List.foldl_nil] at hLE
    subst hLE
    simpa using hend E w (by simp) hs
  | succ N ih =>
    intro Gr listed E w hN hnd hop hrd hoth hun hk hkk hT hs hLE hend
    have hne : Gr ≠ [] := fun e => by subst e; simp at hN
    have hrd := hrd hne
    obtain ⟨f', hf'⟩ : ∃ f', Gr.length + fuel = f' + 1 := ⟨N + fuel, by omega⟩
    rw [hf']
    refine ⟨fun h0 => ?_, fun i hi => ?_⟩
    · obtain ⟨x, hx⟩ := List.exists_mem_of_ne_nil _ hne
      have := (hrd x).2 hx
      rw [h0] at this; cases this
    · have hiG := (hrd i).1 hi
      obtain ⟨o, ho, hd, hg, hex⟩ := hop i hiG
      obtain ⟨w', hr, hs'⟩ := insert_map (P := P) (v := (kv i).2) hs ht (n := m) (es := E) (by simp [hm]) (hk i hiG).1 (hk i hiG).2
      rw [List.set_set] at hs'
      unfold wpOpR
      simp only [ho]
      have hw : Region.wanted o (yielded ops a.tmps) = true := by simp [Region.wanted, hg]
      rw [if_pos hw, hex w, hr]
      simp only [Result.andThen, Runs]
      have hput : a.put o.dst undef = a := by rw [hd]; rfl
      rw [hput]
      refine ⟨fun _ => hT i hiG w w' _ hs', ?_⟩
      have hlen : (Gr.erase i).length = N := by rw [List.length_erase_of_mem hiG]; omega
      have hmem : ∀ g, g ∈ Gr.erase i ↔ g ≠ i ∧ g ∈ Gr := fun g => hnd.mem_erase_iff
      have hf2 : f' = (Gr.erase i).length + fuel := by omega
      rw [hf2]
      refine ih (Gr.erase i) (listed.setIfInBounds i true) (E ++ [kv i]) w' hlen (hnd.erase i) (fun g hg => hop g ((hmem g).1 hg).2) (fun hne' j => ?_) (fun j hj hl hG g hg => ?_) (fun g hg => ?_) (fun g hg => ⟨(hk g ((hmem g).1 hg).2).1, fun e he => ?_⟩)
        (fun g hg g' hg' e => hkk g ((hmem g).1 hg).2 g' ((hmem g').1 hg').2 e) (fun g hg => hT g ((hmem g).1 hg).2) hs' ?_ (fun X w'' hX hs'' => hend X w'' (hX.trans ?_) hs'')
      · refine ⟨fun hj => ?_, fun hj => ready_mono ((hrd j).2 ((hmem j).1 hj).2) ((hmem j).1 hj).1⟩
        obtain ⟨hju, oj, hoj, _⟩ := mem_ready.1 hj
        have hji : j ≠ i := fun e => by
          subst e
          have hjs := (Array.getElem?_eq_some_iff.1 ho).1
          rcases Nat.lt_or_ge j listed.size with h | h
          · simp [h] at hju
          · have := hun j hiG
            simp [Array.getElem?_eq_none h] at this
        have hju' : listed.getD j true = false := by rwa [getD_set_ne true (Ne.symm hji)] at hju
        refine (hmem j).2 ⟨hji, ?_⟩
        refine Classical.byContradiction fun hnG => ?_
        obtain ⟨x, hx⟩ := List.exists_mem_of_ne_nil _ hne'
        have hw := hoth j (Array.getElem?_eq_some_iff.1 hoj).1 hju' hnG x ((hmem x).1 hx).2
        have hl := ready_pred (.inl hj) hw
        have hxu := hun x ((hmem x).1 hx).2
        rw [getD_set_ne false (Ne.symm ((hmem x).1 hx).1)] at hl
        rw [getD_ft hxu] at hl; cases hl
      · by_cases hji : j = i
        · subst hji
          rcases Nat.lt_or_ge j listed.size with h | h
          · simp [h] at hl
          · have := hun j hiG
            simp [Array.getElem?_eq_none h] at this
        · rw [getD_set_ne true (Ne.symm hji)] at hl
          exact hoth j hj hl (fun h => hG ((hmem j).2 ⟨hji, h⟩)) g ((hmem g).1 hg).2
      · rw [getD_set_ne true (Ne.symm ((hmem g).1 hg).1)]
        exact hun g ((hmem g).1 hg).2
      · rcases List.mem_append.1 he with h | h
        · exact (hk g ((hmem g).1 hg).2).2 e h
        · simp at h; subst h
          exact hkk g ((hmem g).1 hg).2 i hiG ((hmem g).1 hg).1
      · rw [← hLE]
        have hp : Gr.Perm (i :: Gr.erase i) := List.perm_cons_erase hiG
        rw [hp.foldl_eq' (fun x _ y _ z => by
          by_cases e : x = y
          · subst e; rfl
          · exact Array.setIfInBounds_comm _ _ e) listed]
        rfl
      · have hp : Gr.Perm (i :: Gr.erase i) := List.perm_cons_erase hiG
        rw [List.append_assoc]
        refine List.Perm.append_left E ?_
        simpa using (hp.map kv).symm

/-! What a group's symbolic run tells. -/
def kvOf (ops : Array Oper) (fr : List (Nat × SV)) (g : Nat) : SV × SV := match ops[g]? with
  | some o => match o.op with
    | .insert _ _ k v => ((ev fr k).getD undefV, (ev fr v).getD undefV)
    | _ => (undefV, undefV)
  | none => (undefV, undefV)
theorem kvOf_lt {n : Nat} (hsc : ∀ t s, look t fr = some s → s.lt n) (g : Nat) : (kvOf ops fr g).1.lt n ∧ (kvOf ops fr g).2.lt n := by
  have hu : undefV.lt n := by simp [undefV, SV.lt]
  have h : ∀ x : Operand, ((ev fr x).getD undefV).lt n := fun x => by
    cases hx : ev fr x with
    | none => exact hu
    | some s => exact ev_lt hsc hx
  unfold kvOf
  split
  · split
    · exact ⟨h _, h _⟩
    · exact ⟨hu, hu⟩
  · exact ⟨hu, hu⟩

theorem ready_nodup (listed : Array Bool) : (Region.ready .any ops listed).Nodup := by
  unfold Region.ready
  exact List.nodup_range.filter _

theorem set_self {n : Nat} {B : Blk} (h : hp[n]? = some B) : hp = hp.set n B := by
  apply List.ext_getElem?
  intro j
  rw [List.getElem?_set]
  by_cases e : n = j
  · subst e
    rw [if_pos rfl, if_pos (List.getElem?_eq_some_iff.1 h).1, h]
  · rw [if_neg e]

theorem agree_set : ∀ {A : List Blk} {hp : List Blk} {m : Nat} {B : Blk}, A.length ≤ m → agree A hp → agree A (hp.set m B)
  | [], _, _, _, _, _ => trivial
  | _ :: _, [], _, _, _, h => h.elim
  | a :: A, c :: hp, 0, B, h, _ => by simp at h
  | a :: A, c :: hp, m + 1, B, h, ha => ⟨ha.1, agree_set (by simpa using h) ha.2⟩

theorem ins_split : ∀ (ds : List DOp), ∃ pre rest, ds = pre ++ rest ∧ (∀ d ∈ pre, d.tag = .ins) ∧ ∀ d ∈ rest.head?, d.tag ≠ .ins
  | [] => ⟨[], [], rfl, by simp, by simp⟩
  | d :: ds => by
    by_cases h : d.tag = .ins
    · obtain ⟨pre, rest, h1, h2, h3⟩ := ins_split ds
      exact ⟨d :: pre, rest, by rw [h1]; rfl, fun x hx => by
        rcases List.mem_cons.1 hx with rfl | hx
        · exact h
        · exact h2 x hx, h3⟩
    · exact ⟨[], d :: ds, rfl, by simp, by simpa using h⟩
theorem ins_pre : ∀ (pre rest : List DOp), (∀ d ∈ pre, d.tag = .ins) → (∀ d ∈ rest.head?, d.tag ≠ .ins) → insPre ((pre ++ rest).map fun d => (d.tag, d.idx)) = pre.map (·.idx)
  | [], [], _, _ => rfl
  | [], d :: r, _, h => by
    have := h d (by simp)
    simp only [List.nil_append, List.map_cons, List.map_nil]
    cases ht : d.tag <;> simp_all [insPre]
  | p :: pre, rest, h, hr => by
    have hp := h p (by simp)
    simp only [List.cons_append, List.map_cons, hp, insPre]
    rw [ins_pre pre rest (fun d hd => h d (by simp [hd])) hr]

theorem dslim_mem {H : List Nat} : ∀ {l : List DOp}, dslim ops N H l → ∀ d ∈ l, ∃ o, ops[d.idx]? = some o ∧ slimOf ops N o d.m
  | [], _, d, hd => by cases hd
  | x :: l, h, d, hd => by
    rcases List.mem_cons.1 hd with rfl | hd
    · exact h.1
    · exact dslim_mem h.2.2 d hd
theorem dslim_fs {H : List Nat} : ∀ {l : List DOp}, dslim ops N H l → ∀ d ∈ l, d.tag = .take → d.fs = freesOf ops H d.idx
  | [], _, d, hd => by cases hd
  | x :: l, h, d, hd => by
    rcases List.mem_cons.1 hd with rfl | hd
    · exact h.2.1
    · exact dslim_fs h.2.2 d hd
theorem dslim_right {H : List Nat} : ∀ {l m : List DOp}, dslim ops N H (l ++ m) → dslim ops N H m
  | [], m, h => h
  | x :: l, m, h => dslim_right (l := l) h.2.2

theorem plan_pre {n : Nat} : ∀ (pre rest : List DOp) (listed : Array Bool), (∀ d ∈ pre, d.tag = .ins) → planB ops n listed (pre.map (fun d => (d.tag, d.idx)) ++ rest.map fun d => (d.tag, d.idx)) = true → Closed ops listed →
    planB ops n ((pre.map (·.idx)).foldl (fun l g => l.setIfInBounds g true) listed) (rest.map fun d => (d.tag, d.idx)) = true ∧ Closed ops ((pre.map (·.idx)).foldl (fun l g => l.setIfInBounds g true) listed)
  | [], rest, listed, _, h, hc => ⟨by simpa using h, hc⟩
  | p :: pre, rest, listed, ht, h, hc => by
    have hp := ht p (by simp)
    simp only [List.map_cons, List.cons_append, hp, planB, Bool.and_eq_true] at h
    have hr : p.idx ∈ Region.ready .any ops listed := by rw [(insOK_spec h.1).1]; simp
    simpa using plan_pre pre rest (listed.setIfInBounds p.idx true) (fun d hd => ht d (by simp [hd])) h.2 (closed_set hc hr)

theorem eqT_symm {t : TypeId} {x y : SV} {b : Bool} (h : eqT P t x y = some b) : eqT P t y x = some b := by
  cases x <;> cases y <;> simp only [eqT] at h <;> try cases h
  rename_i x y
  cases x <;> cases y <;> simp only at h <;> try cases h
  · split at h
    · rename_i hd
      simp only [Option.some.injEq] at h; subst h
      simp only [eqT, hd]; rw [Bool.beq_comm]
    · cases h
  · split at h
    · rename_i hd
      split at h
      · rename_i hk; subst hk
        simp only [Option.some.injEq] at h; subst h
        simp only [eqT, hd, if_true]; congr 1; exact Bool.eq_iff_iff.2 ⟨fun h => by simpa using (by simpa using h : _ = _).symm, fun h => by simpa using (by simpa using h : _ = _).symm⟩
      · cases h
    · cases h
theorem eqTs_symm : ∀ {ts : List TypeId} {xs ys : List SV} {b : Bool}, eqTs P ts xs ys = some b → eqTs P ts ys xs = some b
  | [], [], [], _, h => h
  | [], [], _ :: _, _, h => by simp [eqTs] at h
  | [], _ :: _, _, _, h => by simp [eqTs] at h
  | _ :: _, [], _, _, h => by simp [eqTs] at h
  | _ :: _, _ :: _, [], _, h => by simp [eqTs] at h
  | t :: ts, x :: xs, y :: ys, b, h => by
    simp only [eqTs] at h ⊢
    cases h1 : eqT P t x y with
    | none => simp [h1] at h
    | some c =>
      cases h2 : eqTs P ts xs ys with
      | none => simp [h1, h2] at h
      | some d =>
        rw [eqT_symm h1, eqTs_symm h2]
        simpa [h1, h2] using h
theorem keq_symm {kt : TypeId} {x y : SV} {b : Bool} (h : keq P kt x y = some b) : keq P kt y x = some b := by
  unfold keq at h
  split at h
  · split at h
    · rename_i hts; simp only [keq, hts]; exact eqTs_symm h
    · cases h
  · have h' := eqT_symm h
    cases x <;> cases y <;> first | exact h' | (simp [eqT] at h)

theorem ins_first {K : List (Nat × SV) → List Blk → Prop} {S : List Blk} {mask : Nat → List Nat} {t : TypeId} {sl : Nat} {d : DOp} {pre rest : List DOp} (ht : ∀ x ∈ d :: pre, x.tag = .ins) (hi : ∀ x ∈ d :: pre, ∃ o, ops[x.idx]? = some o ∧ slimOf ops N o x.m ∧ insT o = some (t, sl))
    (h : vdops P S mask (d :: pre ++ rest) fr hp K) : ∃ m E kt el, mapT P t = some (kt, el) ∧ m < hp.length ∧ look sl fr = some (.mp m) ∧ hp[m]? = some (.mapB E) := by
  obtain ⟨tag, i, fs, mo⟩ := d
  obtain rfl : tag = .ins := ht _ List.mem_cons_self
  obtain ⟨o, ho, hs, hin⟩ := hi _ List.mem_cons_self
  obtain ⟨k, v, h1, h2, h3⟩ := insT_spec hin
  obtain ⟨_, e2, _, _⟩ := hs
  simp only at e2
  simp only [List.cons_append, vdops, insV, e2, h1] at h
  split at h
  · rename_i kt el hmt
    split at h
    · rename_i m hm
      split at h
      · split at h
        · split at h
          · rename_i es hes
            exact ⟨m, es, kt, el, hmt, (List.getElem?_eq_some_iff.1 hes).1, hm, hes⟩
          · exact h.elim
        · exact h.elim
      · exact h.elim
    · exact h.elim
  · exact h.elim

theorem ins_extract {K : List (Nat × SV) → List Blk → Prop} {S : List Blk} {mask : Nat → List Nat} {t kt el : TypeId} {sl m : Nat} (hmt : mapT P t = some (kt, el)) (hm : m < hp.length) (hlk : look sl fr = some (.mp m)) :
    ∀ (pre rest : List DOp) (E : List (SV × SV)), (∀ x ∈ pre, x.tag = .ins) → (∀ x ∈ pre, ∃ o, ops[x.idx]? = some o ∧ slimOf ops N o x.m ∧ insT o = some (t, sl)) → vdops P S mask (pre ++ rest) fr (hp.set m (.mapB E)) K →
      (∀ d ∈ pre, keyOK P kt (kvOf ops fr d.idx).1 = true ∧ (∀ e ∈ E, keq P kt (kvOf ops fr d.idx).1 e.1 = some false) ∧ (∃ u, (match ops[d.idx]? with | some o => (match o.op with | .insert _ _ k _ => ev fr k | _ => none) | none => none) = some u) ∧ ∃ u, (match ops[d.idx]? with | some o => (match o.op with | .insert _ _ _ v => ev fr v | _ => none) | none => none) = some u) ∧
      (∀ d ∈ pre, ∀ d' ∈ pre, d.idx ≠ d'.idx → keq P kt (kvOf ops fr d.idx).1 (kvOf ops fr d'.idx).1 = some false) ∧
      (∀ d ∈ pre, S.length ≤ m ∧ ∀ X, agree (wipeF S mask [d.idx]) (hp.set m (.mapB X))) ∧
      vdops P S mask rest fr (hp.set m (.mapB (E ++ (pre.map (·.idx)).map (kvOf ops fr)))) K
  | [], rest, E, _, _, h => ⟨by simp, by simp, by simp, by simpa using h⟩
  | ⟨tag, i, fs, mo⟩ :: pre, rest, E, ht, hi, h => by
    obtain rfl : tag = .ins := ht _ List.mem_cons_self
    obtain ⟨o, ho, hs, hin⟩ := hi _ List.mem_cons_self
    simp only at ho
    obtain ⟨k, v, h1, h2, h3⟩ := insT_spec hin
    obtain ⟨_, e2, _, _⟩ := hs
    simp only at e2
    have hev : ev fr (.tmp sl) = some (.mp m) := hlk
    simp only [List.cons_append, vdops, insV, e2, h1, hmt, hev] at h
    split at h
    · rename_i ks hks
      split at h
      · rename_i vs hvs
        rw [List.getElem?_set_self hm] at h
        simp only [List.set_set] at h
        obtain ⟨⟨hsz, hag, hkk, hke⟩, h⟩ := h
        obtain ⟨g1, g2, g3, g4⟩ := ins_extract hmt hm hlk pre rest (E ++ [(ks, vs)]) (fun x hx => ht x (by simp [hx])) (fun x hx => hi x (by simp [hx])) h
        have hkv : kvOf ops fr i = (ks, vs) := by
          have hks' : ev fr k = some ks := hks
          have hvs' : ev fr v = some vs := hvs
          simp [kvOf, ho, h1, hks', hvs']
        refine ⟨fun d hd => ?_, fun d hd d' hd' hne => ?_, fun d hd => ?_, ?_⟩
        · rcases List.mem_cons.1 hd with rfl | hd
          · refine ⟨by rw [hkv]; exact hkk, by rw [hkv]; exact hke, ⟨ks, by simp only [ho, h1]; exact hks⟩, ⟨vs, by simp only [ho, h1]; exact hvs⟩⟩
          · obtain ⟨q1, q2, q3, q4⟩ := g1 d hd
            exact ⟨q1, fun e he => q2 e (by simp [he]), q3, q4⟩
        · rcases List.mem_cons.1 hd with rfl | hd
          · rcases List.mem_cons.1 hd' with rfl | hd'
            · exact absurd rfl hne
            · have := (g1 d' hd').2.1 (ks, vs) (by simp)
              rw [hkv]; exact keq_symm this
          · rcases List.mem_cons.1 hd' with rfl | hd'
            · have := (g1 d hd).2.1 (ks, vs) (by simp)
              rw [hkv]; exact this
            · exact g2 d hd d' hd' hne
        · rcases List.mem_cons.1 hd with rfl | hd
          · refine ⟨hsz, fun X => ?_⟩
            have := agree_set (B := .mapB X) (by rw [show (wipeF S mask [i]).length = S.length from wipe_length _ _]; exact hsz) hag
            rwa [List.set_set] at this
          · exact g3 d hd
        · simp only [List.map_cons, hkv]
          simpa using g4
      · exact h.elim
    · exact h.elim

theorem vdops_sound {K : List (Nat × SV) → List Blk → Prop} {Qn : Act → World → Prop} {n : Nat} (ht : tailB ops n = true) (hns : Region.noSelect ops = true)
    (hQ : ∀ fr hp a w, Good w0 F n0 ρ0 N D fr hp a w → K fr hp → Qn a w) (ρ1 : Nat → Nat) (S : List Blk) (mask : Nat → List Nat) (H : List Nat) (hSl : ∀ B ∈ S, B.lt S.length) :
    ∀ (ds : List DOp) (listed : Array Bool) (fr : List (Nat × SV)) (hp : List Blk) (ρ : Nat → Nat) (a : Act) (w : World),
      planB ops n listed (ds.map fun d => (d.tag, d.idx)) = true → dslim ops N H ds → (∀ d ∈ ds, d.tag = .held ∨ d.tag = .ins → d.idx ∈ H) → Closed ops listed → (∀ k, k < n0 → ρ k = ρ0 k) → n0 ≤ hp.length → (∀ k, k < S.length → ρ k = ρ1 k) → S.length ≤ hp.length →
      (∀ d ∈ ds, d.tag = .take → Sat w0 (star anyH (hpP ρ1 0 (wipeF S mask d.fs))) w) → Rel w0 F ρ N D fr hp a w → vdops P S mask ds fr hp K →
      wpAnyG P ops Qn (TG w0 ρ1 S mask H) n ds.length listed a w
  | [], listed, fr, hp, ρ, a, w, hp0, _, _, _, hag0, hn0, _, _, _, r, h => by
    simp only [List.map_nil, planB, List.isEmpty_iff] at hp0
    exact ⟨hp0, hQ fr hp a w ⟨ρ, hag0, hn0, r⟩ h⟩
  | ⟨tag, i, fs, m⟩ :: ds, listed, fr, hp, ρ, a, w, hp0, ⟨⟨o, ho, hsl⟩, hfs, hsr⟩, hH, hcl, hag0, hn0, hag1, hSle, hSw, r, h => by
    have hsl' := hsl
    obtain ⟨e1, e2, e3, _⟩ := hsl'
    simp only at ho e1 e2 hfs
    have hWl : ∀ l, (wipeF S mask l).length = S.length := fun l => wipe_length _ _
    have hWlt : ∀ l, ∀ B ∈ wipeF S mask l, B.lt S.length := fun l => wipe_lt _ hSl
    have hSP : ∀ {ρ' : Nat → Nat} (l : List Nat), (∀ k, k < S.length → ρ' k = ρ1 k) → hpP ρ' 0 (wipeF S mask l) = hpP ρ1 0 (wipeF S mask l) := fun l hh => hpP_congr (n := S.length) hh 0 _ (by rw [hWl]; omega) (hWlt l)
    have hHr : ∀ d ∈ ds, d.tag = .held ∨ d.tag = .ins → d.idx ∈ H := fun d hd => hH d (by simp [hd])
    have cont : ∀ (s : SV) (hp' : List Blk) (w' : World) (fr' : List (Nat × SV)) (ρ' : Nat → Nat), Rel w0 F ρ N D fr' hp a w → (∀ k, k < hp.length → ρ' k = ρ k) → hp.length ≤ hp'.length → s.lt hp'.length → (∀ B ∈ hp', B.lt hp'.length) →
        Sat w0 (star F (hpP ρ' 0 hp')) w' → planB ops n (listed.setIfInBounds i true) (ds.map fun d => (d.tag, d.idx)) = true → i ∈ Region.ready .any ops listed →
        (∀ d ∈ ds, d.tag = .take → Sat w0 (star anyH (hpP ρ1 0 (wipeF S mask d.fs))) w') → vdops P S mask ds (putF o.dst s fr') hp' K →
        wpAnyG P ops Qn (TG w0 ρ1 S mask H) n ds.length (listed.setIfInBounds i true) (a.put o.dst (s.den ρ')) w' :=
      fun s hp' w' fr' ρ' r' hag hl hs hsh hsat hpl hr hS hk => vdops_sound ht hns hQ ρ1 S mask H hSl ds _ _ hp' ρ' _ w' hpl hsr hHr (closed_set hcl hr) (fun k hk => (hag k (by omega)).trans (hag0 k hk)) (by omega)
        (fun k hk => (hag k (by omega)).trans (hag1 k hk)) (by omega) hS (rel_step r' e3 hag hl hs hsh hsat) hk
    have skip : ∀ (fr' : List (Nat × SV)), Rel w0 F ρ N D fr' hp a w → planB ops n (listed.setIfInBounds i true) (ds.map fun d => (d.tag, d.idx)) = true → i ∈ Region.ready .any ops listed →
        vdops P S mask ds (putF o.dst undefV fr') hp K → wpAnyG P ops Qn (TG w0 ρ1 S mask H) n ds.length (listed.setIfInBounds i true) (a.put o.dst undef) w :=
      fun fr' r' hpl hr hk => cont undefV hp w fr' ρ r' (fun _ _ => rfl) (Nat.le_refl _) (by simp [undefV, SV.lt]) r.sh r.sat hpl hr (fun d hd => hSw d (by simp [hd])) hk
    cases tag with
    | take =>
      simp only [List.map_cons, planB, Bool.and_eq_true, decide_eq_true_eq] at hp0
      obtain ⟨⟨⟨hin, hrd⟩, hfree⟩, hpl⟩ := hp0
      have hrd' : i ∈ Region.ready .any ops listed := by simpa using hrd
      have hS0 := hSw ⟨.take, i, fs, m⟩ List.mem_cons_self rfl
      simp only at hS0
      have hfs' := hfs rfl
      have hT : ∀ j w w', j < n → ¬ Waits ops j i → Sat w0 (star anyH (hpP ρ1 0 (wipeF S mask fs))) w → TG w0 ρ1 S mask H j w w' → Sat w0 (star anyH (hpP ρ1 0 (wipeF S mask fs))) w' := fun j w w' _ hnw hs hT => by
        rcases hT with rfl | ⟨hjH, hs'⟩
        · exact hs
        · have hj : j ∈ fs := by rw [hfs']; exact frees_spec hjH hnw
          exact wipe_sat _ _ (fun k hk => by
            simp only [List.flatMap_cons, List.flatMap_nil, List.append_nil] at hk
            exact List.mem_flatMap.2 ⟨j, hj, hk⟩) hs'
      simp only [vdops] at h
      obtain ⟨fr', r', hc⟩ := guard_cases r hsl h
      rcases hc with ⟨hw, hy⟩ | ⟨hw, hy⟩
      · simp only [e2] at hy
        obtain ⟨s, hk, hs, hyl⟩ := vq_sound (w0 := w0) r'.hfr r'.sc (fun B hB => Blk.lt_mono hSle (hWlt fs B hB)) hy
        refine wpAnyG_first ht ho hin (Region.noSelect_spec hns) (fun w => .inl rfl) hT ds.length listed a w hcl (Region.free_spec ho hfree) hrd' (v := s.den ρ) (.inl ⟨hw, fun w' hw' => hyl anyH w' (by rw [hSP fs hag1]; exact hw')⟩) hS0 ?_
        rw [e1] at hk
        exact cont s hp w fr' ρ r' (fun _ _ => rfl) (Nat.le_refl _) hs r.sh r.sat hpl hrd' (fun d hd => hSw d (by simp [hd])) hk
      · refine wpAnyG_first ht ho hin (Region.noSelect_spec hns) (fun w => .inl rfl) hT ds.length listed a w hcl (Region.free_spec ho hfree) hrd' (v := undef) (.inr ⟨hw, rfl⟩) hS0 ?_
        rw [e1] at hy
        exact skip fr' r' hpl hrd' hy
    | held =>
      have hp00 := hp0
      simp only [List.map_cons, planB, Bool.and_eq_true, beq_iff_eq] at hp0
      obtain ⟨hrd, hpl⟩ := hp0
      have hrd' : i ∈ Region.ready .any ops listed := by rw [hrd]; simp
      have hiH : i ∈ H := hH ⟨.held, i, fs, m⟩ List.mem_cons_self (.inl rfl)
      have later : ∀ w', Sat w0 (star anyH (hpP ρ1 0 (wipeF S mask [i]))) w' → ∀ d ∈ ds, d.tag = .take → Sat w0 (star anyH (hpP ρ1 0 (wipeF S mask d.fs))) w' := fun w' hs d hd ht' => by
        have hun := plan_unlisted hp00 (d.tag, d.idx) (by simp; exact .inr ⟨d, hd, rfl, rfl⟩)
        have hnw : ¬ Waits ops i d.idx := fun hw => by
          have := hw.listed hcl (.inl hrd')
          rw [getD_ft hun] at this; cases this
        have hdfs : ∀ {l : List DOp}, dslim ops N H l → ∀ d ∈ l, d.tag = .take → d.fs = freesOf ops H d.idx := by
          intro l
          induction l with
          | nil => intro _ d hd; cases hd
          | cons x l ih =>
            intro hx d hd
            rcases List.mem_cons.1 hd with rfl | hd
            · exact hx.2.1
            · exact ih hx.2.2 d hd
        have hj : i ∈ d.fs := by rw [hdfs hsr d hd ht']; exact frees_spec hiH hnw
        exact wipe_sat _ _ (fun k hk => by
          simp only [List.flatMap_cons, List.flatMap_nil, List.append_nil] at hk
          exact List.mem_flatMap.2 ⟨i, hj, hk⟩) hs
      simp only [vdops] at h
      obtain ⟨fr', r', hc⟩ := guard_cases r hsl h
      refine ⟨fun h0 => (by rw [hrd] at h0; cases h0), fun j hj => ?_⟩
      rw [hrd] at hj
      obtain rfl : j = i := by simpa using hj
      unfold wpOpR
      simp only [ho]
      rcases hc with ⟨hw, hy⟩ | ⟨hw, hy⟩
      · rw [if_pos hw]
        simp only [e2] at hy
        refine (vop_sound r'.toRel0 r'.sat hy).mono fun v w' ⟨ρ', s, hp', hv, hag, hl, hs, hsh, hsat, hagr, hk⟩ => ?_
        subst hv
        have hS' : Sat w0 (star anyH (hpP ρ1 0 (wipeF S mask [j]))) w' := by
          rw [← hSP (ρ' := ρ') [j] (fun k hk => (hag k (by omega)).trans (hag1 k hk))]
          exact agree_sat _ hp' 0 F hagr hsat
        rw [e1] at hk
        exact ⟨fun _ => .inr ⟨hiH, hS'⟩, cont s hp' w' fr' ρ' r' hag hl hs hsh hsat hpl hrd' (later w' hS') hk⟩
      · rw [if_neg (by rw [hw]; simp)]
        rw [e1] at hy
        exact ⟨fun _ => .inl rfl, skip fr' r' hpl hrd' hy⟩
    | ins =>
      have hp00 := hp0
      obtain ⟨pre, rest, hds, hpre, hrest⟩ := ins_split ds
      have hp1 : planB ops n listed ((⟨.ins, i, fs, m⟩ :: pre).map (fun d => (d.tag, d.idx)) ++ rest.map fun d => (d.tag, d.idx)) = true := by
        rw [hds] at hp0; simpa using hp0
      have hpi : insPre (ds.map fun d => (d.tag, d.idx)) = pre.map (·.idx) := by rw [hds]; exact ins_pre pre rest hpre hrest
      simp only [List.map_cons, planB, Bool.and_eq_true] at hp0
      obtain ⟨hok, hpl⟩ := hp0
      rw [hpi] at hok
      obtain ⟨hrd, ⟨⟨t, sl⟩, hx, hxs⟩, hoth⟩ := insOK_spec hok
      have hG : ∀ d ∈ (⟨.ins, i, fs, m⟩ :: pre : List DOp), d.idx ∈ i :: pre.map (·.idx) := fun d hd => by
        rcases List.mem_cons.1 hd with rfl | hd
        · simp
        · simp only [List.mem_cons, List.mem_map]; exact .inr ⟨d, hd, rfl⟩
      have hsl2 : dslim ops N H ((⟨.ins, i, fs, m⟩ :: pre) ++ rest) := by
        rw [List.cons_append, ← hds]; exact ⟨⟨o, ho, hsl⟩, hfs, hsr⟩
      have hpreAll : ∀ d ∈ (⟨.ins, i, fs, m⟩ :: pre : List DOp), d.tag = .ins := fun d hd => by
        rcases List.mem_cons.1 hd with rfl | hd
        · rfl
        · exact hpre d hd
      have hins : ∀ d ∈ (⟨.ins, i, fs, m⟩ :: pre : List DOp), ∃ o, ops[d.idx]? = some o ∧ slimOf ops N o d.m ∧ insT o = some (t, sl) := fun d hd => by
        obtain ⟨o, ho, hs⟩ := dslim_mem hsl2 d (List.mem_append_left _ hd)
        have := hxs d.idx (hG d hd)
        rw [ho] at this
        exact ⟨o, ho, hs, this⟩
      rw [hds, ← List.cons_append] at h
      obtain ⟨mm, E, kt, el, hmt, hmm, hlk, hE⟩ := ins_first hpreAll hins h
      have hself : hp = hp.set mm (.mapB E) := set_self hE
      rw [hself] at h
      obtain ⟨hf1, hf2, hf3, hvr⟩ := ins_extract (hp := hp) hmt hmm hlk (⟨.ins, i, fs, m⟩ :: pre) rest E hpreAll hins h
      have hndG : (i :: pre.map (·.idx)).Nodup := by rw [← hrd]; exact ready_nodup listed
      have hlen2 : ds.length + 1 = (i :: pre.map (·.idx)).length + rest.length := by rw [hds]; simp; omega
      have hidx : ((⟨.ins, i, fs, m⟩ :: pre : List DOp)).map (·.idx) = i :: pre.map (·.idx) := rfl
      obtain ⟨hplE, hclE⟩ := plan_pre (⟨.ins, i, fs, m⟩ :: pre) rest listed hpreAll hp1 hcl
      rw [List.length_cons, hlen2]
      refine group_any (w0 := w0) (F := F) (ρ := ρ) (hp := hp) hmt (kvOf ops fr) hmm (LE := (i :: pre.map (·.idx)).foldl (fun l g => l.setIfInBounds g true) listed) (fuel := rest.length) _ (i :: pre.map (·.idx)) listed E w rfl hndG
        (fun g hg => ?_) (fun _ j => by rw [hrd]) hoth (fun g hg => (mem_ready.1 (by rw [hrd]; exact hg)).1) (fun g hg => ?_) (fun g hg g' hg' e => ?_) (fun g hg w1 w2 X hs => ?_) (by rw [← hself]; exact r.sat) rfl (fun X w' hX hs => ?_)
      · obtain ⟨d, hd, rfl⟩ := List.mem_map.1 (by rw [hidx]; exact hg : g ∈ (⟨.ins, i, fs, m⟩ :: pre : List DOp).map (·.idx))
        obtain ⟨o', ho', _, hi'⟩ := hins d hd
        obtain ⟨k, v, h1, h2, h3⟩ := insT_spec hi'
        obtain ⟨_, _, ⟨ks, hks⟩, ⟨vs, hvs⟩⟩ := hf1 d hd
        refine ⟨o', ho', h2, h3, fun w => ?_⟩
        have e1 := ev_eval (x := .tmp sl) r.hfr hlk
        simp only [kvOf, ho', h1] at hks hvs ⊢
        have e2 : ev fr k = some ks := hks
        have e3 : ev fr v = some vs := hvs
        have e2' := ev_eval r.hfr e2
        have e3' := ev_eval r.hfr e3
        simp only [e2, e3, Option.getD_some]
        simp only [execOp, h1, e1, e2', e3', SV.den, Sem.run_bind]
        rfl
      · obtain ⟨d, hd, rfl⟩ := List.mem_map.1 (by rw [hidx]; exact hg : g ∈ (⟨.ins, i, fs, m⟩ :: pre : List DOp).map (·.idx))
        exact ⟨(hf1 d hd).1, (hf1 d hd).2.1⟩
      · obtain ⟨d, hd, rfl⟩ := List.mem_map.1 (by rw [hidx]; exact hg : g ∈ (⟨.ins, i, fs, m⟩ :: pre : List DOp).map (·.idx))
        obtain ⟨d', hd', rfl⟩ := List.mem_map.1 (by rw [hidx]; exact hg' : g' ∈ (⟨.ins, i, fs, m⟩ :: pre : List DOp).map (·.idx))
        exact hf2 d hd d' hd' e
      · have hgH : g ∈ H := by
          obtain ⟨d, hd, rfl⟩ := List.mem_map.1 (by rw [hidx]; exact hg : g ∈ (⟨.ins, i, fs, m⟩ :: pre : List DOp).map (·.idx))
          exact hH d (by rw [hds, ← List.cons_append]; exact List.mem_append_left _ hd) (.inr (hpreAll d hd))
        obtain ⟨d, hd, rfl⟩ := List.mem_map.1 (by rw [hidx]; exact hg : g ∈ (⟨.ins, i, fs, m⟩ :: pre : List DOp).map (·.idx))
        refine .inr ⟨hgH, ?_⟩
        rw [← hSP [d.idx] hag1]
        exact agree_sat _ _ 0 F (agree_set (by rw [hWl]; exact (hf3 d hd).1) (by rw [hself]; exact (hf3 d hd).2 E)) hs
      · have hs2 := Sat.permMap hmm hX hs
        have hiw : Sat w0 (star anyH (hpP ρ1 0 (wipeF S mask [i]))) w' := by
          rw [← hSP [i] hag1]
          exact agree_sat _ _ 0 F (agree_set (by rw [hWl]; exact (hf3 ⟨.ins, i, fs, m⟩ List.mem_cons_self).1) (by rw [hself]; exact (hf3 ⟨.ins, i, fs, m⟩ List.mem_cons_self).2 E)) hs2
        have hrl : Rel w0 F ρ N D fr (hp.set mm (.mapB (E ++ (i :: pre.map (·.idx)).map (kvOf ops fr)))) a w' := by
          refine ⟨⟨r.hfr, fun t u hu => by rw [List.length_set]; exact r.sc t u hu, lt_set r.sh fun e he => ?_⟩, r.size, r.dfs, hs2⟩
          rcases List.mem_append.1 he with h | h
          · exact r.sh _ (List.mem_of_getElem? hE) e h
          · obtain ⟨g, hg, rfl⟩ := List.mem_map.1 h
            exact kvOf_lt r.sc g
        have hiH : i ∈ H := hH ⟨.ins, i, fs, m⟩ List.mem_cons_self (.inr rfl)
        refine vdops_sound ht hns hQ ρ1 S mask H hSl rest _ fr _ ρ a w' hplE (dslim_right hsl2) (fun d hd => hH d (by rw [hds]; simp [hd])) hclE hag0 (by rw [List.length_set]; exact hn0) hag1 (by rw [List.length_set]; exact hSle) (fun d hd ht' => ?_) hrl hvr
        have hun := plan_unlisted hp00 (d.tag, d.idx) (by rw [hds]; simp; exact .inr (.inr ⟨d, hd, rfl, rfl⟩))
        have hrdi : i ∈ Region.ready .any ops listed := by rw [hrd]; simp
        have hnw : ¬ Waits ops i d.idx := fun hw => by
          have := hw.listed hcl (.inl hrdi)
          rw [getD_ft hun] at this; cases this
        have hj : i ∈ d.fs := by
          rw [dslim_fs hsl2 d (List.mem_append_right _ hd) ht']; exact frees_spec hiH hnw
        exact wipe_sat _ _ (fun k hk => by
          simp only [List.flatMap_cons, List.flatMap_nil, List.append_nil] at hk
          exact List.mem_flatMap.2 ⟨i, hj, hk⟩) hiw
    | free =>
      simp only [List.map_cons, planB, Bool.and_eq_true, beq_iff_eq, decide_eq_true_eq] at hp0
      obtain ⟨⟨⟨hrd, hni⟩, hno⟩, hpl⟩ := hp0
      have hrd' : i ∈ Region.ready .any ops listed := by rw [hrd]; simp
      have hnone : ∀ d ∈ ds, ¬ d.tag = .take := fun d hd e => by
        have := List.all_eq_true.1 hno (d.tag, d.idx) (List.mem_map.2 ⟨d, hd, rfl⟩)
        have := of_decide_eq_true this
        simp only [e] at this
        cases this
      simp only [vdops] at h
      obtain ⟨fr', r', hc⟩ := guard_cases r hsl h
      refine ⟨fun h0 => (by rw [hrd] at h0; cases h0), fun j hj => ?_⟩
      rw [hrd] at hj
      obtain rfl : j = i := by simpa using hj
      unfold wpOpR
      simp only [ho]
      rcases hc with ⟨hw, hy⟩ | ⟨hw, hy⟩
      · rw [if_pos hw]
        simp only [e2] at hy
        refine (vop_sound r'.toRel0 r'.sat hy).mono fun v w' ⟨ρ', s, hp', hv, hag, hl, hs, hsh, hsat, hk⟩ => ?_
        subst hv
        rw [e1] at hk
        exact ⟨fun h => by omega, cont s hp' w' fr' ρ' r' hag hl hs hsh hsat hpl hrd' (fun d hd e => (hnone d hd e).elim) hk⟩
      · rw [if_neg (by rw [hw]; simp)]
        rw [e1] at hy
        exact ⟨fun h => by omega, skip fr' r' hpl hrd' hy⟩

termination_by ds => ds.length
decreasing_by
  all_goals simp_wf
  all_goals first | omega | (rw [hds]; simp; omega)

end
end Go.Vc

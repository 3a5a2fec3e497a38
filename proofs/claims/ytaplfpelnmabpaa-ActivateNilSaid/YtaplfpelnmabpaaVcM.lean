/- States weakened: fewer slots, fewer blocks, other names. Lists of operations. -/
import Derived.Test.YtaplfpelnmabpaaVcL
import Derived.OrdersHeld
import Derived.StillTail
namespace Go.Vc
open Go.RowKit
set_option linter.unusedSimpArgs false
set_option linter.unusedVariables false

def frLe (σ : Nat → Nat) (fr : List (Nat × SV)) : List (Nat × SV) → Prop
  | [] => True
  | (t, s) :: r => look t fr = some (s.ren σ) ∧ frLe σ fr r
def hpLe (σ : Nat → Nat) (hp : List Blk) : Nat → List Blk → Prop
  | _, [] => True
  | j, B :: r => (B = .any ∨ hp[σ j]? = some (B.ren σ)) ∧ hpLe σ hp (j + 1) r
def frLt (n : Nat) : List (Nat × SV) → Prop
  | [] => True
  | (_, s) :: r => s.lt n ∧ frLt n r
def hpLt (n : Nat) : List Blk → Prop
  | [] => True
  | B :: r => B.lt n ∧ hpLt n r
def keeps0 (sel : List Nat) : Nat → Prop
  | 0 => True
  | n + 1 => sel[n]? = some n ∧ keeps0 sel n

theorem frLe_look {σ : Nat → Nat} {fr : List (Nat × SV)} : ∀ {T : List (Nat × SV)}, frLe σ fr T → ∀ t s, look t T = some s → look t fr = some (s.ren σ)
  | [], _, t, s, h => by simp [look] at h
  | (u, x) :: r, hl, t, s, h => by
    simp only [look] at h
    split at h
    · rename_i e; subst e; simp at h; subst h; exact hl.1
    · exact frLe_look hl.2 t s h
theorem frLt_look {n : Nat} : ∀ {T : List (Nat × SV)}, frLt n T → ∀ t s, look t T = some s → s.lt n
  | [], _, t, s, h => by simp [look] at h
  | (u, x) :: r, hl, t, s, h => by
    simp only [look] at h
    split at h
    · simp at h; subst h; exact hl.1
    · exact frLt_look hl.2 t s h
theorem hpLt_mem {n : Nat} : ∀ {T : List Blk}, hpLt n T → ∀ B ∈ T, B.lt n
  | [], _, B, h => by simp at h
  | C :: r, hl, B, h => by
    rcases List.mem_cons.1 h with rfl | h
    · exact hl.1
    · exact hpLt_mem hl.2 B h
theorem keeps0_get {sel : List Nat} : ∀ {n : Nat}, keeps0 sel n → ∀ j, j < n → sel[j]? = some j
  | 0, _, j, h => by omega
  | n + 1, hk, j, h => by
    by_cases e : j = n
    · subst e; exact hk.1
    · exact keeps0_get hk.2 j (by omega)

/-- The state (fr, hp) is good for the state T, name j of T being name 'sel j'; the first n0 names stay. -/
def LeBy (n0 : Nat) (sel : List Nat) (fr : List (Nat × SV)) (hp : List Blk) (T : List (Nat × SV) × List Blk) : Prop :=
  (T.2.length = sel.length ∧ n0 ≤ sel.length ∧ (∀ k ∈ sel, k < hp.length) ∧ sel.Nodup ∧ keeps0 sel n0) ∧ (frLt T.2.length T.1 ∧ hpLt T.2.length T.2) ∧ frLe (nm sel hp.length) fr T.1 ∧ hpLe (nm sel hp.length) hp 0 T.2

section
variable {P : Program} {w0 w : World} {ρ : Nat → Nat} {fr : List (Nat × SV)} {hp : List Blk} {a : Act}

theorem sat_sel (τ : Nat → Nat) : ∀ (i : Nat) (T hp : List Blk) (F : HP), hpLe τ hp i T → (∀ j k, j < T.length → k < T.length → τ (i + j) = τ (i + k) → j = k) → Sat w0 (star F (hpP ρ 0 hp)) w →
    Sat w0 (star F (hpP (fun k => ρ (τ k)) i T)) w
  | i, [], hp, F, _, _, s => by simp only [hpP, star_emp]; exact s.left
  | i, B :: r, hp, F, hle, hinj, s => by
    have hinj' : ∀ j k, j < r.length → k < r.length → τ (i + 1 + j) = τ (i + 1 + k) → j = k := fun j k hj hk e => by
      have := hinj (j + 1) (k + 1) (by simp; omega) (by simp; omega) (by rw [show i + (j + 1) = i + 1 + j by omega, show i + (k + 1) = i + 1 + k by omega]; exact e)
      omega
    simp only [hpP]
    rcases hle.1 with rfl | hB
    · simp only [Blk.P, emp_star]
      exact sat_sel τ (i + 1) r hp F hle.2 hinj' s
    · rw [hpP_take ρ 0 hp (τ i) _ hB, Nat.zero_add, Blk.P_ren, ← star_assoc] at s
      have hset : ∀ (k : Nat) (T : List Blk), (∀ j, j < T.length → τ i ≠ τ (k + j)) → hpLe τ hp k T → hpLe τ (hp.set (τ i) .any) k T := by
        intro k T
        induction T generalizing k with
        | nil => intro _ _; trivial
        | cons C T ih =>
          intro hne h
          refine ⟨h.1.imp id (fun h => ?_), ih (k + 1) (fun j hj => by rw [show k + 1 + j = k + (j + 1) by omega]; exact hne (j + 1) (by simp; omega)) h.2⟩
          rw [List.getElem?_set, if_neg (by have := hne 0 (by simp); simpa using this)]; exact h
      have := sat_sel τ (i + 1) r (hp.set (τ i) .any) _ (hset (i + 1) r (fun j hj e => by
        have := hinj 0 (j + 1) (by simp) (by simp; omega) (by rw [Nat.add_zero, show i + (j + 1) = i + 1 + j by omega]; exact e)
        omega) hle.2) hinj' s
      rw [star_assoc] at this
      exact this

/-- What holds of a frame and a world in a state. -/
structure Rel (w0 : World) (F : HP) (ρ : Nat → Nat) (N : Nat) (D : List Deferred) (fr : List (Nat × SV)) (hp : List Blk) (a : Act) (w : World) : Prop extends Rel0 ρ fr hp a where
  size : a.tmps.size = N
  dfs : a.defers = D
  sat : Sat w0 (star F (hpP ρ 0 hp)) w

/-- The names below n0 stand for what they stood for at the start. -/
def Good (w0 : World) (F : HP) (n0 : Nat) (ρ0 : Nat → Nat) (N : Nat) (D : List Deferred) (fr : List (Nat × SV)) (hp : List Blk) (a : Act) (w : World) : Prop :=
  ∃ ρ : Nat → Nat, (∀ k, k < n0 → ρ k = ρ0 k) ∧ n0 ≤ hp.length ∧ Rel w0 F ρ N D fr hp a w

theorem Good.le {F : HP} {n0 N : Nat} {ρ0 : Nat → Nat} {D : List Deferred} (g : Good w0 F n0 ρ0 N D fr hp a w) {sel : List Nat} {T : List (Nat × SV) × List Blk} (h : LeBy n0 sel fr hp T) : Good w0 F n0 ρ0 N D T.1 T.2 a w := by
  obtain ⟨ρ, hag, hn0, r⟩ := g
  obtain ⟨⟨hl, hn, hlt, hnd, hk⟩, ⟨hf1, hf2⟩, hf, hh⟩ := h
  have hs : Sel sel hp.length := ⟨hlt, hnd⟩
  refine ⟨fun k => ρ (nm sel hp.length k), fun k hk' => ?_, by omega, ⟨⟨fun t s hts => ?_, frLt_look hf1, hpLt_mem hf2⟩, r.size, r.dfs, ?_⟩⟩
  · have : nm sel hp.length k = k := by simp only [nm, keeps0_get hk k hk']
    show ρ (nm sel hp.length k) = _
    rw [this]; exact hag k hk'
  · rw [← den_ren]
    exact r.hfr t _ (frLe_look hf t s hts)
  · exact sat_sel (nm sel hp.length) 0 T.2 hp F hh (fun j k _ _ e => by simpa using nm_inj hs e) r.sat

/-- What a heap's blocks may be said to be as well. -/
def Ent (hp : List Blk) (A : List Blk → Prop) : Prop :=
  ∀ (w0 : World) (F : HP) (ρ : Nat → Nat) (w : World), (∀ B ∈ hp, B.lt hp.length) → Sat w0 (star F (hpP ρ 0 hp)) w →
    ∃ (ρ' : Nat → Nat) (hp' : List Blk), A hp' ∧ (∀ k, k < hp.length → ρ' k = ρ k) ∧ hp.length ≤ hp'.length ∧ (∀ B ∈ hp', B.lt hp'.length) ∧ Sat w0 (star F (hpP ρ' 0 hp')) w

theorem Ent.refl (hp : List Blk) : Ent hp (fun h => h = hp) := fun _ _ ρ _ h s => ⟨ρ, hp, rfl, fun _ _ => rfl, Nat.le_refl _, h, s⟩
theorem Ent.mono {A A' : List Blk → Prop} (h : Ent hp A) (hA : ∀ h, A h → A' h) : Ent hp A' := fun w0 F ρ w h1 h2 =>
  let ⟨ρ', hp', ha, r⟩ := h w0 F ρ w h1 h2; ⟨ρ', hp', hA _ ha, r⟩
theorem Ent.trans {A A' : List Blk → Prop} (h : Ent hp A) (h' : ∀ h, A h → Ent h A') : Ent hp A' := fun w0 F ρ w h1 h2 => by
  obtain ⟨ρ1, hp1, ha, hag, hl, hsh, s⟩ := h w0 F ρ w h1 h2
  obtain ⟨ρ2, hp2, ha2, hag2, hl2, hsh2, s2⟩ := h' hp1 ha w0 F ρ1 w hsh s
  exact ⟨ρ2, hp2, ha2, fun k hk => (hag2 k (by omega)).trans (hag k hk), by omega, hsh2, s2⟩

theorem Good.ent {F : HP} {n0 N : Nat} {ρ0 : Nat → Nat} {D : List Deferred} (g : Good w0 F n0 ρ0 N D fr hp a w) {A : List Blk → Prop} (h : Ent hp A) : ∃ hp', A hp' ∧ Good w0 F n0 ρ0 N D fr hp' a w := by
  obtain ⟨ρ, hag, hn0, r⟩ := g
  obtain ⟨ρ', hp', ha, hag', hl, hsh, s⟩ := h w0 F ρ w r.sh r.sat
  refine ⟨hp', ha, ρ', fun k hk => (hag' k (by omega)).trans (hag k hk), by omega, ⟨⟨fun t u hu => ?_, fun t u hu => lt_mono hl u (r.sc t u hu), hsh⟩, r.size, r.dfs, s⟩⟩
  rw [den_congr hag' u (r.sc t u hu)]; exact r.hfr t u hu

/-- A state good for another: its blocks read otherwise, some of them under other names. -/
def Le (n0 : Nat) (fr : List (Nat × SV)) (hp : List Blk) (T : List (Nat × SV) × List Blk) : Prop :=
  ∃ hp1, Ent hp (fun h => h = hp1) ∧ ∃ sel, LeBy n0 sel fr hp1 T

theorem Good.le' {F : HP} {n0 N : Nat} {ρ0 : Nat → Nat} {D : List Deferred} (g : Good w0 F n0 ρ0 N D fr hp a w) {T : List (Nat × SV) × List Blk} (h : Le n0 fr hp T) : Good w0 F n0 ρ0 N D T.1 T.2 a w := by
  obtain ⟨hp1, he, sel, hl⟩ := h
  obtain ⟨hp', rfl, g'⟩ := g.ent he
  exact g'.le hl

theorem Le.by {n0 : Nat} {fr : List (Nat × SV)} {hp : List Blk} {T : List (Nat × SV) × List Blk} (sel : List Nat) (h : LeBy n0 sel fr hp T) : Le n0 fr hp T := ⟨hp, Ent.refl hp, sel, h⟩
theorem Le.ent {n0 : Nat} {fr : List (Nat × SV)} {hp hp1 : List Blk} {T : List (Nat × SV) × List Blk} (he : Ent hp (fun h => h = hp1)) (sel : List Nat) (h : LeBy n0 sel fr hp1 T) : Le n0 fr hp T := ⟨hp1, he, sel, h⟩

/-! ### Lists of operations -/

structure MOp where
  dst : Option Nat
  op : Op
  g : Option (Nat × Bool)

def putF (dst : Option Nat) (s : SV) (fr : List (Nat × SV)) : List (Nat × SV) := match dst with
  | some d => (d, s) :: fr
  | none => fr

/-- A guard: the operation is carried out, or it is passed over. -/
def guardV (g : Option (Nat × Bool)) (fr : List (Nat × SV)) (yes no : List (Nat × SV) → Prop) : Prop := match g with
  | none => yes fr
  | some (t, want) => match look t fr with
    | some (.v (.bool b)) => (b = want → yes ((t, .v (.bool want)) :: fr)) ∧ (b = (!want) → no ((t, .v (.bool (!want))) :: fr))
    | some (.v (.tuple _)) => no fr
    | _ => False

def vops (P : Program) : List MOp → List (Nat × SV) → List Blk → (List (Nat × SV) → List Blk → Prop) → Prop
  | [], fr, hp, K => K fr hp
  | o :: rest, fr, hp, K => guardV o.g fr (fun fr => vop P fr hp (fun s hp' => vops P rest (putF o.dst s fr) hp' K) o.op) (fun fr => vops P rest (putF o.dst undefV fr) hp K)

/-- How an operation of a region whose order is open comes up: taken first; when nothing else may come up, with what is known throughout to be kept; the same, with nothing left that leans on it. -/
inductive Tag where
  | take | held | ins | free
  deriving DecidableEq

structure DOp where
  tag : Tag
  idx : Nat
  /-- the operations that may write and do not wait for this one -/
  fs : List Nat
  m : MOp

def agree : List Blk → List Blk → Prop
  | [], _ => True
  | B :: r, C :: s => (B = .any ∨ C = B) ∧ agree r s
  | _ :: _, [] => False

/-- What a reading operation may lean on: all that no operation that need not wait for it changes. -/
def wipeF (S : List Blk) (mask : Nat → List Nat) (fs : List Nat) : List Blk := wipe S (fs.flatMap mask)

/-- One of several entries that are put into a map in an open order. -/
def insV (P : Program) (A : List Blk) (sz : Nat) (o : MOp) (fr : List (Nat × SV)) (hp : List Blk) (K : List Blk → Prop) : Prop := match o.op with
  | .insert t m k v => match mapT P t with
    | some (kt, _) => match ev fr m with
      | some (.mp n) => match ev fr k with
        | some k => match ev fr v with
          | some v => match hp[n]? with
            | some (.mapB es) => (sz ≤ n ∧ agree A hp ∧ keyOK P kt k = true ∧ ∀ e ∈ es, keq P kt k e.1 = some false) ∧ K (hp.set n (.mapB (es ++ [(k, v)])))
            | _ => False
          | none => False
        | none => False
      | _ => False
    | none => False
  | _ => False

def vdops (P : Program) (S : List Blk) (mask : Nat → List Nat) : List DOp → List (Nat × SV) → List Blk → (List (Nat × SV) → List Blk → Prop) → Prop
  | [], fr, hp, K => K fr hp
  | ⟨.take, _, fs, o⟩ :: rest, fr, hp, K => guardV o.g fr (fun fr => vq P fr (wipeF S mask fs) (fun s => vdops P S mask rest (putF o.dst s fr) hp K) o.op) (fun fr => vdops P S mask rest (putF o.dst undefV fr) hp K)
  | ⟨.held, i, _, o⟩ :: rest, fr, hp, K => guardV o.g fr (fun fr => vop P fr hp (fun s hp' => agree (wipeF S mask [i]) hp' ∧ vdops P S mask rest (putF o.dst s fr) hp' K) o.op) (fun fr => vdops P S mask rest (putF o.dst undefV fr) hp K)
  | ⟨.ins, i, _, o⟩ :: rest, fr, hp, K => insV P (wipeF S mask [i]) S.length o fr hp (fun hp' => vdops P S mask rest fr hp' K)
  | ⟨.free, _, _, o⟩ :: rest, fr, hp, K => guardV o.g fr (fun fr => vop P fr hp (fun s hp' => vdops P S mask rest (putF o.dst s fr) hp' K) o.op) (fun fr => vdops P S mask rest (putF o.dst undefV fr) hp K)

end
end Go.Vc

/- A small logic of heaplets over the model's worlds: symbolic values, blocks, states. -/
import Derived.WalkKit
import Derived.CallsIn
namespace Go.Vc
open Go.RowKit
set_option linter.unusedSimpArgs false
set_option linter.unusedVariables false

/-! ### Symbolic values: block numbers behind names -/

inductive SV where
  | v (x : Value)
  | ptr (n off : Nat)
  | slc (n off len cap : Nat)
  | agg (cs : List SV)
  | tup (vs : List SV)
  | fn (f : FuncId) (fst caps : List SV)
  | mp (n : Nat)
  | yl (n : Nat)

mutual
def SV.den (ρ : Nat → Nat) : SV → Value
  | .v x => x
  | .ptr n off => .pointer (some ⟨ρ n, off, none⟩)
  | .slc n off len cap => .slice (some ⟨ρ n, off, none⟩) len cap
  | .agg cs => .agg (SV.denL ρ cs).toArray
  | .tup vs => .tuple (SV.denL ρ vs).toArray
  | .fn f a b => .func (.func f) (SV.denL ρ a).toArray (SV.denL ρ b).toArray
  | .mp n => .map (some (ρ n))
  | .yl n => .func (.yield (ρ n)) #[] #[]
def SV.denL (ρ : Nat → Nat) : List SV → List Value
  | [] => []
  | s :: r => s.den ρ :: SV.denL ρ r
end

mutual
/-- All names lie below n. -/
def SV.lt (n : Nat) : SV → Prop
  | .v _ => True
  | .ptr m _ => m < n
  | .slc m _ _ _ => m < n
  | .agg cs => SV.ltL n cs
  | .tup vs => SV.ltL n vs
  | .fn _ a b => SV.ltL n a ∧ SV.ltL n b
  | .mp m => m < n
  | .yl m => m < n
def SV.ltL (n : Nat) : List SV → Prop
  | [] => True
  | s :: r => s.lt n ∧ SV.ltL n r
end

mutual
/-- Names renamed. -/
def SV.ren (σ : Nat → Nat) : SV → SV
  | .v x => .v x
  | .ptr n off => .ptr (σ n) off
  | .slc n off len cap => .slc (σ n) off len cap
  | .agg cs => .agg (SV.renL σ cs)
  | .tup vs => .tup (SV.renL σ vs)
  | .fn f a b => .fn f (SV.renL σ a) (SV.renL σ b)
  | .mp n => .mp (σ n)
  | .yl n => .yl (σ n)
def SV.renL (σ : Nat → Nat) : List SV → List SV
  | [] => []
  | s :: r => s.ren σ :: SV.renL σ r
end

theorem denL_eq (ρ : Nat → Nat) : ∀ l : List SV, SV.denL ρ l = l.map (SV.den ρ)
  | [] => by simp [SV.denL]
  | s :: r => by simp [SV.denL, denL_eq ρ r]
theorem renL_eq (σ : Nat → Nat) : ∀ l : List SV, SV.renL σ l = l.map (SV.ren σ)
  | [] => by simp [SV.renL]
  | s :: r => by simp [SV.renL, renL_eq σ r]
theorem ltL_iff (n : Nat) : ∀ l : List SV, SV.ltL n l ↔ ∀ s ∈ l, s.lt n
  | [] => by simp [SV.ltL]
  | s :: r => by simp [SV.ltL, ltL_iff n r]

mutual
theorem den_congr {ρ ρ' : Nat → Nat} {n : Nat} (h : ∀ k, k < n → ρ k = ρ' k) : ∀ s : SV, s.lt n → s.den ρ = s.den ρ'
  | .v x, _ => by simp [SV.den]
  | .ptr m off, hl => by simp only [SV.lt] at hl; simp [SV.den, h m hl]
  | .slc m off len cap, hl => by simp only [SV.lt] at hl; simp [SV.den, h m hl]
  | .agg cs, hl => by simp only [SV.lt] at hl; simp [SV.den, denL_congr h cs hl]
  | .tup vs, hl => by simp only [SV.lt] at hl; simp [SV.den, denL_congr h vs hl]
  | .fn f a b, hl => by simp only [SV.lt] at hl; simp [SV.den, denL_congr h a hl.1, denL_congr h b hl.2]
  | .mp m, hl => by simp only [SV.lt] at hl; simp [SV.den, h m hl]
  | .yl m, hl => by simp only [SV.lt] at hl; simp [SV.den, h m hl]
theorem denL_congr {ρ ρ' : Nat → Nat} {n : Nat} (h : ∀ k, k < n → ρ k = ρ' k) : ∀ l : List SV, SV.ltL n l → SV.denL ρ l = SV.denL ρ' l
  | [], _ => by simp [SV.denL]
  | s :: r, hl => by simp only [SV.ltL] at hl; simp [SV.denL, den_congr h s hl.1, denL_congr h r hl.2]
end

mutual
theorem den_ren (ρ σ : Nat → Nat) : ∀ s : SV, (s.ren σ).den ρ = s.den (fun k => ρ (σ k))
  | .v x => by simp [SV.den, SV.ren]
  | .ptr m off => by simp [SV.den, SV.ren]
  | .slc m off len cap => by simp [SV.den, SV.ren]
  | .agg cs => by simp [SV.den, SV.ren, denL_ren ρ σ cs]
  | .tup vs => by simp [SV.den, SV.ren, denL_ren ρ σ vs]
  | .fn f a b => by simp [SV.den, SV.ren, denL_ren ρ σ a, denL_ren ρ σ b]
  | .mp m => by simp [SV.den, SV.ren]
  | .yl m => by simp [SV.den, SV.ren]
theorem denL_ren (ρ σ : Nat → Nat) : ∀ l : List SV, SV.denL ρ (SV.renL σ l) = SV.denL (fun k => ρ (σ k)) l
  | [] => by simp [SV.denL, SV.renL]
  | s :: r => by simp [SV.denL, SV.renL, den_ren ρ σ s, denL_ren ρ σ r]
end

mutual
theorem lt_mono {n m : Nat} (h : n ≤ m) : ∀ s : SV, s.lt n → s.lt m
  | .v x, _ => by simp [SV.lt]
  | .ptr k off, hl => by simp only [SV.lt] at *; omega
  | .slc k off len cap, hl => by simp only [SV.lt] at *; omega
  | .agg cs, hl => by simp only [SV.lt] at *; exact ltL_mono h cs hl
  | .tup vs, hl => by simp only [SV.lt] at *; exact ltL_mono h vs hl
  | .fn f a b, hl => by simp only [SV.lt] at *; exact ⟨ltL_mono h a hl.1, ltL_mono h b hl.2⟩
  | .mp k, hl => by simp only [SV.lt] at *; omega
  | .yl k, hl => by simp only [SV.lt] at *; omega
theorem ltL_mono {n m : Nat} (h : n ≤ m) : ∀ l : List SV, SV.ltL n l → SV.ltL m l
  | [], _ => by simp [SV.ltL]
  | s :: r, hl => by simp only [SV.ltL] at *; exact ⟨lt_mono h s hl.1, ltL_mono h r hl.2⟩
end

mutual
theorem lt_ren {n m : Nat} {σ : Nat → Nat} (h : ∀ k, k < n → σ k < m) : ∀ s : SV, s.lt n → (s.ren σ).lt m
  | .v x, _ => by simp [SV.lt, SV.ren]
  | .ptr k off, hl => by simp only [SV.lt, SV.ren] at *; exact h k hl
  | .slc k off len cap, hl => by simp only [SV.lt, SV.ren] at *; exact h k hl
  | .agg cs, hl => by simp only [SV.lt, SV.ren] at *; exact ltL_ren h cs hl
  | .tup vs, hl => by simp only [SV.lt, SV.ren] at *; exact ltL_ren h vs hl
  | .fn f a b, hl => by simp only [SV.lt, SV.ren] at *; exact ⟨ltL_ren h a hl.1, ltL_ren h b hl.2⟩
  | .mp k, hl => by simp only [SV.lt, SV.ren] at *; exact h k hl
  | .yl k, hl => by simp only [SV.lt, SV.ren] at *; exact h k hl
theorem ltL_ren {n m : Nat} {σ : Nat → Nat} (h : ∀ k, k < n → σ k < m) : ∀ l : List SV, SV.ltL n l → SV.ltL m (SV.renL σ l)
  | [], _ => by simp [SV.ltL, SV.renL]
  | s :: r, hl => by simp only [SV.ltL, SV.renL] at *; exact ⟨lt_ren h s hl.1, ltL_ren h r hl.2⟩
end

mutual
theorem ren_congr {σ τ : Nat → Nat} {n : Nat} (h : ∀ k, k < n → σ k = τ k) : ∀ s : SV, s.lt n → s.ren σ = s.ren τ
  | .v x, _ => by simp [SV.ren]
  | .ptr m off, hl => by simp only [SV.lt] at hl; simp [SV.ren, h m hl]
  | .slc m off len cap, hl => by simp only [SV.lt] at hl; simp [SV.ren, h m hl]
  | .agg cs, hl => by simp only [SV.lt] at hl; simp [SV.ren, renL_congr h cs hl]
  | .tup vs, hl => by simp only [SV.lt] at hl; simp [SV.ren, renL_congr h vs hl]
  | .fn f a b, hl => by simp only [SV.lt] at hl; simp [SV.ren, renL_congr h a hl.1, renL_congr h b hl.2]
  | .mp m, hl => by simp only [SV.lt] at hl; simp [SV.ren, h m hl]
  | .yl m, hl => by simp only [SV.lt] at hl; simp [SV.ren, h m hl]
theorem renL_congr {σ τ : Nat → Nat} {n : Nat} (h : ∀ k, k < n → σ k = τ k) : ∀ l : List SV, SV.ltL n l → SV.renL σ l = SV.renL τ l
  | [], _ => by simp [SV.renL]
  | s :: r, hl => by simp only [SV.ltL] at hl; simp [SV.renL, ren_congr h s hl.1, renL_congr h r hl.2]
end

/-! ### Heaplets -/

abbrev Hl := Nat → Option Obj
/-- What a heaplet is asked, the world at the start being given. -/
abbrev HP := World → Hl → Prop

def emp : HP := fun _ h => ∀ k, h k = none
def pto (b : Nat) (o : Obj) : HP := fun _ h => ∀ k, h k = if k = b then some o else none
def star (F G : HP) : HP := fun w h => ∃ h1 h2 : Hl, (∀ k, h1 k = none ∨ h2 k = none) ∧ (∀ k, h k = (h1 k).or (h2 k)) ∧ F w h1 ∧ G w h2
def anyH : HP := fun _ _ => True

theorem hl_ext {h h' : Hl} (e : ∀ k, h k = h' k) : h = h' := funext e

theorem star_comm (F G : HP) : star F G = star G F := by
  have one : ∀ F G : HP, ∀ w h, star F G w h → star G F w h := by
    rintro F G w h ⟨h1, h2, d, e, f, g⟩
    refine ⟨h2, h1, fun k => (d k).symm, fun k => ?_, g, f⟩
    rw [e k]
    rcases d k with d | d <;> simp [d]
  funext w h
  exact propext ⟨one F G w h, one G F w h⟩

theorem star_assoc (F G H : HP) : star (star F G) H = star F (star G H) := by
  funext w h
  refine propext ⟨?_, ?_⟩
  · rintro ⟨h12, h3, d, e, ⟨h1, h2, d', e', f, g⟩, k3⟩
    have dd : ∀ k, (h1 k = none ∧ h2 k = none) ∨ h3 k = none := fun k => by
      rcases d k with d | d
      · rw [e' k, Option.or_eq_none_iff] at d; exact .inl d
      · exact .inr d
    refine ⟨h1, fun k => (h2 k).or (h3 k), fun k => ?_, fun k => ?_, f, h2, h3, fun k => ?_, fun k => rfl, g, k3⟩
    · rcases dd k with d1 | d1
      · exact .inl d1.1
      · rcases d' k with d2 | d2
        · exact .inl d2
        · right; simp [d1, d2]
    · rw [e k, e' k, Option.or_assoc]
    · rcases dd k with d1 | d1
      · exact .inl d1.2
      · exact .inr d1
  · rintro ⟨h1, h23, d, e, f, ⟨h2, h3, d', e', g, k3⟩⟩
    have dd : ∀ k, h1 k = none ∨ (h2 k = none ∧ h3 k = none) := fun k => by
      rcases d k with d | d
      · exact .inl d
      · rw [e' k, Option.or_eq_none_iff] at d; exact .inr d
    refine ⟨fun k => (h1 k).or (h2 k), h3, fun k => ?_, fun k => ?_, ⟨h1, h2, fun k => ?_, fun k => rfl, f, g⟩, k3⟩
    · rcases dd k with d1 | d1
      · rcases d' k with d2 | d2
        · left; simp [d1, d2]
        · exact .inr d2
      · exact .inr d1.2
    · rw [e k, e' k, Option.or_assoc]
    · rcases dd k with d1 | d1
      · exact .inl d1
      · exact .inr d1.1

theorem emp_star (F : HP) : star emp F = F := by
  funext w h
  refine propext ⟨?_, fun hf => ⟨fun _ => none, h, fun _ => .inl rfl, fun k => by simp, fun _ => rfl, hf⟩⟩
  rintro ⟨h1, h2, _, e, f, g⟩
  have : h = h2 := hl_ext fun k => by rw [e k, f k]; simp
  rw [this]; exact g
theorem star_emp (F : HP) : star F emp = F := by rw [star_comm, emp_star]
theorem star_left_comm (F G H : HP) : star F (star G H) = star G (star F H) := by
  rw [← star_assoc, star_comm F G, star_assoc]

theorem star_mono {F F' G G' : HP} {w : World} (hf : ∀ h, F w h → F' w h) (hg : ∀ h, G w h → G' w h) : ∀ h, star F G w h → star F' G' w h :=
  fun _ ⟨h1, h2, d, e, f, g⟩ => ⟨h1, h2, d, e, hf _ f, hg _ g⟩

/-- The world at hand: below the start's heap all is as it was; what is owned lies from there on, as the heaplet says. -/
structure Sat (w0 : World) (F : HP) (w : World) : Prop where
  below : Below w0.heap.size w0 w
  own : ∃ h : Hl, F w0 h ∧ ∀ k o, h k = some o → w0.heap.size ≤ k ∧ w.heap[k]? = some o

theorem Sat.mono {w0 w : World} {F G : HP} (s : Sat w0 F w) (hg : ∀ h, F w0 h → G w0 h) : Sat w0 G w :=
  ⟨s.below, let ⟨h, f, o⟩ := s.own; ⟨h, hg h f, o⟩⟩

theorem Sat.left {w0 w : World} {F G : HP} (s : Sat w0 (star F G) w) : Sat w0 F w :=
  ⟨s.below, let ⟨_, ⟨h1, h2, d, e, f, _⟩, o⟩ := s.own; ⟨h1, f, fun k x hk => o k x (by rw [e k, hk]; simp)⟩⟩
theorem Sat.right {w0 w : World} {F G : HP} (s : Sat w0 (star F G) w) : Sat w0 G w := by
  rw [star_comm] at s; exact s.left

theorem Sat.drew {w0 w : World} {F : HP} (s : Sat w0 F w) : Sat w0 F { w with drawn := w.drawn + 1 } :=
  ⟨s.below.drew, s.own⟩

theorem Sat.init (w : World) : Sat w emp w := ⟨Below.refl _ _, fun _ => none, fun _ => rfl, fun _ _ h => by cases h⟩

/-- A block that is owned. -/
theorem Sat.pto {w0 w : World} {b : Nat} {o : Obj} {F : HP} (s : Sat w0 (star (pto b o) F) w) : w0.heap.size ≤ b ∧ w.heap[b]? = some o := by
  obtain ⟨h, ⟨h1, h2, _, e, f, _⟩, ho⟩ := s.own
  exact ho b o (by rw [e b, f b]; simp)

theorem Sat.put {w0 w : World} {b : Nat} {o : Obj} {F : HP} (s : Sat w0 (star (Vc.pto b o) F) w) {w' : World} (o' : Obj)
    (hb : ∀ k, k ≠ b → w'.heap[k]? = w.heap[k]?) (hs : w'.heap.size = w.heap.size) (hn : w'.heap[b]? = some o') (h1 : w'.os = w.os) (h2 : w'.tape = w.tape) (h3 : w'.output = w.output) :
    Sat w0 (star (Vc.pto b o') F) w' := by
  obtain ⟨hb0, _⟩ := s.pto
  refine ⟨s.below.trans ⟨h1, h2, h3, by omega, fun k hk => hb k (by omega)⟩, ?_⟩
  obtain ⟨h, ⟨g1, g2, d, e, f, g⟩, ho⟩ := s.own
  have hg2 : g2 b = none := by rcases d b with d | d; · rw [f b] at d; simp at d
                               · exact d
  refine ⟨fun k => if k = b then some o' else h k, ⟨fun k => if k = b then some o' else none, g2, fun k => ?_, fun k => ?_, fun k => rfl, g⟩, fun k x hk => ?_⟩
  · by_cases hk : k = b
    · subst hk; exact .inr hg2
    · left; simp [hk]
  · by_cases hk : k = b
    · subst hk; simp
    · have := e k; rw [f k] at this; simp [hk] at this ⊢; exact this
  · by_cases hkb : k = b
    · subst hkb; simp at hk; subst hk; exact ⟨hb0, hn⟩
    · simp [hkb] at hk
      rw [hb k hkb]; exact ho k x hk

theorem Sat.alloc {w0 w : World} {F : HP} (s : Sat w0 F w) (o : Obj) : Sat w0 (star (Vc.pto w.heap.size o) F) { w with heap := w.heap.push o } := by
  have hsz : w0.heap.size ≤ w.heap.size := s.below.size
  refine ⟨s.below.alloc hsz o, ?_⟩
  obtain ⟨h, f, ho⟩ := s.own
  have hlt : ∀ k x, h k = some x → k < w.heap.size := fun k x hk => (Array.getElem?_eq_some_iff.1 (ho k x hk).2).1
  have hnone : h w.heap.size = none := by
    cases hx : h w.heap.size with
    | none => rfl
    | some x => exact absurd (hlt _ _ hx) (Nat.lt_irrefl _)
  refine ⟨fun k => if k = w.heap.size then some o else h k, ⟨fun k => if k = w.heap.size then some o else none, h, fun k => ?_, fun k => ?_, fun _ => rfl, f⟩, fun k x hk => ?_⟩
  · by_cases hk : k = w.heap.size
    · subst hk; exact .inr hnone
    · left; simp [hk]
  · by_cases hk : k = w.heap.size
    · subst hk; simp
    · simp [hk]
  · by_cases hkb : k = w.heap.size
    · subst hkb; simp at hk; subst hk; exact ⟨hsz, by simp⟩
    · simp [hkb] at hk
      have := ho k x hk
      refine ⟨this.1, ?_⟩
      show (w.heap.push o)[k]? = _
      rw [Array.getElem?_push, if_neg (by have := hlt k x hk; omega)]; exact this.2

/-- Blocks that are added leave all that is owned as it is. -/
theorem Sat.later {w0 w w' : World} {F : HP} (s : Sat w0 F w) (h : Below w.heap.size w w') : Sat w0 F w' := by
  refine ⟨s.below.trans (h.mono s.below.size), ?_⟩
  obtain ⟨g, f, ho⟩ := s.own
  refine ⟨g, f, fun k x hk => ⟨(ho k x hk).1, ?_⟩⟩
  rw [h.block k (Array.getElem?_eq_some_iff.1 (ho k x hk).2).1]
  exact (ho k x hk).2

/-! ### Blocks and the heap's list -/

def look (t : Nat) : List (Nat × SV) → Option SV
  | [] => none
  | (u, s) :: r => if u = t then some s else look t r
theorem look_ren (σ : Nat → Nat) (t : Nat) : ∀ fr : List (Nat × SV), look t (fr.map fun x => (x.1, x.2.ren σ)) = (look t fr).map (SV.ren σ)
  | [] => rfl
  | (u, s) :: r => by
    simp only [List.map_cons, look]
    split
    · rfl
    · exact look_ren σ t r
theorem look_mem {t : Nat} {s : SV} : ∀ {fr : List (Nat × SV)}, look t fr = some s → (t, s) ∈ fr
  | [], h => by simp [look] at h
  | (u, v) :: r, h => by
    simp only [look] at h
    split at h
    · rename_i e; subst e; simp at h; subst h; simp
    · simp [look_mem h]

inductive Blk where
  /-- n cells of one's own or more, the first of which are known -/
  | row (cs : List SV) (n : Nat) (ty : TypeId)
  /-- cells that lay there at the start -/
  | ro (off : Nat) (cs : List Value)
  | res (R : Nat → HP)
  /-- the entries of a map -/
  | mapB (es : List (SV × SV))
  /-- the record of a range over a function: the frame, the parameters, the body -/
  | lp (f : FuncId) (N : Nat) (fr : List (Nat × SV)) (ps : Array Nat) (as bd : Code)
  | any

def Blk.P (ρ : Nat → Nat) (b : Nat) : Blk → HP
  | .row cs n ty => fun w0 h => ∃ arr : Array Value, n ≤ arr.size ∧ (∀ (j : Nat) (s : SV), cs[j]? = some s → arr[j]? = some (s.den ρ)) ∧ Vc.pto b (.cells arr ty (0, 0)) w0 h
  | .ro off cs => fun w0 h => emp w0 h ∧ b < w0.heap.size ∧ ∀ (j : Nat) (v : Value), cs[j]? = some v → w0.cell? ⟨b, off + j, none⟩ = some v
  | .res R => R b
  | .mapB es => fun w0 h => ∃ (m : Array MapEntry) (clock : Nat), (m.toList.map (fun e => (e.key, e.val))).Perm (es.map (fun e => (e.1.den ρ, e.2.den ρ))) ∧ Vc.pto b (.map m clock) w0 h
  | .lp f N fr ps as bd => fun w0 h => ∃ (tmps : Array Value) (d : Nat), tmps.size = N ∧ (∀ t s, look t fr = some s → tmps[t]? = some (s.den ρ)) ∧ Vc.pto b (.loop { state := .ready, pending := none, fn := f, tmps := tmps, params := ps, assign := as, body := bd, defers := d }) w0 h
  | .any => emp

def hpP (ρ : Nat → Nat) : Nat → List Blk → HP
  | _, [] => emp
  | i, b :: r => star (b.P ρ (ρ i)) (hpP ρ (i + 1) r)

def Blk.lt (n : Nat) : Blk → Prop
  | .row cs _ _ => ∀ s ∈ cs, s.lt n
  | .mapB es => ∀ e ∈ es, e.1.lt n ∧ e.2.lt n
  | .lp _ _ fr _ _ _ => ∀ x ∈ fr, x.2.lt n
  | _ => True

def Blk.ren (σ : Nat → Nat) : Blk → Blk
  | .row cs n ty => .row (cs.map (SV.ren σ)) n ty
  | .ro off cs => .ro off cs
  | .res R => .res R
  | .mapB es => .mapB (es.map fun e => (e.1.ren σ, e.2.ren σ))
  | .lp f N fr ps as bd => .lp f N (fr.map fun x => (x.1, x.2.ren σ)) ps as bd
  | .any => .any

theorem Blk.P_congr {ρ ρ' : Nat → Nat} {n : Nat} (h : ∀ k, k < n → ρ k = ρ' k) (b : Nat) (B : Blk) (hl : B.lt n) : B.P ρ b = B.P ρ' b := by
  cases B with
  | row cs m ty =>
    funext w0 hh
    simp only [Blk.P]
    have : ∀ arr : Array Value, (∀ (j : Nat) (s : SV), cs[j]? = some s → arr[j]? = some (s.den ρ)) ↔ (∀ (j : Nat) (s : SV), cs[j]? = some s → arr[j]? = some (s.den ρ')) := fun arr => by
      refine ⟨fun H j s hs => ?_, fun H j s hs => ?_⟩
      · rw [← den_congr h s (hl s (List.mem_of_getElem? hs))]; exact H j s hs
      · rw [den_congr h s (hl s (List.mem_of_getElem? hs))]; exact H j s hs
    simp only [this]
  | ro off cs => rfl
  | res R => rfl
  | any => rfl
  | mapB es =>
    funext w0 hh
    simp only [Blk.P]
    have : es.map (fun e => (e.1.den ρ, e.2.den ρ)) = es.map (fun e => (e.1.den ρ', e.2.den ρ')) := List.map_congr_left fun e he => by
      rw [den_congr h e.1 (hl e he).1, den_congr h e.2 (hl e he).2]
    simp only [this]
  | lp f N fr ps as bd =>
    funext w0 hh
    simp only [Blk.P]
    have : ∀ tmps : Array Value, (∀ t s, look t fr = some s → tmps[t]? = some (s.den ρ)) ↔ (∀ t s, look t fr = some s → tmps[t]? = some (s.den ρ')) := fun tmps => by
      refine ⟨fun H t s hs => ?_, fun H t s hs => ?_⟩
      · rw [← den_congr h s (hl _ (look_mem hs))]; exact H t s hs
      · rw [den_congr h s (hl _ (look_mem hs))]; exact H t s hs
    simp only [this]

theorem Blk.P_ren (ρ σ : Nat → Nat) (b : Nat) (B : Blk) : (B.ren σ).P ρ b = B.P (fun k => ρ (σ k)) b := by
  cases B with
  | row cs m ty =>
    funext w0 hh
    simp only [Blk.P, Blk.ren]
    have : ∀ arr : Array Value, (∀ (j : Nat) (s : SV), (cs.map (SV.ren σ))[j]? = some s → arr[j]? = some (s.den ρ)) ↔ (∀ (j : Nat) (s : SV), cs[j]? = some s → arr[j]? = some (s.den (fun k => ρ (σ k)))) := fun arr => by
      refine ⟨fun H j s hs => ?_, fun H j s hs => ?_⟩
      · rw [← den_ren]; exact H j (s.ren σ) (by simp [hs])
      · simp only [List.getElem?_map, Option.map_eq_some_iff] at hs
        obtain ⟨u, hu, rfl⟩ := hs
        rw [den_ren]; exact H j u hu
    simp only [this]
  | ro off cs => rfl
  | res R => rfl
  | any => rfl
  | mapB es =>
    funext w0 hh
    simp only [Blk.P, Blk.ren, List.map_map, Function.comp_def, den_ren]
  | lp f N fr ps as bd =>
    funext w0 hh
    simp only [Blk.P, Blk.ren, look_ren]
    have : ∀ tmps : Array Value, (∀ t s, (look t fr).map (SV.ren σ) = some s → tmps[t]? = some (s.den ρ)) ↔ (∀ t s, look t fr = some s → tmps[t]? = some (s.den (fun k => ρ (σ k)))) := fun tmps => by
      refine ⟨fun H t s hs => ?_, fun H t s hs => ?_⟩
      · rw [← den_ren]; exact H t (s.ren σ) (by simp [hs])
      · obtain ⟨u, hu, rfl⟩ := Option.map_eq_some_iff.1 hs
        rw [den_ren]; exact H t u hu
    simp only [this]

theorem Blk.lt_mono {n m : Nat} (h : n ≤ m) {B : Blk} (hl : B.lt n) : B.lt m := by
  cases B <;> simp only [Blk.lt] at *
  · exact fun s hs => Vc.lt_mono h s (hl s hs)
  · exact fun e he => ⟨Vc.lt_mono h e.1 (hl e he).1, Vc.lt_mono h e.2 (hl e he).2⟩
  · exact fun x hx => Vc.lt_mono h x.2 (hl x hx)
theorem Blk.lt_ren {n m : Nat} {σ : Nat → Nat} (h : ∀ k, k < n → σ k < m) {B : Blk} (hl : B.lt n) : (B.ren σ).lt m := by
  cases B <;> simp only [Blk.lt, Blk.ren] at *
  · intro s hs
    obtain ⟨u, hu, rfl⟩ := List.mem_map.1 hs
    exact Vc.lt_ren h u (hl u hu)
  · intro e he
    obtain ⟨u, hu, rfl⟩ := List.mem_map.1 he
    exact ⟨Vc.lt_ren h u.1 (hl u hu).1, Vc.lt_ren h u.2 (hl u hu).2⟩
  · intro x hx
    obtain ⟨u, hu, rfl⟩ := List.mem_map.1 hx
    exact Vc.lt_ren h u.2 (hl u hu)

theorem hpP_congr {ρ ρ' : Nat → Nat} {n : Nat} (h : ∀ k, k < n → ρ k = ρ' k) : ∀ (i : Nat) (l : List Blk), i + l.length ≤ n → (∀ B ∈ l, B.lt n) → hpP ρ i l = hpP ρ' i l
  | _, [], _, _ => rfl
  | i, B :: r, hi, hl => by
    simp only [List.length_cons] at hi
    simp only [hpP]
    rw [h i (by omega), Blk.P_congr h _ B (hl B (by simp)), hpP_congr h (i + 1) r (by omega) (fun C hC => hl C (by simp [hC]))]

theorem hpP_append (ρ : Nat → Nat) : ∀ (i : Nat) (l m : List Blk), hpP ρ i (l ++ m) = star (hpP ρ i l) (hpP ρ (i + l.length) m)
  | i, [], m => by simp [hpP, emp_star]
  | i, B :: r, m => by simp only [List.cons_append, hpP, hpP_append ρ (i + 1) r m, List.length_cons, star_assoc]; rw [show i + 1 + r.length = i + (r.length + 1) by omega]

/-- One entry taken out. -/
theorem hpP_take (ρ : Nat → Nat) : ∀ (i : Nat) (l : List Blk) (k : Nat) (B : Blk), l[k]? = some B → hpP ρ i l = star (B.P ρ (ρ (i + k))) (hpP ρ i (l.set k .any))
  | i, C :: r, 0, B, h => by
    simp at h; subst h
    simp only [hpP, List.set_cons_zero, Nat.add_zero, Blk.P, emp_star]
  | i, C :: r, k + 1, B, h => by
    have h' : r[k]? = some B := by simpa using h
    simp only [hpP, List.set_cons_succ]
    rw [hpP_take ρ (i + 1) r k B h', star_left_comm, show i + 1 + k = i + (k + 1) by omega]
  | i, [], k, B, h => by simp at h

/-- One entry put in where nothing is known. -/
theorem hpP_put (ρ : Nat → Nat) (i : Nat) (l : List Blk) (k : Nat) (B : Blk) (hk : k < l.length) : hpP ρ i (l.set k B) = star (B.P ρ (ρ (i + k))) (hpP ρ i (l.set k .any)) := by
  rw [hpP_take ρ i (l.set k B) k B (by simp [hk]), List.set_set]

end Go.Vc

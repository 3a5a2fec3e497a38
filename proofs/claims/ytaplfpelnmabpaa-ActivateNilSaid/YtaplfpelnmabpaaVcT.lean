/- Ends of functions, calls: what simp is to show in one go. -/
import Derived.Test.YtaplfpelnmabpaaVcS
namespace Go.Vc
open Go.RowKit
set_option linter.unusedSimpArgs false
set_option linter.unusedVariables false

section
variable {P : Program} {hp : List Blk}

/-- The blocks at the end: read otherwise, the last of them left out, or some of them under other names. -/
def Fin (n0 : Nat) (K : SV → List Blk → Prop) (s : SV) (hp : List Blk) : Prop :=
  (∃ hp0 junk, Ent hp (fun h => h = hp0 ++ junk) ∧ (s.lt hp0.length ∧ n0 ≤ hp0.length ∧ ∀ B ∈ hp0, B.lt hp0.length) ∧ K s hp0) ∨
  ∃ sel s' T, ((T.length = sel.length ∧ n0 ≤ sel.length ∧ (∀ k ∈ sel, k < hp.length) ∧ sel.Nodup ∧ keeps0 sel n0) ∧ (s'.lt T.length ∧ hpLt T.length T) ∧ s = s'.ren (nm sel hp.length) ∧ hpLe (nm sel hp.length) hp 0 T) ∧ K s' T

@[congr] theorem Fin_congr {n0 : Nat} {K : SV → List Blk → Prop} {s s' : SV} {hp hp' : List Blk} (h : s = s') (h2 : hp = hp') : Fin n0 K s hp = Fin n0 K s' hp' := by rw [h, h2]
@[congr] theorem Ent_congr {hp hp' : List Blk} {A : List Blk → Prop} (h : hp = hp') : Ent hp A = Ent hp' A := by rw [h]
theorem Ctr.fin {f : FuncId} {args : List SV} {K : SV → List Blk → Prop} (h : Ctr P f args hp (Fin hp.length K)) : Ctr P f args hp K := by
  intro w0 F ρ w h1 h2 s
  refine (h w0 F ρ w h1 h2 s).mono fun v w' ⟨ρ2, u, hp2, hv, hag2, hl2, hu, hsh2, s2, hfin⟩ => ?_
  rcases hfin with ⟨hp0, junk, he, ⟨h3, h4, h5⟩, hK⟩ | ⟨sel, s', T, ⟨⟨hl, hn, hlt, hnd, hk⟩, ⟨hs', hT⟩, es, hh⟩, hK⟩
  · obtain ⟨ρ3, hp3, ha, hag, hl, hsh, s'⟩ := he w0 F ρ2 w' hsh2 s2
    subst ha
    refine ⟨ρ3, u, hp0, by rw [hv]; exact den_congr (fun k hk => (hag k hk).symm) u hu, fun k hk' => (hag k (by omega)).trans (hag2 k hk'), h4, h3, h5, ?_, hK⟩
    rw [hpP_append, ← star_assoc] at s'
    exact s'.left
  · have hs : Sel sel hp2.length := ⟨hlt, hnd⟩
    refine ⟨fun k => ρ2 (nm sel hp2.length k), s', T, ?_, fun k hk' => ?_, by omega, hs', hpLt_mem hT, ?_, hK⟩
    · rw [hv, es, den_ren]
    · have : nm sel hp2.length k = k := by simp only [nm, keeps0_get hk k hk']
      show ρ2 (nm sel hp2.length k) = _
      rw [this]; exact hag2 k hk'
    · exact sat_sel (nm sel hp2.length) 0 T hp2 F hh (fun j k _ _ e => by simpa using nm_inj hs e) s2

theorem Fin.same {n0 : Nat} {K : SV → List Blk → Prop} {s : SV} (h : s.lt hp.length ∧ n0 ≤ hp.length ∧ ∀ B ∈ hp, B.lt hp.length) (hK : K s hp) : Fin n0 K s hp :=
  .inl ⟨hp, [], by simpa using Ent.refl hp, h, hK⟩
theorem Fin.by {n0 : Nat} {K : SV → List Blk → Prop} {s : SV} (hp0 junk : List Blk) (he : Ent hp (fun h => h = hp0 ++ junk)) (h : s.lt hp0.length ∧ n0 ≤ hp0.length ∧ ∀ B ∈ hp0, B.lt hp0.length) (hK : K s hp0) : Fin n0 K s hp := .inl ⟨hp0, junk, he, h, hK⟩
/-- The first k blocks of what the blocks are read as. -/
theorem Fin.cut {n0 : Nat} {K : SV → List Blk → Prop} {s : SV} (k : Nat) {hp1 : List Blk} (he : Ent hp (fun h => h = hp1)) (h : s.lt (hp1.take k).length ∧ n0 ≤ (hp1.take k).length ∧ ∀ B ∈ hp1.take k, B.lt (hp1.take k).length) (hK : K s (hp1.take k)) : Fin n0 K s hp :=
  .inl ⟨hp1.take k, hp1.drop k, by rw [List.take_append_drop]; exact he, h, hK⟩
theorem Fin.drop {n0 : Nat} {K : SV → List Blk → Prop} {s : SV} (hp0 junk : List Blk) (he : hp = hp0 ++ junk) (h : s.lt hp0.length ∧ n0 ≤ hp0.length ∧ ∀ B ∈ hp0, B.lt hp0.length) (hK : K s hp0) : Fin n0 K s hp := .inl ⟨hp0, junk, by subst he; exact Ent.refl _, h, hK⟩
theorem Fin.sel {n0 : Nat} {K : SV → List Blk → Prop} {s : SV} (sel : List Nat) (s' : SV) (T : List Blk) (h : (T.length = sel.length ∧ n0 ≤ sel.length ∧ (∀ k ∈ sel, k < hp.length) ∧ sel.Nodup ∧ keeps0 sel n0) ∧ (s'.lt T.length ∧ hpLt T.length T) ∧ s = s'.ren (nm sel hp.length) ∧ hpLe (nm sel hp.length) hp 0 T) (hK : K s' T) : Fin n0 K s hp := .inr ⟨sel, s', T, h, hK⟩

theorem Ent.eq {hp1 hp2 : List Blk} (h : Ent hp (fun h => h = hp1)) (e : hp1 = hp2) : Ent hp (fun h => h = hp2) := e ▸ h

def hasAll (sel : List Nat) (hp : List Blk) : Nat → List Blk → Prop
  | _, [] => True
  | j, B :: r => hp[nm sel hp.length j]? = some (B.ren (nm sel hp.length)) ∧ hasAll sel hp (j + 1) r

theorem hasAll_get {sel : List Nat} {hp : List Blk} : ∀ {i : Nat} {l : List Blk}, hasAll sel hp i l → ∀ j B, l[j]? = some B → hp[nm sel hp.length (i + j)]? = some (B.ren (nm sel hp.length))
  | i, [], _, j, B, h => by simp at h
  | i, C :: r, hl, 0, B, h => by simp at h; subst h; exact hl.1
  | i, C :: r, hl, j + 1, B, h => by
    have := hasAll_get hl.2 j B (by simpa using h)
    rw [show i + (j + 1) = i + 1 + j by omega]; exact this

/-- What a call asks of its place: the blocks handed over are those of the contract. -/
def callAt (sel : List Nat) (args : List SV) (hp : List Blk) (args0 : List SV) (hp0 : List Blk) : Prop :=
  ((∀ k ∈ sel, k < hp.length) ∧ sel.Nodup) ∧ hp0.length = sel.length ∧ args = args0.map (SV.ren (nm sel hp.length)) ∧ SV.ltL hp0.length args0 ∧ (∀ B ∈ hp0, B.lt hp0.length) ∧ hasAll sel hp 0 hp0

theorem Ctr.use {f : FuncId} {args0 : List SV} {hp0 : List Blk} {K0 : SV → List Blk → Prop} (h : Ctr P f args0 hp0 K0) (sel : List Nat) {args : List SV} {K : SV → List Blk → Prop} (hc : callAt sel args hp args0 hp0)
    (hK : ∀ s hc, hp0.length ≤ hc.length → K0 s hc → K (s.ren (nm sel hp.length)) (merge hp sel hc)) : Ctr P f args hp K :=
  Ctr.call h sel ⟨hc.1.1, hc.1.2⟩ hc.2.1 hc.2.2.1 hc.2.2.2.1 hc.2.2.2.2.1 (fun j B hB => by have := hasAll_get hc.2.2.2.2.2 j B hB; rwa [Nat.zero_add] at this) hK

theorem Ctr.useEq {f : FuncId} {args0 : List SV} {hp0 : List Blk} {a : SV} {b : List Blk} (h : Ctr P f args0 hp0 (fun s hc => s = a ∧ hc = b)) (sel : List Nat) {args : List SV} {K : SV → List Blk → Prop} (hc : callAt sel args hp args0 hp0) (hK : K (a.ren (nm sel hp.length)) (merge hp sel b)) : Ctr P f args hp K :=
  Ctr.use h sel hc fun s hc _ ⟨e1, e2⟩ => by subst e1 e2; exact hK

/-- Opened behind a call. -/
theorem Ctr.useOpen {σ : Type} {pre : σ → Prop} {shape : σ → List Blk} {f : FuncId} {args0 : List SV} {hp0 : List Blk} {a : SV} {b : List Blk} (h : Ctr P f args0 hp0 (fun s hc => s = a ∧ hc = b)) (sel : List Nat) {args : List SV} {K : SV → List Blk → Prop} (hc : callAt sel args hp args0 hp0) (k : Nat)
    (hk : (merge hp sel b)[k]? = some (.res (mkRes pre shape))) (hK : ∀ x, pre x → K (a.ren (nm sel hp.length)) (merge (merge hp sel b) [k] (shape x))) : Ctr P f args hp K :=
  Ctr.post (Ctr.useEq (K := fun s hp' => s = a.ren (nm sel hp.length) ∧ hp' = merge hp sel b) h sel hc ⟨rfl, rfl⟩) fun s hp' ⟨e1, e2⟩ => by
    subst e1 e2
    exact (ent_open k hk).mono fun h ⟨x, hx, e⟩ => by subst e; exact hK x hx

/-- Opened at a call. -/
theorem Ctr.open {σ : Type} {pre : σ → Prop} {shape : σ → List Blk} {f : FuncId} {args : List SV} {K : SV → List Blk → Prop} (k : Nat) (hk : hp[k]? = some (.res (mkRes pre shape))) (hargs : SV.ltL hp.length args) (hc : ∀ x, pre x → Ctr P f args (merge hp [k] (shape x)) K) : Ctr P f args hp K :=
  Ctr.ent (ent_open k hk) hargs fun _ ⟨x, hx, e⟩ => by subst e; exact hc x hx

attribute [simp] SV.lt SV.ltL SV.ren SV.renL callAt hasAll LeBy frLe hpLe frLt hpLt keeps0

/-- Shut: the entries as a list. -/
theorem Ent.shut {σ : Type} {pre : σ → Prop} {shape : σ → List Blk} (k : Nat) (sel : List Nat) (x : σ) (hpre : pre x) (h : ((∀ j ∈ k :: sel, j < hp.length) ∧ (k :: sel).Nodup) ∧ (shape x).length = (k :: sel).length ∧ (∀ B ∈ shape x, B.lt (shape x).length) ∧ hasAll (k :: sel) hp 0 (shape x)) : Ent hp (fun hp' => hp' = (wipe hp (k :: sel)).set k (.res (mkRes pre shape))) :=
  ent_shut k sel x hpre ⟨h.1.1, h.1.2⟩ h.2.1 h.2.2.1 (fun j B hB => by have := hasAll_get h.2.2.2 j B hB; rwa [Nat.zero_add] at this)

@[simp] theorem w64 {n : Int} (h : -9223372036854775808 ≤ n ∧ n ≤ 9223372036854775807) : IntKind.i64.wrap n = n := by rw [IntKind.wrap_i64]; omega

/-! Rows of integers of one kind. -/
def ivs (k : IntKind) (l : List Int) : List SV := l.map fun n => .v (.int k n)
section
variable (k : IntKind) (l m : List Int)
@[simp] theorem ivs_length : (ivs k l).length = l.length := by simp [ivs]
@[simp] theorem ivs_get (i : Nat) : (ivs k l)[i]? = (l[i]?).map fun n => .v (.int k n) := by simp [ivs]
@[simp] theorem ivs_getE (i : Nat) (h : i < (ivs k l).length) : (ivs k l)[i] = .v (.int k (l[i]'(by simpa [ivs] using h))) := by simp [ivs]
@[simp] theorem ivs_ren (σ : Nat → Nat) : (ivs k l).map (SV.ren σ) = ivs k l := by simp [ivs, Function.comp_def, SV.ren]
@[simp] theorem ivs_set (i : Nat) (v : Int) : (ivs k l).set i (.v (.int k v)) = ivs k (l.set i v) := by simp [ivs]
@[simp] theorem ivs_append : ivs k l ++ ivs k m = ivs k (l ++ m) := by simp [ivs]
@[simp] theorem ivs_take (n : Nat) : (ivs k l).take n = ivs k (l.take n) := by simp [ivs, List.map_take]
@[simp] theorem ivs_drop (n : Nat) : (ivs k l).drop n = ivs k (l.drop n) := by simp [ivs, List.map_drop]
@[simp] theorem ivs_nil : ivs k [] = [] := rfl
@[simp] theorem ivs_ro : (l.map (Value.int k)).map SV.v = ivs k l := by simp [ivs, Function.comp_def]
@[simp] theorem ivs_lt (n : Nat) : (∀ s ∈ ivs k l, s.lt n) ↔ True := by simp [ivs]
@[simp] theorem ivs_flat : (ivs k l).all SV.flat = true := by simp [ivs]; exact fun _ _ => rfl
@[simp] theorem ivs_flat' : (∀ s ∈ ivs k l, s.flat = true) ↔ True := by simp [ivs]; exact fun _ _ => rfl
@[simp] theorem ivs_inj : ivs k l = ivs k m ↔ l = m := by
  refine ⟨fun h => ?_, fun h => by rw [h]⟩
  induction l generalizing m with
  | nil => cases m <;> simp [ivs] at *
  | cons a r ih => cases m with
    | nil => simp [ivs] at h
    | cons b s => simp [ivs] at h; simp [h.1]; exact ih s (by simp [ivs, h.2])
@[simp] theorem ivs_zeros (n : Nat) : zeros [.int k 0] n = ivs k (List.replicate n 0) := by
  induction n with
  | zero => simp [zeros]
  | succ n ih => simp only [zeros, List.map_cons, List.map_nil, List.replicate_succ, List.flatten_cons] at *; simp [ih, ivs]
@[simp] theorem ivs_map : l.map (fun n => SV.v (.int k n)) = ivs k l := rfl
@[simp] theorem ivs_one (a : Int) : ivs k [a] = [.v (.int k a)] := rfl
@[simp] theorem ivs_snoc (a : Int) : ivs k l ++ [.v (.int k a)] = ivs k (l ++ [a]) := by rw [← ivs_one, ivs_append]
theorem ivs_cons (a : Int) : ivs k (a :: l) = .v (.int k a) :: ivs k l := rfl
end
section
@[simp] theorem one_int (k : IntKind) (n : Int) : (Value.int k n).oneCell' = true := rfl
@[simp] theorem one_bool (b : Bool) : (Value.bool b).oneCell' = true := rfl
@[simp] theorem one_ptr (b : Option Addr) : (Value.pointer b).oneCell' = true := rfl
@[simp] theorem one_slc (b : Option Addr) (n m : Nat) : (Value.slice b n m).oneCell' = true := rfl
end
@[simp] theorem natInj (a b : Nat) : ((a : Int) = (b : Int)) ↔ a = b := by omega
theorem tmodN (a b n : Nat) : ((a : Int) + b).tmod n = ((a + b) % n : Nat) := by rw [← Int.natCast_add, ← Int.ofNat_tmod]

/-! A slice that is nil or a buffer of its own. -/
def slV (n : Nat) (len : Nat) : Option Nat → SV
  | none => .v (.slice none 0 0)
  | some c => .slc n 0 len c
def slB (cs : List SV) (el : TypeId) (sz : Nat) : Option Nat → Blk
  | none => .any
  | some c => .row cs (c * sz) el
def SlOK (len : Nat) : Option Nat → Prop
  | none => len = 0
  | some c => len ≤ c
section
variable (n len c : Nat) (cs : List SV) (el : TypeId) (sz : Nat)
@[simp] theorem slV_none : slV n len none = .v (.slice none 0 0) := rfl
@[simp] theorem slV_some : slV n len (some c) = .slc n 0 len c := rfl
@[simp] theorem slB_none : slB cs el sz none = .any := rfl
@[simp] theorem slB_some : slB cs el sz (some c) = .row cs (c * sz) el := rfl
@[simp] theorem SlOK_none : SlOK len none ↔ len = 0 := Iff.rfl
@[simp] theorem SlOK_some : SlOK len (some c) ↔ len ≤ c := Iff.rfl
@[simp] theorem slV_ren (σ : Nat → Nat) (o : Option Nat) : (slV n len o).ren σ = slV (σ n) len o := by cases o <;> rfl
@[simp] theorem slV_lt (m : Nat) (o : Option Nat) : (slV n len o).lt m ↔ (o = none ∨ n < m) := by cases o <;> simp [slV]
@[simp] theorem slB_ren (σ : Nat → Nat) (o : Option Nat) : (slB cs el sz o).ren σ = slB (cs.map (SV.ren σ)) el sz o := by cases o <;> rfl
theorem slB_lt (m : Nat) (o : Option Nat) (h : ∀ s ∈ cs, s.lt m) : (slB cs el sz o).lt m := by cases o <;> simp [slB]; exact h
@[simp] theorem slB_ivs_lt (k : IntKind) (l : List Int) (m : Nat) (o : Option Nat) : (slB (ivs k l) el sz o).lt m ↔ True := by simp; exact slB_lt _ _ _ _ _ (by simp)
end

/-- Appended to a slice that is nil or a buffer of its own. -/
theorem apV_slV {K : SV → List Blk → Prop} {el : TypeId} {sz : Nat} {z : List Value} {n len m off k c2 : Nat} {o : Option Nat} {cs l : List SV} (hn : hp[n]? = some (slB cs el sz o)) (ho : SlOK len o) (hcs : cs.length = len * sz) (hz : z.length = sz ∧ 0 < sz) (hk : k ≠ 0)
    (hb : len + k ≤ 140737488355328 ∧ (len + k) * P.bytesOf el ≤ 140737488355328) (hl : rdN hp m off (k * sz) = some l ∧ l.all SV.flat = true) (h : ∀ c, len + k ≤ c → K (.slc hp.length 0 (len + k) c) (hp.set n .any ++ [.row (cs ++ l) (c * sz) el])) : apV P hp K el sz z [slV n len o, .slc m off k c2] := by
  cases o with
  | none =>
    obtain rfl : len = 0 := ho
    obtain rfl : cs = [] := List.length_eq_zero_iff.1 (by simpa using hcs)
    have e : hp.set n .any = hp := by
      apply List.ext_getElem?
      intro j
      rw [List.getElem?_set]
      by_cases e : n = j
      · subst e
        have hlt := (List.getElem?_eq_some_iff.1 hn).1
        rw [if_pos rfl, if_pos hlt, hn]; rfl
      · rw [if_neg e]
    rw [slV_none, apV_ns, hl.1, need_some]
    refine ⟨⟨hz.1, hz.2, by omega, by have := hb.2; rwa [Nat.zero_add] at this⟩, fun e => absurd e hk, fun _ c hc => ?_⟩
    have := h c (by omega)
    rw [e, Nat.zero_add] at this
    exact this
  | some cap =>
    have ho' : len ≤ cap := ho
    rw [slV_some, apV_ss, hn, slB_some]
    simp only
    rw [hl.1, need_some]
    refine ⟨⟨hz.1, hz.2, trivial, trivial, by omega, ho', Nat.le_refl _, hb.1, hb.2⟩, hl.2, fun c hc => ?_⟩
    have := h c hc
    rw [← hcs, List.take_length]
    exact this

/-- One block more, of which nothing is known. -/
theorem ent_more : Ent hp (fun h => h = hp ++ [.any]) := fun w0 F ρ w hsh s => by
  refine ⟨ρ, _, rfl, fun _ _ => rfl, by simp, fun B hB => ?_, ?_⟩
  · rcases List.mem_append.1 hB with h | h
    · exact Blk.lt_mono (by simp) (hsh B h)
    · simp at h; subst h; trivial
  · rw [hpP_append]; simp only [hpP, Blk.P, star_emp]; exact s

theorem need_by {α : Type} {o : Option α} {K : α → Prop} {s : α} (h : o = some s) (hk : K s) : need o K := ⟨s, h, hk⟩


/-! Ranges over functions. -/
theorem YCtr.use {α : Type} {M : Nat} {Y : List α → Nat → HP} {enc : α → List SV} (h : ∀ xs x, xs.length < M → YCtr P 0 (enc x) [.res (Y xs)] (fun s hp' => s = .v (.bool true) ∧ hp' = [.res (Y (xs ++ [x]))])) (xs : List α) (x : α) (hM : xs.length < M) {n : Nat} {args : List SV} {K : SV → List Blk → Prop}
    (hn : hp[n]? = some (.res (Y xs))) (ha : args = enc x) (hl : SV.ltL 0 (enc x)) (hK : K (.v (.bool true)) (hp.set n (.res (Y (xs ++ [x]))))) : YCtr P n args hp K := by
  intro w0 F ρ w hsh hargs hn' s
  rw [hpP_take ρ 0 hp n _ hn, Nat.zero_add, star_comm (Blk.P _ _ _), ← star_assoc] at s
  simp only [Blk.P] at s
  have h1 := h xs x hM w0 (star F (hpP ρ 0 (hp.set n .any))) (fun _ => ρ n) w (fun B hB => by simp at hB; subst hB; trivial) (ltL_mono (Nat.zero_le _) _ hl) (by simp) (by simpa [hpP, Blk.P, star_emp] using s)
  have ea : SV.denL (fun _ => ρ n) (enc x) = SV.denL ρ args := by rw [ha]; exact denL_congr (n := 0) (fun k hk => absurd hk (Nat.not_lt_zero k)) _ hl
  rw [ea] at h1
  refine h1.mono fun v w' ⟨ρ', u, hc, hv, hag, hlen, hul, hcl, s', hk1, hk2⟩ => ?_
  subst hk1 hk2
  have hr : ρ' 0 = ρ n := hag 0 (by simp)
  simp only [hpP, Blk.P, star_emp, hr] at s'
  refine ⟨ρ, .v (.bool true), _, hv, fun _ _ => rfl, by simp, trivial, fun B hB => ?_, ?_, hK⟩
  · rw [List.length_set]
    rcases List.mem_or_eq_of_mem_set hB with hB | rfl
    · exact hsh B hB
    · trivial
  · rw [hpP_put ρ 0 hp n _ hn', Nat.zero_add, star_comm (Blk.P _ _ _), ← star_assoc]
    exact s'

def rangeAt (sel : List Nat) (fr : List (Nat × SV)) (hp : List Blk) (frC : List (Nat × SV)) (T0 : List Blk) : Prop :=
  ((∀ k ∈ sel, k < hp.length) ∧ sel.Nodup) ∧ T0.length = sel.length ∧ (∀ B ∈ T0, B.lt T0.length) ∧ hasAll sel hp 0 T0 ∧ frLe (nm sel hp.length) fr frC ∧ frLt sel.length frC
attribute [simp] rangeAt

/-- A loop over what a function yields: 'sel' picks out the loop's own blocks, 'frC' and 'T0' are its frame and its heap in names of its own, 'T' its heap after some elements, 'I' when. -/
theorem RangeOK.of {α σ : Type} (M : Nat) (enc : α → List SV) (I : List α → σ → Prop) (T : σ → List Blk) (sel : List Nat) (frC : List (Nat × SV)) (T0 : List Blk) {g : Operand} {ps : List Nat}
    {VA VB : Nat → List (Nat × SV) → List Blk → (Exit → List (Nat × SV) → List Blk → Prop) → Prop} {fr : List (Nat × SV)} {K : Exit → List (Nat × SV) → List Blk → Prop} {f : FuncId} {fst caps : List SV}
    (h1 : rangeAt sel fr hp frC T0) (h2 : ∀ x, (enc x).length = ps.length ∧ SV.ltL 0 (enc x)) (h3 : ∃ st, I [] st ∧ LeH sel.length T0 (T st))
    (h4 : ∀ xs st x, xs.length < M → I xs st → VA sel.length (putPs ps (enc x) frC) (T st) (seqK (fun fr' hp' => VB sel.length fr' hp' (rndK sel.length I T (xs ++ [x]))) failK))
    (hg : ev fr g = some (.fn f fst caps)) (hcall : ∀ (args : Array Value) (w : World), (callFunc f args).run P w = .ok (.enter f args) w)
    (h5 : ∀ Y : List α → Nat → HP, (∀ xs x, xs.length < M → YCtr P 0 (enc x) [.res (Y xs)] (fun s hp' => s = .v (.bool true) ∧ hp' = [.res (Y (xs ++ [x]))])) →
        Ctr P f (fst ++ [.yl hp.length] ++ caps) (wipe hp sel ++ [.res (Y [])]) (fun _ hp' => behK hp.length I T sel Y (K .normal fr) hp')) : RangeOK P g ps VA VB fr hp K :=
  ⟨α, σ, M, enc, I, T, sel, frC, T0, ⟨⟨h1.1.1, h1.1.2⟩, h1.2.1, h1.2.2.1, fun j B hB => by have := hasAll_get h1.2.2.2.1 j B hB; rwa [Nat.zero_add] at this⟩, h1.2.2.2.2, h2, h3, h4, f, fst, caps, hg, hcall, h5⟩

theorem behK.by {α σ : Type} {n : Nat} {I : List α → σ → Prop} {T : σ → List Blk} {sel : List Nat} {Y : List α → Nat → HP} {K : List Blk → Prop} (xs : List α) (hx : hp[n]? = some (.res (Y xs))) (h : ∀ st, I xs st → K (merge (hp.set n .any) sel (T st))) : behK n I T sel Y K hp := ⟨xs, hx, h⟩
attribute [simp] putPs rndK failK

end
end Go.Vc

import Derived.Test.YtaplfpelnmabpaaRk
import Derived.Test.YtaplfpelnmabpaaVcU
namespace Go.Proofs.Ytaplfpelnmabpaa
open Go Go.Vc
set_option linter.unusedSimpArgs false
set_option linter.unusedVariables false
set_option maxRecDepth 100000
set_option maxHeartbeats 4000000

@[simp] abbrev uv (n : Int) : SV := .v (.int .u64 n)
/-! sums of amounts -/
def usum (l : List Int) : Int := l.foldr (· + ·) 0
def UOK (l : List Int) : Prop := ∀ x ∈ l, 0 ≤ x ∧ x ≤ 18446744073709551615
/-- What lies in a block from a place on: elements of one size. -/
def RdN (B : Blk) (off sz : Nat) (L : List (List SV)) : Prop := ∀ i x, L[i]? = some x → B.rdN (off + i * sz) sz = some x
def Rd1 (B : Blk) (off : Nat) (L : List SV) : Prop := ∀ i x, L[i]? = some x → B.rd1 (off + i) = some x
theorem w64u {n : Int} (h : 0 ≤ n ∧ n ≤ 18446744073709551615) : IntKind.u64.wrap n = n := by rw [IntKind.wrap_u64]; omega
theorem w64o {n : Int} (h : 18446744073709551616 ≤ n ∧ n < 36893488147419103232) : IntKind.u64.wrap n = n - 18446744073709551616 := by rw [IntKind.wrap_u64]; omega
theorem usum_take_le {l : List Int} (h : UOK l) (i : Nat) : 0 ≤ usum (l.take i) ∧ usum (l.take i) ≤ usum l := by
  induction l generalizing i with
  | nil => simp [usum]
  | cons a l ih =>
    have ha := h a (by simp)
    have := ih (fun x hx => h x (by simp [hx]))
    cases i with
    | zero => have := this l.length; simp [usum] at *; omega
    | succ i => have := this i; simp [usum] at *; omega
theorem usum_snoc (l : List Int) (x : Int) : usum (l ++ [x]) = usum l + x := by
  induction l with
  | nil => simp [usum]
  | cons a l ih => simp [usum] at *; omega

theorem gwei_Saturate {B : Blk} {off cap : Nat} {l : List Int} (hB : Rd1 B off (ivs .u64 l)) (hlt : B.lt 1) (hren : ∀ σ, B.ren σ = B) (hl : UOK l) (hlen : l.length ≤ 1048576) : Ctr Try.prog F_gwei_Saturate [.slc 0 off l.length cap] [B]
    (fun s hp => s = .tup (if usum l ≤ 18446744073709551615 then [uv (usum l), bv false] else [uv 18446744073709551615, bv true]) ∧ hp = [B]) := by
  refine in_gwei_Saturate (by simp) ?_
  simp [mc_gwei_Saturate]
  refine ⟨{ i : Nat // i ≤ l.length ∧ usum (l.take i) ≤ 18446744073709551615 }, fun i => ([(4, uv (usum (l.take i.1))), (7, .slc 0 off l.length cap), (8, iv l.length), (9, iv (i.1 : Nat))], [B]), fun i => l.length - i.1, ⟨⟨0, by simp [usum]⟩, Le.by [0] (by simp [usum, hlt, hren])⟩, fun i => ?_⟩
  obtain ⟨i, hi, hs⟩ := i
  simp
  refine ⟨fun h => ?_, fun h => ?_⟩
  · have e1 : l[i]? = some l[i] := List.getElem?_eq_getElem h
    have hb := hB i (uv l[i]) (by simp [e1])
    obtain ⟨h1, h2⟩ := hl l[i] (List.getElem_mem h)
    have h3 := (usum_take_le hl i).1
    have h4 : usum (l.take (i + 1)) = usum (l.take i) + l[i] := by rw [List.take_add_one, e1, Option.toList_some, usum_snoc]
    have hw : IntKind.i64.wrap ((i : Int) + 1) = (i : Int) + 1 := w64 (by omega)
    simp [h, hb]
    refine ⟨fun h5 => ?_, fun h5 => ?_⟩
    · have h6 : ¬ usum l ≤ 18446744073709551615 := fun h7 => by
        have := (usum_take_le hl (i + 1)).2
        rw [w64u (by omega)] at h5; omega
      simp [h6]
      omega
    · have h6 : usum (l.take i) + l[i] ≤ 18446744073709551615 := by
        refine Classical.byContradiction fun h7 => ?_
        rw [w64o (by omega)] at h5; omega
      simp [w64u (n := usum (l.take i) + l[i]) (by omega), hw]
      exact ⟨i + 1, Le.by [0] (by simp [h4, hlt, hren]), ⟨by omega, by omega⟩, by omega⟩
  · obtain rfl : i = l.length := by omega
    rw [List.take_length] at hs ⊢
    simp [hs]
theorem gwei_Saturate0 : Ctr Try.prog F_gwei_Saturate [.v (.slice none 0 0)] [] (fun s hp => s = .tup [uv 0, bv false] ∧ hp = []) := by
  refine in_gwei_Saturate (by simp) ?_
  simp [mc_gwei_Saturate]
  refine ⟨Unit, fun _ => ([(4, uv 0), (8, iv 0), (9, iv 0)], []), fun i => 0, ⟨(), Le.by [] (by simp)⟩, fun _ => ?_⟩
  simp
/-- The sum, or that there is none. -/
def addR (l : List Int) : SV := .tup (if usum l ≤ 18446744073709551615 then [uv (usum l), bv true] else [uv 0, bv false])
theorem gwei_Add {B : Blk} {off cap : Nat} {l : List Int} (hB : Rd1 B off (ivs .u64 l)) (hlt : B.lt 1) (hren : ∀ σ, B.ren σ = B) (hl : UOK l) (hlen : l.length ≤ 1048576) : Ctr Try.prog F_gwei_Add [.slc 0 off l.length cap] [B] (fun s hp => s = addR l ∧ hp = [B]) := by
  refine in_gwei_Add (by simp) ?_
  simp [mc_gwei_Add]
  refine Ctr.useEq (gwei_Saturate (cap := cap) hB hlt hren hl hlen) [0] (by simp [hlt, hren]) ?_
  by_cases h : usum l ≤ 18446744073709551615
  · simp [h, addR, hren]
  · simp [h, addR, hren]
theorem gwei_Add0 : Ctr Try.prog F_gwei_Add [.v (.slice none 0 0)] [] (fun s hp => s = addR [] ∧ hp = []) := by
  refine in_gwei_Add (by simp) ?_
  simp [mc_gwei_Add]
  refine Ctr.useEq gwei_Saturate0 [] (by simp) ?_
  simp [addR, usum]
theorem rd1_ivs (k : IntKind) (l : List Int) (m : Nat) (ty : TypeId) : Rd1 (.row (ivs k l) m ty) 0 (ivs k l) := fun i x h => by
  simp only [Blk.rd1]; rw [Nat.zero_add]; exact h

theorem ref01_Max : Ctr Try.prog F_egressref01_Max [] [] (fun s hp => s = uv 18446744073709551615 ∧ hp = []) := by
  refine in_egressref01_Max (by simp) ?_
  simp [mc_egressref01_Max]
theorem ref01_Add {B : Blk} {off cap : Nat} {l : List Int} (hB : Rd1 B off (ivs .u64 l)) (hlt : B.lt 1) (hren : ∀ σ, B.ren σ = B) (hl : UOK l) (hlen : l.length ≤ 1048576) : Ctr Try.prog F_egressref01_Add [.slc 0 off l.length cap] [B] (fun s hp => s = addR l ∧ hp = [B]) := by
  refine in_egressref01_Add (by simp) ?_
  simp [mc_egressref01_Add]
  refine ⟨{ i : Nat // i ≤ l.length ∧ usum (l.take i) ≤ 18446744073709551615 }, fun i => ([(0, .slc 0 off l.length cap), (4, uv (usum (l.take i.1))), (5, iv (i.1 : Nat))], [B]), fun i => l.length - i.1, ⟨⟨0, by simp [usum]⟩, Le.by [0] (by simp [usum, hlt, hren])⟩, fun i => ?_⟩
  obtain ⟨i, hi, hs⟩ := i
  simp
  refine ⟨fun h => ?_, fun h => ?_⟩
  · have e1 : l[i]? = some l[i] := List.getElem?_eq_getElem h
    have hb := hB i (uv l[i]) (by simp [e1])
    obtain ⟨h1, h2⟩ := hl l[i] (List.getElem_mem h)
    have h3 := (usum_take_le hl i).1
    have h4 : usum (l.take (i + 1)) = usum (l.take i) + l[i] := by rw [List.take_add_one, e1, Option.toList_some, usum_snoc]
    have hw : IntKind.i64.wrap ((i : Int) + 1) = (i : Int) + 1 := w64 (by omega)
    simp [h, hb]
    refine maskK.by [] ?_
    simp [h, hb]
    refine Ctr.useEq ref01_Max [] (by simp) ?_
    have hsub : IntKind.u64.wrap (18446744073709551615 - usum (l.take i)) = 18446744073709551615 - usum (l.take i) := w64u (by omega)
    simp [h, hb, hsub]
    refine ⟨fun h5 => ?_, fun h5 => ?_⟩
    · have h6 : ¬ usum l ≤ 18446744073709551615 := fun h7 => by
        have := (usum_take_le hl (i + 1)).2
        omega
      simp [addR, h6]
    · simp [w64u (n := usum (l.take i) + l[i]) (by omega), hw]
      exact ⟨i + 1, Le.by [0] (by simp [h4, hlt, hren]), ⟨by omega, by omega⟩, by omega⟩
  · obtain rfl : i = l.length := by omega
    rw [List.take_length] at hs ⊢
    simp [hs, addR]
/-! whole numbers that are read -/
def Plain (B : Blk) : Prop := (∀ n, B.lt n) ∧ ∀ σ, B.ren σ = B
def SrcI (k : IntKind) (l : List Int) (B : Blk) : Option (Nat × Nat) → Prop
  | none => l = [] ∧ B = .any
  | some (off, cap) => l.length ≤ cap ∧ Rd1 B off (ivs k l)
theorem SrcI.some_ne {k : IntKind} {l : List Int} {B : Blk} {o : Option (Nat × Nat)} (h : SrcI k l B o) (hl : l ≠ []) : ∃ off cap, o = some (off, cap) ∧ l.length ≤ cap ∧ Rd1 B off (ivs k l) := by
  cases o with
  | none => exact absurd h.1 hl
  | some p => exact ⟨p.1, p.2, rfl, h.1, h.2⟩
theorem srcI_len {k : IntKind} {l : List Int} {B : Blk} {o : Option (Nat × Nat)} (h : SrcI k l B o) {t el : TypeId} {s : Nat} (n : Nat) (ht : slcT Try.prog t = some (el, s)) : lenV Try.prog t (raV n l.length o) = some (l.length : Int) := by
  cases o with
  | none => simp [h.1, ht]
  | some p => simp [ht, raV]
theorem srcI_ra {k : IntKind} {l : List Int} {o : Option (Nat × Nat)} (h : RaOK l.length o) : SrcI k l (raB (l.map (Value.int k)) o) o := by
  cases o with
  | none => exact ⟨List.length_eq_zero_iff.1 h, rfl⟩
  | some p => exact ⟨h.1, fun i x hx => by
      rw [raB_some, rd1_ro, if_pos (Nat.le_add_right _ _), Nat.add_sub_cancel_left]
      unfold ivs at hx
      rw [List.getElem?_map] at hx ⊢
      cases hl : l[i]? with
      | none => rw [hl] at hx; cases hx
      | some v => rw [hl] at hx; exact hx⟩
theorem plain_ra (cells : List Value) (o : Option (Nat × Nat)) : Plain (raB cells o) := ⟨fun n => by simp, fun σ => by simp⟩
theorem plain_ivs (k : IntKind) (l : List Int) (m : Nat) (ty : TypeId) : Plain (.row (ivs k l) m ty) := ⟨fun n => by simp, fun σ => by simp⟩
theorem plain_slB (k : IntKind) (l : List Int) (ty : TypeId) (m : Nat) (o : Option Nat) : Plain (slB (ivs k l) ty m o) := by cases o <;> exact ⟨fun n => by simp [Blk.lt], fun σ => by simp [Blk.ren]⟩
def ofOwn (o : Option Nat) : Option (Nat × Nat) := o.map fun c => (0, c)
theorem slV_ra (k len : Nat) (o : Option Nat) : slV k len o = raV k len (ofOwn o) := by cases o <;> rfl
theorem srcI_sl {k : IntKind} {l : List Int} {o : Option Nat} (h : SlOK l.length o) (ty : TypeId) : SrcI k l (slB (ivs k l) ty 1 o) (ofOwn o) := by
  cases o with
  | none => exact ⟨List.length_eq_zero_iff.1 h, rfl⟩
  | some c => exact ⟨h, rd1_ivs _ _ _ _⟩
theorem srcI_own {k : IntKind} {l : List Int} {c m : Nat} (h : l.length ≤ c) (ty : TypeId) : SrcI k l (.row (ivs k l) m ty) (some (0, c)) := ⟨h, rd1_ivs _ _ _ _⟩


end Go.Proofs.Ytaplfpelnmabpaa

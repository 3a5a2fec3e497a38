import Derived.Test.YtggpldcdhkhdmaaFa
import Derived.Test.YtggpldcdhkhdmaaVcU
namespace Go.Proofs.Ytggpldcdhkhdmaa
open Go Go.Vc
set_option linter.unusedSimpArgs false
set_option linter.unusedVariables false
set_option maxRecDepth 100000
set_option maxHeartbeats 4000000

@[simp] abbrev iv (n : Int) : SV := .v (.int .i64 n)
@[simp] abbrev uv (n : Int) : SV := .v (.int .u64 n)
@[simp] abbrev bv (b : Bool) : SV := .v (.bool b)

/-! rows of truth values -/
def bvs (l : List Bool) : List SV := l.map fun b => .v (.bool b)
section
variable (l m : List Bool)
@[simp] theorem bvs_length : (bvs l).length = l.length := by simp [bvs]
@[simp] theorem bvs_get (i : Nat) : (bvs l)[i]? = (l[i]?).map fun b => .v (.bool b) := by simp [bvs]
@[simp] theorem bvs_ren (σ : Nat → Nat) : (bvs l).map (SV.ren σ) = bvs l := by simp [bvs, SV.ren, Function.comp_def]
@[simp] theorem bvs_nil : bvs [] = [] := rfl
@[simp] theorem bvs_one (b : Bool) : bvs [b] = [.v (.bool b)] := rfl
@[simp] theorem bvs_snoc (b : Bool) : bvs l ++ [.v (.bool b)] = bvs (l ++ [b]) := by simp [bvs]
@[simp] theorem bvs_lt (n : Nat) : (∀ s ∈ bvs l, s.lt n) ↔ True := ⟨fun _ => trivial, fun _ s hs => by obtain ⟨b, _, rfl⟩ := List.mem_map.1 hs; trivial⟩
@[simp] theorem bvs_flat : (∀ s ∈ bvs l, s.flat = true) ↔ True := ⟨fun _ => trivial, fun _ s hs => by obtain ⟨b, _, rfl⟩ := List.mem_map.1 hs; rfl⟩
@[simp] theorem slB_bvs_lt (el : TypeId) (sz n : Nat) (o : Option Nat) : (slB (bvs l) el sz o).lt n ↔ True := by simp; exact slB_lt _ _ _ _ _ (by simp)
end
/-! status -/
def tableL : List (SV × SV) := [(.agg [iv 1, iv 1], iv 2), (.agg [iv 2, iv 2], iv 3), (.agg [iv 3, iv 3], iv 4), (.agg [iv 4, iv 4], iv 5), (.agg [iv 5, iv 5], iv 6), (.agg [iv 2, iv 6], iv 7), (.agg [iv 2, iv 7], iv 3), (.agg [iv 3, iv 7], iv 3), (.agg [iv 4, iv 7], iv 4), (.agg [iv 5, iv 7], iv 4)]
theorem status_table : Ctr Try.prog F_status_table [] [] (fun s hp => s = .mp 0 ∧ hp = [.mapB tableL]) := by
  refine in_status_table (by simp) ?_
  simp [mc_status_table]
  refine maskK.by [] ?_
  simp [tableL]

/-- The status after an event. -/
def nextS (s e : Int) : Int × Bool :=
  if s = 1 ∧ e = 1 then (2, true) else if s = 2 ∧ e = 2 then (3, true) else if s = 3 ∧ e = 3 then (4, true) else if s = 4 ∧ e = 4 then (5, true) else if s = 5 ∧ e = 5 then (6, true) else
  if s = 2 ∧ e = 6 then (7, true) else if s = 2 ∧ e = 7 then (3, true) else if s = 3 ∧ e = 7 then (3, true) else if s = 4 ∧ e = 7 then (4, true) else if s = 5 ∧ e = 7 then (4, true) else (0, false)
theorem status_Next {s e : Int} : Ctr Try.prog F_status_Next [iv s, iv e] [] (fun r hp => r = .tup [iv (nextS s e).1, bv (nextS s e).2] ∧ hp = []) := by
  refine Ctr.fin (in_status_Next (by simp) ?_)
  simp [mc_status_Next]
  refine Ctr.useEq status_table [] (by simp) ?_
  simp [tableL]
  have fin : ∀ (x : Int) (b : Bool) (hp : List Blk), nextS s e = (x, b) → Vc.Fin 0 (fun r hp => r = .tup [iv (nextS s e).1, bv (nextS s e).2] ∧ hp = []) (.tup [iv x, bv b]) hp := fun x b hp h => Fin.cut 0 (Ent.refl _) (by simp) (by simp [h])
  refine ⟨fun h1 h2 => fin _ _ _ (by simp [nextS, h1, h2]), fun a1 => ⟨fun h1 h2 => fin _ _ _ (by simp [nextS, h1, h2]), fun a2 => ⟨fun h1 h2 => fin _ _ _ (by simp [nextS, h1, h2]), fun a3 => ⟨fun h1 h2 => fin _ _ _ (by simp [nextS, h1, h2]), fun a4 => ⟨fun h1 h2 => fin _ _ _ (by simp [nextS, h1, h2]), fun a5 =>
    ⟨fun h1 h2 => fin _ _ _ (by simp [nextS, h1, h2]), fun a6 => ⟨fun h1 h2 => fin _ _ _ (by simp [nextS, h1, h2]), fun a7 => ⟨fun h1 h2 => fin _ _ _ (by simp [nextS, h1, h2]), fun a8 => ⟨fun h1 h2 => fin _ _ _ (by simp [nextS, h1, h2]), fun a9 => ⟨fun h1 h2 => fin _ _ _ (by simp [nextS, h1, h2]), fun a10 => ?_⟩⟩⟩⟩⟩⟩⟩⟩⟩⟩
  refine fin _ _ _ ?_
  unfold nextS
  rw [if_neg (fun h => a1 h.1 h.2), if_neg (fun h => a2 h.1 h.2), if_neg (fun h => a3 h.1 h.2), if_neg (fun h => a4 h.1 h.2), if_neg (fun h => a5 h.1 h.2), if_neg (fun h => a6 h.1 h.2), if_neg (fun h => a7 h.1 h.2), if_neg (fun h => a8 h.1 h.2), if_neg (fun h => a9 h.1 h.2), if_neg (fun h => a10 h.1 h.2)]

/-! a validator, a configuration -/
structure Vd where
  bal : Int
  st : Int
  sl : Bool
  rq : Int
  ex : Int
  wd : Int
  dl : Int
  deriving DecidableEq
def Vd.c (v : Vd) : List SV := [uv v.bal, iv v.st, bv v.sl, iv v.rq, iv v.ex, iv v.wd, iv v.dl]
structure Cf where
  cap : Int
  qs : Int
  minDep : Int
  maxDep : Int
  supply : Int
  minBal : Int
  maxBal : Int
  minChurn : Int
  quot : Int
  fcap : Int
  unb : Int
  sld : Int
  ring : Int
  elen : Int
  vis : Int
  pay : Int
  part : Int
  merges : Int
  pnum : Int
  pden : Int
def Cf.c (c : Cf) : List SV := [iv c.cap, iv c.qs, uv c.minDep, uv c.maxDep, uv c.supply, uv c.minBal, uv c.maxBal, uv c.minChurn, uv c.quot, uv c.fcap, iv c.unb, iv c.sld, iv c.ring, iv c.elen, iv c.vis, iv c.pay, iv c.part, iv c.merges, uv c.pnum, uv c.pden]
section
variable (c : Cf) (v : Vd)
@[simp] theorem Cf.c_0 : c.c[0]? = some (iv c.cap) := rfl
@[simp] theorem Cf.c_1 : c.c[1]? = some (iv c.qs) := rfl
@[simp] theorem Cf.c_2 : c.c[2]? = some (uv c.minDep) := rfl
@[simp] theorem Cf.c_3 : c.c[3]? = some (uv c.maxDep) := rfl
@[simp] theorem Cf.c_4 : c.c[4]? = some (uv c.supply) := rfl
@[simp] theorem Cf.c_5 : c.c[5]? = some (uv c.minBal) := rfl
@[simp] theorem Cf.c_6 : c.c[6]? = some (uv c.maxBal) := rfl
@[simp] theorem Cf.c_7 : c.c[7]? = some (uv c.minChurn) := rfl
@[simp] theorem Cf.c_8 : c.c[8]? = some (uv c.quot) := rfl
@[simp] theorem Cf.c_9 : c.c[9]? = some (uv c.fcap) := rfl
@[simp] theorem Cf.c_10 : c.c[10]? = some (iv c.unb) := rfl
@[simp] theorem Cf.c_11 : c.c[11]? = some (iv c.sld) := rfl
@[simp] theorem Cf.c_12 : c.c[12]? = some (iv c.ring) := rfl
@[simp] theorem Cf.c_13 : c.c[13]? = some (iv c.elen) := rfl
@[simp] theorem Cf.c_14 : c.c[14]? = some (iv c.vis) := rfl
@[simp] theorem Cf.c_15 : c.c[15]? = some (iv c.pay) := rfl
@[simp] theorem Cf.c_16 : c.c[16]? = some (iv c.part) := rfl
@[simp] theorem Cf.c_17 : c.c[17]? = some (iv c.merges) := rfl
@[simp] theorem Cf.c_18 : c.c[18]? = some (uv c.pnum) := rfl
@[simp] theorem Cf.c_19 : c.c[19]? = some (uv c.pden) := rfl
@[simp] theorem Vd.c_0 : v.c[0]? = some (uv v.bal) := rfl
@[simp] theorem Vd.c_1 : v.c[1]? = some (iv v.st) := rfl
@[simp] theorem Vd.c_2 : v.c[2]? = some (bv v.sl) := rfl
@[simp] theorem Vd.c_3 : v.c[3]? = some (iv v.rq) := rfl
@[simp] theorem Vd.c_4 : v.c[4]? = some (iv v.ex) := rfl
@[simp] theorem Vd.c_5 : v.c[5]? = some (iv v.wd) := rfl
@[simp] theorem Vd.c_6 : v.c[6]? = some (iv v.dl) := rfl
@[simp] theorem Cf.c_length : c.c.length = 20 := rfl
@[simp] theorem Cf.c_take : c.c.take 20 = c.c := rfl
@[simp] theorem Cf.c_map (σ : Nat → Nat) : c.c.map (SV.ren σ) = c.c := rfl
@[simp] theorem Cf.c_lt (n : Nat) : (∀ s ∈ c.c, s.lt n) ↔ True := by simp [Cf.c]
@[simp] theorem Cf.c_flat : (∀ s ∈ c.c, s.flat = true) ↔ True := by simp [Cf.c]
@[simp] theorem Vd.c_take : v.c.take 7 = v.c := rfl
@[simp] theorem Vd.c_map (σ : Nat → Nat) : v.c.map (SV.ren σ) = v.c := rfl
@[simp] theorem Vd.c_lt (n : Nat) : (∀ s ∈ v.c, s.lt n) ↔ True := by simp [Vd.c]
@[simp] theorem Vd.c_flat : (∀ s ∈ v.c, s.flat = true) ↔ True := by simp [Vd.c]
end
def Vd.OK (v : Vd) : Prop := 0 ≤ v.bal ∧ v.bal ≤ 18446744073709551615
def Cf.OK (c : Cf) : Prop := 0 ≤ c.maxBal ∧ c.maxBal ≤ 18446744073709551615

/-! sums of amounts -/
def usum (l : List Int) : Int := l.foldr (· + ·) 0
def UOK (l : List Int) : Prop := ∀ x ∈ l, 0 ≤ x ∧ x ≤ 18446744073709551615
/-- What lies in a block from a place on: elements of one size. -/
def RdN (B : Blk) (off sz : Nat) (L : List (List SV)) : Prop := ∀ i x, L[i]? = some x → B.rdN (off + i * sz) sz = some x
def Rd1 (B : Blk) (off : Nat) (L : List SV) : Prop := ∀ i x, L[i]? = some x → B.rd1 (off + i) = some x
theorem w64u {n : Int} (h : 0 ≤ n ∧ n ≤ 18446744073709551615) : IntKind.u64.wrap n = n := by rw [IntKind.wrap_u64]; omega
theorem w64o {n : Int} (h : 18446744073709551616 ≤ n ∧ n < 36893488147419103232) : IntKind.u64.wrap n = n - 18446744073709551616 := by rw [IntKind.wrap_u64]; omega
theorem usum_take_le {l : List Int} (h : UOK l) (i : Nat) : 0 ≤ usum (l.take i) ∧ usum (l.take i) ≤ usum l := by
  induction l generalizing i with
  | nil => simp [usum]
  | cons a l ih =>
    have ha := h a (by simp)
    have := ih (fun x hx => h x (by simp [hx]))
    cases i with
    | zero => have := this l.length; simp [usum] at *; omega
    | succ i => have := this i; simp [usum] at *; omega
theorem usum_snoc (l : List Int) (x : Int) : usum (l ++ [x]) = usum l + x := by
  induction l with
  | nil => simp [usum]
  | cons a l ih => simp [usum] at *; omega

theorem gwei_Saturate {B : Blk} {off cap : Nat} {l : List Int} (hB : Rd1 B off (ivs .u64 l)) (hlt : B.lt 1) (hren : ∀ σ, B.ren σ = B) (hl : UOK l) (hlen : l.length ≤ 1048576) : Ctr Try.prog F_gwei_Saturate [.slc 0 off l.length cap] [B]
    (fun s hp => s = .tup (if usum l ≤ 18446744073709551615 then [uv (usum l), bv false] else [uv 18446744073709551615, bv true]) ∧ hp = [B]) := by
  refine in_gwei_Saturate (by simp) ?_
  simp [mc_gwei_Saturate]
  refine ⟨{ i : Nat // i ≤ l.length ∧ usum (l.take i) ≤ 18446744073709551615 }, fun i => ([(4, uv (usum (l.take i.1))), (7, .slc 0 off l.length cap), (8, iv l.length), (9, iv (i.1 : Nat))], [B]), fun i => l.length - i.1, ⟨⟨0, by simp [usum]⟩, Le.by [0] (by simp [usum, hlt, hren])⟩, fun i => ?_⟩
  obtain ⟨i, hi, hs⟩ := i
  simp
  refine ⟨fun h => ?_, fun h => ?_⟩
  · have e1 : l[i]? = some l[i] := List.getElem?_eq_getElem h
    have hb := hB i (uv l[i]) (by simp [e1])
    obtain ⟨h1, h2⟩ := hl l[i] (List.getElem_mem h)
    have h3 := (usum_take_le hl i).1
    have h4 : usum (l.take (i + 1)) = usum (l.take i) + l[i] := by rw [List.take_add_one, e1, Option.toList_some, usum_snoc]
    have hw : IntKind.i64.wrap ((i : Int) + 1) = (i : Int) + 1 := w64 (by omega)
    simp [h, hb]
    refine ⟨fun h5 => ?_, fun h5 => ?_⟩
    · have h6 : ¬ usum l ≤ 18446744073709551615 := fun h7 => by
        have := (usum_take_le hl (i + 1)).2
        rw [w64u (by omega)] at h5; omega
      simp [h6]
      omega
    · have h6 : usum (l.take i) + l[i] ≤ 18446744073709551615 := by
        refine Classical.byContradiction fun h7 => ?_
        rw [w64o (by omega)] at h5; omega
      simp [w64u (n := usum (l.take i) + l[i]) (by omega), hw]
      exact ⟨i + 1, Le.by [0] (by simp [h4, hlt, hren]), ⟨by omega, by omega⟩, by omega⟩
  · obtain rfl : i = l.length := by omega
    rw [List.take_length] at hs ⊢
    simp [hs]
theorem gwei_Saturate0 : Ctr Try.prog F_gwei_Saturate [.v (.slice none 0 0)] [] (fun s hp => s = .tup [uv 0, bv false] ∧ hp = []) := by
  refine in_gwei_Saturate (by simp) ?_
  simp [mc_gwei_Saturate]
  refine ⟨Unit, fun _ => ([(4, uv 0), (8, iv 0), (9, iv 0)], []), fun i => 0, ⟨(), Le.by [] (by simp)⟩, fun _ => ?_⟩
  simp
/-- The sum, or that there is none. -/
def addR (l : List Int) : SV := .tup (if usum l ≤ 18446744073709551615 then [uv (usum l), bv true] else [uv 0, bv false])
theorem gwei_Add {B : Blk} {off cap : Nat} {l : List Int} (hB : Rd1 B off (ivs .u64 l)) (hlt : B.lt 1) (hren : ∀ σ, B.ren σ = B) (hl : UOK l) (hlen : l.length ≤ 1048576) : Ctr Try.prog F_gwei_Add [.slc 0 off l.length cap] [B] (fun s hp => s = addR l ∧ hp = [B]) := by
  refine in_gwei_Add (by simp) ?_
  simp [mc_gwei_Add]
  refine Ctr.useEq (gwei_Saturate (cap := cap) hB hlt hren hl hlen) [0] (by simp [hlt, hren]) ?_
  by_cases h : usum l ≤ 18446744073709551615
  · simp [h, addR, hren]
  · simp [h, addR, hren]
theorem gwei_Add0 : Ctr Try.prog F_gwei_Add [.v (.slice none 0 0)] [] (fun s hp => s = addR [] ∧ hp = []) := by
  refine in_gwei_Add (by simp) ?_
  simp [mc_gwei_Add]
  refine Ctr.useEq gwei_Saturate0 [] (by simp) ?_
  simp [addR, usum]
end Go.Proofs.Ytggpldcdhkhdmaa

import Derived.Test.YtggpldcdhkhdmaaMg
import Derived.Test.YtggpldcdhkhdmaaMh
namespace Go.Proofs.Ytggpldcdhkhdmaa
open Go Go.Vc
set_option linter.unusedSimpArgs false
set_option linter.unusedVariables false
set_option maxRecDepth 100000
set_option maxHeartbeats 4000000

theorem SrcOK.src_ne {E : Type} {enc : E → List SV} {sz : Nat} {l : List E} {B : Blk} {o : Option (Nat × Nat)} (h : SrcOK enc sz l B o) (hl : l ≠ []) : ∃ off cap, o = some (off, cap) ∧ l.length ≤ cap ∧ B.rdN off (l.length * sz) = some (l.flatMap enc) := by
  cases o with
  | none => exact absurd h.1 hl
  | some p => exact ⟨p.1, p.2, rfl, h.1, h.2.1⟩
@[simp] theorem vds_takeAll (l : List Vd) : (vds l).take (l.length * 7) = vds l := List.take_of_length_le (by simp)
theorem ref07_Put {l : List Vd} {o : Option Nat} {i : Nat} {v : Vd} (ho : SlOK l.length o) (hi : i < l.length) (hl : l.length ≤ 1048576) : Ctr Try.prog F_egressref07_Put [slV 0 l.length o, iv i, .agg v.c] [slB (vds l) ty_api_Validator 7 o] (fun s hp => ∃ c, l.length ≤ c ∧ s = .slc 1 0 l.length c ∧ hp = [slB (vds l) ty_api_Validator 7 o, .row (vds (l.set i v)) (c * 7) ty_api_Validator]) := by
  refine Ctr.fin (in_egressref07_Put (by simp) ?_)
  cases o with
  | none => have : l.length = 0 := ho; omega
  | some cp =>
    simp [mc_egressref07_Put, zeros]
    exact ⟨by omega, fun c hc => ⟨hi, by omega, Fin.sel [0, 3] (.slc 1 0 l.length c) [.row (vds l) (cp * 7) ty_api_Validator, .row (vds (l.set i v)) (c * 7) ty_api_Validator] ⟨by simp, by simp, by simp, by simp [hi]⟩ ⟨c, hc, rfl, rfl⟩⟩⟩
theorem ref16_Move {l : List Vd} {o : Option Nat} {p q : Int} {a b : Vd} (ho : SlOK l.length o) (hp : 0 ≤ p ∧ p < l.length) (hq : 0 ≤ q ∧ q < l.length) (ha : l[p.toNat]? = some a) (hb : l[q.toNat]? = some b) (hs : 0 ≤ b.bal + a.bal ∧ b.bal + a.bal ≤ 18446744073709551615) (hl : l.length ≤ 1048576) : Ctr Try.prog F_egressref16_Move [slV 0 l.length o, iv p, iv q] [slB (vds l) ty_api_Validator 7 o]
    (fun s hp => ∃ c, l.length ≤ c ∧ s = .slc 1 0 l.length c ∧ hp = [slB (vds l) ty_api_Validator 7 o, .row (vds ((l.set p.toNat (mvA a)).set q.toNat (mvB a b))) (c * 7) ty_api_Validator]) := by
  refine Ctr.fin (in_egressref16_Move (by simp) ?_)
  cases o with
  | none => have : l.length = 0 := ho; omega
  | some cp =>
    have ra := vds_rd l (cp * 7) 33 ha
    have rb := vds_rd l (cp * 7) 33 hb
    have hpN : (p.toNat : Int) = p := by omega
    have hqN : (q.toNat : Int) = q := by omega
    have hw := w64u hs
    simp [mc_egressref16_Move, hp, hq, ra, rb, -rdN_row]
    simp [stR_full, Vd.c, hw]
    refine maskK.by [] ?_
    simp
    refine Ctr.use (ref07_Put (l := l) (o := some cp) (i := p.toNat) (v := mvA a) ho (by omega) hl) [0] (by simp [Vd.c, mvA, hpN]) fun s hc _ ⟨c1, hc1, e1, e2⟩ => ?_
    subst e1 e2
    simp
    refine Ctr.use (ref07_Put (l := l.set p.toNat (mvA a)) (o := some c1) (i := q.toNat) (v := mvB a b) (by simpa using hc1) (by simp; omega) (by simpa using hl)) [3] (by simp [Vd.c, mvB, hqN]) fun s hc _ ⟨c2, hc2, e1, e2⟩ => ?_
    subst e1 e2
    simp
    simp at hc2
    exact Fin.sel [0, 4] (.slc 1 0 l.length c2) [.row (vds l) (cp * 7) ty_api_Validator, .row (vds ((l.set p.toNat (mvA a)).set q.toNat (mvB a b))) (c2 * 7) ty_api_Validator] ⟨by simp, by simp, by simp, by simp⟩ ⟨c2, hc2, rfl, rfl⟩
theorem ref16_Step {l : List Vd} {o : Option (Nat × Nat)} {B : Blk} {q : List (Int × Int)} {oq : Option (Nat × Nat)} {BQ : Blk} {c : Cf} (ho : SrcOK Vd.c 7 l B o) (hB : Plain B) (hoq : SrcOK prC 2 q BQ oq) (hBQ : Plain BQ) (hl : l.length ≤ 1048576) (hq : q.length ≤ 1048576) (hv : ∀ v ∈ l, v.OK) (hm : 0 ≤ c.merges) :
    Ctr Try.prog F_egressref16_Step [raV 0 l.length o, raV 1 q.length oq, .agg c.c] [B, BQ] (fun s hp => ∃ co, l.length ≤ co ∧ ∃ od, SlOK (min q.length c.merges.toNat) od ∧ s = .tup [.slc 2 0 l.length co, slV 3 (min q.length c.merges.toNat) od] ∧
      hp = [B, BQ, .row (vds (cSt l q c (min q.length c.merges.toNat)).1) (co * 7) ty_api_Validator, slB (bvs (cSt l q c (min q.length c.merges.toNat)).2) ty_bool 1 od]) := by
  refine Ctr.fin (in_egressref16_Step (by simp) ?_)
  obtain ⟨k, hk⟩ : ∃ k, k = min q.length c.merges.toNat := ⟨_, rfl⟩
  have hlq := src_len hoq 1 slc_23
  rw [← hk]
  match o, ho with
  | none, ⟨hl0, hb0⟩ =>
    simp [mc_egressref16_Step, zeros]
    refine ⟨{ p : Nat × Nat × Option Nat // p.1 ≤ k ∧ l.length ≤ p.2.1 ∧ SlOK p.1 p.2.2 }, fun p => ([(1, raV 1 q.length oq), (5, .ptr 2 0), (8, .slc 3 0 l.length p.1.2.1), (9, slV 4 p.1.1 p.1.2.2), (10, iv (p.1.1 : Nat))], [B, BQ, .row c.c 20 ty_api_Config, .row (vds (cSt l q c p.1.1).1) (p.1.2.1 * 7) ty_api_Validator, slB (bvs (cSt l q c p.1.1).2) ty_bool 1 p.1.2.2]), fun p => k - p.1.1,
      ⟨⟨(0, 0, none), by simp [hl0]⟩, Le.ent ent_more [0, 1, 2, 3, 4] (by simp [hl0, hB.1, hB.2, hBQ.1, hBQ.2, cSt, stepN, vds])⟩, fun p => ?_⟩
    obtain ⟨⟨i, co, od⟩, hi, hco, hod⟩ := p
    simp only at hi hco hod
    simp [hlq]
    refine ⟨fun hlt => ⟨fun hlt2 => ?_, fun hge => ?_⟩, fun hge => ?_⟩
    · obtain ⟨x, hx⟩ : ∃ x, q[i]? = some x := ⟨_, List.getElem?_eq_getElem (by omega)⟩
      obtain ⟨offq, capq, hoq0, hcq, hfq⟩ := hoq.src_ne (fun h => by simp [h] at hlt)
      subst hoq0
      obtain ⟨_, _, hq3⟩ := hoq
      have hr := hq3 i x hx
      have r0 : BQ.rd1 (offq + i * 2) = some (iv x.1) := Blk_rd1 hr 0 _ rfl
      have r1 : BQ.rd1 (offq + i * 2 + 1) = some (iv x.2) := Blk_rd1 hr 1 _ rfl
      obtain ⟨hl1, hl2⟩ := cSt_len l q c i (by omega)
      have hok := cSt_OK q c hv i (by omega)
      have hw : IntKind.i64.wrap ((i : Int) + 1) = (i : Int) + 1 := w64 (by omega)
      have hst := cSt_step (l := l) (c := c) hx
      generalize hS : cSt l q c i = S at *
      obtain ⟨out, done⟩ := S
      simp only at hl1 hl2 hok hst
      simp [hlt, r0, r1]
      refine Ctr.useEq (ref16_Request (l := out) (o := some co) (p := x.1) (q := x.2) (c := c) (by rw [hl1]; exact hco) hok) [3] (by simp [hl1]) ?_
      by_cases hreq : reqE out x.1 x.2 c = 0
      · obtain ⟨g1, g2, g3, g4⟩ := reqE_0 hreq
        obtain ⟨a, ha⟩ : ∃ a, out[x.1.toNat]? = some a := ⟨_, List.getElem?_eq_getElem (by omega)⟩
        obtain ⟨b, hb⟩ : ∃ b, out[x.2.toNat]? = some b := ⟨_, List.getElem?_eq_getElem (by omega)⟩
        have ga : out.getD x.1.toNat Vd.z = a := by simp [List.getD_eq_getElem?_getD, ha]
        have gb : out.getD x.2.toNat Vd.z = b := by simp [List.getD_eq_getElem?_getD, hb]
        rw [ga, gb] at g4
        have hs1 : step1 c x (out, done) = ((out.set x.1.toNat (mvA a)).set x.2.toNat (mvB a b), done ++ [true]) := by simp [step1, hreq, ha, hb]
        have hsum := (chkE_0 g4).2.2.1
        have oka := hok a (List.mem_of_getElem? ha)
        have okb := hok b (List.mem_of_getElem? hb)
        simp [hreq, hlt, r0, r1]
        refine Ctr.use (ref16_Move (l := out) (o := some co) (p := x.1) (q := x.2) (a := a) (b := b) (by rw [hl1]; exact hco) g1 g2 ha hb ⟨by have := oka.1; have := okb.1; omega, by omega⟩ (by omega)) [3] (by simp [hl1]) fun s hc _ ⟨c1, hc1, e1, e2⟩ => ?_
        subst e1 e2
        simp [zeros]
        refine apV_slV (cs := bvs done) (l := [bv true]) (by simp) hod (by simp [hl2]) (by simp) (by simp) (by simp; omega) (by simp) fun cd hcd => ?_
        simp [hw]
        exact ⟨i + 1, c1, some cd, Le.by [0, 1, 2, 5, 7] (by simp [hst, hs1, hB.1, hB.2, hBQ.1, hBQ.2, hl1]), ⟨by omega, by omega, by simpa using hcd⟩, by omega⟩
      · have hs1 : step1 c x (out, done) = (out, done ++ [false]) := by simp [step1, hreq]
        simp [hreq, zeros]
        refine apV_slV (cs := bvs done) (l := [bv false]) (by simp) hod (by simp [hl2]) (by simp) (by simp) (by simp; omega) (by simp) fun cd hcd => ?_
        simp [hw]
        exact ⟨i + 1, co, some cd, Le.by [0, 1, 2, 3, 6] (by simp [hst, hs1, hB.1, hB.2, hBQ.1, hBQ.2, hl1]), ⟨by omega, by omega, by simpa using hcd⟩, by omega⟩
    · obtain rfl : i = k := by omega
      exact Fin.sel [0, 1, 3, 4] (.tup [.slc 2 0 l.length co, slV 3 i od]) [B, BQ, .row (vds (cSt l q c i).1) (co * 7) ty_api_Validator, slB (bvs (cSt l q c i).2) ty_bool 1 od] ⟨by simp, by simp [hB.1, hBQ.1], by simp, by simp [hB.2, hBQ.2]⟩ ⟨co, hco, od, hod, rfl, rfl⟩
    · obtain rfl : i = k := by omega
      exact Fin.sel [0, 1, 3, 4] (.tup [.slc 2 0 l.length co, slV 3 i od]) [B, BQ, .row (vds (cSt l q c i).1) (co * 7) ty_api_Validator, slB (bvs (cSt l q c i).2) ty_bool 1 od] ⟨by simp, by simp [hB.1, hBQ.1], by simp, by simp [hB.2, hBQ.2]⟩ ⟨co, hco, od, hod, rfl, rfl⟩
  | some (offs, caps), ⟨h1, h2, h3⟩ =>
    have h2' : B.rdN offs (l.length * 7) = some (vds l) := h2
    simp [mc_egressref16_Step, zeros, h2']
    refine ⟨by omega, fun c0 hc0 => ?_⟩
    refine ⟨{ p : Nat × Nat × Option Nat // p.1 ≤ k ∧ l.length ≤ p.2.1 ∧ SlOK p.1 p.2.2 }, fun p => ([(1, raV 1 q.length oq), (5, .ptr 2 0), (8, .slc 3 0 l.length p.1.2.1), (9, slV 4 p.1.1 p.1.2.2), (10, iv (p.1.1 : Nat))], [B, BQ, .row c.c 20 ty_api_Config, .row (vds (cSt l q c p.1.1).1) (p.1.2.1 * 7) ty_api_Validator, slB (bvs (cSt l q c p.1.1).2) ty_bool 1 p.1.2.2]), fun p => k - p.1.1,
      ⟨⟨(0, c0, none), by simp [hc0]⟩, Le.ent ent_more [0, 1, 2, 4, 5] (by simp [hB.1, hB.2, hBQ.1, hBQ.2, cSt, stepN])⟩, fun p => ?_⟩
    obtain ⟨⟨i, co, od⟩, hi, hco, hod⟩ := p
    simp only at hi hco hod
    simp [hlq]
    refine ⟨fun hlt => ⟨fun hlt2 => ?_, fun hge => ?_⟩, fun hge => ?_⟩
    · obtain ⟨x, hx⟩ : ∃ x, q[i]? = some x := ⟨_, List.getElem?_eq_getElem (by omega)⟩
      obtain ⟨offq, capq, hoq0, hcq, hfq⟩ := hoq.src_ne (fun h => by simp [h] at hlt)
      subst hoq0
      obtain ⟨_, _, hq3⟩ := hoq
      have hr := hq3 i x hx
      have r0 : BQ.rd1 (offq + i * 2) = some (iv x.1) := Blk_rd1 hr 0 _ rfl
      have r1 : BQ.rd1 (offq + i * 2 + 1) = some (iv x.2) := Blk_rd1 hr 1 _ rfl
      obtain ⟨hl1, hl2⟩ := cSt_len l q c i (by omega)
      have hok := cSt_OK q c hv i (by omega)
      have hw : IntKind.i64.wrap ((i : Int) + 1) = (i : Int) + 1 := w64 (by omega)
      have hst := cSt_step (l := l) (c := c) hx
      generalize hS : cSt l q c i = S at *
      obtain ⟨out, done⟩ := S
      simp only at hl1 hl2 hok hst
      simp [hlt, r0, r1]
      refine Ctr.useEq (ref16_Request (l := out) (o := some co) (p := x.1) (q := x.2) (c := c) (by rw [hl1]; exact hco) hok) [3] (by simp [hl1]) ?_
      by_cases hreq : reqE out x.1 x.2 c = 0
      · obtain ⟨g1, g2, g3, g4⟩ := reqE_0 hreq
        obtain ⟨a, ha⟩ : ∃ a, out[x.1.toNat]? = some a := ⟨_, List.getElem?_eq_getElem (by omega)⟩
        obtain ⟨b, hb⟩ : ∃ b, out[x.2.toNat]? = some b := ⟨_, List.getElem?_eq_getElem (by omega)⟩
        have ga : out.getD x.1.toNat Vd.z = a := by simp [List.getD_eq_getElem?_getD, ha]
        have gb : out.getD x.2.toNat Vd.z = b := by simp [List.getD_eq_getElem?_getD, hb]
        rw [ga, gb] at g4
        have hs1 : step1 c x (out, done) = ((out.set x.1.toNat (mvA a)).set x.2.toNat (mvB a b), done ++ [true]) := by simp [step1, hreq, ha, hb]
        have hsum := (chkE_0 g4).2.2.1
        have oka := hok a (List.mem_of_getElem? ha)
        have okb := hok b (List.mem_of_getElem? hb)
        simp [hreq, hlt, r0, r1]
        refine Ctr.use (ref16_Move (l := out) (o := some co) (p := x.1) (q := x.2) (a := a) (b := b) (by rw [hl1]; exact hco) g1 g2 ha hb ⟨by have := oka.1; have := okb.1; omega, by omega⟩ (by omega)) [3] (by simp [hl1]) fun s hc _ ⟨c1, hc1, e1, e2⟩ => ?_
        subst e1 e2
        simp [zeros]
        refine apV_slV (cs := bvs done) (l := [bv true]) (by simp) hod (by simp [hl2]) (by simp) (by simp) (by simp; omega) (by simp) fun cd hcd => ?_
        simp [hw]
        exact ⟨i + 1, c1, some cd, Le.by [0, 1, 2, 5, 7] (by simp [hst, hs1, hB.1, hB.2, hBQ.1, hBQ.2, hl1]), ⟨by omega, by omega, by simpa using hcd⟩, by omega⟩
      · have hs1 : step1 c x (out, done) = (out, done ++ [false]) := by simp [step1, hreq]
        simp [hreq, zeros]
        refine apV_slV (cs := bvs done) (l := [bv false]) (by simp) hod (by simp [hl2]) (by simp) (by simp) (by simp; omega) (by simp) fun cd hcd => ?_
        simp [hw]
        exact ⟨i + 1, co, some cd, Le.by [0, 1, 2, 3, 6] (by simp [hst, hs1, hB.1, hB.2, hBQ.1, hBQ.2, hl1]), ⟨by omega, by omega, by simpa using hcd⟩, by omega⟩
    · obtain rfl : i = k := by omega
      exact Fin.sel [0, 1, 3, 4] (.tup [.slc 2 0 l.length co, slV 3 i od]) [B, BQ, .row (vds (cSt l q c i).1) (co * 7) ty_api_Validator, slB (bvs (cSt l q c i).2) ty_bool 1 od] ⟨by simp, by simp [hB.1, hBQ.1], by simp, by simp [hB.2, hBQ.2]⟩ ⟨co, hco, od, hod, rfl, rfl⟩
    · obtain rfl : i = k := by omega
      exact Fin.sel [0, 1, 3, 4] (.tup [.slc 2 0 l.length co, slV 3 i od]) [B, BQ, .row (vds (cSt l q c i).1) (co * 7) ty_api_Validator, slB (bvs (cSt l q c i).2) ty_bool 1 od] ⟨by simp, by simp [hB.1, hBQ.1], by simp, by simp [hB.2, hBQ.2]⟩ ⟨co, hco, od, hod, rfl, rfl⟩
end Go.Proofs.Ytggpldcdhkhdmaa

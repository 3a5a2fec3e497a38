import Derived.Test.YtggpldcdhkhdmaaMd
namespace Go.Proofs.Ytggpldcdhkhdmaa
open Go Go.Vc
set_option linter.unusedSimpArgs false
set_option linter.unusedVariables false
set_option maxRecDepth 100000
set_option maxHeartbeats 4000000

theorem merge_Step {l : List Vd} {o : Option (Nat × Nat)} {B : Blk} {q : List (Int × Int)} {oq : Option (Nat × Nat)} {BQ : Blk} {c : Cf} (ho : SrcOK Vd.c 7 l B o) (hB : Plain B) (hoq : SrcOK prC 2 q BQ oq) (hBQ : Plain BQ) (hl : l.length ≤ 1048576) (hq : q.length ≤ 1048576) (hv : ∀ v ∈ l, v.OK) (hm : 0 ≤ c.merges) :
    Ctr Try.prog F_merge_Step [raV 0 l.length o, raV 1 q.length oq, .agg c.c] [B, BQ] (fun s hp => ∃ oo od, SlOK l.length oo ∧ SlOK (min q.length c.merges.toNat) od ∧ s = .tup [slV 2 l.length oo, slV 3 (min q.length c.merges.toNat) od] ∧
      hp = [B, BQ, slB (vds (cSt l q c (min q.length c.merges.toNat)).1) ty_api_Validator 7 oo, slB (bvs (cSt l q c (min q.length c.merges.toNat)).2) ty_bool 1 od]) := by
  refine Ctr.fin (in_merge_Step (by simp) ?_)
  obtain ⟨k, hk⟩ : ∃ k, k = min q.length c.merges.toNat := ⟨_, rfl⟩
  have hmin : imin q.length c.merges = (k : Int) := by rw [imin_eq]; omega
  have hmin2 : imin (0 : Int) c.merges = 0 := by rw [imin_eq]; omega
  have hlq := src_len hoq 1 slc_23
  rw [← hk]
  simp [mc_merge_Step]
  refine Ctr.use (slices_Clone ho hB hl) [0] (by simp [hB.1, hB.2]) fun s hc _ ⟨oo, hoo, e1, e2⟩ => ?_
  subst e1 e2
  match oq, hoq with
  | none, ⟨hq0, hb0⟩ =>
    subst hq0 hb0
    obtain rfl : k = 0 := by simp at hk; exact hk
    simp [hB.2, hmin2]
    refine ⟨Unit, fun _ => ([(8, slV 3 l.length oo), (9, .v (.slice none 0 0)), (22, iv 0), (23, iv 0)], [B, .any, .any, slB (vds l) ty_api_Validator 7 oo, .any]), fun _ => 0, ⟨(), Le.ent ent_more [0, 1, 2, 3, 4] (by simp [hB.1, hB.2])⟩, fun _ => ?_⟩
    simp
    exact Fin.sel [0, 1, 3, 4] (.tup [slV 2 l.length oo, slV 3 0 none]) [B, .any, slB (vds l) ty_api_Validator 7 oo, .any] ⟨by simp, by simp [hB.1], by simp, by simp [hB.2]⟩ ⟨oo, hoo, none, rfl, rfl, by simp [cSt, stepN]⟩
  | some (offq, capq), ⟨h1, h2, h3⟩ =>
    simp [hlq, hB.2, hBQ.2, hmin]
    refine ⟨by omega, ?_⟩
    refine ⟨{ p : Nat × Option Nat // p.1 ≤ k ∧ SlOK p.1 p.2 }, fun p => ([(5, .ptr 2 0), (8, slV 3 l.length oo), (9, slV 4 p.1.1 p.1.2), (21, .slc 1 offq k capq), (22, iv k), (23, iv (p.1.1 : Nat))], [B, BQ, .row c.c 20 ty_api_Config, slB (vds (cSt l q c p.1.1).1) ty_api_Validator 7 oo, slB (bvs (cSt l q c p.1.1).2) ty_bool 1 p.1.2]), fun p => k - p.1.1,
      ⟨⟨(0, none), by simp⟩, Le.ent ent_more [0, 1, 2, 3, 4] (by simp [hB.1, hB.2, hBQ.1, hBQ.2, cSt, stepN])⟩, fun p => ?_⟩
    obtain ⟨⟨i, od⟩, hi, hod⟩ := p
    simp only at hi hod
    simp
    refine ⟨fun hlt => ?_, fun hge => ?_⟩
    · obtain ⟨x, hx⟩ : ∃ x, q[i]? = some x := ⟨_, List.getElem?_eq_getElem (by omega)⟩
      have hr := h3 i x hx
      obtain ⟨hl1, hl2⟩ := cSt_len l q c i (by omega)
      have hok := cSt_OK q c hv i (by omega)
      have hw : IntKind.i64.wrap ((i : Int) + 1) = (i : Int) + 1 := w64 (by omega)
      have hst := cSt_step (l := l) (c := c) hx
      generalize hS : cSt l q c i = S at *
      obtain ⟨out, done⟩ := S
      simp only at hl1 hl2 hok hst
      simp [hlt, hr, prC]
      refine Ctr.useEq (merge_Request (l := out) (o := oo) (p := x.1) (q := x.2) (c := c) (by rw [hl1]; exact hoo) hok) [3] (by simp [hl1]) ?_
      by_cases hreq : reqE out x.1 x.2 c = 0
      · obtain ⟨g1, g2, g3, g4⟩ := reqE_0 hreq
        cases oo with
        | none => have : l.length = 0 := hoo; omega
        | some cp =>
          obtain ⟨a, ha⟩ : ∃ a, out[x.1.toNat]? = some a := ⟨_, List.getElem?_eq_getElem (by omega)⟩
          obtain ⟨b, hb⟩ : ∃ b, out[x.2.toNat]? = some b := ⟨_, List.getElem?_eq_getElem (by omega)⟩
          have ra := vds_rd out (cp * 7) 33 ha
          have rb := vds_rd out (cp * 7) 33 hb
          have ga : out.getD x.1.toNat Vd.z = a := by simp [List.getD_eq_getElem?_getD, ha]
          have gb : out.getD x.2.toNat Vd.z = b := by simp [List.getD_eq_getElem?_getD, hb]
          rw [ga, gb] at g4
          have hs1 : step1 c x (out, done) = ((out.set x.1.toNat (mvA a)).set x.2.toNat (mvB a b), done ++ [true]) := by simp [step1, hreq, ha, hb]
          rw [hl1] at g1 g2
          simp [hreq]
          refine maskK.at (fun j => if j = 17 then [] else [3]) ?_
          simp [g1, g2, ra, rb, -rdN_row]
          simp
          refine Ctr.useEq (merge_Apply (a := a) (b := b) (c := c) (hok a (List.mem_of_getElem? ha)) (hok b (List.mem_of_getElem? hb))) [] (by simp) ?_
          have u1 : x.1.toNat < l.length := by omega
          have u2 : x.2.toNat < l.length := by omega
          have u3 : x.1.toNat * 7 + 7 ≤ l.length * 7 := by omega
          have u4 : x.2.toNat * 7 + 7 ≤ l.length * 7 := by omega
          simp [g4, g1, g2, u1, u2, u3, u4, hl1, zeros]
          refine apV_slV (cs := bvs done) (l := [bv true]) (by simp) hod (by simp [hl2]) (by simp) (by simp) (by simp; omega) (by simp) fun cd hcd => ?_
          simp [hw]
          exact ⟨i + 1, some cd, Le.by [0, 1, 2, 3, 7] (by simp [hst, hs1, hB.1, hB.2, hBQ.1, hBQ.2]), ⟨by omega, by simpa using hcd⟩, by omega⟩
      · have hs1 : step1 c x (out, done) = (out, done ++ [false]) := by simp [step1, hreq]
        simp [hreq, zeros]
        refine apV_slV (cs := bvs done) (l := [bv false]) (by simp) hod (by simp [hl2]) (by simp) (by simp) (by simp; omega) (by simp) fun cd hcd => ?_
        simp [hw]
        exact ⟨i + 1, some cd, Le.by [0, 1, 2, 3, 7] (by simp [hst, hs1, hB.1, hB.2, hBQ.1, hBQ.2]), ⟨by omega, by simpa using hcd⟩, by omega⟩
    · obtain rfl : i = k := by omega
      exact Fin.sel [0, 1, 3, 4] (.tup [slV 2 l.length oo, slV 3 i od]) [B, BQ, slB (vds (cSt l q c i).1) ty_api_Validator 7 oo, slB (bvs (cSt l q c i).2) ty_bool 1 od] ⟨by simp, by simp [hB.1, hBQ.1], by simp, by simp [hB.2, hBQ.2]⟩ ⟨oo, hoo, od, hod, rfl, rfl⟩
end Go.Proofs.Ytggpldcdhkhdmaa

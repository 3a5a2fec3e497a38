import Derived.Test.YtggpldcdhkhdmaaMf
namespace Go.Proofs.Ytggpldcdhkhdmaa
open Go Go.Vc
set_option linter.unusedSimpArgs false
set_option linter.unusedVariables false
set_option maxRecDepth 100000
set_option maxHeartbeats 4000000

theorem ref01_Max : Ctr Try.prog F_egressref01_Max [] [] (fun s hp => s = uv 18446744073709551615 ∧ hp = []) := by
  refine in_egressref01_Max (by simp) ?_
  simp [mc_egressref01_Max]
theorem ref01_Add {B : Blk} {off cap : Nat} {l : List Int} (hB : Rd1 B off (ivs .u64 l)) (hlt : B.lt 1) (hren : ∀ σ, B.ren σ = B) (hl : UOK l) (hlen : l.length ≤ 1048576) : Ctr Try.prog F_egressref01_Add [.slc 0 off l.length cap] [B] (fun s hp => s = addR l ∧ hp = [B]) := by
  refine in_egressref01_Add (by simp) ?_
  simp [mc_egressref01_Add]
  refine ⟨{ i : Nat // i ≤ l.length ∧ usum (l.take i) ≤ 18446744073709551615 }, fun i => ([(0, .slc 0 off l.length cap), (4, uv (usum (l.take i.1))), (5, iv (i.1 : Nat))], [B]), fun i => l.length - i.1, ⟨⟨0, by simp [usum]⟩, Le.by [0] (by simp [usum, hlt, hren])⟩, fun i => ?_⟩
  obtain ⟨i, hi, hs⟩ := i
  simp
  refine ⟨fun h => ?_, fun h => ?_⟩
  · have e1 : l[i]? = some l[i] := List.getElem?_eq_getElem h
    have hb := hB i (uv l[i]) (by simp [e1])
    obtain ⟨h1, h2⟩ := hl l[i] (List.getElem_mem h)
    have h3 := (usum_take_le hl i).1
    have h4 : usum (l.take (i + 1)) = usum (l.take i) + l[i] := by rw [List.take_add_one, e1, Option.toList_some, usum_snoc]
    have hw : IntKind.i64.wrap ((i : Int) + 1) = (i : Int) + 1 := w64 (by omega)
    simp [h, hb]
    refine maskK.by [] ?_
    simp [h, hb]
    refine Ctr.useEq ref01_Max [] (by simp) ?_
    have hsub : IntKind.u64.wrap (18446744073709551615 - usum (l.take i)) = 18446744073709551615 - usum (l.take i) := w64u (by omega)
    simp [h, hb, hsub]
    refine ⟨fun h5 => ?_, fun h5 => ?_⟩
    · have h6 : ¬ usum l ≤ 18446744073709551615 := fun h7 => by
        have := (usum_take_le hl (i + 1)).2
        omega
      simp [addR, h6]
    · simp [w64u (n := usum (l.take i) + l[i]) (by omega), hw]
      exact ⟨i + 1, Le.by [0] (by simp [h4, hlt, hren]), ⟨by omega, by omega⟩, by omega⟩
  · obtain rfl : i = l.length := by omega
    rw [List.take_length] at hs ⊢
    simp [hs, addR]
theorem ref16_Check {a b : Vd} {c : Cf} (ha : a.OK) (hb : b.OK) : Ctr Try.prog F_egressref16_Check [.agg a.c, .agg b.c, .agg c.c] [] (fun s hp => s = iv (chkE a b c) ∧ hp = []) := by
  refine Ctr.fin (in_egressref16_Check (by simp) ?_)
  simp [mc_egressref16_Check, Vd.c, Cf.c]
  have fin : ∀ (e : Int) (hp : List Blk), chkE a b c = e → Vc.Fin 0 (fun s hp => s = iv (chkE a b c) ∧ hp = []) (iv e) hp := fun e hp h => Fin.cut 0 (Ent.refl _) (by simp) (by simp [h])
  by_cases h1 : a.st = 2
  · by_cases h2 : b.st = 2
    · by_cases h3 : a.sl = true
      · simp [h1, h2, h3]
        exact fin 9 _ (by simp [chkE, h1, h2, h3])
      · by_cases h4 : b.sl = true
        · simp [h1, h2, h3, h4]
          exact fin 9 _ (by simp [chkE, h1, h2, h3, h4])
        · simp [h1, h2, h3, h4]
          refine Ctr.useEq (ref01_Add (B := .row (ivs .u64 [a.bal, b.bal]) 2 ty_uint64) (off := 0) (cap := 2) (l := [a.bal, b.bal]) (rd1_ivs _ _ _ _) (by simp) (by simp) (by simpa [UOK] using ⟨ha, hb⟩) (by simp)) [3] (by simp [ivs]) ?_
          by_cases h : usum [a.bal, b.bal] ≤ 18446744073709551615
          · have h' : a.bal + b.bal ≤ 18446744073709551615 := by simpa [usum] using h
            by_cases hm : a.bal + b.bal ≤ c.maxBal
            · have hm2 : ¬ c.maxBal < usum [a.bal, b.bal] := by simp [usum]; omega
              simp [addR, h, hm2]
              exact fin 0 _ (by simp [chkE, h1, h2, h3, h4, sumOK, h', hm])
            · have hm2 : c.maxBal < usum [a.bal, b.bal] := by simp [usum]; omega
              simp [addR, h, hm2]
              exact fin 3 _ (by simp [chkE, h1, h2, h3, h4, sumOK, h', hm])
          · have h' : ¬ a.bal + b.bal ≤ 18446744073709551615 := by simpa [usum] using h
            simp [addR, h]
            exact fin 3 _ (by simp [chkE, h1, h2, h3, h4, sumOK, h'])
    · simp [h1, h2]
      exact fin 8 _ (by simp [chkE, h1, h2])
  · simp [h1]
    exact fin 8 _ (by simp [chkE, h1])
theorem ref16_Request {l : List Vd} {o : Option Nat} {p q : Int} {c : Cf} (ho : SlOK l.length o) (hv : ∀ v ∈ l, v.OK) : Ctr Try.prog F_egressref16_Request [slV 0 l.length o, iv p, iv q, .agg c.c] [slB (vds l) ty_api_Validator 7 o] (fun s hp => s = iv (reqE l p q c) ∧ hp = [slB (vds l) ty_api_Validator 7 o]) := by
  refine Ctr.fin (in_egressref16_Request (by simp) ?_)
  have hlen : lenV Try.prog 22 (slV 0 l.length o) = some (l.length : Int) := by
    cases o with
    | none => have : l.length = 0 := ho; simp [this]
    | some c => simp
  have hb : (slB (vds l) 33 7 o).lt 1 := slB_lt _ _ _ _ _ (vds_lt l 1)
  have done : ∀ (e : Int) (hp : List Blk), reqE l p q c = e → hp.take 1 = [slB (vds l) 33 7 o] → Vc.Fin 1 (fun s hp => s = iv (reqE l p q c) ∧ hp = [slB (vds l) ty_api_Validator 7 o]) (iv e) hp := fun e hp he hh => Fin.cut 1 (Ent.refl _) (by rw [hh]; simp [hb]) (by rw [hh]; simp [he])
  simp [mc_egressref16_Request, hlen]
  refine ⟨fun p0 => ⟨fun q0 => ⟨fun p1 => ⟨fun q1 => ?_, fun q1 => ?_⟩, fun p1 => ?_⟩, fun q0 => ?_⟩, fun p0 => ?_⟩
  · exact done 7 _ (by simp [reqE, q1]) (by simp)
  · have hnot : ¬ (p < 0 ∨ (l.length : Int) ≤ p ∨ q < 0 ∨ (l.length : Int) ≤ q) := by omega
    refine ⟨fun e => ?_, fun e => ?_⟩
    · exact done 12 _ (by simp [reqE, if_neg hnot, e]; omega) (by simp)
    · cases o with
      | none => have : l.length = 0 := ho; omega
      | some cp =>
        have h1 : 0 ≤ p ∧ p < l.length := by omega
        have h2 : 0 ≤ q ∧ q < l.length := by omega
        obtain ⟨x, hx⟩ : ∃ x, l[p.toNat]? = some x := ⟨_, List.getElem?_eq_getElem (by omega)⟩
        obtain ⟨y, hy⟩ : ∃ y, l[q.toNat]? = some y := ⟨_, List.getElem?_eq_getElem (by omega)⟩
        have rx := vds_rd l (cp * 7) 33 hx
        have ry := vds_rd l (cp * 7) 33 hy
        have gx : l.getD p.toNat Vd.z = x := by simp [List.getD_eq_getElem?_getD, hx]
        have gy : l.getD q.toNat Vd.z = y := by simp [List.getD_eq_getElem?_getD, hy]
        simp [h1, h2, rx, ry, -rdN_row]
        simp
        refine Ctr.useEq (ref16_Check (a := x) (b := y) (c := c) (hv x (List.mem_of_getElem? hx)) (hv y (List.mem_of_getElem? hy))) [] (by simp [Cf.c]) ?_
        simp
        exact done _ _ (by simp only [reqE, if_neg hnot, if_neg e, gx, gy]) (by simp)
  · exact done 7 _ (by simp [reqE, p1]) (by simp)
  · exact done 7 _ (by simp [reqE, q0]) (by simp)
  · exact done 7 _ (by simp [reqE, p0]) (by simp)
end Go.Proofs.Ytggpldcdhkhdmaa

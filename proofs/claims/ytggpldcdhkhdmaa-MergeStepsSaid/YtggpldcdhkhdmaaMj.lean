import Derived.Test.YtggpldcdhkhdmaaMa
import Derived.Test.YtggpldcdhkhdmaaMd
import Derived.Test.YtggpldcdhkhdmaaRows
namespace Go.Proofs.Ytggpldcdhkhdmaa
open Go Go.Vc
set_option linter.unusedSimpArgs false
set_option linter.unusedVariables false
set_option maxRecDepth 100000
set_option maxHeartbeats 4000000

theorem Try.own : ownKnob Try.prog.godebug = none := by kernel_rfl
theorem Try.laidOut : laidOutB Try.prog = true := by kernel_rfl
theorem pr_len' (x : Int × Int) : (pr x).length = 2 := rfl

theorem vd_dec {H : Type} {enc : TypeId × Value → H} {W : World} (n : Nat) (cs : List Value) (y : DataW H × List MemPlace) (hl : cs.length = 7) (h : DataW.trod enc Try.prog W 0 (fun _ => true) true n 33 cs = some y) : ∃ x : Vd, cs = x.v ∧ x.OK := by
  obtain ⟨_, m, hf⟩ := trod_fields Try.underlying33 h
  obtain ⟨y0, h0⟩ := hf 0 _ rfl
  obtain ⟨y1, h1⟩ := hf 1 _ rfl
  obtain ⟨y2, h2⟩ := hf 2 _ rfl
  obtain ⟨y3, h3⟩ := hf 3 _ rfl
  obtain ⟨y4, h4⟩ := hf 4 _ rfl
  obtain ⟨y5, h5⟩ := hf 5 _ rfl
  obtain ⟨y6, h6⟩ := hf 6 _ rfl
  match cs, hl with
  | [c0, c1, c2, c3, c4, c5, c6], _ =>
    simp at h0 h1 h2 h3 h4 h5 h6
    obtain ⟨b0, e0, l0⟩ := dec_int Try.underlying24 h0
    obtain ⟨b1, e1, l1⟩ := dec_int Try.underlying3 h1
    obtain ⟨b2, e2⟩ := dec_bool Try.underlying4 h2
    obtain ⟨b3, e3, l3⟩ := dec_int Try.underlying3 h3
    obtain ⟨b4, e4, l4⟩ := dec_int Try.underlying3 h4
    obtain ⟨b5, e5, l5⟩ := dec_int Try.underlying3 h5
    obtain ⟨b6, e6, l6⟩ := dec_int Try.underlying3 h6
    simp at e0 e1 e2 e3 e4 e5 e6
    subst e0 e1 e2 e3 e4 e5 e6
    exact ⟨⟨b0, b1, b2, b3, b4, b5, b6⟩, rfl, by simpa [Vd.OK, IntKind.min, IntKind.max, IntKind.signed, IntKind.bits] using l0⟩

def Cf.v (c : Cf) : List Value := [.int .i64 c.cap, .int .i64 c.qs, .int .u64 c.minDep, .int .u64 c.maxDep, .int .u64 c.supply, .int .u64 c.minBal, .int .u64 c.maxBal, .int .u64 c.minChurn, .int .u64 c.quot, .int .u64 c.fcap, .int .i64 c.unb, .int .i64 c.sld, .int .i64 c.ring, .int .i64 c.elen, .int .i64 c.vis, .int .i64 c.pay, .int .i64 c.part, .int .i64 c.merges, .int .u64 c.pnum, .int .u64 c.pden]
theorem cf_dec {H : Type} {enc : TypeId × Value → H} {W : World} (n : Nat) (cs : List Value) (y : DataW H × List MemPlace) (hl : cs.length = 20) (h : DataW.trod enc Try.prog W 0 (fun _ => true) true n 26 cs = some y) : ∃ x : Cf, cs = x.v := by
  obtain ⟨_, m, hf⟩ := trod_fields Try.underlying26 h
  obtain ⟨y0, h0⟩ := hf 0 _ rfl
  obtain ⟨y1, h1⟩ := hf 1 _ rfl
  obtain ⟨y2, h2⟩ := hf 2 _ rfl
  obtain ⟨y3, h3⟩ := hf 3 _ rfl
  obtain ⟨y4, h4⟩ := hf 4 _ rfl
  obtain ⟨y5, h5⟩ := hf 5 _ rfl
  obtain ⟨y6, h6⟩ := hf 6 _ rfl
  obtain ⟨y7, h7⟩ := hf 7 _ rfl
  obtain ⟨y8, h8⟩ := hf 8 _ rfl
  obtain ⟨y9, h9⟩ := hf 9 _ rfl
  obtain ⟨y10, h10⟩ := hf 10 _ rfl
  obtain ⟨y11, h11⟩ := hf 11 _ rfl
  obtain ⟨y12, h12⟩ := hf 12 _ rfl
  obtain ⟨y13, h13⟩ := hf 13 _ rfl
  obtain ⟨y14, h14⟩ := hf 14 _ rfl
  obtain ⟨y15, h15⟩ := hf 15 _ rfl
  obtain ⟨y16, h16⟩ := hf 16 _ rfl
  obtain ⟨y17, h17⟩ := hf 17 _ rfl
  obtain ⟨y18, h18⟩ := hf 18 _ rfl
  obtain ⟨y19, h19⟩ := hf 19 _ rfl
  match cs, hl with
  | [c0, c1, c2, c3, c4, c5, c6, c7, c8, c9, c10, c11, c12, c13, c14, c15, c16, c17, c18, c19], _ =>
    simp at h0 h1 h2 h3 h4 h5 h6 h7 h8 h9 h10 h11 h12 h13 h14 h15 h16 h17 h18 h19
    obtain ⟨b0, e0, l0⟩ := dec_int Try.underlying3 h0
    obtain ⟨b1, e1, l1⟩ := dec_int Try.underlying3 h1
    obtain ⟨b2, e2, l2⟩ := dec_int Try.underlying24 h2
    obtain ⟨b3, e3, l3⟩ := dec_int Try.underlying24 h3
    obtain ⟨b4, e4, l4⟩ := dec_int Try.underlying24 h4
    obtain ⟨b5, e5, l5⟩ := dec_int Try.underlying24 h5
    obtain ⟨b6, e6, l6⟩ := dec_int Try.underlying24 h6
    obtain ⟨b7, e7, l7⟩ := dec_int Try.underlying24 h7
    obtain ⟨b8, e8, l8⟩ := dec_int Try.underlying24 h8
    obtain ⟨b9, e9, l9⟩ := dec_int Try.underlying24 h9
    obtain ⟨b10, e10, l10⟩ := dec_int Try.underlying3 h10
    obtain ⟨b11, e11, l11⟩ := dec_int Try.underlying3 h11
    obtain ⟨b12, e12, l12⟩ := dec_int Try.underlying3 h12
    obtain ⟨b13, e13, l13⟩ := dec_int Try.underlying3 h13
    obtain ⟨b14, e14, l14⟩ := dec_int Try.underlying3 h14
    obtain ⟨b15, e15, l15⟩ := dec_int Try.underlying3 h15
    obtain ⟨b16, e16, l16⟩ := dec_int Try.underlying3 h16
    obtain ⟨b17, e17, l17⟩ := dec_int Try.underlying3 h17
    obtain ⟨b18, e18, l18⟩ := dec_int Try.underlying24 h18
    obtain ⟨b19, e19, l19⟩ := dec_int Try.underlying24 h19
    simp at e0 e1 e2 e3 e4 e5 e6 e7 e8 e9 e10 e11 e12 e13 e14 e15 e16 e17 e18 e19
    subst e0 e1 e2 e3 e4 e5 e6 e7 e8 e9 e10 e11 e12 e13 e14 e15 e16 e17 e18 e19
    exact ⟨⟨b0, b1, b2, b3, b4, b5, b6, b7, b8, b9, b10, b11, b12, b13, b14, b15, b16, b17, b18, b19⟩, rfl⟩

theorem pr_dec {H : Type} {enc : TypeId × Value → H} {W : World} (n : Nat) (cs : List Value) (y : DataW H × List MemPlace) (hl : cs.length = 2) (h : DataW.trod enc Try.prog W 0 (fun _ => true) true n 45 cs = some y) : ∃ x : Int × Int, cs = pr x ∧ True := by
  cases n with
  | zero => simp [DataW.trod] at h
  | succ m =>
    unfold DataW.trod at h
    simp only [Try.underlying45] at h
    split at h
    · match cs, hl with
      | [a, b], _ =>
        simp [List.range, List.range.loop] at h
        cases ha : DataW.trod enc Try.prog W 0 (fun _ => true) true m 3 [a] with
        | none => rw [ha] at h; simp at h
        | some ya =>
          cases hb : DataW.trod enc Try.prog W 0 (fun _ => true) true m 3 [b] with
          | none => rw [ha, hb] at h; simp at h
          | some yb =>
            obtain ⟨b0, e0, _⟩ := dec_int Try.underlying3 ha
            obtain ⟨b1, e1, _⟩ := dec_int Try.underlying3 hb
            simp at e0 e1
            subst e0 e1
            exact ⟨(b0, b1), rfl, trivial⟩
    · cases h

/-- A structure handed by value. -/
theorem open_cf {H : Type} {enc : TypeId × Value → H} {W : World} {base : Nat} {v : Value} {d : DataW H} {ps : List MemPlace} (hok : Value.okWide Try.prog W .any base 26 v) (h : DataW.Trod enc Try.prog W 0 (fun _ => true) true 26 v d ps) : ∃ c : Cf, ∀ ρ, v = (SV.agg c.c).den ρ := by
  obtain ⟨fuel, hf⟩ := h
  unfold Value.okWide at hok
  simp only [Try.underlying26] at hok
  obtain ⟨cs, rfl, hl, _⟩ := hok
  rw [cells_26] at hl
  obtain ⟨c, hc⟩ := cf_dec fuel cs.toList _ (by simpa using hl) hf
  refine ⟨c, fun ρ => ?_⟩
  have : cs = c.v.toArray := by rw [← hc]
  subst this
  simp [SV.den, Cf.c, Cf.v, SV.denL]
end Go.Proofs.Ytggpldcdhkhdmaa

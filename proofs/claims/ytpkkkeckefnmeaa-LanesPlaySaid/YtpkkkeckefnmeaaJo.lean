import Derived.Test.YtpkkkeckefnmeaaAl
import Derived.Test.YtpkkkeckefnmeaaVcU
import Derived.Test.YtpkkkeckefnmeaaRows
namespace Go.Proofs.Ytpkkkeckefnmeaa
open Go Go.Vc
set_option linter.unusedSimpArgs false
set_option linter.unusedVariables false
set_option maxRecDepth 100000
set_option maxHeartbeats 4000000

/-- An operation of the laws: its cells. -/
abbrev OpT := Bool × Int × Int
def opC (x : OpT) : List Value := [.bool x.1, .int .i64 x.2.1, .int .i64 x.2.2]
theorem opC_len (x : OpT) : (opC x).length = 3 := rfl
theorem Try.own : ownKnob Try.prog.godebug = none := by kernel_rfl
theorem Try.laidOut : laidOutB Try.prog = true := by kernel_rfl

theorem op_dec {H : Type} {enc : TypeId × Value → H} {W : World} (n : Nat) (cs : List Value) (y : DataW H × List MemPlace) (hl : cs.length = 3) (h : DataW.trod enc Try.prog W 0 (fun _ => true) true n 27 cs = some y) : ∃ x : OpT, cs = opC x ∧ True := by
  obtain ⟨_, m, hf⟩ := trod_fields Try.underlying27 h
  obtain ⟨y0, h0⟩ := hf 0 _ rfl
  obtain ⟨y1, h1⟩ := hf 1 _ rfl
  obtain ⟨y2, h2⟩ := hf 2 _ rfl
  match cs, hl with
  | [a, b, c], _ =>
    simp at h0 h1 h2
    obtain ⟨b0, e0⟩ := dec_bool Try.underlying4 h0
    obtain ⟨b1, e1, _⟩ := dec_int Try.underlying3 h1
    obtain ⟨b2, e2, _⟩ := dec_int Try.underlying3 h2
    simp at e0 e1 e2
    subst e0 e1 e2
    exact ⟨(b0, b1, b2), rfl, trivial⟩

end Go.Proofs.Ytpkkkeckefnmeaa

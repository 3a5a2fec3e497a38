import Derived.Test.YtaplfpelnmabpaaGa
import Derived.Test.YtaplfpelnmabpaaRows
namespace Go.Proofs.Ytaplfpelnmabpaa
open Go Go.Vc
set_option linter.unusedSimpArgs false
set_option linter.unusedVariables false
set_option maxRecDepth 100000
set_option maxHeartbeats 4000000

theorem Try.own : ownKnob Try.prog.godebug = none := by kernel_rfl
theorem Try.laidOut : laidOutB Try.prog = true := by kernel_rfl
def i64C (n : Int) : List Value := [.int .i64 n]
def u64C (n : Int) : List Value := [.int .u64 n]
theorem i64C_len (n : Int) : (i64C n).length = 1 := rfl
theorem u64C_len (n : Int) : (u64C n).length = 1 := rfl
theorem flat_i64 : ∀ l : List Int, l.flatMap i64C = l.map (Value.int .i64)
  | [] => rfl
  | a :: l => by rw [List.flatMap_cons, flat_i64 l]; rfl
theorem flat_u64 : ∀ l : List Int, l.flatMap u64C = l.map (Value.int .u64)
  | [] => rfl
  | a :: l => by rw [List.flatMap_cons, flat_u64 l]; rfl
theorem src_i64 {l : List Int} {o : Option (Nat × Nat)} (h : RaOK l.length o) : SrcI .i64 l (raB (l.flatMap i64C) o) o := by rw [flat_i64]; exact srcI_ra h
theorem src_u64 {l : List Int} {o : Option (Nat × Nat)} (h : RaOK l.length o) : SrcI .u64 l (raB (l.flatMap u64C) o) o := by rw [flat_u64]; exact srcI_ra h
def U64 (n : Int) : Prop := 0 ≤ n ∧ n ≤ 18446744073709551615
theorem i64_dec {H : Type} {enc : TypeId × Value → H} {W : World} {t : TypeId} (ht : Try.prog.underlying t = some (.int .i64)) (n : Nat) (cs : List Value) (y : DataW H × List MemPlace) (hl : cs.length = 1) (h : DataW.trod enc Try.prog W 0 (fun _ => true) true n t cs = some y) : ∃ x : Int, cs = i64C x ∧ True := by
  obtain ⟨m, e, _⟩ := dec_int ht h
  exact ⟨m, e, trivial⟩
theorem u64_dec {H : Type} {enc : TypeId × Value → H} {W : World} {t : TypeId} (ht : Try.prog.underlying t = some (.int .u64)) (n : Nat) (cs : List Value) (y : DataW H × List MemPlace) (hl : cs.length = 1) (h : DataW.trod enc Try.prog W 0 (fun _ => true) true n t cs = some y) : ∃ x : Int, cs = u64C x ∧ U64 x := by
  obtain ⟨m, e, l⟩ := dec_int ht h
  exact ⟨m, e, by simpa [U64, IntKind.min, IntKind.max, IntKind.signed, IntKind.bits] using l⟩
end Go.Proofs.Ytaplfpelnmabpaa

import Derived.Test.YtaplfpelnmabpaaFa
namespace Go.Proofs.Ytaplfpelnmabpaa
open Go Go.Vc
set_option linter.unusedSimpArgs false
set_option linter.unusedVariables false

@[simp] abbrev iv (n : Int) : SV := .v (.int .i64 n)
@[simp] abbrev bv (b : Bool) : SV := .v (.bool b)

/-- The buffer s, read from f on around its end, begins with l. -/
def RingOK (size : Nat) (l : List Int) : Option (List Int × Nat) → Prop
  | none => l = [] ∧ 1 ≤ size ∧ size ≤ 1048576
  | some (s, f) => (1 ≤ size ∧ size ≤ 1048576) ∧ s.length ≤ size ∧ f < s.length ∧ l.length ≤ s.length ∧ ∀ i, i < l.length → s[(f + i) % s.length]? = l[i]?
def ringSh (size : Nat) (l : List Int) : Option (List Int × Nat) → List Blk
  | none => [.row [.v (.slice none 0 0), iv size, iv 0, iv l.length] 4 ty_ring_Ring_int]
  | some (s, f) => [.row [.slc 1 0 s.length s.length, iv size, iv f, iv l.length] 4 ty_ring_Ring_int, .row (ivs .i64 s) s.length ty_int]
def ringR (size : Nat) (l : List Int) : Nat → HP := mkRes (RingOK size l) (ringSh size l)

theorem ring_shut0 {hp : List Blk} {size : Nat} (k : Nat) (hk : k < hp.length ∧ hp[k]? = some (.row [.v (.slice none 0 0), iv size, iv 0, iv 0] 4 ty_ring_Ring_int)) (h1 : 1 ≤ size ∧ size ≤ 1048576) : Ent hp (fun h => h = hp.set k (.res (ringR size []))) := by
  refine (Ent.shut k [] (pre := RingOK size []) (shape := ringSh size []) none ⟨rfl, h1⟩ ⟨⟨by simpa using hk.1, by simp⟩, rfl, by simp [ringSh], hk.2, trivial⟩).eq ?_
  · simp [ringR]
theorem ring_shut1 {hp : List Blk} {size : Nat} {l : List Int} (k j : Nat) (s : List Int) (f : Nat) (hk : k < hp.length ∧ j < hp.length ∧ k ≠ j ∧ hp[k]? = some (.row [.slc j 0 s.length s.length, iv size, iv f, iv l.length] 4 ty_ring_Ring_int) ∧ hp[j]? = some (.row (ivs .i64 s) s.length ty_int)) (h : RingOK size l (some (s, f))) :
    Ent hp (fun h => h = (hp.set j .any).set k (.res (ringR size l))) := by
  refine (Ent.shut k [j] (pre := RingOK size l) (shape := ringSh size l) (some (s, f)) h ⟨⟨by simpa using ⟨hk.1, hk.2.1⟩, by simpa using hk.2.2.1⟩, rfl, by simp [ringSh], hk.2.2.2.1, ?_, trivial⟩).eq ?_
  · rw [show nm [k, j] hp.length (0 + 1) = j from rfl, hk.2.2.2.2]
    simp
  · simp only [wipe, ringR]
    rw [List.set_comm _ _ hk.2.2.1, List.set_set]

theorem ring_Len {size : Nat} {l : List Int} : Ctr Try.prog F_ring_Ring_int_Len [.ptr 0 0] [.res (ringR size l)] (fun s hp => s = iv l.length ∧ hp = [.res (ringR size l)]) := by
  refine Ctr.fin (Ctr.open 0 rfl (by simp) fun x hx => in_ring_Ring_int_Len (by simp) ?_)
  match x, hx with
  | none, ⟨e, h⟩ =>
    simp [mc_ring_Ring_int_Len, ringSh]
    exact Fin.by [_] [] (ring_shut0 0 (by simp [e]) h) (by simp) (by simp [e])
  | some (s, f), h =>
    simp [mc_ring_Ring_int_Len, ringSh]
    exact Fin.by [_] [.any] (ring_shut1 0 1 s f (by simp) h) (by simp) (by simp)
theorem ring_Len0 : Ctr Try.prog F_ring_Ring_int_Len [.v (.pointer none)] [] (fun s hp => s = iv 0 ∧ hp = []) := by
  refine in_ring_Ring_int_Len (by simp) ?_
  simp [mc_ring_Ring_int_Len]

theorem ring_Free {size : Nat} {l : List Int} (hl : l.length ≤ size) : Ctr Try.prog F_ring_Ring_int_Free [.ptr 0 0] [.res (ringR size l)] (fun s hp => s = iv (size - l.length : Nat) ∧ hp = [.res (ringR size l)]) := by
  refine Ctr.fin (Ctr.open 0 rfl (by simp) fun x hx => in_ring_Ring_int_Free (by simp) ?_)
  match x, hx with
  | none, ⟨e, h⟩ =>
    subst e
    simp (disch := first | omega | simp) [mc_ring_Ring_int_Free, ringSh, w64]
    exact Fin.by [_] [] (ring_shut0 0 (by simp) h) (by simp) (by simp)
  | some (s, f), h =>
    have h' := h.1
    simp (disch := first | omega | simp) [mc_ring_Ring_int_Free, ringSh, w64]
    exact Fin.by [_] [.any] (ring_shut1 0 1 s f (by simp) h) (by simp) (by simp; omega)
theorem ring_Free0 : Ctr Try.prog F_ring_Ring_int_Free [.v (.pointer none)] [] (fun s hp => s = iv 0 ∧ hp = []) := by
  refine in_ring_Ring_int_Free (by simp) ?_
  simp [mc_ring_Ring_int_Free]

theorem ring_New {size : Nat} (h : 1 ≤ size ∧ size ≤ 1048576) : Ctr Try.prog F_ring_New_int [iv size] [] (fun s hp => s = .ptr 0 0 ∧ hp = [.res (ringR size [])]) := by
  refine Ctr.fin (in_ring_New_int (by simp) ?_)
  have h1 : ¬ (size : Int) < 1 := by omega
  have h2 : ¬ (1048576 : Int) < size := by omega
  simp [mc_ring_New_int, h1, h2]
  exact Fin.by [_] [] (ring_shut0 0 (by simp) h) (by simp) (by simp)

theorem ring_Peek {size : Nat} {l : List Int} {i : Nat} : Ctr Try.prog F_ring_Ring_int_Peek [.ptr 0 0, iv i] [.res (ringR size l)] (fun s hp => s = .tup [iv (l.getD i 0), bv (decide (i < l.length))] ∧ hp = [.res (ringR size l)]) := by
  refine Ctr.fin (in_ring_Ring_int_Peek (by simp) ?_)
  have h1 : ¬ (i : Int) < 0 := by omega
  simp [mc_ring_Ring_int_Peek, h1]
  refine Ctr.useOpen (ring_Len (size := size) (l := l)) [0] (by simp) 0 (by simp; rfl) fun x hx => ?_
  match x, hx with
  | none, ⟨e, h⟩ =>
    subst e
    simp [ringSh]
    exact Fin.by [_] [] (ring_shut0 0 (by simp) h) (by simp) (by simp)
  | some (s, f), h =>
    obtain ⟨h1, h2, h3, h4, h5⟩ := id h
    simp [ringSh]
    refine ⟨fun hi => ?_, fun hi => ⟨fun e => by simp [e] at h3, ?_⟩⟩
    · exact Fin.by [_] [.any] (ring_shut1 0 1 s f (by simp) h) (by simp) (by simp [Nat.not_lt.2 hi])
    · rw [w64 (by omega), tmodN]
      have h6 := Nat.mod_lt (f + i) (show 0 < s.length by omega)
      refine ⟨by omega, ?_⟩
      simp only [Int.toNat_natCast, h5 i hi, List.getElem?_eq_getElem hi]
      simp
      exact Fin.by [_] [.any] (ring_shut1 0 1 s f (by simp) h) (by simp) (by simp [hi])
theorem ring_Peek0 {i : Nat} : Ctr Try.prog F_ring_Ring_int_Peek [.v (.pointer none), iv i] [] (fun s hp => s = .tup [iv 0, bv false] ∧ hp = []) := by
  refine in_ring_Ring_int_Peek (by simp) ?_
  have h1 : ¬ (i : Int) < 0 := by omega
  simp [mc_ring_Ring_int_Peek, h1]
  refine Ctr.useEq ring_Len0 [] (by simp) ?_
  simp
end Go.Proofs.Ytaplfpelnmabpaa

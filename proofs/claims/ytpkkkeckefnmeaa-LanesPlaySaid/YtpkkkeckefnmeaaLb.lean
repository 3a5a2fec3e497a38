import Derived.Test.YtpkkkeckefnmeaaLa
namespace Go.Proofs.Ytpkkkeckefnmeaa
open Go Go.Vc
set_option linter.unusedSimpArgs false
set_option linter.unusedVariables false
set_option maxRecDepth 100000
set_option maxHeartbeats 4000000

theorem imax_a : imax 0 0 = 0 := rfl
theorem imax_b : imax 1 0 = 1 := rfl
theorem imax_c : imax (-1) 0 = 0 := rfl
theorem lanes_first0 : Ctr Try.prog F_lanes_Lanes_first [.v (.pointer none)] [] (fun s hp => s = iv (-1) ∧ hp = []) := by
  refine in_lanes_Lanes_first (by simp) ?_
  simp [mc_lanes_Lanes_first]
  refine ⟨Fin 3, fun i => ([(0, .v (.pointer none)), (3, iv (-1)), (5, iv i.1)], []), fun i => 2 - i.1, ⟨0, Le.by [] (by simp)⟩, fun i => ?_⟩
  match i with
  | 0 =>
    simp
    refine Ctr.useEq (lanes_class0 (c := 0)) [] (by simp) ?_
    simp
    refine Ctr.useEq ring_Len0 [] (by simp) ?_
    simp
    exact ⟨1, Le.by [] (by simp), by simp⟩
  | 1 =>
    simp
    refine Ctr.useEq (lanes_class0 (c := 1)) [] (by simp) ?_
    simp
    refine Ctr.useEq ring_Len0 [] (by simp) ?_
    simp
    exact ⟨2, Le.by [] (by simp), by simp⟩
  | 2 => simp

theorem lanes_Len {size : Nat} {l0 l1 : List Int} {c : Int} : Ctr Try.prog F_lanes_Lanes_Len [.ptr 0 0, iv c] (laneSh size l0 l1) (fun s hp => s = iv (lane c l0 l1).length ∧ hp = laneSh size l0 l1) := by
  refine in_lanes_Lanes_Len (by simp) ?_
  simp [mc_lanes_Lanes_Len, laneSh]
  refine Ctr.useEq (lanes_class (R1 := ringR size l0) (R2 := ringR size l1) (c := c)) [0, 1, 2] (by simp) ?_
  by_cases h0 : c = 0
  · subst h0; simp
    refine Ctr.useEq (ring_Len (size := size) (l := l0)) [1] (by simp) ?_
    simp
  by_cases h1 : c = 1
  · subst h1; simp
    refine Ctr.useEq (ring_Len (size := size) (l := l1)) [2] (by simp) ?_
    simp
  simp [qvn h0 h1, lanen _ _ h0 h1]
  refine Ctr.useEq ring_Len0 [] (by simp) ?_
  simp
theorem lanes_Len0 {c : Int} : Ctr Try.prog F_lanes_Lanes_Len [.v (.pointer none), iv c] [] (fun s hp => s = iv 0 ∧ hp = []) := by
  refine in_lanes_Lanes_Len (by simp) ?_
  simp [mc_lanes_Lanes_Len]
  refine Ctr.useEq (lanes_class0 (c := c)) [] (by simp) ?_
  simp
  refine Ctr.useEq ring_Len0 [] (by simp) ?_
  simp

def freeL (size : Nat) (c : Int) (l0 l1 : List Int) : Nat := if c = 0 then size - l0.length else if c = 1 then size - l1.length else 0
theorem lanes_Free {size : Nat} {l0 l1 : List Int} {c : Int} (hl : l0.length ≤ size ∧ l1.length ≤ size) : Ctr Try.prog F_lanes_Lanes_Free [.ptr 0 0, iv c] (laneSh size l0 l1) (fun s hp => s = iv (freeL size c l0 l1) ∧ hp = laneSh size l0 l1) := by
  refine in_lanes_Lanes_Free (by simp) ?_
  simp [mc_lanes_Lanes_Free, laneSh]
  refine Ctr.useEq (lanes_class (R1 := ringR size l0) (R2 := ringR size l1) (c := c)) [0, 1, 2] (by simp) ?_
  by_cases h0 : c = 0
  · subst h0; simp
    refine Ctr.useEq (ring_Free (size := size) (l := l0) hl.1) [1] (by simp) ?_
    simp [freeL]
  by_cases h1 : c = 1
  · subst h1; simp
    refine Ctr.useEq (ring_Free (size := size) (l := l1) hl.2) [2] (by simp) ?_
    simp [freeL]
  simp [qvn h0 h1]
  refine Ctr.useEq ring_Free0 [] (by simp) ?_
  simp [freeL, h0, h1]
theorem lanes_Free0 {c : Int} : Ctr Try.prog F_lanes_Lanes_Free [.v (.pointer none), iv c] [] (fun s hp => s = iv 0 ∧ hp = []) := by
  refine in_lanes_Lanes_Free (by simp) ?_
  simp [mc_lanes_Lanes_Free]
  refine Ctr.useEq (lanes_class0 (c := c)) [] (by simp) ?_
  simp
  refine Ctr.useEq ring_Free0 [] (by simp) ?_
  simp

theorem ring_All0 : Ctr Try.prog F_ring_Ring_int_All [.v (.pointer none)] [] (fun s hp => s = .v (.slice none 0 0) ∧ hp = []) := by
  refine in_ring_Ring_int_All (by simp) ?_
  simp [mc_ring_Ring_int_All]
  refine Ctr.useEq ring_Len0 [] (by simp) ?_
  simp
  refine ⟨Unit, fun _ => ([(8, iv 0), (3, .v (.slice none 0 0)), (9, iv 0)], []), fun _ => 0, ⟨(), Le.by [] (by simp)⟩, fun p => ?_⟩
  simp

theorem lanes_All {size : Nat} {l0 l1 : List Int} {c : Int} (hl : (l0.length ≤ size ∧ l1.length ≤ size) ∧ size ≤ 4096) : Ctr Try.prog F_lanes_Lanes_All [.ptr 0 0, iv c] (laneSh size l0 l1) (fun s hp => ∃ o, SlOK (lane c l0 l1).length o ∧ s = slV 3 (lane c l0 l1).length o ∧ hp = laneSh size l0 l1 ++ [slB (ivs .i64 (lane c l0 l1)) ty_int 1 o]) := by
  refine Ctr.fin (in_lanes_Lanes_All (by simp) ?_)
  simp [mc_lanes_Lanes_All, laneSh]
  refine Ctr.useEq (lanes_class (R1 := ringR size l0) (R2 := ringR size l1) (c := c)) [0, 1, 2] (by simp) ?_
  by_cases h0 : c = 0
  · subst h0; simp
    refine Ctr.use (ring_All (size := size) (l := l0) (by omega)) [1] (by simp) fun s hc _ ⟨o, ho, e1, e2⟩ => ?_
    subst e1 e2
    simp
    exact Fin.same (by simp) ⟨o, ho, rfl, rfl⟩
  by_cases h1 : c = 1
  · subst h1; simp
    refine Ctr.use (ring_All (size := size) (l := l1) (by omega)) [2] (by simp) fun s hc _ ⟨o, ho, e1, e2⟩ => ?_
    subst e1 e2
    simp
    exact Fin.same (by simp) ⟨o, ho, rfl, rfl⟩
  simp [qvn h0 h1, lanen _ _ h0 h1]
  refine Ctr.useEq ring_All0 [] (by simp) ?_
  simp
  exact Fin.by _ [] (by simpa using ent_more) (by simp) ⟨none, rfl, rfl, by simp⟩
theorem lanes_All0 {c : Int} : Ctr Try.prog F_lanes_Lanes_All [.v (.pointer none), iv c] [] (fun s hp => s = .v (.slice none 0 0) ∧ hp = []) := by
  refine in_lanes_Lanes_All (by simp) ?_
  simp [mc_lanes_Lanes_All]
  refine Ctr.useEq (lanes_class0 (c := c)) [] (by simp) ?_
  simp
  refine Ctr.useEq ring_All0 [] (by simp) ?_
  simp

theorem lanes_Head {size : Nat} {l0 l1 : List Int} : Ctr Try.prog F_lanes_Lanes_Head [.ptr 0 0] (laneSh size l0 l1) (fun s hp => s = .tup [iv ((l0 ++ l1).headD 0), iv (headC l0 l1), bv (decide (0 < (l0 ++ l1).length))] ∧ hp = laneSh size l0 l1) := by
  refine in_lanes_Lanes_Head (by simp) ?_
  simp [mc_lanes_Lanes_Head]
  refine Ctr.useEq (lanes_first (size := size) (l0 := l0) (l1 := l1)) [0, 1, 2] (by simp [laneSh]) ?_
  simp [laneSh]
  refine Ctr.useEq (lanes_class (R1 := ringR size l0) (R2 := ringR size l1) (c := firstC l0 l1)) [0, 1, 2] (by simp) ?_
  match l0, l1 with
  | a :: r, l1 =>
    simp [firstC]
    refine Ctr.useEq (ring_Peek (size := size) (l := a :: r) (i := 0)) [1] (by simp) ?_
    simp [imax_a, imax_b, imax_c, headC]
    omega
  | [], a :: r =>
    simp [firstC]
    refine Ctr.useEq (ring_Peek (size := size) (l := a :: r) (i := 0)) [2] (by simp) ?_
    simp [imax_a, imax_b, imax_c, headC]
  | [], [] =>
    simp [firstC, qvn]
    refine Ctr.useEq (ring_Peek0 (i := 0)) [] (by simp) ?_
    simp [imax_a, imax_b, imax_c, headC]
theorem lanes_Head0 : Ctr Try.prog F_lanes_Lanes_Head [.v (.pointer none)] [] (fun s hp => s = .tup [iv 0, iv 0, bv false] ∧ hp = []) := by
  refine in_lanes_Lanes_Head (by simp) ?_
  simp [mc_lanes_Lanes_Head]
  refine Ctr.useEq lanes_first0 [] (by simp) ?_
  simp
  refine Ctr.useEq (lanes_class0 (c := -1)) [] (by simp) ?_
  simp
  refine Ctr.useEq (ring_Peek0 (i := 0)) [] (by simp) ?_
  simp [imax_c]

theorem lanes_Pop {size : Nat} {l0 l1 : List Int} : Ctr Try.prog F_lanes_Lanes_Pop [.ptr 0 0] (laneSh size l0 l1) (fun s hp => s = .tup [iv ((l0 ++ l1).headD 0), iv (headC l0 l1), bv (decide (0 < (l0 ++ l1).length))] ∧ hp = laneSh size l0.tail (if l0 = [] then l1.tail else l1)) := by
  refine in_lanes_Lanes_Pop (by simp) ?_
  simp [mc_lanes_Lanes_Pop]
  refine Ctr.useEq (lanes_first (size := size) (l0 := l0) (l1 := l1)) [0, 1, 2] (by simp [laneSh]) ?_
  simp [laneSh]
  refine Ctr.useEq (lanes_class (R1 := ringR size l0) (R2 := ringR size l1) (c := firstC l0 l1)) [0, 1, 2] (by simp) ?_
  match l0, l1 with
  | a :: r, l1 =>
    simp [firstC]
    refine Ctr.useEq (ring_Pop (size := size) (l := a :: r)) [1] (by simp) ?_
    simp [imax_a, imax_b, imax_c, headC]
    omega
  | [], a :: r =>
    simp [firstC]
    refine Ctr.useEq (ring_Pop (size := size) (l := a :: r)) [2] (by simp) ?_
    simp [imax_a, imax_b, imax_c, headC]
  | [], [] =>
    simp [firstC, qvn]
    refine Ctr.useEq ring_Pop0 [] (by simp) ?_
    simp [imax_a, imax_b, imax_c, headC]
theorem lanes_Pop0 : Ctr Try.prog F_lanes_Lanes_Pop [.v (.pointer none)] [] (fun s hp => s = .tup [iv 0, iv 0, bv false] ∧ hp = []) := by
  refine in_lanes_Lanes_Pop (by simp) ?_
  simp [mc_lanes_Lanes_Pop]
  refine Ctr.useEq lanes_first0 [] (by simp) ?_
  simp
  refine Ctr.useEq (lanes_class0 (c := -1)) [] (by simp) ?_
  simp
  refine Ctr.useEq ring_Pop0 [] (by simp) ?_
  simp [imax_c]

def pushE (size : Nat) (c : Int) (l0 l1 : List Int) : Int := if c = 0 then (if l0.length < size then 0 else 6) else if c = 1 then (if l1.length < size then 0 else 6) else 11
def push0 (size : Nat) (c : Int) (l0 : List Int) (x : Int) : List Int := if c = 0 then l0 ++ [x].take (size - l0.length) else l0
def push1 (size : Nat) (c : Int) (l1 : List Int) (x : Int) : List Int := if c = 1 then l1 ++ [x].take (size - l1.length) else l1
theorem lanes_Push {size : Nat} {l0 l1 : List Int} {c x : Int} (hl : l0.length ≤ size ∧ l1.length ≤ size) : Ctr Try.prog F_lanes_Lanes_Push [.ptr 0 0, iv c, iv x] (laneSh size l0 l1) (fun s hp => s = iv (pushE size c l0 l1) ∧ hp = laneSh size (push0 size c l0 x) (push1 size c l1 x)) := by
  refine Ctr.fin (in_lanes_Lanes_Push (by simp) ?_)
  simp [mc_lanes_Lanes_Push, laneSh]
  refine Ctr.useEq (lanes_class (R1 := ringR size l0) (R2 := ringR size l1) (c := c)) [0, 1, 2] (by simp) ?_
  by_cases h0 : c = 0
  · subst h0; simp
    refine Ctr.useEq (ring_Push (size := size) (l := l0) (xs := [x]) (c := 1) (m := 1) hl.1 (by simp)) [1, 3] (by simp) ?_
    simp
    refine ⟨fun h => ?_, fun h => ?_⟩
    · exact Fin.drop [_, _, _] [.row [iv x] 1 ty_int] rfl (by simp) (by simp [pushE, push0, push1, h]; omega)
    · rw [show min 1 (size - l0.length) = 1 by omega]
      exact Fin.drop [_, _, _] [.row [iv x] 1 ty_int] rfl (by simp) (by simp [pushE, push0, push1, List.take_of_length_le (show [x].length ≤ size - l0.length by simp; omega)]; omega)
  by_cases h1 : c = 1
  · subst h1; simp
    refine Ctr.useEq (ring_Push (size := size) (l := l1) (xs := [x]) (c := 1) (m := 1) hl.2 (by simp)) [2, 3] (by simp) ?_
    simp
    refine ⟨fun h => ?_, fun h => ?_⟩
    · exact Fin.drop [_, _, _] [.row [iv x] 1 ty_int] rfl (by simp) (by simp [pushE, push0, push1, h]; omega)
    · rw [show min 1 (size - l1.length) = 1 by omega]
      exact Fin.drop [_, _, _] [.row [iv x] 1 ty_int] rfl (by simp) (by simp [pushE, push0, push1, List.take_of_length_le (show [x].length ≤ size - l1.length by simp; omega)]; omega)
  simp [qvn h0 h1]
  exact Fin.same (by simp) (by simp [pushE, push0, push1, h0, h1])
theorem lanes_Push0 {c x : Int} : Ctr Try.prog F_lanes_Lanes_Push [.v (.pointer none), iv c, iv x] [] (fun s hp => s = iv 1 ∧ hp = []) := by
  refine in_lanes_Lanes_Push (by simp) ?_
  simp [mc_lanes_Lanes_Push]
end Go.Proofs.Ytpkkkeckefnmeaa

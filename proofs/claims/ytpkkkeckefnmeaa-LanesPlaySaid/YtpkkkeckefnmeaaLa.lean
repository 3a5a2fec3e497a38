import Derived.Test.YtpkkkeckefnmeaaRk
namespace Go.Proofs.Ytpkkkeckefnmeaa
open Go Go.Vc
set_option linter.unusedSimpArgs false
set_option linter.unusedVariables false
set_option maxRecDepth 100000
set_option maxHeartbeats 4000000

abbrev rowL : Blk := .row [.ptr 1 0, .ptr 2 0] 2 ty_lanes_Lanes
def laneSh (size : Nat) (l0 l1 : List Int) : List Blk := [rowL, .res (ringR size l0), .res (ringR size l1)]
/-- The pointer to the queue of a class. -/
def qv (c : Int) : SV := if c = 0 then .ptr 1 0 else if c = 1 then .ptr 2 0 else .v (.pointer none)
@[simp] theorem qv0 : qv 0 = .ptr 1 0 := rfl
@[simp] theorem qv1 : qv 1 = .ptr 2 0 := rfl
theorem qvn {c : Int} (h0 : c ≠ 0) (h1 : c ≠ 1) : qv c = .v (.pointer none) := by simp [qv, h0, h1]

theorem lanes_of {R1 R2 : Nat → HP} {c : Int} : Ctr Try.prog F_lanes_queues_of [.ptr 0 0, iv c] [rowL, .res R1, .res R2] (fun s hp => s = qv c ∧ hp = [rowL, .res R1, .res R2]) := by
  refine in_lanes_queues_of (by simp) ?_
  by_cases h0 : c = 0
  · subst h0; simp [mc_lanes_queues_of]
  by_cases h1 : c = 1
  · subst h1; simp [mc_lanes_queues_of]
  have h2 : c < 0 ∨ 2 ≤ c := by omega
  simp [mc_lanes_queues_of, qvn h0 h1]
  omega

theorem lanes_class {R1 R2 : Nat → HP} {c : Int} : Ctr Try.prog F_lanes_Lanes_class [.ptr 0 0, iv c] [rowL, .res R1, .res R2] (fun s hp => s = qv c ∧ hp = [rowL, .res R1, .res R2]) := by
  refine in_lanes_Lanes_class (by simp) ?_
  simp [mc_lanes_Lanes_class]
  refine Ctr.useEq (lanes_of (R1 := R1) (R2 := R2) (c := c)) [0, 1, 2] (by simp) ?_
  simp
  unfold qv; split
  · rfl
  · split <;> rfl
theorem lanes_class0 {c : Int} : Ctr Try.prog F_lanes_Lanes_class [.v (.pointer none), iv c] [] (fun s hp => s = .v (.pointer none) ∧ hp = []) := by
  refine in_lanes_Lanes_class (by simp) ?_
  simp [mc_lanes_Lanes_class]

theorem lanes_New {size : Nat} (h : 1 ≤ size ∧ size ≤ 4096) : Ctr Try.prog F_lanes_New [iv size] [] (fun s hp => s = .ptr 0 0 ∧ hp = laneSh size [] []) := by
  refine Ctr.fin (in_lanes_New (by simp) ?_)
  have h1 : ¬ (size : Int) < 1 := by omega
  have h2 : ¬ (4096 : Int) < size := by omega
  simp [mc_lanes_New, h1, h2]
  refine ⟨Fin 3, fun i => match i with
    | 0 => ([(0, iv size), (3, .ptr 0 0), (13, iv 0)], [.row [.v (.pointer none), .v (.pointer none)] 2 ty_lanes_Lanes])
    | 1 => ([(0, iv size), (3, .ptr 0 0), (13, iv 1)], [.row [.ptr 1 0, .v (.pointer none)] 2 ty_lanes_Lanes, .res (ringR size [])])
    | 2 => ([(0, iv size), (3, .ptr 0 0), (13, iv 2)], laneSh size [] []), fun i => 2 - i.1, ⟨0, Le.by [0] (by simp)⟩, fun i => ?_⟩
  match i with
  | 0 =>
    simp
    refine maskK.by [] ?_
    simp
    refine Ctr.useEq (ring_New (size := size) (by omega)) [] (by simp) ?_
    simp
    exact ⟨1, Le.by [0, 1] (by simp), by decide⟩
  | 1 =>
    simp
    refine maskK.by [] ?_
    simp
    refine Ctr.useEq (ring_New (size := size) (by omega)) [] (by simp) ?_
    simp
    exact ⟨2, Le.by [0, 1, 2] (by simp [laneSh]), by decide⟩
  | 2 =>
    simp [laneSh]
    exact Fin.same (by simp) (by simp)

/-- The class that is processed next. -/
def firstC : List Int → List Int → Int
  | _ :: _, _ => 0
  | [], _ :: _ => 1
  | [], [] => -1
/-- The class that Head and Pop tell. -/
def headC : List Int → List Int → Int
  | _ :: _, _ => 0
  | [], _ :: _ => 1
  | [], [] => 0
def lane (c : Int) (l0 l1 : List Int) : List Int := if c = 0 then l0 else if c = 1 then l1 else []
@[simp] theorem lane0 (l0 l1 : List Int) : lane 0 l0 l1 = l0 := rfl
@[simp] theorem lane1 (l0 l1 : List Int) : lane 1 l0 l1 = l1 := rfl
theorem lanen {c : Int} (l0 l1 : List Int) (h0 : c ≠ 0) (h1 : c ≠ 1) : lane c l0 l1 = [] := by simp [lane, h0, h1]

theorem lanes_first {size : Nat} {l0 l1 : List Int} : Ctr Try.prog F_lanes_Lanes_first [.ptr 0 0] (laneSh size l0 l1) (fun s hp => s = iv (firstC l0 l1) ∧ hp = laneSh size l0 l1) := by
  refine in_lanes_Lanes_first (by simp) ?_
  simp [mc_lanes_Lanes_first, laneSh]
  refine ⟨{ i : Nat // i = 0 ∨ i = 1 ∧ l0 = [] ∨ i = 2 ∧ l0 = [] ∧ l1 = [] }, fun i => ([(0, .ptr 0 0), (3, iv (-1)), (5, iv i.1)], laneSh size l0 l1), fun i => 2 - i.1, ⟨⟨0, by simp⟩, Le.by [0, 1, 2] (by simp [laneSh])⟩, fun i => ?_⟩
  obtain ⟨i, hi⟩ := i
  rcases hi with rfl | ⟨rfl, rfl⟩ | ⟨rfl, rfl, rfl⟩
  · simp [laneSh]
    refine Ctr.useEq (lanes_class (R1 := ringR size l0) (R2 := ringR size l1) (c := 0)) [0, 1, 2] (by simp) ?_
    simp
    refine Ctr.useEq (ring_Len (size := size) (l := l0)) [1] (by simp) ?_
    cases l0 with
    | nil =>
      simp
      exact ⟨1, Le.by [0, 1, 2] (by simp), by simp⟩
    | cons a r => simp [firstC]
  · simp [laneSh]
    refine Ctr.useEq (lanes_class (R1 := ringR size []) (R2 := ringR size l1) (c := 1)) [0, 1, 2] (by simp) ?_
    simp
    refine Ctr.useEq (ring_Len (size := size) (l := l1)) [2] (by simp) ?_
    cases l1 with
    | nil =>
      simp
      exact ⟨2, Le.by [0, 1, 2] (by simp), by simp⟩
    | cons a r => simp [firstC]
  · simp [laneSh, firstC]
end Go.Proofs.Ytpkkkeckefnmeaa

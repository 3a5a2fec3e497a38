import Derived.Test.YtpkkkeckefnmeaaL12e
namespace Go.Proofs.Ytpkkkeckefnmeaa
open Go Go.Vc
set_option linter.unusedSimpArgs false
set_option linter.unusedVariables false
set_option maxRecDepth 100000
set_option maxHeartbeats 4000000

@[simp] theorem slB_nil_lt (el : TypeId) (sz m : Nat) (o : Option Nat) : (slB [] el sz o).lt m ↔ True := by simp; exact slB_lt _ _ _ _ _ (by simp)

/-- The reference's lists. -/
def refSh (size : Nat) (l0 l1 : List Int) (a b : Vw) : List Blk := [.row [vwV 1 l0.length a, vwV 2 l1.length b, iv size] 3 ty_egressref12_Lanes, vwB a, vwB b]

theorem vw_take {l cells : List Int} {off cap m : Nat} (h : VwOK l (some (cells, off, cap, m))) : (cells.drop off).take l.length = l ∧ off + l.length ≤ cells.length ∧ l.length ≤ cap := by
  obtain ⟨h1, h2, h3⟩ := h
  refine ⟨List.ext_getElem? fun i => ?_, h1, h2⟩
  rw [List.getElem?_take]
  split
  · rw [List.getElem?_drop]; exact h3 i ‹_›
  · rw [List.getElem?_eq_none (by omega)]
@[simp] theorem vwV_ren (n len : Nat) (σ : Nat → Nat) (v : Vw) : (vwV n len v).ren σ = vwV (σ n) len v := by cases v <;> rfl
@[simp] theorem vwV_lt (n len k : Nat) (v : Vw) : (vwV n len v).lt k ↔ (v = none ∨ n < k) := by cases v <;> simp [vwV]
@[simp] theorem vwB_ren (σ : Nat → Nat) (v : Vw) : (vwB v).ren σ = vwB v := by cases v <;> simp [vwB]
@[simp] theorem vwB_lt (k : Nat) (v : Vw) : (vwB v).lt k ↔ True := by cases v <;> simp [vwB]
@[simp] theorem vwV_cells (n len : Nat) (v : Vw) : cellsSV (vwV n len v) = [vwV n len v] := by cases v <;> rfl
@[simp] theorem vwV_flat (n len : Nat) (v : Vw) : (vwV n len v).flat = true := by cases v <;> rfl
theorem vw_len {l : List Int} (n : Nat) {v : Vw} (h : VwOK l v) : lenV Try.prog 34 (vwV n l.length v) = some (l.length : Int) := by
  cases v with
  | none => have : l = [] := h; simp [this]
  | some p => simp [vwV]
theorem vw_own {l : List Int} {c : Nat} (h : l.length ≤ c) : VwOK l (some (l, 0, c, c * 1)) := ⟨by simp, h, fun i _ => by simp⟩
theorem vw_tail {a : Int} {l cells : List Int} {off cap m : Nat} (h : VwOK (a :: l) (some (cells, off, cap, m))) : VwOK l (some (cells, off + 1, cap - 1, m)) := by
  obtain ⟨h1, h2, h3⟩ := h
  simp only [List.length_cons] at *
  refine ⟨by omega, by omega, fun i hi => ?_⟩
  have := h3 (i + 1) (by omega)
  rw [show off + 1 + i = off + (i + 1) by omega, this]; simp
theorem vw_tail' {a : Int} {l cells : List Int} {off cap m : Nat} (h : VwOK (a :: l) (some (cells, off, cap, m))) : VwOK l (some (cells, if cap = 1 then off else off + 1, cap - 1, m)) := by
  split
  · obtain ⟨h1, h2, h3⟩ := h
    simp only [List.length_cons] at *
    exact ⟨by omega, by omega, fun i hi => by omega⟩
  · exact vw_tail h
theorem vw_head {a : Int} {l cells : List Int} {off cap m : Nat} (h : VwOK (a :: l) (some (cells, off, cap, m))) : cells[off]? = some a := by
  have := h.2.2 0 (by simp); simpa using this

/-- The slice of a class. -/
def vwC (c : Int) (l0 l1 : List Int) (a b : Vw) : SV := if c = 0 then vwV 1 l0.length a else if c = 1 then vwV 2 l1.length b else .v (.slice none 0 0)
theorem ref_All {size : Nat} {l0 l1 : List Int} {a b : Vw} {c : Int} : Ctr Try.prog F_egressref12_All [.ptr 0 0, iv c] (refSh size l0 l1 a b) (fun s hp => s = vwC c l0 l1 a b ∧ hp = refSh size l0 l1 a b) := by
  refine in_egressref12_All (by simp) ?_
  by_cases h0 : c = 0
  · subst h0; simp [mc_egressref12_All, refSh, vwC]
  by_cases h1 : c = 1
  · subst h1; simp [mc_egressref12_All, refSh, vwC]
  simp [mc_egressref12_All, refSh, vwC, h0, h1]

theorem ref_Head {size : Nat} {l0 l1 : List Int} {a b : Vw} (ha : VwOK l0 a) (hb : VwOK l1 b) : Ctr Try.prog F_egressref12_Head [.ptr 0 0] (refSh size l0 l1 a b) (fun s hp => s = .tup [iv ((l0 ++ l1).headD 0), iv (headC l0 l1), bv (decide (0 < (l0 ++ l1).length))] ∧ hp = refSh size l0 l1 a b) := by
  refine in_egressref12_Head (by simp) ?_
  have k0 := vw_len 1 ha
  have k1 := vw_len 2 hb
  match l0, l1, a, b with
  | x :: r, l1, none, b => simp [VwOK] at ha
  | x :: r, l1, some (cells, off, cap, m), b =>
    have hh := vw_head ha
    simp [mc_egressref12_Head, refSh, hh, headC]
  | [], x :: r, a, none => simp [VwOK] at hb
  | [], x :: r, a, some (cells, off, cap, m) =>
    have hh := vw_head hb
    simp [mc_egressref12_Head, refSh, hh, headC]
    simp at k0
    simp [k0, hh]
  | [], [], a, b =>
    simp at k0 k1
    simp [mc_egressref12_Head, refSh, headC, k0, k1]

def refR (size : Nat) (l0 l1 : List Int) : Nat → HP := mkRes (fun p : Vw × Vw => VwOK l0 p.1 ∧ VwOK l1 p.2) (fun p => refSh size l0 l1 p.1 p.2)
theorem ref_shut {hp : List Blk} {size : Nat} {l0 l1 : List Int} (k i j : Nat) (a b : Vw) (ha : VwOK l0 a) (hb : VwOK l1 b) (h : (k < hp.length ∧ i < hp.length ∧ j < hp.length) ∧ (k ≠ i ∧ k ≠ j ∧ i ≠ j) ∧ hp[k]? = some (.row [vwV i l0.length a, vwV j l1.length b, iv size] 3 ty_egressref12_Lanes) ∧ hp[i]? = some (vwB a) ∧ hp[j]? = some (vwB b)) :
    Ent hp (fun h => h = (wipe hp [k, i, j]).set k (.res (refR size l0 l1))) := by
  obtain ⟨⟨h1, h2, h3⟩, ⟨n1, n2, n3⟩, e1, e2, e3⟩ := h
  exact Ent.shut k [i, j] (pre := fun p : Vw × Vw => VwOK l0 p.1 ∧ VwOK l1 p.2) (shape := fun p => refSh size l0 l1 p.1 p.2) (a, b) ⟨ha, hb⟩ ⟨⟨by simp [h1, h2, h3], by simp [n1, n2, n3]⟩, rfl, by simp [refSh], by simp [refSh, e1, e2, e3]⟩

theorem ref_Pop {size : Nat} {l0 l1 : List Int} : Ctr Try.prog F_egressref12_Pop [.ptr 0 0] [.res (refR size l0 l1)] (fun s hp => s = .tup [iv ((l0 ++ l1).headD 0), iv (headC l0 l1), bv (decide (0 < (l0 ++ l1).length))] ∧ hp = [.res (refR size l0.tail (if l0 = [] then l1.tail else l1))]) := by
  refine Ctr.fin (Ctr.open 0 rfl (by simp) fun x hx => in_egressref12_Pop (by simp) ?_)
  obtain ⟨a, b⟩ := x
  obtain ⟨ha, hb⟩ := hx
  simp only at ha hb
  simp [mc_egressref12_Pop, refSh]
  refine Ctr.useEq (ref_Head (size := size) ha hb) [0, 1, 2] (by simp [refSh]) ?_
  match l0, l1, a, b with
  | x :: r, l1, none, b => simp [VwOK] at ha
  | x :: r, l1, some (cells, off, cap, m), b =>
    have hp3 : 0 < r.length + 1 + l1.length := by omega
    obtain ⟨_, h2, h3⟩ := vw_take ha
    simp at h3
    simp [refSh, headC, hp3]
    exact ⟨by omega, Fin.cut 1 (ref_shut (size := size) (l0 := r) (l1 := l1) 0 1 2 _ _ (vw_tail' ha) hb (by simp)) (by simp) (by simp)⟩
  | [], x :: r, a, none => simp [VwOK] at hb
  | [], x :: r, a, some (cells, off, cap, m) =>
    obtain ⟨_, h2, h3⟩ := vw_take hb
    simp at h3
    simp [refSh, headC]
    exact ⟨by omega, Fin.cut 1 (ref_shut (size := size) (l0 := []) (l1 := r) 0 1 2 _ _ ha (vw_tail' hb) (by simp)) (by simp) (by simp)⟩
  | [], [], a, b =>
    simp [refSh, headC]
    exact Fin.cut 1 (ref_shut (size := size) (l0 := []) (l1 := []) 0 1 2 _ _ ha hb (by simp)) (by simp) (by simp)

theorem ref_Push {size : Nat} {l0 l1 : List Int} {c x : Int} (hl : (l0.length ≤ size ∧ l1.length ≤ size) ∧ size ≤ 4096) : Ctr Try.prog F_egressref12_Push [.ptr 0 0, iv c, iv x] [.res (refR size l0 l1)] (fun s hp => s = iv (pushE size c l0 l1) ∧ hp = [.res (refR size (push0 size c l0 x) (push1 size c l1 x))]) := by
  refine Ctr.fin (Ctr.open 0 rfl (by simp) fun x hx => in_egressref12_Push (by simp) ?_)
  obtain ⟨a, b⟩ := x
  obtain ⟨ha, hb⟩ := hx
  simp only at ha hb
  have k0 := vw_len 1 ha
  have k1 := vw_len 2 hb
  by_cases h0 : c = 0
  · subst h0
    simp [mc_egressref12_Push, refSh]
    refine maskK.by [] ?_
    simp
    refine Ctr.useEq (ref_All (size := size) (l0 := l0) (l1 := l1) (a := a) (b := b) (c := 0)) [0, 1, 2] (by simp [refSh]) ?_
    simp [refSh, vwC, k0]
    refine ⟨fun h => ?_, fun h => ?_⟩
    · have ht : size - l0.length = 0 := by omega
      have hn : ¬ l0.length < size := by omega
      simp [pushE, push0, push1, ht, hn]
      exact Fin.cut 1 (ref_shut (size := size) (l0 := l0) (l1 := l1) 0 1 2 _ _ ha hb (by simp)) (by simp) (by simp)
    · have ht : [x].take (size - l0.length) = [x] := List.take_of_length_le (by simp; omega)
      match l0, a with
      | l0, none =>
        obtain rfl : l0 = [] := ha
        simp at ht
        simp [pushE, push0, push1, h, ht]
        have hs : size ≠ 0 := by simp at h; omega
        intro cc hcc
        exact Fin.cut 1 (ref_shut (size := size) (l0 := [x]) (l1 := l1) 0 5 2 (some ([x], 0, cc, cc * 1)) _ (vw_own (by simpa using hcc)) hb (by simp)) (by simp) (by simp [hs])
      | l0, some (cells, off, cap, m) =>
        obtain ⟨t1, t2, t3⟩ := vw_take ha
        simp [pushE, push0, push1, h, ht, t1, t2]
        refine ⟨by omega, fun c1 h1 => ⟨by omega, fun c2 h2 => ?_⟩⟩
        exact Fin.cut 1 (ref_shut (size := size) (l0 := l0 ++ [x]) (l1 := l1) 0 6 2 (some (l0 ++ [x], 0, c2, c2 * 1)) _ (vw_own (by simpa using h2)) hb (by simp)) (by simp) (by simp)
  by_cases h1 : c = 1
  · subst h1
    simp [mc_egressref12_Push, refSh]
    refine maskK.by [] ?_
    simp
    refine Ctr.useEq (ref_All (size := size) (l0 := l0) (l1 := l1) (a := a) (b := b) (c := 1)) [0, 1, 2] (by simp [refSh]) ?_
    simp [refSh, vwC, k1]
    refine ⟨fun h => ?_, fun h => ?_⟩
    · have ht : size - l1.length = 0 := by omega
      have hn : ¬ l1.length < size := by omega
      simp [pushE, push0, push1, ht, hn]
      exact Fin.cut 1 (ref_shut (size := size) (l0 := l0) (l1 := l1) 0 1 2 _ _ ha hb (by simp)) (by simp) (by simp)
    · have ht : [x].take (size - l1.length) = [x] := List.take_of_length_le (by simp; omega)
      match l1, b with
      | l1, none =>
        obtain rfl : l1 = [] := hb
        simp at ht
        simp [pushE, push0, push1, h, ht]
        have hs : size ≠ 0 := by simp at h; omega
        intro cc hcc
        exact Fin.cut 1 (ref_shut (size := size) (l0 := l0) (l1 := [x]) 0 1 5 _ (some ([x], 0, cc, cc * 1)) ha (vw_own (by simpa using hcc)) (by simp)) (by simp) (by simp [hs])
      | l1, some (cells, off, cap, m) =>
        obtain ⟨t1, t2, t3⟩ := vw_take hb
        simp [pushE, push0, push1, h, ht, t1, t2]
        refine ⟨by omega, fun c1 h1 => ⟨by omega, fun c2 h2 => ?_⟩⟩
        exact Fin.cut 1 (ref_shut (size := size) (l0 := l0) (l1 := l1 ++ [x]) 0 1 6 _ (some (l1 ++ [x], 0, c2, c2 * 1)) ha (vw_own (by simpa using h2)) (by simp)) (by simp) (by simp)
  simp [mc_egressref12_Push, refSh, h0, h1, pushE, push0, push1]
  exact Fin.cut 1 (ref_shut (size := size) (l0 := l0) (l1 := l1) 0 1 2 _ _ ha hb (by simp)) (by simp) (by simp)

theorem ref_Ahead {size : Nat} {l0 l1 : List Int} {a b : Vw} {c : Int} (ha : VwOK l0 a) (hb : VwOK l1 b) (hl : l0.length ≤ 4096 ∧ l1.length ≤ 4096) : Ctr Try.prog F_egressref12_Ahead [.ptr 0 0, iv c] (refSh size l0 l1 a b) (fun s hp => ∃ o, SlOK (aheadL c l0 l1).length o ∧ s = slV 3 (aheadL c l0 l1).length o ∧ hp = refSh size l0 l1 a b ++ [slB (ivs .i64 (aheadL c l0 l1)) ty_int 1 o]) := by
  refine Ctr.fin (in_egressref12_Ahead (by simp) ?_)
  have done : ∀ (k : Nat) (hp : List Blk) (l : List Int) (s : SV) (o : Option Nat), aheadL c l0 l1 = l → SlOK l.length o → s = (slV 3 l.length o).ren (nm [0, 1, 2, k] hp.length) → (k < hp.length ∧ k ≠ 0 ∧ k ≠ 1 ∧ k ≠ 2) → (0 < hp.length ∧ 1 < hp.length ∧ 2 < hp.length) → hpLe (nm [0, 1, 2, k] hp.length) hp 0 (refSh size l0 l1 a b ++ [slB (ivs .i64 l) ty_int 1 o]) →
      Fin 3 (fun s hp => ∃ o, SlOK (aheadL c l0 l1).length o ∧ s = slV 3 (aheadL c l0 l1).length o ∧ hp = refSh size l0 l1 a b ++ [slB (ivs .i64 (aheadL c l0 l1)) ty_int 1 o]) s hp := by
    intro k hp l s o e1 e2 e3 ⟨e4, e5, e6, e7⟩ ⟨e8, e9, e10⟩ e11
    subst e1
    exact Fin.sel [0, 1, 2, k] (slV 3 (aheadL c l0 l1).length o) _ ⟨⟨rfl, by simp, by simp [e4, e8, e9, e10], by simp; omega, by simp⟩, by simp [refSh], e3, e11⟩ ⟨o, e2, rfl, rfl⟩
  have k0 := vw_len 1 ha
  have k1 := vw_len 2 hb
  by_cases h0 : c = 0
  · subst h0
    match l0, a with
    | l0, none =>
      obtain rfl : l0 = [] := ha
      simp [mc_egressref12_Ahead, refSh]
      exact done 3 _ [] _ (some 0) rfl (by simp) (by simp) (by simp) (by simp) (by simp [refSh])
    | l0, some (cells, off, cap, m) =>
      obtain ⟨t1, t2, t3⟩ := vw_take ha
      simp [mc_egressref12_Ahead, refSh, t1, t2]
      exact ⟨by omega, fun c1 h1 => done 4 _ l0 _ (some c1) rfl (by simp [h1]) (by simp) (by simp) (by simp) (by simp [refSh])⟩
  by_cases h1 : c = 1
  · subst h1
    match l0, a, l1, b with
    | l0, none, l1, none =>
      obtain rfl : l0 = [] := ha
      obtain rfl : l1 = [] := hb
      simp [mc_egressref12_Ahead, refSh]
      exact done 3 _ [] _ (some 0) rfl (by simp) (by simp) (by simp) (by simp) (by simp [refSh])
    | l0, none, l1, some (cells, off, cap, m) =>
      obtain rfl : l0 = [] := ha
      obtain ⟨t1, t2, t3⟩ := vw_take hb
      simp [mc_egressref12_Ahead, refSh, t1, t2]
      exact ⟨by omega, fun c1 h1 => done 4 _ l1 _ (some c1) rfl (by simp [h1]) (by simp) (by simp) (by simp) (by simp [refSh])⟩
    | l0, some (cells, off, cap, m), l1, none =>
      obtain rfl : l1 = [] := hb
      obtain ⟨t1, t2, t3⟩ := vw_take ha
      simp [mc_egressref12_Ahead, refSh, t1, t2]
      exact ⟨by omega, fun c1 h1 => ⟨h1, done 4 _ l0 _ (some c1) (by simp [aheadL]) (by simp [h1]) (by simp) (by simp) (by simp) (by simp [refSh])⟩⟩
    | l0, some (cells, off, cap, m), l1, some (cells', off', cap', m') =>
      obtain ⟨t1, t2, t3⟩ := vw_take ha
      obtain ⟨u1, u2, u3⟩ := vw_take hb
      simp [mc_egressref12_Ahead, refSh, t1, t2, u1, u2]
      exact ⟨by omega, fun c1 h1 => ⟨by omega, fun c2 h2 => done 5 _ (l0 ++ l1) _ (some c2) (by simp [aheadL]) (by simpa using h2) (by simp) (by simp) (by simp) (by simp [refSh])⟩⟩
  · have h2 : aheadL c l0 l1 = [] := by simp [aheadL, h0, h1]
    match l0, a with
    | l0, none =>
      simp [mc_egressref12_Ahead, refSh, h0, h1]
      obtain rfl : l0 = [] := ha
      exact Fin.cut 4 (ent_any [3]) (by simp) ⟨none, by simp [h2], by simp [h2], by simp [h2, refSh]⟩
    | l0, some (cells, off, cap, m) =>
      obtain ⟨t1, t2, t3⟩ := vw_take ha
      simp [mc_egressref12_Ahead, refSh, t1, t2, h0, h1]
      exact ⟨by omega, fun c1 h1 => Fin.cut 4 (ent_any [3]) (by simp) ⟨none, by simp [h2], by simp [h2], by simp [h2, refSh]⟩⟩

/-- One operation on the queues. -/
def stepL (m : Nat) (x : OpT) (l : List Int × List Int) : List Int × List Int := if x.1 = true then (l.1.tail, if l.1 = [] then l.2.tail else l.2) else (push0 m x.2.1 l.1 x.2.2, push1 m x.2.1 l.2 x.2.2)
theorem law_do {size : Nat} {l0 l1 : List Int} {x : OpT} (hl : (l0.length ≤ size ∧ l1.length ≤ size) ∧ size ≤ 4096) : Ctr Try.prog F_egresslaw12_do [.ptr 0 0, .ptr 3 0, .agg [bv x.1, iv x.2.1, iv x.2.2]] (laneSh size l0 l1 ++ [.res (refR size l0 l1)])
    (fun s hp => s = bv true ∧ hp = laneSh size (stepL size x (l0, l1)).1 (stepL size x (l0, l1)).2 ++ [.res (refR size (stepL size x (l0, l1)).1 (stepL size x (l0, l1)).2)]) := by
  refine Ctr.fin (in_egresslaw12_do (by simp) ?_)
  obtain ⟨p, c, x⟩ := x
  cases p with
  | true =>
    simp [mc_egresslaw12_do, laneSh]
    refine Ctr.useEq (lanes_Pop (size := size) (l0 := l0) (l1 := l1)) [0, 1, 2] (by simp [laneSh]) ?_
    simp [laneSh]
    refine Ctr.useEq (ref_Pop (size := size) (l0 := l0) (l1 := l1)) [3] (by simp) ?_
    simp [stepL]
    exact Fin.cut 4 (Ent.refl _) (by simp) (by simp [laneSh])
  | false =>
    simp [mc_egresslaw12_do, laneSh]
    refine maskK.by [1, 2] ?_
    simp
    refine Ctr.useEq (lanes_Push (size := size) (l0 := l0) (l1 := l1) (c := c) (x := x) hl.1) [0, 1, 2] (by simp [laneSh]) ?_
    simp [laneSh]
    refine Ctr.useEq (ref_Push (size := size) (l0 := l0) (l1 := l1) (c := c) (x := x) hl) [3] (by simp) ?_
    simp [stepL]
    exact Fin.cut 4 (Ent.refl _) (by simp) (by simp [laneSh])

theorem slices_EqualN {la : List Int} (a : Vw) (ha : VwOK la a) (hl : la.length ≤ 1048576) : Ctr Try.prog F_slices_Equal_int_int [vwV 0 la.length a, .v (.slice none 0 0)] [vwB a] (fun s hp => s = bv (decide (la = [])) ∧ hp = [vwB a, .any]) :=
  Ctr.ent ent_more (by simp) fun hp e => by subst e; exact slices_Equal (la := la) (lb := []) a none ha rfl hl

theorem lane_len {c : Int} {size : Nat} {l0 l1 : List Int} (h : l0.length ≤ size ∧ l1.length ≤ size) : (lane c l0 l1).length ≤ size ∧ (aheadL c l0 l1).length ≤ 2 * size := by
  unfold lane aheadL
  constructor
  · split
    · exact h.1
    · split
      · exact h.2
      · simp
  · split
    · omega
    · split
      · simp; omega
      · simp
theorem law_same {size : Nat} {l0 l1 : List Int} (hl : (l0.length ≤ size ∧ l1.length ≤ size) ∧ size ≤ 4096) : Ctr Try.prog F_egresslaw12_same [.ptr 0 0, .ptr 3 0] (laneSh size l0 l1 ++ [.res (refR size l0 l1)])
    (fun s hp => s = bv true ∧ hp = laneSh size l0 l1 ++ [.res (refR size l0 l1)]) := by
  refine Ctr.fin (Ctr.open 3 rfl (by simp [laneSh]) fun x hx => in_egresslaw12_same (by simp) ?_)
  obtain ⟨a, b⟩ := x
  obtain ⟨ha, hb⟩ := hx
  simp only at ha hb
  simp [mc_egresslaw12_same, laneSh, refSh]
  refine ⟨{ c : Int // -1 ≤ c ∧ c ≤ 3 }, fun c => ([(0, .ptr 0 0), (1, .ptr 3 0), (5, iv c.1)], laneSh size l0 l1 ++ [.row [vwV 4 l0.length a, vwV 5 l1.length b, iv size] 3 ty_egressref12_Lanes, vwB a, vwB b]), fun c => (3 - c.1).toNat, ⟨⟨-1, by omega⟩, Le.by [0, 1, 2, 3, 4, 5] (by simp [laneSh])⟩, fun c => ?_⟩
  obtain ⟨c, hc⟩ := c
  simp [laneSh]
  refine ⟨fun h => ?_, fun h => ?_⟩
  · simp [h]
    have k0 := vw_len 4 ha
    have k1 := vw_len 5 hb
    refine Ctr.useEq (ref_All (size := size) (l0 := l0) (l1 := l1) (a := a) (b := b) (c := c)) [3, 4, 5] (by simp [refSh]) ?_
    by_cases h0 : c = 0
    · subst h0
      have hf : IntKind.i64.wrap ((size : Int) - l0.length) = ((size - l0.length : Nat) : Int) := by rw [w64 (by omega)]; omega
      simp [refSh, vwC, k0, hf]
      refine Ctr.use (lanes_All (size := size) (l0 := l0) (l1 := l1) (c := 0) hl) [0, 1, 2] (by simp [laneSh]) fun s hc _ ⟨o1, ho1, e1, e2⟩ => ?_
      subst e1 e2
      simp only [lane0, lane1] at ho1
      simp [laneSh]
      refine Ctr.useEq (slices_Equal (la := l0) (lb := l0) (toVw l0 o1) a (toVw_OK ho1) ha (by omega)) [6, 4] (by simp) ?_
      simp
      refine Ctr.useEq (lanes_Len (size := size) (l0 := l0) (l1 := l1) (c := 0)) [0, 1, 2] (by simp [laneSh]) ?_
      simp [laneSh, k0]
      refine Ctr.useEq (lanes_Free (size := size) (l0 := l0) (l1 := l1) (c := 0) hl.1) [0, 1, 2] (by simp [laneSh]) ?_
      simp [laneSh, freeL]
      refine Ctr.use (lanes_Ahead (size := size) (l0 := l0) (l1 := l1) (c := 0) hl) [0, 1, 2] (by simp [laneSh]) fun s hc _ ⟨o2, ho2, e1, e2⟩ => ?_
      subst e1 e2
      simp [laneSh]
      refine Ctr.use (ref_Ahead (size := size) (l0 := l0) (l1 := l1) (a := a) (b := b) (c := 0) ha hb (by omega)) [3, 4, 5] (by simp [refSh]) fun s hc _ ⟨o3, ho3, e1, e2⟩ => ?_
      subst e1 e2
      simp [refSh]
      have hal := (lane_len (c := 0) hl.1).2
      refine Ctr.useEq (slices_Equal (la := aheadL 0 l0 l1) (lb := aheadL 0 l0 l1) (toVw _ o2) (toVw _ o3) (toVw_OK ho2) (toVw_OK ho3) (by omega)) [7, 8] (by simp) ?_
      simp
      exact ⟨1, Le.by [0, 1, 2, 3, 4, 5] (by simp [laneSh]), by decide, by decide⟩
    by_cases h1 : c = 1
    · subst h1
      have hf : IntKind.i64.wrap ((size : Int) - l1.length) = ((size - l1.length : Nat) : Int) := by rw [w64 (by omega)]; omega
      simp [refSh, vwC, k1, hf]
      refine Ctr.use (lanes_All (size := size) (l0 := l0) (l1 := l1) (c := 1) hl) [0, 1, 2] (by simp [laneSh]) fun s hc _ ⟨o1, ho1, e1, e2⟩ => ?_
      subst e1 e2
      simp only [lane0, lane1] at ho1
      simp [laneSh]
      refine Ctr.useEq (slices_Equal (la := l1) (lb := l1) (toVw l1 o1) b (toVw_OK ho1) hb (by omega)) [6, 5] (by simp) ?_
      simp
      refine Ctr.useEq (lanes_Len (size := size) (l0 := l0) (l1 := l1) (c := 1)) [0, 1, 2] (by simp [laneSh]) ?_
      simp [laneSh, k1]
      refine Ctr.useEq (lanes_Free (size := size) (l0 := l0) (l1 := l1) (c := 1) hl.1) [0, 1, 2] (by simp [laneSh]) ?_
      simp [laneSh, freeL]
      refine Ctr.use (lanes_Ahead (size := size) (l0 := l0) (l1 := l1) (c := 1) hl) [0, 1, 2] (by simp [laneSh]) fun s hc _ ⟨o2, ho2, e1, e2⟩ => ?_
      subst e1 e2
      simp [laneSh]
      refine Ctr.use (ref_Ahead (size := size) (l0 := l0) (l1 := l1) (a := a) (b := b) (c := 1) ha hb (by omega)) [3, 4, 5] (by simp [refSh]) fun s hc _ ⟨o3, ho3, e1, e2⟩ => ?_
      subst e1 e2
      simp [refSh]
      have hal := (lane_len (c := 1) hl.1).2
      refine Ctr.useEq (slices_Equal (la := aheadL 1 l0 l1) (lb := aheadL 1 l0 l1) (toVw _ o2) (toVw _ o3) (toVw_OK ho2) (toVw_OK ho3) (by omega)) [7, 8] (by simp) ?_
      simp
      exact ⟨2, Le.by [0, 1, 2, 3, 4, 5] (by simp [laneSh]), by decide, by decide⟩
    · simp [refSh, vwC, h0, h1]
      have hln : lane c l0 l1 = [] := lanen _ _ h0 h1
      have hal : aheadL c l0 l1 = [] := by simp [aheadL, h0, h1]
      refine Ctr.use (lanes_All (size := size) (l0 := l0) (l1 := l1) (c := c) hl) [0, 1, 2] (by simp [laneSh]) fun s hc' _ ⟨o1, ho1, e1, e2⟩ => ?_
      subst e1 e2
      rw [hln] at ho1 ⊢
      simp [laneSh]
      refine Ctr.useEq (slices_EqualN (la := []) (toVw [] o1) (toVw_OK ho1) (by simp)) [6] (by simp) ?_
      simp
      refine Ctr.useEq (lanes_Len (size := size) (l0 := l0) (l1 := l1) (c := c)) [0, 1, 2] (by simp [laneSh]) ?_
      simp [laneSh, hln]
      refine Ctr.useEq (lanes_Free (size := size) (l0 := l0) (l1 := l1) (c := c) hl.1) [0, 1, 2] (by simp [laneSh]) ?_
      simp [laneSh, freeL, h0, h1]
      refine Ctr.use (lanes_Ahead (size := size) (l0 := l0) (l1 := l1) (c := c) hl) [0, 1, 2] (by simp [laneSh]) fun s hc' _ ⟨o2, ho2, e1, e2⟩ => ?_
      subst e1 e2
      simp [laneSh]
      refine Ctr.use (ref_Ahead (size := size) (l0 := l0) (l1 := l1) (a := a) (b := b) (c := c) ha hb (by omega)) [3, 4, 5] (by simp [refSh]) fun s hc' _ ⟨o3, ho3, e1, e2⟩ => ?_
      subst e1 e2
      simp [refSh]
      refine Ctr.useEq (slices_Equal (la := aheadL c l0 l1) (lb := aheadL c l0 l1) (toVw _ o2) (toVw _ o3) (toVw_OK ho2) (toVw_OK ho3) (by simp [hal])) [8, 9] (by simp) ?_
      have hw : IntKind.i64.wrap (c + 1) = c + 1 := w64 (by omega)
      simp [hw]
      exact ⟨c + 1, Le.by [0, 1, 2, 3, 4, 5] (by simp [laneSh]), by omega, by omega⟩
  · refine Ctr.useEq (lanes_Head (size := size) (l0 := l0) (l1 := l1)) [0, 1, 2] (by simp [laneSh]) ?_
    simp [laneSh]
    refine Ctr.useEq (ref_Head (size := size) ha hb) [3, 4, 5] (by simp [refSh]) ?_
    simp [refSh]
    exact Fin.cut 4 (ref_shut (size := size) (l0 := l0) (l1 := l1) 3 4 5 _ _ ha hb (by simp)) (by simp) (by simp [laneSh])
end Go.Proofs.Ytpkkkeckefnmeaa

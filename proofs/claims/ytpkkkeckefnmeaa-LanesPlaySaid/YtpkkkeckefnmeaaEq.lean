import Derived.Test.YtpkkkeckefnmeaaLb
namespace Go.Proofs.Ytpkkkeckefnmeaa
open Go Go.Vc
set_option linter.unusedSimpArgs false
set_option linter.unusedVariables false
set_option maxRecDepth 100000
set_option maxHeartbeats 4000000

/-- A slice of integers: nil, or a part of a row (its cells, where the part begins, its capacity, the row's length). -/
abbrev Vw := Option (List Int × Nat × Nat × Nat)
def vwV (n len : Nat) : Vw → SV
  | none => .v (.slice none 0 0)
  | some (_, off, cap, _) => .slc n off len cap
def vwB : Vw → Blk
  | none => .any
  | some (cells, _, _, m) => .row (ivs .i64 cells) m ty_int
def VwOK (l : List Int) : Vw → Prop
  | none => l = []
  | some (cells, off, cap, _) => off + l.length ≤ cells.length ∧ l.length ≤ cap ∧ ∀ i, i < l.length → cells[off + i]? = l[i]?
@[simp] theorem vwV_none (n len : Nat) : vwV n len none = .v (.slice none 0 0) := rfl
@[simp] theorem vwV_some (n len off cap m : Nat) (cells : List Int) : vwV n len (some (cells, off, cap, m)) = .slc n off len cap := rfl
@[simp] theorem vwB_none : vwB none = .any := rfl
@[simp] theorem vwB_some (off cap m : Nat) (cells : List Int) : vwB (some (cells, off, cap, m)) = .row (ivs .i64 cells) m ty_int := rfl

theorem slices_Equal {la lb : List Int} (a b : Vw) (ha : VwOK la a) (hb : VwOK lb b) (hl : la.length ≤ 1048576) : Ctr Try.prog F_slices_Equal_int_int [vwV 0 la.length a, vwV 1 lb.length b] [vwB a, vwB b] (fun s hp => s = bv (decide (la = lb)) ∧ hp = [vwB a, vwB b]) := by
  refine in_slices_Equal_int_int (by simp) ?_
  by_cases hlen : la.length = lb.length
  · match a, b, ha, hb with
    | none, none, ha, hb =>
      obtain rfl : la = [] := ha
      obtain rfl : lb = [] := hb
      simp [mc_slices_Equal_int_int]
      refine ⟨Unit, fun _ => ([(12, iv 0), (13, iv 0)], [.any, .any]), fun _ => 0, ⟨(), Le.by [0, 1] (by simp)⟩, fun p => ?_⟩
      simp
    | none, some (cb, ob, capb, mb), ha, hb =>
      obtain rfl : la = [] := ha
      obtain rfl : lb = [] := List.length_eq_zero_iff.1 (by simpa using hlen.symm)
      simp [mc_slices_Equal_int_int]
      refine ⟨Unit, fun _ => ([(12, iv 0), (13, iv 0)], [.any, .row (ivs .i64 cb) mb ty_int]), fun _ => 0, ⟨(), Le.by [0, 1] (by simp)⟩, fun p => ?_⟩
      simp
    | some (ca, oa, capa, ma), none, ha, hb =>
      obtain rfl : lb = [] := hb
      obtain rfl : la = [] := List.length_eq_zero_iff.1 (by simpa using hlen)
      simp [mc_slices_Equal_int_int]
      refine ⟨Unit, fun _ => ([(12, iv 0), (13, iv 0)], [.row (ivs .i64 ca) ma ty_int, .any]), fun _ => 0, ⟨(), Le.by [0, 1] (by simp)⟩, fun p => ?_⟩
      simp
    | some (ca, oa, capa, ma), some (cb, ob, capb, mb), ha, hb =>
      obtain ⟨ha1, ha2, ha3⟩ := ha
      obtain ⟨hb1, hb2, hb3⟩ := hb
      simp [mc_slices_Equal_int_int, hlen]
      refine ⟨{ i : Nat // i ≤ lb.length ∧ ∀ j, j < i → la[j]? = lb[j]? }, fun i => ([(0, .slc 0 oa lb.length capa), (1, .slc 1 ob lb.length capb), (12, iv lb.length), (13, iv (i.1 : Nat))], [.row (ivs .i64 ca) ma ty_int, .row (ivs .i64 cb) mb ty_int]), fun i => lb.length - i.1, ⟨⟨0, by simp⟩, Le.by [0, 1] (by simp [hlen])⟩, fun i => ?_⟩
      obtain ⟨i, hi, hij⟩ := i
      simp
      refine ⟨fun h => ?_, fun h => ?_⟩
      · have e1 := ha3 i (by omega)
        have e2 := hb3 i h
        rw [List.getElem?_eq_getElem (by omega)] at e1 e2
        simp (disch := first | omega | simp) [h, e1, e2]
        refine ⟨fun h1 h2 => h1 (by subst h2; rfl), fun h1 => ⟨i + 1, Le.by [0, 1] (by simp), ⟨by omega, fun j hj => ?_⟩, by omega⟩⟩
        by_cases e : j = i
        · subst e; rw [List.getElem?_eq_getElem (by omega), List.getElem?_eq_getElem h, h1]
        · exact hij j (by omega)
      · refine List.ext_getElem? fun j => ?_
        by_cases hj : j < i
        · exact hij j hj
        · rw [List.getElem?_eq_none (by omega), List.getElem?_eq_none (by omega)]
  · have hne : ¬ la = lb := fun e => hlen (by rw [e])
    match a, b, ha, hb with
    | none, none, ha, hb =>
      obtain rfl : la = [] := ha
      obtain rfl : lb = [] := hb
      simp at hlen
    | none, some (cb, ob, capb, mb), ha, hb =>
      obtain rfl : la = [] := ha
      have h2 : ¬ ((0 : Int) = lb.length) := fun e => hlen (by simp; omega)
      simp [mc_slices_Equal_int_int, h2, hne]
    | some (ca, oa, capa, ma), none, ha, hb =>
      obtain rfl : lb = [] := hb
      simp at hlen
      simp [mc_slices_Equal_int_int, hlen]
    | some (ca, oa, capa, ma), some (cb, ob, capb, mb), ha, hb =>
      simp [mc_slices_Equal_int_int, hlen, hne]
end Go.Proofs.Ytpkkkeckefnmeaa

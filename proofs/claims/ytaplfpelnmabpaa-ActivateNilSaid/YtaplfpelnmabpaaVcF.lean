/- The reading operations do what 'vq' says: the theorem. -/
import Derived.Test.YtaplfpelnmabpaaVcE
namespace Go.Vc
open Go.RowKit
set_option linter.unusedSimpArgs false
set_option linter.unusedVariables false

section
variable {P : Program} {w0 w : World} {F : HP} {ρ : Nat → Nat} {fr : List (Nat × SV)} {hp : List Blk} {a : Act}

theorem bndV_spec (hfr : ∀ t s, look t fr = some s → a.tmps[t]? = some (s.den ρ)) {d l : Int} {x : Option Operand} (h : bndV fr d x = some l) :
    (x = none ∧ l = d) ∨ ∃ y k, x = some y ∧ a.eval y = .int k l := by
  cases x with
  | none => simp [bndV] at h; exact .inl ⟨rfl, h.symm⟩
  | some y =>
    right
    simp only [bndV] at h
    split at h
    · rename_i k i hy
      simp only [Option.some.injEq] at h; subst h
      exact ⟨y, k, rfl, by rw [ev_eval hfr hy]; rfl⟩
    · cases h

theorem run_sliceBound {v : Value} {k : IntKind} {i : Int} {y : Nat} {c : BoundsCode} (hv : v = .int k i) (h : 0 ≤ i ∧ i ≤ (y : Int)) : (Instr.sliceBound v y c).run P w = .ok i.toNat w := by
  subst hv; simp [Instr.sliceBound, asIntOf, h]

theorem run_sliceBounds (hfr : ∀ t s, look t fr = some s → a.tmps[t]? = some (s.den ρ)) {isS : Bool} {len cap : Nat} {lo hi : Option Operand} {l h : Int} (hl : bndV fr 0 lo = some l) (hh : bndV fr len hi = some h) (hb : 0 ≤ l ∧ l ≤ h ∧ h ≤ (cap : Int)) :
    (Instr.sliceBounds isS len cap (lo.map a.eval) (hi.map a.eval) none).run P w = .ok (l.toNat, h.toNat, cap) w := by
  have e1 : (h.toNat : Int) = h := by omega
  rcases bndV_spec hfr hl with ⟨rfl, rfl⟩ | ⟨x, k, rfl, hx⟩ <;> rcases bndV_spec hfr hh with ⟨rfl, rfl⟩ | ⟨y, k', rfl, hy⟩
  · simp [Instr.sliceBounds]
  · simp [Instr.sliceBounds, run_sliceBound hy ⟨by omega, hb.2.2⟩]
  · have := run_sliceBound (P := P) (w := w) (c := BoundsCode.sliceB) hx (y := len) ⟨hb.1, hb.2.1⟩
    simp [Instr.sliceBounds, this]
  · have := run_sliceBound (P := P) (w := w) (c := BoundsCode.sliceB) hx (y := h.toNat) ⟨hb.1, by omega⟩
    simp [Instr.sliceBounds, run_sliceBound hy ⟨by omega, hb.2.2⟩, this]

theorem addr_add_if (b o cap l k : Nat) : (if cap = l then (⟨b, o, none⟩ : Addr) else (⟨b, o, none⟩ : Addr).add k) = ⟨b, if cap = l then o else o + k, none⟩ := by
  split
  · rfl
  · exact addr_add b o k

theorem run_minMax {mx : Bool} {k : IntKind} : ∀ {r : List SV} {x n : Int}, minMax mx k x r = some n → ∀ w : World,
    ((SV.denL ρ r).foldlM (if mx then Builtin.max2 else Builtin.min2) (.int k x)).run P w = .ok (.int k n) w
  | [], x, n, h, w => by simp [minMax] at h; subst h; simp [SV.denL]
  | s :: r, x, n, h, w => by
    cases s with
    | v y =>
      cases y with
      | int k' y =>
        simp only [minMax] at h
        have := run_minMax h w
        simp only [SV.denL, List.foldlM_cons, SV.den, Sem.run_bind]
        cases mx <;> simp_all [Builtin.max2, Builtin.min2]
      | _ => simp [minMax] at h
    | _ => simp [minMax] at h

theorem lenV_sound {t : TypeId} {s : SV} {n : Int} (h : lenV P t s = some n) (w : World) : (Builtin.len_ #[t] 0 #[s.den ρ]).run P w = .ok (.int .i64 n) w := by
  cases s with
  | slc m off len cap =>
    simp only [lenV] at h
    cases ht : slcT P t with
    | none => simp [ht] at h
    | some x =>
      obtain ⟨el, sz⟩ := x
      simp [ht] at h; subst h
      simp [Builtin.len_, run_und (slcT_spec ht).1, SV.den, goInt]
  | v x =>
    cases x with
    | slice b len cap =>
      simp only [lenV] at h
      cases ht : slcT P t with
      | none => simp [ht] at h
      | some x =>
        obtain ⟨el, sz⟩ := x
        simp [ht] at h; subst h
        simp [Builtin.len_, run_und (slcT_spec ht).1, SV.den, goInt]
    | string s =>
      simp only [lenV] at h
      split at h
      · rename_i ht
        simp at h; subst h
        simp [Builtin.len_, run_und (strT_spec ht), SV.den, goInt]
      · cases h
    | _ => simp [lenV] at h
  | _ => simp [lenV] at h

theorem len_type (ts : Array TypeId) (ty ty' : TypeId) (args : Array Value) : Builtin.len_ ts ty args = Builtin.len_ ts ty' args := rfl

theorem isPtrT_spec {t : TypeId} (h : isPtrT P t = true) : ∃ e, P.underlying t = some (.pointer e) := by
  unfold isPtrT at h; split at h
  · exact ⟨_, by assumption⟩
  · cases h
theorem isBoolT_spec {t : TypeId} (h : isBoolT P t = true) : P.underlying t = some .bool := by
  unfold isBoolT at h; split at h
  · assumption
  · cases h

theorem eqGuard_ok {op : BinOp} {t : TypeId} {x y : Operand} {u v : Value} (h1 : ∀ p q, u = .agg p → v = .agg q → P.eqGuardType P.depth t = false) (h2 : u ≠ .nilIface) (w : World) : (eqGuard op t x y u v).run P w = .ok () w := by
  cases op <;> simp only [eqGuard, Bool.not_true, Bool.not_false, Bool.false_eq_true, if_true, if_false, Sem.run_pure] <;> (cases u <;> cases v <;> simp_all)

theorem run_eql {t : TypeId} {u v : Value} {b : Bool} (hs : ∀ k x, u ≠ .int k x) (hs2 : ∀ k x, u ≠ .float k x) (hs3 : ∀ k x y, u ≠ .complex k x y) (hs4 : ∀ x, u ≠ .string x) (h : ∀ w, (Op.equal t u v).run P w = .ok b w) (w : World) :
    (binOp .eql t u v).run P w = .ok (.bool b) w ∧ (binOp .neq t u v).run P w = .ok (.bool (!b)) w := by
  constructor <;> (cases u <;> simp_all [binOp])

theorem equal_ptr_nil {t e : TypeId} (hd : P.underlying t = some (.pointer e)) (x : Addr) (w : World) : (Op.equal t (.pointer (some x)) (.pointer none)).run P w = .ok false w := by
  show (Op.equalIn (9999 + 1) t _ _).run P w = _
  unfold Op.equalIn; simp [run_und hd]
theorem equal_nil_ptr {t e : TypeId} (hd : P.underlying t = some (.pointer e)) (x : Option Addr) (w : World) : (Op.equal t (.pointer none) (.pointer x)).run P w = .ok x.isNone w := by
  show (Op.equalIn (9999 + 1) t _ _).run P w = _
  unfold Op.equalIn; simp [run_und hd]
theorem equal_bool {t : TypeId} (hd : P.underlying t = some .bool) (x y : Bool) (w : World) : (Op.equal t (.bool x) (.bool y)).run P w = .ok (x == y) w := by
  show (Op.equalIn (9999 + 1) t _ _).run P w = _
  exact run_equalIn_bool' w 9999 t x y hd

theorem equal_slc_nil {t e : TypeId} (hd : P.underlying t = some (.slice e)) (a : Addr) (n m : Nat) (w : World) : (Op.equal t (.slice (some a) n m) (.slice none 0 0)).run P w = .ok false w := by
  show (Op.equalIn (9999 + 1) t _ _).run P w = _
  unfold Op.equalIn
  simp [run_und hd]
theorem equal_nil_nil {t e : TypeId} (hd : P.underlying t = some (.slice e)) (w : World) : (Op.equal t (.slice none 0 0) (.slice none 0 0)).run P w = .ok true w := by
  show (Op.equalIn (9999 + 1) t _ _).run P w = _
  unfold Op.equalIn
  simp [run_und hd]
theorem isFuncT_spec {t : TypeId} (h : isFuncT P t = true) : ∃ a b c, P.underlying t = some (.func a b c) := by
  unfold isFuncT at h
  split at h
  · exact ⟨_, _, _, by assumption⟩
  · cases h
theorem equal_fn_nil {t : TypeId} {a b c} (hd : P.underlying t = some (.func a b c)) (f : Fn) (x y : Array Value) (w : World) : (Op.equal t (.func f x y) .nilFunc).run P w = .ok false w := by
  show (Op.equalIn (9999 + 1) t _ _).run P w = _
  unfold Op.equalIn
  simp [run_und hd]
theorem equal_nilf {t : TypeId} {a b c} (hd : P.underlying t = some (.func a b c)) (w : World) : (Op.equal t .nilFunc .nilFunc).run P w = .ok true w := by
  show (Op.equalIn (9999 + 1) t _ _).run P w = _
  unfold Op.equalIn
  simp [run_und hd]

theorem binV_sound {op : BinOp} {t : TypeId} {K : SV → Prop} {x y : SV} (h : binV P op t K x y) (ox oy : Operand) :
    ∃ u : Value, K (.v u) ∧ ∀ w : World, (do eqGuard op t ox oy (x.den ρ) (y.den ρ); binOp op t (x.den ρ) (y.den ρ) : Sem Value).run P w = .ok u w := by
  have fin : ∀ {b : Bool} (hs : ∀ k z, x.den ρ ≠ .int k z) (hs2 : ∀ k z, x.den ρ ≠ .float k z) (hs3 : ∀ k z z', x.den ρ ≠ .complex k z z') (hs4 : ∀ z, x.den ρ ≠ .string z) (_ : x.den ρ ≠ .nilIface)
      (_ : ∀ p q, x.den ρ = .agg p → y.den ρ = .agg q → P.eqGuardType P.depth t = false) (_ : ∀ w, (Op.equal t (x.den ρ) (y.den ρ)).run P w = .ok b w)
      (_ : eqK op b K),
      ∃ u : Value, K (.v u) ∧ ∀ w : World, (do eqGuard op t ox oy (x.den ρ) (y.den ρ); binOp op t (x.den ρ) (y.den ρ) : Sem Value).run P w = .ok u w := by
    intro b hs hs2 hs3 hs4 hn hg he hK
    cases op <;> simp only [eqK] at hK <;> try exact hK.elim
    · exact ⟨_, hK, fun w => by simp only [Sem.run_bind, eqGuard_ok hg hn, Result.andThen_ok]; exact (run_eql hs hs2 hs3 hs4 he w).1⟩
    · exact ⟨_, hK, fun w => by simp only [Sem.run_bind, eqGuard_ok hg hn, Result.andThen_ok]; exact (run_eql hs hs2 hs3 hs4 he w).2⟩
  unfold binV at h
  split at h
  · rename_i k x k' y
    obtain ⟨rfl, h⟩ := h
    obtain ⟨u, hu, hr⟩ := intBin_sound (P := P) (t := t) h
    exact ⟨u, hu, fun w => by simp only [SV.den, Sem.run_bind, eqGuard_ok (u := .int k x) (v := .int k y) (by simp) (by simp), Result.andThen_ok]; exact hr w⟩
  · rename_i x y
    obtain ⟨ht, h⟩ := h
    refine fin (b := x == y) (by simp [SV.den]) (by simp [SV.den]) (by simp [SV.den]) (by simp [SV.den]) (by simp [SV.den]) (by simp [SV.den]) (fun w => ?_) h
    exact equal_bool (isBoolT_spec ht) x y w
  · rename_i n o
    obtain ⟨ht, h⟩ := h
    obtain ⟨e, he⟩ := isPtrT_spec ht
    exact fin (b := false) (by simp [SV.den]) (by simp [SV.den]) (by simp [SV.den]) (by simp [SV.den]) (by simp [SV.den]) (by simp [SV.den]) (fun w => equal_ptr_nil he _ w) h
  · rename_i n o
    obtain ⟨ht, h⟩ := h
    obtain ⟨e, he⟩ := isPtrT_spec ht
    exact fin (b := false) (by simp [SV.den]) (by simp [SV.den]) (by simp [SV.den]) (by simp [SV.den]) (by simp [SV.den]) (by simp [SV.den]) (fun w => equal_nil_ptr he _ w) h
  · obtain ⟨ht, h⟩ := h
    obtain ⟨e, he⟩ := isPtrT_spec ht
    exact fin (b := true) (by simp [SV.den]) (by simp [SV.den]) (by simp [SV.den]) (by simp [SV.den]) (by simp [SV.den]) (by simp [SV.den]) (fun w => equal_nil_ptr he _ w) h
  · rename_i xs ys
    cases hts : eqTypes P t with
    | none => simp [hts] at h
    | some ts =>
      simp only [hts] at h
      obtain ⟨b, hb, h⟩ := h
      obtain ⟨hg, he⟩ := binOp_agg_sound (ρ := ρ) hts hb
      exact fin (b := b) (by simp [SV.den]) (by simp [SV.den]) (by simp [SV.den]) (by simp [SV.den]) (by simp [SV.den]) (fun _ _ _ _ => hg) (fun w => he w) h
  · obtain ⟨ht, h⟩ := h
    obtain ⟨⟨e, sz⟩, he⟩ := Option.isSome_iff_exists.1 ht
    exact fin (b := false) (by simp [SV.den]) (by simp [SV.den]) (by simp [SV.den]) (by simp [SV.den]) (by simp [SV.den]) (by simp [SV.den]) (fun w => equal_slc_nil (slcT_spec he).1 _ _ _ w) h
  · obtain ⟨ht, h⟩ := h
    obtain ⟨⟨e, sz⟩, he⟩ := Option.isSome_iff_exists.1 ht
    exact fin (b := true) (by simp [SV.den]) (by simp [SV.den]) (by simp [SV.den]) (by simp [SV.den]) (by simp [SV.den]) (by simp [SV.den]) (fun w => equal_nil_nil (slcT_spec he).1 w) h
  · obtain ⟨ht, h⟩ := h
    obtain ⟨a, b, c, he⟩ := isFuncT_spec ht
    exact fin (b := false) (by simp [SV.den]) (by simp [SV.den]) (by simp [SV.den]) (by simp [SV.den]) (by simp [SV.den]) (by simp [SV.den]) (fun w => equal_fn_nil he _ _ _ w) h
  · obtain ⟨ht, h⟩ := h
    obtain ⟨a, b, c, he⟩ := isFuncT_spec ht
    exact fin (b := true) (by simp [SV.den]) (by simp [SV.den]) (by simp [SV.den]) (by simp [SV.den]) (by simp [SV.den]) (by simp [SV.den]) (fun w => equal_nilf he w) h
  · exact h.elim

end
end Go.Vc

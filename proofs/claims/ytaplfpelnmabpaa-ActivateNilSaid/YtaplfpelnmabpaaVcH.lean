/- Operations that make or write memory, and calls: what each asks and yields. -/
import Derived.Test.YtaplfpelnmabpaaVcG
import Derived.Laws.Append
import Derived.Laws.AppendOwn
import Derived.Laws.CopyRow
namespace Go.Vc
open Go.RowKit
set_option linter.unusedSimpArgs false
set_option linter.unusedVariables false

/-- Behind a step: a value, a list of blocks that is longer or as long, the old names standing for what they stood for. -/
def Aft (w0 : World) (F : HP) (ρ : Nat → Nat) (hp : List Blk) (K : SV → List Blk → Prop) (v : Value) (w : World) : Prop :=
  ∃ (ρ' : Nat → Nat) (s : SV) (hp' : List Blk), v = s.den ρ' ∧ (∀ k, k < hp.length → ρ' k = ρ k) ∧ hp.length ≤ hp'.length ∧ s.lt hp'.length ∧ (∀ B ∈ hp', B.lt hp'.length) ∧
    Sat w0 (star F (hpP ρ' 0 hp')) w ∧ K s hp'

def Runs (P : Program) (R : Value → World → Prop) : Result Next → Prop
  | .ok (.value v) w => R v w
  | .ok .skip w => R undef w
  | .ok (.enter f args) w => Calls P f args w (fun e w' => ∃ v, e = .returned v ∧ R v w')
  | .ok (.round l f tmps assign body) w => RoundIn Fence.wide 0 P l f tmps assign body w (fun e w' => ∃ v, e = .returned v ∧ R v w')
  | _ => False

/-- The contract of a function: called with these arguments on such a heap it returns, and K tells the result and the heap. -/
def Ctr (P : Program) (f : FuncId) (args : List SV) (hp : List Blk) (K : SV → List Blk → Prop) : Prop :=
  ∀ (w0 : World) (F : HP) (ρ : Nat → Nat) (w : World), (∀ B ∈ hp, B.lt hp.length) → SV.ltL hp.length args → Sat w0 (star F (hpP ρ 0 hp)) w →
    Runs P (Aft w0 F ρ hp K) ((callFunc f (SV.denL ρ args).toArray).run P w)

/-- The contract of a call of a loop's yield. -/
def YCtr (P : Program) (n : Nat) (args : List SV) (hp : List Blk) (K : SV → List Blk → Prop) : Prop :=
  ∀ (w0 : World) (F : HP) (ρ : Nat → Nat) (w : World), (∀ B ∈ hp, B.lt hp.length) → SV.ltL hp.length args → n < hp.length → Sat w0 (star F (hpP ρ 0 hp)) w →
    Runs P (Aft w0 F ρ hp K) ((Instr.yield (ρ n) (SV.denL ρ args).toArray).run P w)

theorem Runs.mono {P : Program} {R R' : Value → World → Prop} (h : ∀ v w, R v w → R' v w) : ∀ {r : Result Next}, Runs P R r → Runs P R' r := by
  intro r hr
  unfold Runs at *
  split at hr <;> first | exact h _ _ hr | exact hr.elim | exact hr.mono fun e w' ⟨v, he, hv⟩ => ⟨v, he, h _ _ hv⟩

theorem Aft.mono {w0 w : World} {F : HP} {ρ : Nat → Nat} {hp : List Blk} {K K' : SV → List Blk → Prop} {v : Value} (h : ∀ s hp', K s hp' → K' s hp') (ha : Aft w0 F ρ hp K v w) : Aft w0 F ρ hp K' v w := by
  obtain ⟨ρ', s, hp', h1, h2, h3, h4, h5, h6, h7⟩ := ha
  exact ⟨ρ', s, hp', h1, h2, h3, h4, h5, h6, h _ _ h7⟩

theorem Ctr.mono {P : Program} {f : FuncId} {args : List SV} {hp : List Blk} {K K' : SV → List Blk → Prop} (h : Ctr P f args hp K) (hk : ∀ s hp', K s hp' → K' s hp') : Ctr P f args hp K' :=
  fun w0 F ρ w h1 h2 h3 => (h w0 F ρ w h1 h2 h3).mono fun _ _ => Aft.mono hk

/-- One cell or more put into a row. -/
def stR (cs : List SV) (off : Nat) : List SV → List SV
  | [s] => cs.set off s
  | new => setR cs off new

theorem stR_eq {cs new : List SV} {off : Nat} (h : off + new.length ≤ cs.length) : stR cs off new = setR cs off new := by
  unfold stR
  split
  · rename_i s
    simp only [List.length_cons, List.length_nil] at h
    simp only [setR]
    rw [List.set_eq_take_append_cons_drop, if_pos (by omega)]
    simp
  · rfl

/-- A value of n cells of zeros. -/
def zeros (z : List Value) (n : Nat) : List SV := (List.replicate n (z.map SV.v)).flatten

/-! Maps: what a key is asked, two keys compared, a key looked for. -/
def ck1 (P : Program) (t : TypeId) : SV → Bool
  | .v (.int _ _) => match P.underlying t with
    | some (.int _) => true
    | _ => false
  | .v (.bool _) => match P.underlying t with
    | some .bool => true
    | _ => false
  | _ => false
def ckAll (P : Program) : List TypeId → List SV → Bool
  | [], [] => true
  | t :: ts, s :: r => ck1 P t s && ckAll P ts r
  | _, _ => false
def isStructT (P : Program) (t : TypeId) : Bool := match P.underlying t with
  | some (.struct _) => true
  | _ => false
def keyOK (P : Program) (kt : TypeId) : SV → Bool
  | .agg xs => isStructT P kt && (match eqTypes P kt with
    | some ts => ckAll P ts xs
    | none => false)
  | s => ck1 P kt s
def keq (P : Program) (kt : TypeId) : SV → SV → Option Bool
  | .agg xs, .agg ys => match eqTypes P kt with
    | some ts => eqTs P ts xs ys
    | none => none
  | x, y => eqT P kt x y
def lkpK (P : Program) (kt : TypeId) (k : SV) (K : Option (Nat × SV) → Prop) : Nat → List (SV × SV) → Prop
  | _, [] => K none
  | i, (k', v) :: r => need (keq P kt k k') fun b => (b = true → K (some (i, v))) ∧ (b = false → lkpK P kt k K (i + 1) r)
def mapT (P : Program) (t : TypeId) : Option (TypeId × TypeId) := match P.underlying t with
  | some (.map k e) => some (k, e)
  | _ => none
def zero1 (P : Program) (t : TypeId) : Option Value := match P.info? t with
  | some i => i.zero
  | none => none
/-- Behind a look-up. -/
def lkK (K : SV → List Blk → Prop) (hp : List Blk) (ok : Bool) (z : Value) : Option (Nat × SV) → Prop
  | some (_, v) => K (if ok then .tup [v, .v (.bool true)] else v) hp
  | none => K (if ok then .tup [.v z, .v (.bool false)] else .v z) hp
def keysApart (P : Program) (kt : TypeId) : List (SV × SV) → Prop
  | [] => True
  | e :: r => (∀ e' ∈ r, keq P kt e.1 e'.1 = some false) ∧ keysApart P kt r

/-- The elements of a slice appended to a slice. -/
def apV (P : Program) (hp : List Blk) (K : SV → List Blk → Prop) (el : TypeId) (sz : Nat) (z : List Value) : List SV → Prop
  | [.slc n off len cap, .slc m off' k _] => match hp[n]? with
    | some (.row cs mm ty) => (z.length = sz ∧ 0 < sz ∧ off = 0 ∧ ty = el ∧ len * sz ≤ cs.length ∧ len ≤ cap ∧ cap * sz ≤ mm ∧ (len + k) ≤ 140737488355328 ∧ (len + k) * P.bytesOf el ≤ 140737488355328) ∧
        need (rdN hp m off' (k * sz)) fun l => l.all SV.flat = true ∧ ∀ cap', len + k ≤ cap' → K (.slc hp.length 0 (len + k) cap') (hp.set n .any ++ [.row (cs.take (len * sz) ++ l) (cap' * sz) el])
    | _ => False
  | [.v (.slice none 0 0), .slc m off' k _] => (z.length = sz ∧ 0 < sz ∧ k ≤ 140737488355328 ∧ k * P.bytesOf el ≤ 140737488355328) ∧
      ((k = 0 → K (.v (.slice none 0 0)) hp) ∧ (k ≠ 0 → need (rdN hp m off' (k * sz)) fun l => ∀ cap', k ≤ cap' → K (.slc hp.length 0 k cap') (hp ++ [.row l (cap' * sz) el])))
  | [.slc n off len cap, .v (.slice none 0 0)] => len ≤ cap ∧ K (.slc n off len cap) hp
  | [.v (.slice none 0 0), .v (.slice none 0 0)] => K (.v (.slice none 0 0)) hp
  | _ => False

def vop (P : Program) (fr : List (Nat × SV)) (hp : List Blk) (K : SV → List Blk → Prop) : Op → Prop
  | .alloc t => match zeroOf P t with
    | some z => K (.ptr hp.length 0) (hp ++ [.row (z.map SV.v) z.length t])
    | none => False
  | .box t x => match ev fr x with
    | some s => K (.ptr hp.length 0) (hp ++ [.row (cellsSV s) (cellsSV s).length t])
    | none => False
  | .buildSlice t len parts => match evP fr parts.toList with
    | some ps => match slcT P t with
      | some (el, sz) => match zeroOf P el with
        | some z => (z.length = sz ∧ 0 < sz ∧ len * sz ≤ 16777216) ∧ need (fillS ((List.range len).map fun i => (i * sz, sz)) (zeros z len) ps) fun cs => K (.slc hp.length 0 len len) (hp ++ [.row cs (len * sz) el])
        | none => False
      | none => False
    | none => False
  | .makeSlice t l c => match ev fr l with
    | some (.v (.int _ l)) => match ev fr c with
      | some (.v (.int _ c)) => match slcT P t with
        | some (el, sz) => match zeroOf P el with
          | some z => (z.length = sz ∧ 0 < sz ∧ 0 ≤ l ∧ l ≤ c ∧ c ≤ 140737488355328 ∧ (P.bytesOf el : Int) * c ≤ 281474976710656) ∧ K (.slc hp.length 0 l.toNat c.toNat) (hp ++ [.row (zeros z c.toNat) (c.toNat * sz) el])
          | none => False
        | none => False
      | _ => False
    | _ => False
  | .store t a x => match ev fr a with
    | some (.ptr n off) => match ev fr x with
      | some s => match hp[n]? with
        | some (.row cs m ty) => ((cellsSV s).length = P.cellsOf t ∧ off + (cellsSV s).length ≤ cs.length ∧ (cellsSV s).all SV.flat = true ∧ (P.info? t).isSome = true) ∧ K undefV (hp.set n (.row (stR cs off (cellsSV s)) m ty))
        | _ => False
      | none => False
    | _ => False
  | .makeMap _ none => K (.mp hp.length) (hp ++ [.mapB []])
  | .insert t m k v => match mapT P t with
    | some (kt, _) => match ev fr m with
      | some (.mp n) => match ev fr k with
        | some k => match ev fr v with
          | some v => match hp[n]? with
            | some (.mapB es) => (keyOK P kt k = true ∧ ∀ e ∈ es, keq P kt k e.1 = some false) ∧ K undefV (hp.set n (.mapB (es ++ [(k, v)])))
            | _ => False
          | none => False
        | none => False
      | _ => False
    | none => False
  | .lookup t m k ok => match mapT P t with
    | some (kt, el) => match zero1 P el with
      | some z => match ev fr k with
        | some k => match ev fr m with
          | some (.mp n) => match hp[n]? with
            | some (.mapB es) => (keyOK P kt k = true ∧ (∀ e ∈ es, (keq P kt k e.1).isSome = true) ∧ keysApart P kt es) ∧ lkpK P kt k (lkK K hp ok z) 0 es
            | _ => False
          | _ => False
        | none => False
      | none => False
    | none => False
  | .call { callee := .builtin .append, args := args, argTypes := ts } => match ts.toList with
    | [t, u] => match slcT P t with
      | some (el, sz) => match decide (t = u) with
        | true => match zeroOf P el with
          | some z => match evL fr args.toList with
            | some l => apV P hp K el sz z l
            | none => False
          | none => False
        | false => False
      | none => False
    | _ => False
  | .call { callee := .builtin .copy, args := args, argTypes := ts } => match ts.toList with
    | [t, _] => match slcT P t with
      | some (_, sz) => match evL fr args.toList with
        | some [.slc n off len _, .slc m off' len' _] => match hp[n]? with
          | some (.row cs mm ty) => off + len * sz ≤ cs.length ∧ need (rdN hp m off' (min len' len * sz)) fun l => l.all SV.flat = true ∧ K (.v (.int .i64 ((min len' len : Nat) : Int))) (hp.set n (.row (setR cs off l) mm ty))
          | _ => False
        | some [.slc _ _ _ _, .v (.slice none 0 0)] => K (.v (.int .i64 0)) hp
        | some [.v (.slice none 0 0), .v (.slice none 0 0)] => K (.v (.int .i64 0)) hp
        | _ => False
      | none => False
    | _ => False
  | .call { callee := .value g, args := args, argTypes := _ } => match ev fr g with
    | some (.fn f fst caps) => match evL fr args.toList with
      | some l => Ctr P f (fst ++ l ++ caps) hp K
      | none => False
    | some (.yl n) => match evL fr args.toList with
      | some l => YCtr P n l hp K
      | none => False
    | _ => False
  | op => vq P fr hp (fun s => K s hp) op

end Go.Vc

/- What the walk's simp needs. -/
import Derived.Test.YtaplfpelnmabpaaVcQ
namespace Go.Vc
open Go.RowKit
set_option linter.unusedSimpArgs false
set_option linter.unusedVariables false

/-! What comes behind a step, under a name: simp is not to go into it. -/
def opK (V : List (Nat × SV) → List Blk → (List (Nat × SV) → List Blk → Prop) → Prop) (d : Option Nat) (fr : List (Nat × SV)) (K : List (Nat × SV) → List Blk → Prop) (s : SV) (hp' : List Blk) : Prop := V (putF d s fr) hp' K
def dqK (V : List (Nat × SV) → List Blk → (List (Nat × SV) → List Blk → Prop) → Prop) (d : Option Nat) (fr : List (Nat × SV)) (hp : List Blk) (K : List (Nat × SV) → List Blk → Prop) (s : SV) : Prop := V (putF d s fr) hp K
def dhK (S : List Blk) (V : List (Nat × SV) → List Blk → (List (Nat × SV) → List Blk → Prop) → Prop) (d : Option Nat) (fr : List (Nat × SV)) (K : List (Nat × SV) → List Blk → Prop) (s : SV) (hp' : List Blk) : Prop := agree S hp' ∧ V (putF d s fr) hp' K
def atK (K : SV → List Blk → Prop) (hp : List Blk) (s : SV) : Prop := K s hp
def aggK (K : SV → Prop) (l : List SV) : Prop := K (.agg l)
def eqTK (op : BinOp) (K : SV → Prop) (b : Bool) : Prop := eqK op b K
def bsK (K : SV → List Blk → Prop) (hp : List Blk) (len sz : Nat) (el : TypeId) (cs : List SV) : Prop := K (.slc hp.length 0 len len) (hp ++ [.row cs (len * sz) el])
def apK1 (K : SV → List Blk → Prop) (hp : List Blk) (cs : List SV) (n len k sz : Nat) (el : TypeId) (l : List SV) : Prop := l.all SV.flat = true ∧ ∀ cap', len + k ≤ cap' → K (.slc hp.length 0 (len + k) cap') (hp.set n .any ++ [.row (cs.take (len * sz) ++ l) (cap' * sz) el])
def apK2 (K : SV → List Blk → Prop) (hp : List Blk) (k sz : Nat) (el : TypeId) (l : List SV) : Prop := ∀ cap', k ≤ cap' → K (.slc hp.length 0 k cap') (hp ++ [.row l (cap' * sz) el])
def cpK (K : SV → List Blk → Prop) (hp : List Blk) (cs : List SV) (n off mm : Nat) (ty : TypeId) (m : Int) (l : List SV) : Prop := l.all SV.flat = true ∧ K (.v (.int .i64 m)) (hp.set n (.row (setR cs off l) mm ty))
def tupK (K : SV → List Blk → Prop) (hp : List Blk) (l : List SV) : Prop := K (tupV l) hp
def consK (K : List SV → Prop) (s : SV) (l : List SV) : Prop := K (s :: l)
def resNK (V : (List SV → Prop) → Prop) (K : List SV → Prop) (l : List SV) : Prop := V (consK K (.agg l))
def res1K (V : (List SV → Prop) → Prop) (K : List SV → Prop) (s : SV) : Prop := V (consK K s)
def vcK (V : List (Nat × SV) → List Blk → (Exit → List (Nat × SV) → List Blk → Prop) → Prop) (K : Exit → List (Nat × SV) → List Blk → Prop) (fr : List (Nat × SV)) (hp : List Blk) : Prop := V fr hp K
section
variable (V : List (Nat × SV) → List Blk → (List (Nat × SV) → List Blk → Prop) → Prop) (d : Option Nat) (fr : List (Nat × SV)) (Kf : List (Nat × SV) → List Blk → Prop) (s : SV) (hp hp' S : List Blk) (K : SV → List Blk → Prop) (Kq : SV → Prop) (l cs : List SV) (op : BinOp) (b : Bool) (n len k sz off mm : Nat) (el : TypeId) (m : Int) (Kl : List SV → Prop) (Vl : (List SV → Prop) → Prop)
@[simp ↓] theorem opK_x : opK V d fr Kf s hp' = V (putF d s fr) hp' Kf := id rfl
@[simp ↓] theorem dqK_x : dqK V d fr hp Kf s = V (putF d s fr) hp Kf := id rfl
@[simp ↓] theorem dhK_x : dhK S V d fr Kf s hp' = (agree S hp' ∧ V (putF d s fr) hp' Kf) := id rfl
@[simp ↓] theorem atK_x : atK K hp s = K s hp := id rfl
@[simp ↓] theorem aggK_x : aggK Kq l = Kq (.agg l) := id rfl
@[simp ↓] theorem eqTK_x : eqTK op Kq b = eqK op b Kq := id rfl
@[simp ↓] theorem bsK_x : bsK K hp len sz el cs = K (.slc hp.length 0 len len) (hp ++ [.row cs (len * sz) el]) := id rfl
@[simp ↓] theorem apK1_x : apK1 K hp cs n len k sz el l = (l.all SV.flat = true ∧ ∀ cap', len + k ≤ cap' → K (.slc hp.length 0 (len + k) cap') (hp.set n .any ++ [.row (cs.take (len * sz) ++ l) (cap' * sz) el])) := id rfl
@[simp ↓] theorem apK2_x : apK2 K hp k sz el l = ∀ cap', k ≤ cap' → K (.slc hp.length 0 k cap') (hp ++ [.row l (cap' * sz) el]) := id rfl
@[simp ↓] theorem cpK_x : cpK K hp cs n off mm el m l = (l.all SV.flat = true ∧ K (.v (.int .i64 m)) (hp.set n (.row (setR cs off l) mm el))) := id rfl
@[simp ↓] theorem tupK_x : tupK K hp l = K (tupV l) hp := id rfl
@[simp ↓] theorem consK_x : consK Kl s l = Kl (s :: l) := id rfl
@[simp ↓] theorem resNK_x : resNK Vl Kl l = Vl (consK Kl (.agg l)) := id rfl
@[simp ↓] theorem res1K_x : res1K Vl Kl s = Vl (consK Kl s) := id rfl
end
def gyV (P : Program) (op : Op) (V : List (Nat × SV) → List Blk → (List (Nat × SV) → List Blk → Prop) → Prop) (d : Option Nat) (hp : List Blk) (K : List (Nat × SV) → List Blk → Prop) (fr : List (Nat × SV)) : Prop := vop P fr hp (opK V d fr K) op
def gyQ (P : Program) (op : Op) (S : List Blk) (V : List (Nat × SV) → List Blk → (List (Nat × SV) → List Blk → Prop) → Prop) (d : Option Nat) (hp : List Blk) (K : List (Nat × SV) → List Blk → Prop) (fr : List (Nat × SV)) : Prop := vq P fr S (dqK V d fr hp K) op
def gyH (P : Program) (op : Op) (S : List Blk) (V : List (Nat × SV) → List Blk → (List (Nat × SV) → List Blk → Prop) → Prop) (d : Option Nat) (hp : List Blk) (K : List (Nat × SV) → List Blk → Prop) (fr : List (Nat × SV)) : Prop := vop P fr hp (dhK S V d fr K) op
def gnV (V : List (Nat × SV) → List Blk → (List (Nat × SV) → List Blk → Prop) → Prop) (d : Option Nat) (hp : List Blk) (K : List (Nat × SV) → List Blk → Prop) (fr : List (Nat × SV)) : Prop := V (putF d undefV fr) hp K
@[simp ↓] theorem gyV_x (P : Program) (op : Op) (V : List (Nat × SV) → List Blk → (List (Nat × SV) → List Blk → Prop) → Prop) (d : Option Nat) (hp : List Blk) (K : List (Nat × SV) → List Blk → Prop) (fr : List (Nat × SV)) : gyV P op V d hp K fr = vop P fr hp (opK V d fr K) op := id rfl
@[simp ↓] theorem gyQ_x (P : Program) (op : Op) (S : List Blk) (V : List (Nat × SV) → List Blk → (List (Nat × SV) → List Blk → Prop) → Prop) (d : Option Nat) (hp : List Blk) (K : List (Nat × SV) → List Blk → Prop) (fr : List (Nat × SV)) : gyQ P op S V d hp K fr = vq P fr S (dqK V d fr hp K) op := id rfl
@[simp ↓] theorem gyH_x (P : Program) (op : Op) (S : List Blk) (V : List (Nat × SV) → List Blk → (List (Nat × SV) → List Blk → Prop) → Prop) (d : Option Nat) (hp : List Blk) (K : List (Nat × SV) → List Blk → Prop) (fr : List (Nat × SV)) : gyH P op S V d hp K fr = vop P fr hp (dhK S V d fr K) op := id rfl
@[simp ↓] theorem gnV_x (V : List (Nat × SV) → List Blk → (List (Nat × SV) → List Blk → Prop) → Prop) (d : Option Nat) (hp : List Blk) (K : List (Nat × SV) → List Blk → Prop) (fr : List (Nat × SV)) : gnV V d hp K fr = V (putF d undefV fr) hp K := id rfl
/-- A guard on a known value: one way alone is gone. -/
def gB (b want : Bool) (t : Nat) (fr : List (Nat × SV)) (y n : List (Nat × SV) → Prop) : Prop := (b = want → y ((t, .v (.bool want)) :: fr)) ∧ (b = (!want) → n ((t, .v (.bool (!want))) :: fr))
section
variable (b want : Bool) (t : Nat) (fr : List (Nat × SV)) (y n : List (Nat × SV) → Prop)
@[simp] theorem gB_tt : gB true true t fr y n = y ((t, .v (.bool true)) :: fr) := by simp [gB]
@[simp] theorem gB_ft : gB false true t fr y n = n ((t, .v (.bool false)) :: fr) := by simp [gB]
@[simp] theorem gB_tf : gB true false t fr y n = n ((t, .v (.bool true)) :: fr) := by simp [gB]
@[simp] theorem gB_ff : gB false false t fr y n = y ((t, .v (.bool false)) :: fr) := by simp [gB]
@[simp low] theorem gB_var : gB b want t fr y n = ((b = want → y ((t, .v (.bool want)) :: fr)) ∧ (b = (!want) → n ((t, .v (.bool (!want))) :: fr))) := id rfl
end
/-- A branch on a known value. -/
def cB (b : Bool) (t e : List (Nat × SV) → List Blk → (Exit → List (Nat × SV) → List Blk → Prop) → Prop) (fr : List (Nat × SV)) (hp : List Blk) (K : Exit → List (Nat × SV) → List Blk → Prop) : Prop := (b = true → t fr hp K) ∧ (b = false → e fr hp K)
section
variable (b : Bool) (t e : List (Nat × SV) → List Blk → (Exit → List (Nat × SV) → List Blk → Prop) → Prop) (fr : List (Nat × SV)) (hp : List Blk) (K : Exit → List (Nat × SV) → List Blk → Prop)
@[simp] theorem cB_t : cB true t e fr hp K = t fr hp K := by simp [cB]
@[simp] theorem cB_f : cB false t e fr hp K = e fr hp K := by simp [cB]
@[simp low] theorem cB_var : cB b t e fr hp K = ((b = true → t fr hp K) ∧ (b = false → e fr hp K)) := id rfl
end
@[simp ↓] theorem vcK_x (V : List (Nat × SV) → List Blk → (Exit → List (Nat × SV) → List Blk → Prop) → Prop) (K : Exit → List (Nat × SV) → List Blk → Prop) (fr : List (Nat × SV)) (hp : List Blk) : vcK V K fr hp = V fr hp K := id rfl
/-- The lesser, the greater. -/
def imin (x y : Int) : Int := if y < x then y else x
def imax (x y : Int) : Int := if y > x then y else x
theorem imin_eq (x y : Int) : imin x y = min x y := by unfold imin; split <;> omega
theorem imax_eq (x y : Int) : imax x y = max x y := by unfold imax; split <;> omega
@[simp] theorem imin_nat (x y : Nat) : imin (x : Int) (y : Int) = ((min x y : Nat) : Int) := by rw [imin_eq]; omega
@[simp] theorem imax_nat (x y : Nat) : imax (x : Int) (y : Int) = ((max x y : Nat) : Int) := by rw [imax_eq]; omega
@[simp ↓] theorem minMax_nil (mx : Bool) (k : IntKind) (x : Int) : minMax mx k x [] = some x := id rfl
@[simp ↓] theorem minMax_min (k k' : IntKind) (x y : Int) (r : List SV) : minMax false k x (.v (.int k' y) :: r) = minMax false k (imin x y) r := id rfl
@[simp ↓] theorem minMax_max (k k' : IntKind) (x y : Int) (r : List SV) : minMax true k x (.v (.int k' y) :: r) = minMax true k (imax x y) r := id rfl
section
variable (k : IntKind) (x y : Int) (K : SV → Prop)
@[simp ↓] theorem intBin_add : intBin .add k x y K = K (.v (.int k (k.wrap (x + y)))) := id rfl
@[simp ↓] theorem intBin_sub : intBin .sub k x y K = K (.v (.int k (k.wrap (x - y)))) := id rfl
@[simp ↓] theorem intBin_mul : intBin .mul k x y K = K (.v (.int k (k.wrap (x * y)))) := id rfl
@[simp ↓] theorem intBin_quo : intBin .quo k x y K = (y ≠ 0 ∧ K (.v (.int k (k.wrap (x.tdiv y))))) := id rfl
@[simp ↓] theorem intBin_rem : intBin .rem k x y K = (y ≠ 0 ∧ K (.v (.int k (x.tmod y)))) := id rfl
@[simp ↓] theorem intBin_eql : intBin .eql k x y K = K (.v (.bool (decide (x = y)))) := by
  have : (x == y) = decide (x = y) := by by_cases h : x = y <;> simp [h]
  rw [← this]; rfl
@[simp ↓] theorem intBin_neq : intBin .neq k x y K = K (.v (.bool (!decide (x = y)))) := by
  have : (x != y) = !decide (x = y) := by by_cases h : x = y <;> simp [h]
  rw [← this]; rfl
@[simp ↓] theorem intBin_lss : intBin .lss k x y K = K (.v (.bool (decide (x < y)))) := id rfl
@[simp ↓] theorem intBin_leq : intBin .leq k x y K = K (.v (.bool (decide (x ≤ y)))) := id rfl
@[simp ↓] theorem intBin_gtr : intBin .gtr k x y K = K (.v (.bool (decide (y < x)))) := id rfl
@[simp ↓] theorem intBin_and : intBin .and k x y K = K (.v (.int k (bitI .and k x y))) := id rfl
@[simp ↓] theorem intBin_or : intBin .or k x y K = K (.v (.int k (bitI .or k x y))) := id rfl
@[simp ↓] theorem intBin_xor : intBin .xor k x y K = K (.v (.int k (bitI .xor k x y))) := id rfl
@[simp ↓] theorem intBin_shl : intBin .shl k x y K = (0 ≤ y ∧ K (.v (.int k (k.wrap (x * 2 ^ (min y.toNat k.bits)))))) := id rfl
@[simp ↓] theorem intBin_shr : intBin .shr k x y K = (0 ≤ y ∧ K (.v (.int k (x.fdiv (2 ^ (min y.toNat k.bits)))))) := id rfl
@[simp ↓] theorem intBin_geq : intBin .geq k x y K = K (.v (.bool (decide (y ≤ x)))) := id rfl
end
section
variable (P : Program) (op : BinOp) (t : TypeId) (K : SV → Prop)
@[simp ↓] theorem binV_int (k k' : IntKind) (x y : Int) : binV P op t K (.v (.int k x)) (.v (.int k' y)) = (k = k' ∧ intBin op k x y K) := id rfl
@[simp ↓] theorem binV_bool (x y : Bool) : binV P op t K (.v (.bool x)) (.v (.bool y)) = (isBoolT P t = true ∧ eqK op (x == y) K) := id rfl
@[simp ↓] theorem binV_pn (n off : Nat) : binV P op t K (.ptr n off) (.v (.pointer none)) = (isPtrT P t = true ∧ eqK op false K) := id rfl
@[simp ↓] theorem binV_np (n off : Nat) : binV P op t K (.v (.pointer none)) (.ptr n off) = (isPtrT P t = true ∧ eqK op false K) := id rfl
@[simp ↓] theorem binV_nn : binV P op t K (.v (.pointer none)) (.v (.pointer none)) = (isPtrT P t = true ∧ eqK op true K) := id rfl
@[simp ↓] theorem binV_sn (n off len cap : Nat) : binV P op t K (.slc n off len cap) (.v (.slice none 0 0)) = ((slcT P t).isSome = true ∧ eqK op false K) := id rfl
@[simp ↓] theorem binV_nns : binV P op t K (.v (.slice none 0 0)) (.v (.slice none 0 0)) = ((slcT P t).isSome = true ∧ eqK op true K) := id rfl
@[simp ↓] theorem binV_fn (f : FuncId) (a b : List SV) : binV P op t K (.fn f a b) (.v .nilFunc) = (isFuncT P t = true ∧ eqK op false K) := id rfl
@[simp ↓] theorem binV_nf : binV P op t K (.v .nilFunc) (.v .nilFunc) = (isFuncT P t = true ∧ eqK op true K) := id rfl
@[simp ↓] theorem binV_agg (xs ys : List SV) : binV P op t K (.agg xs) (.agg ys) = (match eqTypes P t with
    | some ts => need (eqTs P ts xs ys) (eqTK op K)
    | none => False) := id rfl
end
section
variable (P : Program) (fr : List (Nat × SV)) (hp : List Blk) (r : List ResultVar) (K : List SV → Prop)
@[simp ↓] theorem resV_nil : resV P fr hp [] K = K [] := id rfl
@[simp ↓] theorem resV_tmp (t : Nat) : resV P fr hp (.tmp t :: r) K = (match look t fr with
    | some s => resV P fr hp r (consK K s)
    | none => False) := id rfl
@[simp ↓] theorem resV_cell (t : Nat) (ty : TypeId) : resV P fr hp (.cell t ty :: r) K = (match look t fr with
    | some (.ptr n off) => match isAggT P ty with
      | some true => need (rdN hp n off (P.cellsOf ty)) (resNK (resV P fr hp r) K)
      | some false => need (rd1 hp n off) (res1K (resV P fr hp r) K)
      | none => False
    | _ => False) := id rfl
end

@[simp ↓] theorem vq_move_x (P : Program) (fr : List (Nat × SV)) (hp : List Blk) (K : SV → Prop) (x : Operand) :
    vq P fr hp K (.move x) = (match ev fr x with
    | some s => K s
    | none => False) := id rfl
@[simp ↓] theorem vq_assign_x (P : Program) (fr : List (Nat × SV)) (hp : List Blk) (K : SV → Prop) (x : Operand) :
    vq P fr hp K (.assign x) = (match ev fr x with
    | some s => K s
    | none => False) := id rfl
@[simp ↓] theorem vq_pick_c_a_b (P : Program) (fr : List (Nat × SV)) (hp : List Blk) (K : SV → Prop) (c : Operand) (a : Operand) (b : Operand) :
    vq P fr hp K (.pick c a b) = (match ev fr c with
    | some (.v (.bool c)) => match ev fr a with
      | some x => match ev fr b with
        | some y => K (pickSV c x y)
        | none => False
      | none => False
    | _ => False) := id rfl
@[simp ↓] theorem vq_load_t_a (P : Program) (fr : List (Nat × SV)) (hp : List Blk) (K : SV → Prop) (t : TypeId) (a : Operand) :
    vq P fr hp K (.load t a) = (match ev fr a with
    | some (.ptr n off) => match isAggT P t with
      | some true => need (rdN hp n off (P.cellsOf t)) (aggK K)
      | some false => need (rd1 hp n off) K
      | none => False
    | _ => False) := id rfl
@[simp ↓] theorem vq_nilCheck_x (P : Program) (fr : List (Nat × SV)) (hp : List Blk) (K : SV → Prop) (x : Operand) :
    vq P fr hp K (.nilCheck x) = (match ev fr x with
    | some (.ptr n off) => K (.ptr n off)
    | some (.fn f a b) => K (.fn f a b)
    | _ => False) := id rfl
@[simp ↓] theorem vq_binOp_op_t_x_y (P : Program) (fr : List (Nat × SV)) (hp : List Blk) (K : SV → Prop) (op : BinOp) (t : TypeId) (x : Operand) (y : Operand) (h1 : TypeId) :
    vq P fr hp K (.binOp op t x y h1) = (match ev fr x with
    | some a => match ev fr y with
      | some b => binV P op t K a b
      | none => False
    | none => False) := id rfl
@[simp ↓] theorem vq_unOp_op_x (P : Program) (fr : List (Nat × SV)) (hp : List Blk) (K : SV → Prop) (op : UnOp) (h1 : TypeId) (x : Operand) :
    vq P fr hp K (.unOp op h1 x) = (match ev fr x with
    | some (.v (.bool b)) => op = .not ∧ K (.v (.bool (!b)))
    | some (.v (.int k n)) => op = .neg ∧ K (.v (.int k (k.wrap (0 - n))))
    | _ => False) := id rfl
@[simp ↓] theorem vq_convert_src_dst_x (P : Program) (fr : List (Nat × SV)) (hp : List Blk) (K : SV → Prop) (src : TypeId) (dst : TypeId) (x : Operand) :
    vq P fr hp K (.convert src dst x) = (match ev fr x with
    | some (.v (.int _ n)) => match intT P src with
      | some _ => match intT P dst with
        | some k => K (.v (.int k (k.wrap n)))
        | none => False
      | none => False
    | _ => False) := id rfl
@[simp ↓] theorem vq_fieldAddr_s_x_f (P : Program) (fr : List (Nat × SV)) (hp : List Blk) (K : SV → Prop) (s : TypeId) (x : Operand) (f : Nat) :
    vq P fr hp K (.fieldAddr s x f) = (match ev fr x with
    | some (.ptr n off) => match fldOff P s f with
      | some o => K (.ptr n (off + o))
      | none => False
    | _ => False) := id rfl
@[simp ↓] theorem vq_indexAddr_t_x_i (P : Program) (fr : List (Nat × SV)) (hp : List Blk) (K : SV → Prop) (t : TypeId) (x : Operand) (i : Operand) :
    vq P fr hp K (.indexAddr t x i) = (match ev fr i with
    | some (.v (.int _ i)) => match ev fr x with
      | some (.ptr n off) => match arrT P t with
        | some (len, sz) => (0 ≤ i ∧ i < (len : Int)) ∧ K (.ptr n (off + i.toNat * sz))
        | none => False
      | some (.slc n off len _) => match slcT P t with
        | some (_, sz) => (0 ≤ i ∧ i < (len : Int)) ∧ K (.ptr n (off + i.toNat * sz))
        | none => False
      | _ => False
    | _ => False) := id rfl
@[simp ↓] theorem vq_index_t_x_i (P : Program) (fr : List (Nat × SV)) (hp : List Blk) (K : SV → Prop) (t : TypeId) (x : Operand) (i : Operand) :
    vq P fr hp K (.index t x i) = (match ev fr i with
    | some (.v (.int _ i)) => match ev fr x with
      | some (.agg cs) => match arrOne P t with
        | some len => (0 ≤ i ∧ i < (len : Int)) ∧ need (cs[i.toNat]?) K
        | none => False
      | _ => False
    | _ => False) := id rfl
@[simp ↓] theorem vq_field_t_x_f (P : Program) (fr : List (Nat × SV)) (hp : List Blk) (K : SV → Prop) (t : TypeId) (x : Operand) (f : Nat) :
    vq P fr hp K (.field t x f) = (match ev fr x with
    | some (.agg cs) => match fldOne P t f with
      | some o => need (cs[o]?) K
      | none => False
    | _ => False) := id rfl
@[simp ↓] theorem vq_extract_x_i (P : Program) (fr : List (Nat × SV)) (hp : List Blk) (K : SV → Prop) (x : Operand) (i : Nat) :
    vq P fr hp K (.extract x i) = (match ev fr x with
    | some (.tup vs) => match vs[i]? with
      | some s => K s
      | none => False
    | _ => False) := id rfl
@[simp ↓] theorem vq_build_t_parts (P : Program) (fr : List (Nat × SV)) (hp : List Blk) (K : SV → Prop) (t : TypeId) (parts : Array (Nat × Operand)) :
    vq P fr hp K (.build t parts) = (match evP fr parts.toList with
    | some ps => match zeroOf P t with
      | some z => match placesT P t with
        | some pl => need (fillS pl (z.map SV.v) ps) (aggK K)
        | none => False
      | none => False
    | none => False) := id rfl
@[simp ↓] theorem vq_makeFunc_func_f_fst_caps (P : Program) (fr : List (Nat × SV)) (hp : List Blk) (K : SV → Prop) (f : FuncId) (fst : Array Operand) (caps : Array Operand) :
    vq P fr hp K (.makeFunc (.func f) fst caps) = (match evL fr fst.toList with
    | some a => match evL fr caps.toList with
      | some b => K (.fn f a b)
      | none => False
    | none => False) := id rfl
@[simp ↓] theorem vq_slice_t_x_lo_hi_none (P : Program) (fr : List (Nat × SV)) (hp : List Blk) (K : SV → Prop) (t : TypeId) (x : Operand) (lo : Option Operand) (hi : Option Operand) :
    vq P fr hp K (.slice t x lo hi none) = (match ev fr x with
    | some (.slc n off len cap) => match slcT P t with
      | some (_, sz) => match bndV fr 0 lo with
        | some l => match bndV fr len hi with
          | some h => (0 ≤ l ∧ l ≤ h ∧ h ≤ (cap : Int)) ∧ K (.slc n (if cap = l.toNat then off else off + l.toNat * sz) (h.toNat - l.toNat) (cap - l.toNat))
          | none => False
        | none => False
      | none => False
    | some (.v (.slice none 0 0)) => match slcT P t with
      | some _ => match bndV fr 0 lo with
        | some l => match bndV fr 0 hi with
          | some h => (l = 0 ∧ h = 0) ∧ K (.v (.slice none 0 0))
          | none => False
        | none => False
      | none => False
    | some (.ptr m off) => match arrT P t with
      | some (n, sz) => match bndV fr 0 lo with
        | some l => match bndV fr n hi with
          | some h => (0 ≤ l ∧ l ≤ h ∧ h ≤ (n : Int)) ∧ K (.slc m (if n = l.toNat then off else off + l.toNat * sz) (h.toNat - l.toNat) (n - l.toNat))
          | none => False
        | none => False
      | none => False
    | _ => False) := id rfl
@[simp ↓] theorem vq_call_callee_builtin_len_args_args_argTypes_ts (P : Program) (fr : List (Nat × SV)) (hp : List Blk) (K : SV → Prop) (args : Array Operand) (ts : Array TypeId) :
    vq P fr hp K (.call { callee := .builtin .len, args := args, argTypes := ts }) = (match args.toList with
    | [x] => match ts.toList with
      | [t] => match ev fr x with
        | some s => match lenV P t s with
          | some n => K (.v (.int .i64 n))
          | none => False
        | none => False
      | _ => False
    | _ => False) := id rfl
@[simp ↓] theorem vq_call_callee_builtin_min_args_args_argTypes (P : Program) (fr : List (Nat × SV)) (hp : List Blk) (K : SV → Prop) (args : Array Operand) (ts0 : Array TypeId) :
    vq P fr hp K (.call { callee := .builtin .min, args := args, argTypes := ts0 }) = (match evL fr args.toList with
    | some (.v (.int k x) :: r) => match minMax false k x r with
      | some n => K (.v (.int k n))
      | none => False
    | _ => False) := id rfl
@[simp ↓] theorem vq_call_callee_builtin_max_args_args_argTypes (P : Program) (fr : List (Nat × SV)) (hp : List Blk) (K : SV → Prop) (args : Array Operand) (ts0 : Array TypeId) :
    vq P fr hp K (.call { callee := .builtin .max, args := args, argTypes := ts0 }) = (match evL fr args.toList with
    | some (.v (.int k x) :: r) => match minMax true k x r with
      | some n => K (.v (.int k n))
      | none => False
    | _ => False) := id rfl
@[simp ↓] theorem vop_alloc_t (P : Program) (fr : List (Nat × SV)) (hp : List Blk) (K : SV → List Blk → Prop) (t : TypeId) :
    vop P fr hp K (.alloc t) = (match zeroOf P t with
    | some z => K (.ptr hp.length 0) (hp ++ [.row (z.map SV.v) z.length t])
    | none => False) := id rfl
@[simp ↓] theorem vop_box_t_x (P : Program) (fr : List (Nat × SV)) (hp : List Blk) (K : SV → List Blk → Prop) (t : TypeId) (x : Operand) :
    vop P fr hp K (.box t x) = (match ev fr x with
    | some s => K (.ptr hp.length 0) (hp ++ [.row (cellsSV s) (cellsSV s).length t])
    | none => False) := id rfl
@[simp ↓] theorem vop_buildSlice_t_len_parts (P : Program) (fr : List (Nat × SV)) (hp : List Blk) (K : SV → List Blk → Prop) (t : TypeId) (len : Nat) (parts : Array (Nat × Operand)) :
    vop P fr hp K (.buildSlice t len parts) = (match evP fr parts.toList with
    | some ps => match slcT P t with
      | some (el, sz) => match zeroOf P el with
        | some z => (z.length = sz ∧ 0 < sz ∧ len * sz ≤ 16777216) ∧ need (fillS ((List.range len).map fun i => (i * sz, sz)) (zeros z len) ps) (bsK K hp len sz el)
        | none => False
      | none => False
    | none => False) := id rfl
@[simp ↓] theorem vop_makeSlice_t_l_c (P : Program) (fr : List (Nat × SV)) (hp : List Blk) (K : SV → List Blk → Prop) (t : TypeId) (l : Operand) (c : Operand) :
    vop P fr hp K (.makeSlice t l c) = (match ev fr l with
    | some (.v (.int _ l)) => match ev fr c with
      | some (.v (.int _ c)) => match slcT P t with
        | some (el, sz) => match zeroOf P el with
          | some z => (z.length = sz ∧ 0 < sz ∧ 0 ≤ l ∧ l ≤ c ∧ c ≤ 140737488355328 ∧ (P.bytesOf el : Int) * c ≤ 281474976710656) ∧ K (.slc hp.length 0 l.toNat c.toNat) (hp ++ [.row (zeros z c.toNat) (c.toNat * sz) el])
          | none => False
        | none => False
      | _ => False
    | _ => False) := id rfl
@[simp ↓] theorem vop_store_t_a_x (P : Program) (fr : List (Nat × SV)) (hp : List Blk) (K : SV → List Blk → Prop) (t : TypeId) (a : Operand) (x : Operand) :
    vop P fr hp K (.store t a x) = (match ev fr a with
    | some (.ptr n off) => match ev fr x with
      | some s => match hp[n]? with
        | some (.row cs m ty) => ((cellsSV s).length = P.cellsOf t ∧ off + (cellsSV s).length ≤ cs.length ∧ (cellsSV s).all SV.flat = true ∧ (P.info? t).isSome = true) ∧ K undefV (hp.set n (.row (stR cs off (cellsSV s)) m ty))
        | _ => False
      | none => False
    | _ => False) := id rfl
@[simp ↓] theorem vop_makeMap_none (P : Program) (fr : List (Nat × SV)) (hp : List Blk) (K : SV → List Blk → Prop) (h1 : TypeId) :
    vop P fr hp K (.makeMap h1 none) = (K (.mp hp.length) (hp ++ [.mapB []])) := id rfl
@[simp ↓] theorem vop_insert_t_m_k_v (P : Program) (fr : List (Nat × SV)) (hp : List Blk) (K : SV → List Blk → Prop) (t : TypeId) (m : Operand) (k : Operand) (v : Operand) :
    vop P fr hp K (.insert t m k v) = (match mapT P t with
    | some (kt, _) => match ev fr m with
      | some (.mp n) => match ev fr k with
        | some k => match ev fr v with
          | some v => match hp[n]? with
            | some (.mapB es) => (keyOK P kt k = true ∧ ∀ e ∈ es, keq P kt k e.1 = some false) ∧ K undefV (hp.set n (.mapB (es ++ [(k, v)])))
            | _ => False
          | none => False
        | none => False
      | _ => False
    | none => False) := id rfl
@[simp ↓] theorem vop_lookup_t_m_k_ok (P : Program) (fr : List (Nat × SV)) (hp : List Blk) (K : SV → List Blk → Prop) (t : TypeId) (m : Operand) (k : Operand) (ok : Bool) :
    vop P fr hp K (.lookup t m k ok) = (match mapT P t with
    | some (kt, el) => match zero1 P el with
      | some z => match ev fr k with
        | some k => match ev fr m with
          | some (.mp n) => match hp[n]? with
            | some (.mapB es) => (keyOK P kt k = true ∧ (∀ e ∈ es, (keq P kt k e.1).isSome = true) ∧ keysApart P kt es) ∧ lkpK P kt k (lkK K hp ok z) 0 es
            | _ => False
          | _ => False
        | none => False
      | none => False
    | none => False) := id rfl
@[simp ↓] theorem vop_call_callee_builtin_append_args_args_argTypes_ts (P : Program) (fr : List (Nat × SV)) (hp : List Blk) (K : SV → List Blk → Prop) (args : Array Operand) (ts : Array TypeId) :
    vop P fr hp K (.call { callee := .builtin .append, args := args, argTypes := ts }) = (match ts.toList with
    | [t, u] => match slcT P t with
      | some (el, sz) => match decide (t = u) with
        | true => match zeroOf P el with
          | some z => match evL fr args.toList with
            | some l => apV P hp K el sz z l
            | none => False
          | none => False
        | false => False
      | none => False
    | _ => False) := id rfl
@[simp ↓] theorem vop_call_callee_builtin_copy_args_args_argTypes_ts (P : Program) (fr : List (Nat × SV)) (hp : List Blk) (K : SV → List Blk → Prop) (args : Array Operand) (ts : Array TypeId) :
    vop P fr hp K (.call { callee := .builtin .copy, args := args, argTypes := ts }) = (match ts.toList with
    | [t, _] => match slcT P t with
      | some (_, sz) => match evL fr args.toList with
        | some [.slc n off len _, .slc m off' len' _] => match hp[n]? with
          | some (.row cs mm ty) => off + len * sz ≤ cs.length ∧ need (rdN hp m off' (min len' len * sz)) (cpK K hp cs n off mm ty ((min len' len : Nat) : Int))
          | _ => False
        | some [.slc _ _ _ _, .v (.slice none 0 0)] => K (.v (.int .i64 0)) hp
        | some [.v (.slice none 0 0), .v (.slice none 0 0)] => K (.v (.int .i64 0)) hp
        | _ => False
      | none => False
    | _ => False) := id rfl
@[simp ↓] theorem vop_call_callee_value_g_args_args_argTypes (P : Program) (fr : List (Nat × SV)) (hp : List Blk) (K : SV → List Blk → Prop) (g : Operand) (args : Array Operand) (ts0 : Array TypeId) :
    vop P fr hp K (.call { callee := .value g, args := args, argTypes := ts0 }) = (match ev fr g with
    | some (.fn f fst caps) => match evL fr args.toList with
      | some l => Ctr P f (fst ++ l ++ caps) hp K
      | none => False
    | some (.yl n) => match evL fr args.toList with
      | some l => YCtr P n l hp K
      | none => False
    | _ => False) := id rfl
@[simp ↓] theorem vop_q_move (P : Program) (fr : List (Nat × SV)) (hp : List Blk) (K : SV → List Blk → Prop) (x : Operand) :
    vop P fr hp K (.move x) = vq P fr hp (atK K hp) (.move x) := id rfl
@[simp ↓] theorem vop_q_assign (P : Program) (fr : List (Nat × SV)) (hp : List Blk) (K : SV → List Blk → Prop) (x : Operand) :
    vop P fr hp K (.assign x) = vq P fr hp (atK K hp) (.assign x) := id rfl
@[simp ↓] theorem vop_q_pick (P : Program) (fr : List (Nat × SV)) (hp : List Blk) (K : SV → List Blk → Prop) (c a b : Operand) :
    vop P fr hp K (.pick c a b) = vq P fr hp (atK K hp) (.pick c a b) := id rfl
@[simp ↓] theorem vop_q_load (P : Program) (fr : List (Nat × SV)) (hp : List Blk) (K : SV → List Blk → Prop) (t : TypeId) (a : Operand) :
    vop P fr hp K (.load t a) = vq P fr hp (atK K hp) (.load t a) := id rfl
@[simp ↓] theorem vop_q_nilCheck (P : Program) (fr : List (Nat × SV)) (hp : List Blk) (K : SV → List Blk → Prop) (x : Operand) :
    vop P fr hp K (.nilCheck x) = vq P fr hp (atK K hp) (.nilCheck x) := id rfl
@[simp ↓] theorem vop_q_binOp (P : Program) (fr : List (Nat × SV)) (hp : List Blk) (K : SV → List Blk → Prop) (op : BinOp) (t : TypeId) (x y : Operand) (u : TypeId) :
    vop P fr hp K (.binOp op t x y u) = vq P fr hp (atK K hp) (.binOp op t x y u) := id rfl
@[simp ↓] theorem vop_q_unOp (P : Program) (fr : List (Nat × SV)) (hp : List Blk) (K : SV → List Blk → Prop) (op : UnOp) (t : TypeId) (x : Operand) :
    vop P fr hp K (.unOp op t x) = vq P fr hp (atK K hp) (.unOp op t x) := id rfl
@[simp ↓] theorem vop_q_convert (P : Program) (fr : List (Nat × SV)) (hp : List Blk) (K : SV → List Blk → Prop) (s d : TypeId) (x : Operand) :
    vop P fr hp K (.convert s d x) = vq P fr hp (atK K hp) (.convert s d x) := id rfl
@[simp ↓] theorem vop_q_fieldAddr (P : Program) (fr : List (Nat × SV)) (hp : List Blk) (K : SV → List Blk → Prop) (s : TypeId) (x : Operand) (f : Nat) :
    vop P fr hp K (.fieldAddr s x f) = vq P fr hp (atK K hp) (.fieldAddr s x f) := id rfl
@[simp ↓] theorem vop_q_indexAddr (P : Program) (fr : List (Nat × SV)) (hp : List Blk) (K : SV → List Blk → Prop) (t : TypeId) (x i : Operand) :
    vop P fr hp K (.indexAddr t x i) = vq P fr hp (atK K hp) (.indexAddr t x i) := id rfl
@[simp ↓] theorem vop_q_index (P : Program) (fr : List (Nat × SV)) (hp : List Blk) (K : SV → List Blk → Prop) (t : TypeId) (x i : Operand) :
    vop P fr hp K (.index t x i) = vq P fr hp (atK K hp) (.index t x i) := id rfl
@[simp ↓] theorem vop_q_field (P : Program) (fr : List (Nat × SV)) (hp : List Blk) (K : SV → List Blk → Prop) (t : TypeId) (x : Operand) (f : Nat) :
    vop P fr hp K (.field t x f) = vq P fr hp (atK K hp) (.field t x f) := id rfl
@[simp ↓] theorem vop_q_extract (P : Program) (fr : List (Nat × SV)) (hp : List Blk) (K : SV → List Blk → Prop) (x : Operand) (i : Nat) :
    vop P fr hp K (.extract x i) = vq P fr hp (atK K hp) (.extract x i) := id rfl
@[simp ↓] theorem vop_q_build (P : Program) (fr : List (Nat × SV)) (hp : List Blk) (K : SV → List Blk → Prop) (t : TypeId) (p : Array (Nat × Operand)) :
    vop P fr hp K (.build t p) = vq P fr hp (atK K hp) (.build t p) := id rfl
@[simp ↓] theorem vop_q_makeFunc (P : Program) (fr : List (Nat × SV)) (hp : List Blk) (K : SV → List Blk → Prop) (f : Fn) (p q : Array Operand) :
    vop P fr hp K (.makeFunc f p q) = vq P fr hp (atK K hp) (.makeFunc f p q) := id rfl
@[simp ↓] theorem vop_q_slice (P : Program) (fr : List (Nat × SV)) (hp : List Blk) (K : SV → List Blk → Prop) (t : TypeId) (x : Operand) (a b c : Option Operand) :
    vop P fr hp K (.slice t x a b c) = vq P fr hp (atK K hp) (.slice t x a b c) := id rfl
@[simp ↓] theorem vop_q_len (P : Program) (fr : List (Nat × SV)) (hp : List Blk) (K : SV → List Blk → Prop) (args : Array Operand) (ts : Array TypeId) :
    vop P fr hp K (.call { callee := .builtin .len, args := args, argTypes := ts }) = vq P fr hp (atK K hp) (.call { callee := .builtin .len, args := args, argTypes := ts }) := id rfl
@[simp ↓] theorem vop_q_min (P : Program) (fr : List (Nat × SV)) (hp : List Blk) (K : SV → List Blk → Prop) (args : Array Operand) (ts : Array TypeId) :
    vop P fr hp K (.call { callee := .builtin .min, args := args, argTypes := ts }) = vq P fr hp (atK K hp) (.call { callee := .builtin .min, args := args, argTypes := ts }) := id rfl
@[simp ↓] theorem vop_q_max (P : Program) (fr : List (Nat × SV)) (hp : List Blk) (K : SV → List Blk → Prop) (args : Array Operand) (ts : Array TypeId) :
    vop P fr hp K (.call { callee := .builtin .max, args := args, argTypes := ts }) = vq P fr hp (atK K hp) (.call { callee := .builtin .max, args := args, argTypes := ts }) := id rfl

@[simp ↓] theorem vops_nil (P : Program) (fr : List (Nat × SV)) (hp : List Blk) (K : List (Nat × SV) → List Blk → Prop) : vops P [] fr hp K = K fr hp := id rfl
@[simp ↓] theorem vops_cons (P : Program) (d : Option Nat) (op : Op) (rest : List MOp) (fr : List (Nat × SV)) (hp : List Blk) (K : List (Nat × SV) → List Blk → Prop) :
    vops P (⟨d, op, none⟩ :: rest) fr hp K = vop P fr hp (opK (vops P rest) d fr K) op := id rfl
@[simp ↓] theorem vops_consg (P : Program) (d : Option Nat) (op : Op) (t : Nat) (want : Bool) (rest : List MOp) (fr : List (Nat × SV)) (hp : List Blk) (K : List (Nat × SV) → List Blk → Prop) :
    vops P (⟨d, op, some (t, want)⟩ :: rest) fr hp K = (match look t fr with
    | some (.v (.bool b)) => gB b want t fr (gyV P op (vops P rest) d hp K) (gnV (vops P rest) d hp K)
    | some (.v (.tuple _)) => gnV (vops P rest) d hp K fr
    | _ => False) := id rfl
@[simp ↓] theorem guardV_none (fr : List (Nat × SV)) (yes no : List (Nat × SV) → Prop) : guardV none fr yes no = yes fr := id rfl
@[simp ↓] theorem guardV_some (t : Nat) (want : Bool) (fr : List (Nat × SV)) (yes no : List (Nat × SV) → Prop) : guardV (some (t, want)) fr yes no = (match look t fr with
    | some (.v (.bool b)) => (b = want → yes ((t, .v (.bool want)) :: fr)) ∧ (b = (!want) → no ((t, .v (.bool (!want))) :: fr))
    | some (.v (.tuple _)) => no fr
    | _ => False) := id rfl
section
variable (P : Program) (S : List Blk) (mask : Nat → List Nat) (i : Nat) (fs : List Nat) (d : Option Nat) (op : Op) (t : Nat) (want : Bool) (rest : List DOp) (fr : List (Nat × SV)) (hp : List Blk) (K : List (Nat × SV) → List Blk → Prop)
@[simp ↓] theorem vdops_nil : vdops P S mask [] fr hp K = K fr hp := id rfl
@[simp ↓] theorem vdops_take : vdops P S mask (⟨.take, i, fs, ⟨d, op, none⟩⟩ :: rest) fr hp K = vq P fr (wipeF S mask fs) (dqK (vdops P S mask rest) d fr hp K) op := id rfl
@[simp ↓] theorem vdops_takeg : vdops P S mask (⟨.take, i, fs, ⟨d, op, some (t, want)⟩⟩ :: rest) fr hp K = (match look t fr with
    | some (.v (.bool b)) => gB b want t fr (gyQ P op (wipeF S mask fs) (vdops P S mask rest) d hp K) (gnV (vdops P S mask rest) d hp K)
    | some (.v (.tuple _)) => gnV (vdops P S mask rest) d hp K fr
    | _ => False) := id rfl
@[simp ↓] theorem vdops_held : vdops P S mask (⟨.held, i, fs, ⟨d, op, none⟩⟩ :: rest) fr hp K = vop P fr hp (dhK (wipeF S mask [i]) (vdops P S mask rest) d fr K) op := id rfl
@[simp ↓] theorem vdops_heldg : vdops P S mask (⟨.held, i, fs, ⟨d, op, some (t, want)⟩⟩ :: rest) fr hp K = (match look t fr with
    | some (.v (.bool b)) => gB b want t fr (gyH P op (wipeF S mask [i]) (vdops P S mask rest) d hp K) (gnV (vdops P S mask rest) d hp K)
    | some (.v (.tuple _)) => gnV (vdops P S mask rest) d hp K fr
    | _ => False) := id rfl
@[simp ↓] theorem vdops_ins (t : TypeId) (m k v : Operand) : vdops P S mask (⟨.ins, i, fs, ⟨none, .insert t m k v, none⟩⟩ :: rest) fr hp K = (match mapT P t with
    | some (kt, _) => match ev fr m with
      | some (.mp n) => match ev fr k with
        | some k => match ev fr v with
          | some v => match hp[n]? with
            | some (.mapB es) => (S.length ≤ n ∧ agree (wipeF S mask [i]) hp ∧ keyOK P kt k = true ∧ ∀ e ∈ es, keq P kt k e.1 = some false) ∧ vdops P S mask rest fr (hp.set n (.mapB (es ++ [(k, v)]))) K
            | _ => False
          | none => False
        | none => False
      | _ => False
    | none => False) := id rfl
@[simp ↓] theorem vdops_free : vdops P S mask (⟨.free, i, fs, ⟨d, op, none⟩⟩ :: rest) fr hp K = vop P fr hp (opK (vdops P S mask rest) d fr K) op := id rfl
@[simp ↓] theorem vdops_freeg : vdops P S mask (⟨.free, i, fs, ⟨d, op, some (t, want)⟩⟩ :: rest) fr hp K = (match look t fr with
    | some (.v (.bool b)) => gB b want t fr (gyV P op (vdops P S mask rest) d hp K) (gnV (vdops P S mask rest) d hp K)
    | some (.v (.tuple _)) => gnV (vdops P S mask rest) d hp K fr
    | _ => False) := id rfl
end
attribute [simp] wipeF_none
@[simp low] theorem wipeF_x (S : List Blk) (mask : Nat → List Nat) (fs : List Nat) : wipeF S mask fs = wipe S (fs.flatMap mask) := id rfl
@[simp] theorem putF_some (d : Nat) (s : SV) (fr : List (Nat × SV)) : putF (some d) s fr = (d, s) :: fr := id rfl
@[simp] theorem putF_none (s : SV) (fr : List (Nat × SV)) : putF none s fr = fr := id rfl
@[simp] theorem undefV_eq : undefV = .v undef := id rfl
@[simp] theorem look_nil (t : Nat) : look t [] = none := id rfl
@[simp ↓] theorem look_cons (t u : Nat) (s : SV) (r : List (Nat × SV)) : look t ((u, s) :: r) = if u = t then some s else look t r := id rfl
@[simp ↓] theorem ev_tmp (fr : List (Nat × SV)) (t : Nat) : ev fr (.tmp t) = look t fr := id rfl
@[simp ↓] theorem ev_const (fr : List (Nat × SV)) (v : Value) : ev fr (.const v) = some (.v v) := id rfl
@[simp ↓] theorem ev_func (fr : List (Nat × SV)) (f : FuncId) : ev fr (.func f) = some (.fn f [] []) := id rfl
@[simp] theorem stR_one (cs : List SV) (off : Nat) (s : SV) : stR cs off [s] = cs.set off s := id rfl
@[simp] theorem stR_two (cs : List SV) (off : Nat) (s u : SV) (r : List SV) : stR cs off (s :: u :: r) = setR cs off (s :: u :: r) := id rfl
attribute [simp] evL evP rd1 rdN eqTs eqK bndV fillS agree wipe setR tupV argF SV.ren SV.renL SV.lt SV.ltL frLe hpLe frLt hpLt keeps0
@[simp] theorem lt_row (n m : Nat) (cs : List SV) (ty : TypeId) : (Blk.row cs m ty).lt n = ∀ s ∈ cs, s.lt n := id rfl
@[simp] theorem lt_ro (n o : Nat) (cs : List Value) : (Blk.ro o cs).lt n = True := id rfl
@[simp] theorem lt_res (n : Nat) (R : Nat → HP) : (Blk.res R).lt n = True := id rfl
@[simp] theorem lt_any (n : Nat) : Blk.any.lt n = True := id rfl
@[simp] theorem ren_row (σ : Nat → Nat) (m : Nat) (cs : List SV) (ty : TypeId) : (Blk.row cs m ty).ren σ = .row (cs.map (SV.ren σ)) m ty := id rfl
@[simp] theorem ren_ro (σ : Nat → Nat) (o : Nat) (cs : List Value) : (Blk.ro o cs).ren σ = .ro o cs := id rfl
@[simp] theorem ren_res (σ : Nat → Nat) (R : Nat → HP) : (Blk.res R).ren σ = .res R := id rfl
@[simp] theorem ren_any (σ : Nat → Nat) : Blk.any.ren σ = .any := id rfl
@[simp] theorem rd1_row (cs : List SV) (m : Nat) (ty : TypeId) (off : Nat) : (Blk.row cs m ty).rd1 off = cs[off]? := id rfl
@[simp] theorem rd1_ro (o : Nat) (cs : List Value) (off : Nat) : (Blk.ro o cs).rd1 off = if o ≤ off then (cs[off - o]?).map SV.v else none := id rfl
@[simp] theorem rdN_row (cs : List SV) (m : Nat) (ty : TypeId) (off sz : Nat) : (Blk.row cs m ty).rdN off sz = if off + sz ≤ cs.length then some ((cs.drop off).take sz) else none := id rfl
@[simp] theorem rdN_ro (o : Nat) (cs : List Value) (off sz : Nat) : (Blk.ro o cs).rdN off sz = if o ≤ off ∧ off + sz ≤ o + cs.length then some (((cs.drop (off - o)).take sz).map SV.v) else none := id rfl
section
variable (cs : List SV) (k : IntKind) (n m : Int) (b c : Bool) (a : Option Addr) (i j l h : Nat) (x : Array Value) (f : FuncId) (u v : List SV) (P : Program) (t : TypeId)
@[simp] theorem cells_agg : cellsSV (.agg cs) = cs := id rfl
@[simp] theorem cells_vagg : cellsSV (.v (.agg x)) = x.toList.map SV.v := id rfl
@[simp] theorem cells_int : cellsSV (.v (.int k n)) = [.v (.int k n)] := id rfl
@[simp] theorem cells_bool : cellsSV (.v (.bool b)) = [.v (.bool b)] := id rfl
@[simp] theorem cells_nil : cellsSV (.v (.pointer a)) = [.v (.pointer a)] := id rfl
@[simp] theorem cells_nils : cellsSV (.v (.slice a i j)) = [.v (.slice a i j)] := id rfl
@[simp] theorem cells_str (s : ByteArray) : cellsSV (.v (.string s)) = [.v (.string s)] := id rfl
@[simp] theorem cells_map (r : Option Nat) : cellsSV (.v (.map r)) = [.v (.map r)] := id rfl
@[simp] theorem cells_nilf : cellsSV (.v .nilFunc) = [.v .nilFunc] := id rfl
@[simp] theorem cells_ptr : cellsSV (.ptr i j) = [.ptr i j] := id rfl
@[simp] theorem cells_slc : cellsSV (.slc i j l h) = [.slc i j l h] := id rfl
@[simp] theorem cells_fn : cellsSV (.fn f u v) = [.fn f u v] := id rfl
@[simp] theorem flat_v (y : Value) : (SV.v y).flat = y.oneCell' := id rfl
@[simp] theorem flat_agg : (SV.agg cs).flat = false := id rfl
@[simp] theorem flat_ptr : (SV.ptr i j).flat = true := id rfl
@[simp] theorem flat_slc : (SV.slc i j l h).flat = true := id rfl
@[simp] theorem flat_fn : (SV.fn f u v).flat = true := id rfl
@[simp] theorem lenV_slc : lenV P t (.slc i j l h) = (match slcT P t with
    | some _ => some (l : Int)
    | none => none) := id rfl
@[simp] theorem lenV_nil : lenV P t (.v (.slice a l h)) = (match slcT P t with
    | some _ => some (l : Int)
    | none => none) := id rfl
@[simp] theorem lenV_str (s : ByteArray) : lenV P t (.v (.string s)) = if strT P t = true then some (s.size : Int) else none := id rfl
@[simp] theorem eqT_int (k' : IntKind) : eqT P t (.v (.int k n)) (.v (.int k' m)) = (match P.underlying t with
    | some (.int _) => if k = k' then some (decide (n = m)) else none
    | _ => none) := by
  have : (n == m) = decide (n = m) := by by_cases h : n = m <;> simp [h]
  rw [← this]; rfl
@[simp] theorem eqT_bool : eqT P t (.v (.bool b)) (.v (.bool c)) = (match P.underlying t with
    | some .bool => some (b == c)
    | _ => none) := id rfl
end
@[simp] theorem need_some {α : Type} (s : α) (K : α → Prop) : need (some s) K = K s := by simp [need]
@[simp] theorem need_none {α : Type} (K : α → Prop) : need none K = False := by simp [need]
@[simp ↓] theorem seqK_normal (V : List (Nat × SV) → List Blk → Prop) (K : Exit → List (Nat × SV) → List Blk → Prop) (fr : List (Nat × SV)) (hp : List Blk) : seqK V K .normal fr hp = V fr hp := id rfl
@[simp ↓] theorem seqK_ret (V : List (Nat × SV) → List Blk → Prop) (K : Exit → List (Nat × SV) → List Blk → Prop) (fr : List (Nat × SV)) (hp : List Blk) : seqK V K .ret fr hp = K .ret fr hp := id rfl
@[simp ↓] theorem seqK_exit (V : List (Nat × SV) → List Blk → Prop) (K : Exit → List (Nat × SV) → List Blk → Prop) (j : Nat) (fr : List (Nat × SV)) (hp : List Blk) : seqK V K (.exit j) fr hp = K (.exit j) fr hp := id rfl
@[simp ↓] theorem blkK_normal (id : Nat) (K : Exit → List (Nat × SV) → List Blk → Prop) (fr : List (Nat × SV)) (hp : List Blk) : blkK id K .normal fr hp = K .normal fr hp := _root_.id rfl
@[simp ↓] theorem blkK_ret (id : Nat) (K : Exit → List (Nat × SV) → List Blk → Prop) (fr : List (Nat × SV)) (hp : List Blk) : blkK id K .ret fr hp = K .ret fr hp := _root_.id rfl
@[simp ↓] theorem blkK_exit (id j : Nat) (K : Exit → List (Nat × SV) → List Blk → Prop) (fr : List (Nat × SV)) (hp : List Blk) : blkK id K (.exit j) fr hp = if j = id then K .normal fr hp else K (.exit j) fr hp := _root_.id rfl
@[simp ↓] theorem scpK_normal (K : Exit → List (Nat × SV) → List Blk → Prop) (fr : List (Nat × SV)) (hp : List Blk) : scpK K .normal fr hp = K .normal fr hp := id rfl
@[simp ↓] theorem scpK_ret (K : Exit → List (Nat × SV) → List Blk → Prop) (fr : List (Nat × SV)) (hp : List Blk) : scpK K .ret fr hp = K .ret fr hp := id rfl
@[simp ↓] theorem scpK_exit (j : Nat) (K : Exit → List (Nat × SV) → List Blk → Prop) (fr : List (Nat × SV)) (hp : List Blk) : scpK K (.exit j) fr hp = K (.exit j) fr hp := id rfl
@[simp ↓] theorem loopK_normal {σ : Type} (n0 : Nat) (I : σ → List (Nat × SV) × List Blk) (μ : σ → Nat) (s : σ) (K : Exit → List (Nat × SV) → List Blk → Prop) (fr : List (Nat × SV)) (hp : List Blk) :
    loopK n0 I μ s K .normal fr hp = ∃ s', Le n0 fr hp (I s') ∧ μ s' < μ s := id rfl
@[simp ↓] theorem loopK_ret {σ : Type} (n0 : Nat) (I : σ → List (Nat × SV) × List Blk) (μ : σ → Nat) (s : σ) (K : Exit → List (Nat × SV) → List Blk → Prop) (fr : List (Nat × SV)) (hp : List Blk) : loopK n0 I μ s K .ret fr hp = K .ret fr hp := id rfl
@[simp ↓] theorem loopK_exit {σ : Type} (n0 : Nat) (I : σ → List (Nat × SV) × List Blk) (μ : σ → Nat) (s : σ) (K : Exit → List (Nat × SV) → List Blk → Prop) (j : Nat) (fr : List (Nat × SV)) (hp : List Blk) : loopK n0 I μ s K (.exit j) fr hp = K (.exit j) fr hp := id rfl
@[simp ↓] theorem retK_ret (P : Program) (rs : List ResultVar) (K : SV → List Blk → Prop) (fr : List (Nat × SV)) (hp : List Blk) : retK P rs K .ret fr hp = resV P fr hp rs (tupK K hp) := id rfl
@[simp ↓] theorem retK_normal (P : Program) (rs : List ResultVar) (K : SV → List Blk → Prop) (fr : List (Nat × SV)) (hp : List Blk) : retK P rs K .normal fr hp = resV P fr hp rs (tupK K hp) := id rfl
@[simp ↓] theorem retK_exit (P : Program) (rs : List ResultVar) (K : SV → List Blk → Prop) (j : Nat) (fr : List (Nat × SV)) (hp : List Blk) : retK P rs K (.exit j) fr hp = False := id rfl
@[simp ↓] theorem vc_seq (P : Program) (n0 : Nat) (a b : MC) (fr : List (Nat × SV)) (hp : List Blk) (K : Exit → List (Nat × SV) → List Blk → Prop) : vc P n0 (.seq a b) fr hp K = vc P n0 a fr hp (seqK (vcK (vc P n0 b) K) K) := id rfl
@[simp ↓] theorem vc_dreg (P : Program) (n0 : Nat) (ops : List DOp) (fr : List (Nat × SV)) (hp : List Blk) (K : Exit → List (Nat × SV) → List Blk → Prop) : vc P n0 (.dreg false ops) fr hp K = vdops P hp (fun _ => []) ops fr hp (K .normal) := id rfl
def maskK (P : Program) (ops : List DOp) (fr : List (Nat × SV)) (hp : List Blk) (K : List (Nat × SV) → List Blk → Prop) : Prop := ∃ mask, vdops P hp mask ops fr hp K
@[congr] theorem maskK_congr {P : Program} {ops : List DOp} {fr : List (Nat × SV)} {hp hp' : List Blk} {K : List (Nat × SV) → List Blk → Prop} (h : hp = hp') : maskK P ops fr hp K = maskK P ops fr hp' K := by rw [h]
theorem maskK.at {P : Program} {ops : List DOp} {fr : List (Nat × SV)} {hp : List Blk} {K : List (Nat × SV) → List Blk → Prop} (mask : Nat → List Nat) (h : vdops P hp mask ops fr hp K) : maskK P ops fr hp K := ⟨mask, h⟩
theorem maskK.by {P : Program} {ops : List DOp} {fr : List (Nat × SV)} {hp : List Blk} {K : List (Nat × SV) → List Blk → Prop} (mask : List Nat) (h : vdops P hp (fun _ => mask) ops fr hp K) : maskK P ops fr hp K := ⟨_, h⟩
@[simp ↓] theorem vc_dregn (P : Program) (n0 : Nat) (ops : List DOp) (fr : List (Nat × SV)) (hp : List Blk) (K : Exit → List (Nat × SV) → List Blk → Prop) : vc P n0 (.dreg true ops) fr hp K = maskK P ops fr hp (K .normal) := id rfl
section
variable (P : Program) (n0 : Nat) (fr : List (Nat × SV)) (hp : List Blk) (K : Exit → List (Nat × SV) → List Blk → Prop)
@[simp ↓] theorem vc_skip : vc P n0 .skip fr hp K = K .normal fr hp := id rfl
@[simp ↓] theorem vc_reg (ops : List MOp) : vc P n0 (.reg ops) fr hp K = vops P ops fr hp (K .normal) := id rfl
@[simp ↓] theorem vc_cond (c : Operand) (t e : MC) : vc P n0 (.cond c t e) fr hp K = (match ev fr c with
    | some (.v (.bool b)) => cB b (vc P n0 t) (vc P n0 e) fr hp K
    | _ => False) := id rfl
@[simp ↓] theorem vc_block (id : Nat) (b : MC) : vc P n0 (.block id b) fr hp K = vc P n0 b fr hp (blkK id K) := _root_.id rfl
@[simp ↓] theorem vc_loop (b : MC) : vc P n0 (.loop b) fr hp K = LoopOK n0 (vc P n0 b) fr hp K := id rfl
@[simp ↓] theorem vc_exit (id : Nat) : vc P n0 (.exit id) fr hp K = K (.exit id) fr hp := _root_.id rfl
@[simp ↓] theorem vc_scope (b : MC) : vc P n0 (.scope b) fr hp K = vc P n0 b fr hp (scpK K) := id rfl
@[simp ↓] theorem vc_ret : vc P n0 .ret fr hp K = K .ret fr hp := id rfl
@[simp ↓] theorem vc_range (g : Operand) (ps : List Nat) (as bd : MC) : vc P n0 (.range g ps as bd) fr hp K = RangeOK P g ps (fun m => vc P m as) (fun m => vc P m bd) fr hp K := id rfl
@[simp ↓] theorem vc_raw (c : Code) : vc P n0 (.raw c) fr hp K = RawOK P n0 c fr hp K := id rfl
end

section
variable (P : Program) (hp : List Blk) (K : SV → List Blk → Prop) (el : TypeId) (sz : Nat) (z : List Value) (n off len cap m off' k c2 : Nat)
@[simp ↓] theorem apV_ss : apV P hp K el sz z [.slc n off len cap, .slc m off' k c2] = (match hp[n]? with
    | some (.row cs mm ty) => (z.length = sz ∧ 0 < sz ∧ off = 0 ∧ ty = el ∧ len * sz ≤ cs.length ∧ len ≤ cap ∧ cap * sz ≤ mm ∧ (len + k) ≤ 140737488355328 ∧ (len + k) * P.bytesOf el ≤ 140737488355328) ∧
        need (rdN hp m off' (k * sz)) (apK1 K hp cs n len k sz el)
    | _ => False) := id rfl
@[simp ↓] theorem apV_ns : apV P hp K el sz z [.v (.slice none 0 0), .slc m off' k c2] = ((z.length = sz ∧ 0 < sz ∧ k ≤ 140737488355328 ∧ k * P.bytesOf el ≤ 140737488355328) ∧
      ((k = 0 → K (.v (.slice none 0 0)) hp) ∧ (k ≠ 0 → need (rdN hp m off' (k * sz)) (apK2 K hp k sz el)))) := id rfl
@[simp ↓] theorem apV_s0 : apV P hp K el sz z [.slc n off len cap, .v (.slice none 0 0)] = (len ≤ cap ∧ K (.slc n off len cap) hp) := id rfl
@[simp ↓] theorem apV_00 : apV P hp K el sz z [.v (.slice none 0 0), .v (.slice none 0 0)] = K (.v (.slice none 0 0)) hp := id rfl
end
@[congr] theorem apV_congr {P : Program} {hp hp' : List Blk} {K : SV → List Blk → Prop} {el : TypeId} {sz : Nat} {z : List Value} {l l' : List SV} (h1 : l = l') (h2 : hp = hp') : apV P hp K el sz z l = apV P hp' K el sz z l' := by rw [h1, h2]

/-! Maps. -/
@[simp] theorem keysApart_nil (P : Program) (kt : TypeId) : keysApart P kt [] = True := id rfl
@[simp] theorem keysApart_cons (P : Program) (kt : TypeId) (e : SV × SV) (r : List (SV × SV)) : keysApart P kt (e :: r) = ((∀ e' ∈ r, keq P kt e.1 e'.1 = some false) ∧ keysApart P kt r) := id rfl
def lkB (P : Program) (kt : TypeId) (k : SV) (K : Option (Nat × SV) → Prop) (i : Nat) (v : SV) (r : List (SV × SV)) (b : Bool) : Prop := (b = true → K (some (i, v))) ∧ (b = false → lkpK P kt k K (i + 1) r)
section
variable (P : Program) (kt : TypeId) (k : SV) (K : Option (Nat × SV) → Prop) (i : Nat) (k' v : SV) (r : List (SV × SV))
@[simp ↓] theorem lkpK_nil : lkpK P kt k K i [] = K none := id rfl
@[simp ↓] theorem lkpK_cons : lkpK P kt k K i ((k', v) :: r) = need (keq P kt k k') (lkB P kt k K i v r) := id rfl
@[simp] theorem lkB_t : lkB P kt k K i v r true = K (some (i, v)) := by simp [lkB]
@[simp] theorem lkB_f : lkB P kt k K i v r false = lkpK P kt k K (i + 1) r := by simp [lkB]
@[simp low] theorem lkB_var (b : Bool) : lkB P kt k K i v r b = ((b = true → K (some (i, v))) ∧ (b = false → lkpK P kt k K (i + 1) r)) := id rfl
end
section
variable (K : SV → List Blk → Prop) (hp : List Blk) (ok : Bool) (z : Value) (i : Nat) (v : SV)
@[simp ↓] theorem lkK_some : lkK K hp ok z (some (i, v)) = K (cond ok (.tup [v, .v (.bool true)]) v) hp := by cases ok <;> rfl
@[simp ↓] theorem lkK_none : lkK K hp ok z none = K (cond ok (.tup [.v z, .v (.bool false)]) (.v z)) hp := by cases ok <;> rfl
end
section
variable (P : Program) (kt : TypeId) (xs ys : List SV) (k k' : IntKind) (a b : Int) (c : Bool)
@[simp] theorem keq_agg : keq P kt (.agg xs) (.agg ys) = (match eqTypes P kt with
    | some ts => eqTs P ts xs ys
    | none => none) := id rfl
@[simp] theorem keq_int : keq P kt (.v (.int k a)) (.v (.int k' b)) = eqT P kt (.v (.int k a)) (.v (.int k' b)) := id rfl
@[simp] theorem keyOK_agg : keyOK P kt (.agg xs) = (isStructT P kt && (match eqTypes P kt with
    | some ts => ckAll P ts xs
    | none => false)) := id rfl
@[simp] theorem keyOK_int : keyOK P kt (.v (.int k a)) = ck1 P kt (.v (.int k a)) := id rfl
@[simp] theorem ck1_int : ck1 P kt (.v (.int k a)) = (match P.underlying kt with
    | some (.int _) => true
    | _ => false) := id rfl
@[simp] theorem ck1_bool : ck1 P kt (.v (.bool c)) = (match P.underlying kt with
    | some .bool => true
    | _ => false) := id rfl
@[simp] theorem ckAll_nil : ckAll P [] [] = true := id rfl
@[simp] theorem ckAll_cons (t : TypeId) (ts : List TypeId) (s : SV) (r : List SV) : ckAll P (t :: ts) (s :: r) = (ck1 P t s && ckAll P ts r) := id rfl
@[simp] theorem cells_mp (n : Nat) : cellsSV (.mp n) = [.mp n] := id rfl
@[simp] theorem cells_yl (n : Nat) : cellsSV (.yl n) = [.yl n] := id rfl
@[simp] theorem flat_mp (n : Nat) : (SV.mp n).flat = true := id rfl
@[simp] theorem flat_yl (n : Nat) : (SV.yl n).flat = true := id rfl
@[simp] theorem lt_mapB (n : Nat) (es : List (SV × SV)) : (Blk.mapB es).lt n = ∀ e ∈ es, e.1.lt n ∧ e.2.lt n := id rfl
@[simp] theorem ren_mapB (σ : Nat → Nat) (es : List (SV × SV)) : (Blk.mapB es).ren σ = .mapB (es.map fun e => (e.1.ren σ, e.2.ren σ)) := id rfl
end

/-! What is not looked into till it is opened. -/
@[congr] theorem YCtr_congr {P : Program} {n : Nat} {args args' : List SV} {hp hp' : List Blk} {K : SV → List Blk → Prop} (h1 : args = args') (h2 : hp = hp') : YCtr P n args hp K = YCtr P n args' hp' K := by rw [h1, h2]
@[congr] theorem Ctr_congr {P : Program} {f : FuncId} {args args' : List SV} {hp hp' : List Blk} {K : SV → List Blk → Prop} (h1 : args = args') (h2 : hp = hp') : Ctr P f args hp K = Ctr P f args' hp' K := by rw [h1, h2]
@[congr] theorem LoopOK_congr {n0 : Nat} {V : List (Nat × SV) → List Blk → (Exit → List (Nat × SV) → List Blk → Prop) → Prop} {fr : List (Nat × SV)} {hp hp' : List Blk} {K : Exit → List (Nat × SV) → List Blk → Prop} (h : hp = hp') : LoopOK n0 V fr hp K = LoopOK n0 V fr hp' K := by rw [h]
@[congr] theorem Le_congr {n0 : Nat} {fr fr' : List (Nat × SV)} {hp hp' : List Blk} {T : List (Nat × SV) × List Blk} (h0 : fr = fr') (h : hp = hp') : Le n0 fr hp T = Le n0 fr' hp' T := by rw [h0, h]
@[congr] theorem need_congr {α : Type} {o o' : Option α} {K : α → Prop} (h : o = o') : need o K = need o' K := by rw [h]
@[congr] theorem RangeOK_congr {P : Program} {g : Operand} {ps : List Nat} {VA VB : Nat → List (Nat × SV) → List Blk → (Exit → List (Nat × SV) → List Blk → Prop) → Prop} {fr fr' : List (Nat × SV)} {hp hp' : List Blk} {K : Exit → List (Nat × SV) → List Blk → Prop} (h0 : fr = fr') (h : hp = hp') : RangeOK P g ps VA VB fr hp K = RangeOK P g ps VA VB fr' hp' K := by rw [h0, h]
@[congr] theorem RawOK_congr {P : Program} {n0 : Nat} {c : Code} {fr : List (Nat × SV)} {hp hp' : List Blk} {K : Exit → List (Nat × SV) → List Blk → Prop} (h : hp = hp') : RawOK P n0 c fr hp K = RawOK P n0 c fr hp' K := by rw [h]

end Go.Vc

/- Code: what it asks of a symbolic state, and that the model runs it so. -/
import Derived.Test.YtaplfpelnmabpaaVcO
import Derived.RangeFuncIn
namespace Go.Vc
open Go.RowKit
set_option linter.unusedSimpArgs false
set_option linter.unusedVariables false

inductive MC where
  | skip
  | reg (ops : List MOp)
  | dreg (asks : Bool) (ops : List DOp)
  | seq (a b : MC)
  | cond (c : Operand) (t e : MC)
  | block (id : Nat) (b : MC)
  | loop (b : MC)
  | exit (id : Nat)
  | scope (b : MC)
  | ret
  | range (g : Operand) (ps : List Nat) (as bd : MC)
  | raw (c : Code)

def quietKind : Op → Bool
  | .move _ | .assign _ | .pick .. | .load .. | .nilCheck _ | .binOp .. | .unOp .. | .convert .. | .fieldAddr .. | .indexAddr .. | .index .. | .field .. | .extract .. | .build .. | .makeFunc .. | .slice .. => true
  | .call { callee := .builtin .len, .. } | .call { callee := .builtin .min, .. } | .call { callee := .builtin .max, .. } => true
  | _ => false

def mkOp (ops : Array Oper) (o : Oper) : MOp := ⟨o.dst, o.op, match o.guard with
  | none => none
  | some (j, want) => match (ops[j]?).bind (·.dst) with
    | some t => some (t, want)
    | none => none⟩

def tailOf (ops : Array Oper) : Nat := ((List.range ops.size).find? fun n => Region.sinkB .any ops n && Region.chainB .any ops n).getD ops.size

def greedy (ops : Array Oper) (n : Nat) : Nat → Array Bool → List (Tag × Nat)
  | 0, _ => []
  | f + 1, listed =>
    let rs := Region.ready .any ops listed
    match rs.find? fun i => decide (i < n) && ((ops[i]?).map fun o => quietKind o.op).getD false && Region.free .any ops listed i with
    | some i => (.take, i) :: greedy ops n f (listed.setIfInBounds i true)
    | none => match rs with
      | [i] => (if i < n then .held else .free, i) :: greedy ops n f (listed.setIfInBounds i true)
      | i :: r => if insOK ops listed (i :: r) i then (i :: r).map (fun g => (Tag.ins, g)) ++ greedy ops n f ((i :: r).foldl (fun l g => l.setIfInBounds g true) listed) else []
      | [] => []

def planOf (ops : Array Oper) : List (Tag × Nat) := greedy ops (tailOf ops) ops.size (Array.replicate ops.size false)

def mkD (ops : Array Oper) (fz : Nat → List Nat) : List (Tag × Nat) → List DOp
  | [] => []
  | (t, i) :: r => match ops[i]? with
    | some o => ⟨t, i, (match t with | .take => fz i | _ => []), mkOp ops o⟩ :: mkD ops fz r
    | none => []

/-- An operation that writes memory of its own accord. -/
def writes : Op → Bool
  | .store .. | .insert .. | .mapUpdate .. => true
  | .call { callee := .builtin .append, .. } | .call { callee := .builtin .copy, .. } | .call { callee := .value _, .. } => true
  | _ => false
/-- Whether something is written ahead of a region's tail. -/
def asksOf (ops : Array Oper) (p : List (Tag × Nat)) : Bool := (heldOf p).any fun i => match ops[i]? with
  | some o => writes o.op
  | none => false
def mkR (ops : Array Oper) (p : List (Tag × Nat)) : MC := cond (asksOf ops p) (.dreg true (mkD ops (freesOf ops (heldOf p)) p)) (.dreg false (mkD ops (fun _ => []) p))

def mk : Code → MC
  | .skip => .skip
  | .label _ => .skip
  | .region _ ops false => .reg (ops.toList.map (mkOp ops))
  | .region _ ops true => mkR ops (planOf ops)
  | .seq a b => .seq (mk a) (mk b)
  | .cond c t e => .cond c (mk t) (mk e)
  | .block id b => .block id (mk b)
  | .loop b => .loop (mk b)
  | .exit id => .exit id
  | .scope b => .scope (mk b)
  | .ret => .ret
  | .rangeFunc g ps as bd => .range g ps.toList (mk as) (mk bd)
  | c => .raw c

/-- The slots lie in the frame, no deferred call, the guards are slots. -/
def okOp (ops : Array Oper) (N : Nat) (o : Oper) : Bool :=
  (match o.dst with | some d => decide (d < N) | none => true) && (match o.op with | .defer _ => false | _ => true) && (match o.guard with | some (j, _) => ((ops[j]?).bind (·.dst)).isSome | none => true)

/-- No range over a function within. -/
def flatC : Code → Bool
  | .seq a b => flatC a && flatC b
  | .cond _ t e => flatC t && flatC e
  | .block _ b => flatC b
  | .loop b => flatC b
  | .scope b => flatC b
  | .rangeFunc .. => false
  | _ => true

def ok (N : Nat) : Code → Bool
  | .region _ ops false => ops.toList.all (okOp ops N)
  | .region _ ops true => ops.toList.all (okOp ops N) && Region.noSelect ops && tailB ops (tailOf ops) && planB ops (tailOf ops) (Array.replicate ops.size false) (planOf ops) && (planOf ops).length == ops.size
  | .seq a b => ok N a && ok N b
  | .cond _ t e => ok N t && ok N e
  | .block _ b => ok N b
  | .loop b => ok N b
  | .scope b => ok N b
  | .rangeFunc _ ps as bd => ok N as && ok N bd && flatC as && flatC bd && ps.toList.all fun p => decide (p < N)
  | _ => true

def seqK (V : List (Nat × SV) → List Blk → Prop) (K : Exit → List (Nat × SV) → List Blk → Prop) : Exit → List (Nat × SV) → List Blk → Prop
  | .normal, fr, hp => V fr hp
  | e, fr, hp => K e fr hp
def blkK (id : Nat) (K : Exit → List (Nat × SV) → List Blk → Prop) : Exit → List (Nat × SV) → List Blk → Prop
  | .exit j, fr, hp => if j = id then K .normal fr hp else K (.exit j) fr hp
  | e, fr, hp => K e fr hp
def scpK (K : Exit → List (Nat × SV) → List Blk → Prop) : Exit → List (Nat × SV) → List Blk → Prop
  | .goto _, _, _ => False
  | e, fr, hp => K e fr hp
def loopK {σ : Type} (n0 : Nat) (I : σ → List (Nat × SV) × List Blk) (μ : σ → Nat) (s : σ) (K : Exit → List (Nat × SV) → List Blk → Prop) : Exit → List (Nat × SV) → List Blk → Prop
  | .normal, fr, hp => ∃ s', Le n0 fr hp (I s') ∧ μ s' < μ s
  | e, fr, hp => K e fr hp

def LoopOK (n0 : Nat) (V : List (Nat × SV) → List Blk → (Exit → List (Nat × SV) → List Blk → Prop) → Prop) (fr : List (Nat × SV)) (hp : List Blk) (K : Exit → List (Nat × SV) → List Blk → Prop) : Prop :=
  ∃ (σ : Type) (I : σ → List (Nat × SV) × List Blk) (μ : σ → Nat), (∃ s0, Le n0 fr hp (I s0)) ∧ ∀ s, V (I s).1 (I s).2 (loopK n0 I μ s K)

/-! Marks: the blocks for the deferred calls of rounds. -/
def msP : List Nat → HP
  | [] => emp
  | b :: r => star (pto b (.deferred (some []))) (msP r)
def marksOf (ms : List Nat) : List Deferred := ms.map fun b => { target := .collected b, args := #[] }
theorem msP_append : ∀ (l m : List Nat), msP (l ++ m) = star (msP l) (msP m)
  | [], m => by simp [msP, emp_star]
  | b :: l, m => by simp [msP, msP_append l m, star_assoc]
/-- Marks may have come to. -/
def ExtM (F : HP) (D : List Deferred) (F' : HP) (D' : List Deferred) : Prop := ∃ ms, F' = star F (msP ms) ∧ D' = marksOf ms ++ D
theorem ExtM.refl (F : HP) (D : List Deferred) : ExtM F D F D := ⟨[], (star_emp F).symm, rfl⟩
theorem ExtM.trans {F F' F'' : HP} {D D' D'' : List Deferred} (h : ExtM F D F' D') (h' : ExtM F' D' F'' D'') : ExtM F D F'' D'' := by
  obtain ⟨ms, e1, e2⟩ := h
  obtain ⟨ms', e1', e2'⟩ := h'
  subst e1 e2 e1' e2'
  exact ⟨ms' ++ ms, by rw [msP_append, star_assoc, star_comm (msP ms')], by simp [marksOf]⟩

def PostK (w0 : World) (F : HP) (n0 : Nat) (ρ0 : Nat → Nat) (N : Nat) (D : List Deferred) (K : Exit → List (Nat × SV) → List Blk → Prop) : Exit → Act → World → Prop :=
  fun e a w => ∃ fr hp, K e fr hp ∧ (∃ F' D', ExtM F D F' D' ∧ Good w0 F' n0 ρ0 N D' fr hp a w) ∧ (∀ c, e ≠ .panic c) ∧ e ≠ .outgrown

def RawOK (P : Program) (n0 : Nat) (c : Code) (fr : List (Nat × SV)) (hp : List Blk) (K : Exit → List (Nat × SV) → List Blk → Prop) : Prop :=
  ∀ (w0 : World) (F : HP) (ρ0 : Nat → Nat) (N : Nat) (D : List Deferred) (r : Option Nat) (a : Act) (w : World), Good w0 F n0 ρ0 N D fr hp a w → c.wpIn (wideR r) 0 P (PostK w0 F n0 ρ0 N D K) a w

/-! A range over a function. -/
def LeH (m : Nat) (hp T : List Blk) : Prop := Le m [] hp ([], T)
def putPs : List Nat → List SV → List (Nat × SV) → List (Nat × SV)
  | p :: ps, x :: xs, fr => putPs ps xs ((p, x) :: fr)
  | _, _, fr => fr
/-- What a round leaves. -/
def rndK {α σ : Type} (m : Nat) (I : List α → σ → Prop) (T : σ → List Blk) (xs : List α) : Exit → List (Nat × SV) → List Blk → Prop
  | .normal, _, hp => ∃ st, I xs st ∧ LeH m hp (T st)
  | _, _, _ => False
def failK : Exit → List (Nat × SV) → List Blk → Prop := fun _ _ _ => False
/-- What is left behind the loop. -/
def behK {α σ : Type} (n : Nat) (I : List α → σ → Prop) (T : σ → List Blk) (sel : List Nat) (Y : List α → Nat → HP) (K : List Blk → Prop) (hp : List Blk) : Prop :=
  ∃ xs, hp[n]? = some (.res (Y xs)) ∧ ∀ st, I xs st → K (merge (hp.set n .any) sel (T st))
/-- A loop over what a function yields: the loop's own blocks are picked out by 'sel'; 'T' tells them, 'I' when. -/
def RangeOK (P : Program) (g : Operand) (ps : List Nat) (VA VB : Nat → List (Nat × SV) → List Blk → (Exit → List (Nat × SV) → List Blk → Prop) → Prop) (fr : List (Nat × SV)) (hp : List Blk) (K : Exit → List (Nat × SV) → List Blk → Prop) : Prop :=
  ∃ (α σ : Type) (M : Nat) (enc : α → List SV) (I : List α → σ → Prop) (T : σ → List Blk) (sel : List Nat) (frC : List (Nat × SV)) (T0 : List Blk),
    (Sel sel hp.length ∧ T0.length = sel.length ∧ (∀ B ∈ T0, B.lt T0.length) ∧ ∀ (j : Nat) (B : Blk), T0[j]? = some B → hp[nm sel hp.length j]? = some (B.ren (nm sel hp.length))) ∧
    (frLe (nm sel hp.length) fr frC ∧ frLt sel.length frC) ∧
    (∀ x, (enc x).length = ps.length ∧ SV.ltL 0 (enc x)) ∧
    (∃ st, I [] st ∧ LeH sel.length T0 (T st)) ∧
    (∀ xs st x, xs.length < M → I xs st → VA sel.length (putPs ps (enc x) frC) (T st) (seqK (fun fr' hp' => VB sel.length fr' hp' (rndK sel.length I T (xs ++ [x]))) failK)) ∧
    ∃ (f : FuncId) (fst caps : List SV), ev fr g = some (.fn f fst caps) ∧ (∀ (args : Array Value) (w : World), (callFunc f args).run P w = .ok (.enter f args) w) ∧
      ∀ Y : List α → Nat → HP, (∀ xs x, xs.length < M → YCtr P 0 (enc x) [.res (Y xs)] (fun s hp' => s = .v (.bool true) ∧ hp' = [.res (Y (xs ++ [x]))])) →
        Ctr P f (fst ++ [.yl hp.length] ++ caps) (wipe hp sel ++ [.res (Y [])]) (fun _ hp' => behK hp.length I T sel Y (K .normal fr) hp')

def vc (P : Program) : Nat → MC → List (Nat × SV) → List Blk → (Exit → List (Nat × SV) → List Blk → Prop) → Prop
  | n0, .skip, fr, hp, K => K .normal fr hp
  | n0, .reg ops, fr, hp, K => vops P ops fr hp (K .normal)
  | n0, .dreg false ops, fr, hp, K => vdops P hp (fun _ => []) ops fr hp (K .normal)
  | n0, .dreg true ops, fr, hp, K => ∃ mask, vdops P hp mask ops fr hp (K .normal)
  | n0, .seq a b, fr, hp, K => vc P n0 a fr hp (seqK (fun fr hp => vc P n0 b fr hp K) K)
  | n0, .cond c t e, fr, hp, K => match ev fr c with
    | some (.v (.bool b)) => (b = true → vc P n0 t fr hp K) ∧ (b = false → vc P n0 e fr hp K)
    | _ => False
  | n0, .block id b, fr, hp, K => vc P n0 b fr hp (blkK id K)
  | n0, .loop b, fr, hp, K => LoopOK n0 (vc P n0 b) fr hp K
  | n0, .exit id, fr, hp, K => K (.exit id) fr hp
  | n0, .scope b, fr, hp, K => vc P n0 b fr hp (scpK K)
  | n0, .ret, fr, hp, K => K .ret fr hp
  | n0, .range g ps as bd, fr, hp, K => RangeOK P g ps (fun m => vc P m as) (fun m => vc P m bd) fr hp K
  | n0, .raw c, fr, hp, K => RawOK P n0 c fr hp K

section
variable {P : Program} {w0 w : World} {F : HP} {n0 N : Nat} {ρ0 ρ : Nat → Nat} {D : List Deferred} {fr : List (Nat × SV)} {hp : List Blk} {a : Act} {ops : Array Oper} {Q : Exit → Act → World → Prop}

theorem mkOp_slim {o : Oper} (h : okOp ops N o = true) : slimOf ops N o (mkOp ops o) ∧ ∀ c, o.op ≠ .defer c := by
  simp only [okOp, Bool.and_eq_true] at h
  obtain ⟨⟨h1, h2⟩, h3⟩ := h
  refine ⟨⟨rfl, rfl, fun d hd => ?_, ?_⟩, fun c hc => ?_⟩
  · rw [hd] at h1; simpa using h1
  · cases hg : o.guard with
    | none => simp [mkOp, hg]
    | some jw =>
      obtain ⟨j, want⟩ := jw
      rw [hg] at h3
      simp only at h3
      obtain ⟨t, ht⟩ := Option.isSome_iff_exists.1 h3
      exact ⟨t, ht, by simp [mkOp, hg, ht]⟩
  · rw [hc] at h2; cases h2

theorem slimL_map : ∀ (l : List Oper), (∀ o ∈ l, okOp ops N o = true) → slimL ops N l (l.map (mkOp ops))
  | [], _ => trivial
  | o :: l, h => ⟨(mkOp_slim (h o (by simp))).1, slimL_map l fun o ho => h o (by simp [ho])⟩

theorem mkD_slim (hall : ∀ o ∈ ops.toList, okOp ops N o = true) (H : List Nat) : ∀ (p : List (Tag × Nat)), dslim ops N H (mkD ops (freesOf ops H) p)
  | [] => trivial
  | (t, i) :: r => by
    unfold mkD
    split
    · rename_i o ho
      exact ⟨⟨o, ho, (mkOp_slim (hall o (by simpa using Array.mem_of_getElem? ho))).1⟩, fun e => by simp only at e; subst e; rfl, mkD_slim hall H r⟩
    · trivial

theorem mkD_held (fz : Nat → List Nat) : ∀ (p : List (Tag × Nat)) (d : DOp), d ∈ mkD ops fz p → d.tag = .held ∨ d.tag = .ins → d.idx ∈ heldOf p
  | [], d, h, _ => by simp [mkD] at h
  | (t, i) :: r, d, h, ht => by
    unfold mkD at h
    split at h
    · rcases List.mem_cons.1 h with rfl | h
      · simp only at ht
        rcases ht with rfl | rfl <;> simp [heldOf]
      · have := mkD_held fz r d h ht
        unfold heldOf at this ⊢
        rw [List.filterMap_cons]
        cases t <;> simp_all
    · cases h

theorem wipeF_none (S : List Blk) (fs : List Nat) : wipeF S (fun _ => []) fs = S := by
  unfold wipeF
  rw [show (fs.flatMap fun _ => ([] : List Nat)) = [] by simp]; rfl
theorem guardV_mono {g : Option (Nat × Bool)} {fr : List (Nat × SV)} {y y' n n' : List (Nat × SV) → Prop} (hy : ∀ fr, y fr → y' fr) (hn : ∀ fr, n fr → n' fr) (h : guardV g fr y n) : guardV g fr y' n' := by
  unfold guardV at *
  split
  · exact hy _ h
  · split
    · exact ⟨fun e => hy _ (by simp_all), fun e => hn _ (by simp_all)⟩
    · simp_all
    · simp_all

theorem planB_lt {n : Nat} : ∀ (p : List (Tag × Nat)) (listed : Array Bool), planB ops n listed p = true → ∀ x ∈ p, ∃ o, ops[x.2]? = some o
  | [], _, _, x, hx => by simp at hx
  | (t, i) :: r, listed, h, x, hx => by
    have hi : i ∈ Region.ready .any ops listed ∧ planB ops n (listed.setIfInBounds i true) r = true := by
      cases t <;> simp only [planB, Bool.and_eq_true, beq_iff_eq] at h
      · exact ⟨by simpa using h.1.1.2, h.2⟩
      · exact ⟨by rw [h.1]; simp, h.2⟩
      · exact ⟨by rw [(insOK_spec h.1).1]; simp, h.2⟩
      · exact ⟨by rw [h.1.1.1]; simp, h.2⟩
    rcases List.mem_cons.1 hx with rfl | hx
    · obtain ⟨_, oi, hoi, _⟩ := mem_ready.1 hi.1
      exact ⟨oi, hoi⟩
    · exact planB_lt r _ hi.2 x hx

theorem mkD_plan (fz : Nat → List Nat) : ∀ (p : List (Tag × Nat)), (∀ x ∈ p, ∃ o, ops[x.2]? = some o) → (mkD ops fz p).map (fun d => (d.tag, d.idx)) = p ∧ (mkD ops fz p).length = p.length
  | [], _ => ⟨rfl, rfl⟩
  | (t, i) :: r, h => by
    obtain ⟨o, ho⟩ := h (t, i) (by simp)
    simp only at ho
    have ih := mkD_plan fz r fun x hx => h x (by simp [hx])
    simp only [mkD, ho]
    exact ⟨by simp [ih.1], by simp [ih.2]⟩

end
end Go.Vc

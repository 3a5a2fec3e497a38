/- Code: what it asks of a symbolic state, and that the model runs it so. -/
import Derived.Test.YtpkkkeckefnmeaaVcO
import Derived.RangeFuncIn
namespace Go.Vc
open Go.RowKit

inductive MC where
  | skip
  | reg (ops : List MOp)
  | dreg (mask : Option (List Nat)) (ops : List DOp)
  | seq (a b : MC)
  | cond (c : Operand) (t e : MC)
  | block (id : Nat) (b : MC)
  | loop (b : MC)
  | exit (id : Nat)
  | scope (b : MC)
  | ret
  | raw (c : Code)

def quietKind : Op → Bool
  | .move _ | .assign _ | .pick .. | .load .. | .nilCheck _ | .binOp .. | .unOp .. | .convert .. | .fieldAddr .. | .indexAddr .. | .index .. | .field .. | .extract .. | .build .. | .makeFunc .. | .slice .. => true
  | .call { callee := .builtin .len, .. } | .call { callee := .builtin .min, .. } | .call { callee := .builtin .max, .. } => true
  | _ => false

def mkOp (ops : Array Oper) (o : Oper) : MOp := ⟨o.dst, o.op, match o.guard with
  | none => none
  | some (j, want) => match (ops[j]?).bind (·.dst) with
    | some t => some (t, want)
    | none => none⟩

def tailOf (ops : Array Oper) : Nat := ((List.range ops.size).find? fun n => Region.sinkB .any ops n && Region.chainB .any ops n).getD ops.size

def greedy (ops : Array Oper) (n : Nat) : Nat → Array Bool → List (Tag × Nat)
  | 0, _ => []
  | f + 1, listed =>
    let rs := Region.ready .any ops listed
    match rs.find? fun i => decide (i < n) && ((ops[i]?).map fun o => quietKind o.op).getD false && Region.free .any ops listed i with
    | some i => (.take, i) :: greedy ops n f (listed.setIfInBounds i true)
    | none => match rs with
      | [i] => (if i < n then .held else .free, i) :: greedy ops n f (listed.setIfInBounds i true)
      | _ => []

def planOf (ops : Array Oper) : List (Tag × Nat) := greedy ops (tailOf ops) ops.size (Array.replicate ops.size false)

def mkD (ops : Array Oper) : List (Tag × Nat) → List DOp
  | [] => []
  | (t, i) :: r => match ops[i]? with
    | some o => ⟨t, i, mkOp ops o⟩ :: mkD ops r
    | none => []

/-- An operation that writes memory of its own accord. -/
def writes : Op → Bool
  | .store .. | .insert .. | .mapUpdate .. => true
  | .call { callee := .builtin .append, .. } | .call { callee := .builtin .copy, .. } | .call { callee := .value _, .. } => true
  | _ => false
/-- What is to hold throughout a region: nothing left out, unless something is written ahead of its tail. -/
def maskOf (ds : List DOp) : Option (List Nat) := if ds.any fun d => (match d.tag with | .held => true | _ => false) && writes d.m.op then none else some []

def mk : Code → MC
  | .skip => .skip
  | .label _ => .skip
  | .region _ ops false => .reg (ops.toList.map (mkOp ops))
  | .region _ ops true => .dreg (maskOf (mkD ops (planOf ops))) (mkD ops (planOf ops))
  | .seq a b => .seq (mk a) (mk b)
  | .cond c t e => .cond c (mk t) (mk e)
  | .block id b => .block id (mk b)
  | .loop b => .loop (mk b)
  | .exit id => .exit id
  | .scope b => .scope (mk b)
  | .ret => .ret
  | c => .raw c

/-- The slots lie in the frame, no deferred call, the guards are slots. -/
def okOp (ops : Array Oper) (N : Nat) (o : Oper) : Bool :=
  (match o.dst with | some d => decide (d < N) | none => true) && (match o.op with | .defer _ => false | _ => true) && (match o.guard with | some (j, _) => ((ops[j]?).bind (·.dst)).isSome | none => true)

def ok (N : Nat) : Code → Bool
  | .region _ ops false => ops.toList.all (okOp ops N)
  | .region _ ops true => ops.toList.all (okOp ops N) && Region.noSelect ops && tailB ops (tailOf ops) && planB ops (tailOf ops) (Array.replicate ops.size false) (planOf ops) && (planOf ops).length == ops.size
  | .seq a b => ok N a && ok N b
  | .cond _ t e => ok N t && ok N e
  | .block _ b => ok N b
  | .loop b => ok N b
  | .scope b => ok N b
  | _ => true

def seqK (V : List (Nat × SV) → List Blk → Prop) (K : Exit → List (Nat × SV) → List Blk → Prop) : Exit → List (Nat × SV) → List Blk → Prop
  | .normal, fr, hp => V fr hp
  | e, fr, hp => K e fr hp
def blkK (id : Nat) (K : Exit → List (Nat × SV) → List Blk → Prop) : Exit → List (Nat × SV) → List Blk → Prop
  | .exit j, fr, hp => if j = id then K .normal fr hp else K (.exit j) fr hp
  | e, fr, hp => K e fr hp
def scpK (K : Exit → List (Nat × SV) → List Blk → Prop) : Exit → List (Nat × SV) → List Blk → Prop
  | .goto _, _, _ => False
  | e, fr, hp => K e fr hp
def loopK {σ : Type} (n0 : Nat) (I : σ → List (Nat × SV) × List Blk) (μ : σ → Nat) (s : σ) (K : Exit → List (Nat × SV) → List Blk → Prop) : Exit → List (Nat × SV) → List Blk → Prop
  | .normal, fr, hp => ∃ s', Le n0 fr hp (I s') ∧ μ s' < μ s
  | e, fr, hp => K e fr hp

def LoopOK (n0 : Nat) (V : List (Nat × SV) → List Blk → (Exit → List (Nat × SV) → List Blk → Prop) → Prop) (fr : List (Nat × SV)) (hp : List Blk) (K : Exit → List (Nat × SV) → List Blk → Prop) : Prop :=
  ∃ (σ : Type) (I : σ → List (Nat × SV) × List Blk) (μ : σ → Nat), (∃ s0, Le n0 fr hp (I s0)) ∧ ∀ s, V (I s).1 (I s).2 (loopK n0 I μ s K)

def wideR (r : Option Nat) : Fence := { Fence.wide with round := r }

def PostK (w0 : World) (F : HP) (n0 : Nat) (ρ0 : Nat → Nat) (N : Nat) (D : List Deferred) (K : Exit → List (Nat × SV) → List Blk → Prop) : Exit → Act → World → Prop :=
  fun e a w => ∃ fr hp, K e fr hp ∧ Good w0 F n0 ρ0 N D fr hp a w ∧ (∀ c, e ≠ .panic c) ∧ e ≠ .outgrown

def RawOK (P : Program) (n0 : Nat) (c : Code) (fr : List (Nat × SV)) (hp : List Blk) (K : Exit → List (Nat × SV) → List Blk → Prop) : Prop :=
  ∀ (w0 : World) (F : HP) (ρ0 : Nat → Nat) (N : Nat) (D : List Deferred) (r : Option Nat) (a : Act) (w : World), Good w0 F n0 ρ0 N D fr hp a w → c.wpIn (wideR r) 0 P (PostK w0 F n0 ρ0 N D K) a w

def vc (P : Program) (n0 : Nat) : MC → List (Nat × SV) → List Blk → (Exit → List (Nat × SV) → List Blk → Prop) → Prop
  | .skip, fr, hp, K => K .normal fr hp
  | .reg ops, fr, hp, K => vops P ops fr hp (K .normal)
  | .dreg (some mask) ops, fr, hp, K => vdops P (wipe hp mask) ops fr hp (K .normal)
  | .dreg none ops, fr, hp, K => ∃ mask, vdops P (wipe hp mask) ops fr hp (K .normal)
  | .seq a b, fr, hp, K => vc P n0 a fr hp (seqK (fun fr hp => vc P n0 b fr hp K) K)
  | .cond c t e, fr, hp, K => match ev fr c with
    | some (.v (.bool b)) => (b = true → vc P n0 t fr hp K) ∧ (b = false → vc P n0 e fr hp K)
    | _ => False
  | .block id b, fr, hp, K => vc P n0 b fr hp (blkK id K)
  | .loop b, fr, hp, K => LoopOK n0 (vc P n0 b) fr hp K
  | .exit id, fr, hp, K => K (.exit id) fr hp
  | .scope b, fr, hp, K => vc P n0 b fr hp (scpK K)
  | .ret, fr, hp, K => K .ret fr hp
  | .raw c, fr, hp, K => RawOK P n0 c fr hp K

section
variable {P : Program} {w0 w : World} {F : HP} {n0 N : Nat} {ρ0 ρ : Nat → Nat} {D : List Deferred} {fr : List (Nat × SV)} {hp : List Blk} {a : Act} {ops : Array Oper} {Q : Exit → Act → World → Prop}

theorem mkOp_slim {o : Oper} (h : okOp ops N o = true) : slimOf ops N o (mkOp ops o) ∧ ∀ c, o.op ≠ .defer c := by
  simp only [okOp, Bool.and_eq_true] at h
  obtain ⟨⟨h1, h2⟩, h3⟩ := h
  refine ⟨⟨rfl, rfl, fun d hd => ?_, ?_⟩, fun c hc => ?_⟩
  · rw [hd] at h1; simpa using h1
  · cases hg : o.guard with
    | none => simp [mkOp, hg]
    | some jw =>
      obtain ⟨j, want⟩ := jw
      rw [hg] at h3
      simp only at h3
      obtain ⟨t, ht⟩ := Option.isSome_iff_exists.1 h3
      exact ⟨t, ht, by simp [mkOp, hg, ht]⟩
  · rw [hc] at h2; cases h2

theorem slimL_map : ∀ (l : List Oper), (∀ o ∈ l, okOp ops N o = true) → slimL ops N l (l.map (mkOp ops))
  | [], _ => trivial
  | o :: l, h => ⟨(mkOp_slim (h o (by simp))).1, slimL_map l fun o ho => h o (by simp [ho])⟩

theorem mkD_slim (hall : ∀ o ∈ ops.toList, okOp ops N o = true) : ∀ (p : List (Tag × Nat)), dslim ops N (mkD ops p)
  | [] => trivial
  | (t, i) :: r => by
    unfold mkD
    split
    · rename_i o ho
      exact ⟨⟨o, ho, (mkOp_slim (hall o (by simpa using Array.mem_of_getElem? ho))).1⟩, mkD_slim hall r⟩
    · trivial

theorem planB_lt {n : Nat} : ∀ (p : List (Tag × Nat)) (listed : Array Bool), planB ops n listed p = true → ∀ x ∈ p, ∃ o, ops[x.2]? = some o
  | [], _, _, x, hx => by simp at hx
  | (t, i) :: r, listed, h, x, hx => by
    have hi : i ∈ Region.ready .any ops listed ∧ planB ops n (listed.setIfInBounds i true) r = true := by
      cases t <;> simp only [planB, Bool.and_eq_true, beq_iff_eq] at h
      · exact ⟨by simpa using h.1.1.2, h.2⟩
      · exact ⟨by rw [h.1]; simp, h.2⟩
      · exact ⟨by rw [h.1.1.1]; simp, h.2⟩
    rcases List.mem_cons.1 hx with rfl | hx
    · obtain ⟨_, oi, hoi, _⟩ := mem_ready.1 hi.1
      exact ⟨oi, hoi⟩
    · exact planB_lt r _ hi.2 x hx

theorem mkD_plan : ∀ (p : List (Tag × Nat)), (∀ x ∈ p, ∃ o, ops[x.2]? = some o) → (mkD ops p).map (fun d => (d.tag, d.idx)) = p ∧ (mkD ops p).length = p.length
  | [], _ => ⟨rfl, rfl⟩
  | (t, i) :: r, h => by
    obtain ⟨o, ho⟩ := h (t, i) (by simp)
    simp only at ho
    have ih := mkD_plan r fun x hx => h x (by simp [hx])
    simp only [mkD, ho]
    exact ⟨by simp [ih.1], by simp [ih.2]⟩

theorem calls_wideR {r : Option Nat} {k : Nat} {f : FuncId} {args : Array Value} {R : Ending → World → Prop} (h : Calls P f args w R) : CallsIn (wideR r) k P f args w R := callsIn_wide.2 h

theorem rows_wideR {r : Option Nat} {k : Nat} {row : String} {args : Array Value} {R : Value → World → Prop} (h : Rows P row args w R) : RowsIn (wideR r) k P row args w R :=
  fun c cs _ => let ⟨v, w', q, s⟩ := h c cs; ⟨v, w', q, stepsIn_wide.2 s⟩

theorem wpOps_in (r : Option Nat) (k : Nat) (hd : ∀ (i : Nat) (o : Oper), ops[i]? = some o → ∀ c, o.op ≠ .defer c) (hQ : ∀ a w, ¬ Q .outgrown a w) : ∀ (l : List Nat) (a : Act) (w : World), wpOps P ops Q l a w → wpOpsIn (wideR r) k P ops Q l a w := by
  have hlets : ¬ LetsOut Q := fun ⟨a, w, h⟩ => hQ a w h
  intro l
  induction l with
  | nil => exact fun a w h => h
  | cons i rest ih =>
    intro a w h
    simp only [wpOps] at h
    simp only [wpOpsIn]
    cases ho : ops[i]? with
    | none => simp only [ho] at h; exact ih a w h
    | some o =>
      simp only [ho] at h ⊢
      have hsem : o.semAt (wideR r).round a.eval = execOp a.eval o := by
        unfold Oper.semAt
        split
        · rename_i c _ hc; exact absurd hc (hd i o ho c)
        · rfl
      split
      · rename_i hw
        rw [if_pos hw] at h
        rcases h with h | ⟨_, h⟩
        · refine ⟨fun _ _ => trivial, ?_⟩
          unfold Oper.wp at h
          rw [hsem]
          generalize (execOp a.eval o).run P w = res at *
          cases res with
          | ok n w' =>
            cases n <;> simp only [Oper.upon] at h <;> simp only [Oper.uponIn] <;> first
              | exact ih _ _ h
              | exact h.elim
              | exact ⟨fun hh => by simp [wideR, Fence.wide] at hh, calls_wideR (h.mono fun e w'' he => by cases e <;> first | exact ih _ _ he | exact he)⟩
              | exact ⟨fun hh => by simp [wideR, Fence.wide] at hh, rows_wideR (h.mono fun v w'' he => ih _ _ he)⟩
          | halt x w' => cases x <;> simp only [Oper.upon] at h <;> simp only [Oper.uponIn] <;> exact h
        · exact absurd h hlets
      · rename_i hw
        rw [if_neg hw] at h
        exact ⟨fun _ _ => trivial, ih _ _ h⟩

end
end Go.Vc

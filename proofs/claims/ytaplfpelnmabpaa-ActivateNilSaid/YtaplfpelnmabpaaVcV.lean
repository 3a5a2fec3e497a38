/- Maps: keys checked and looked for. -/
import Derived.Test.YtaplfpelnmabpaaVcJ
namespace Go.Vc
open Go.RowKit
set_option linter.unusedSimpArgs false
set_option linter.unusedVariables false

section
variable {P : Program} {w : World} {ρ : Nat → Nat}

theorem mapT_spec {t kt el : TypeId} (h : mapT P t = some (kt, el)) : P.underlying t = some (.map kt el) := by
  unfold mapT at h
  split at h
  · simp only [Option.some.injEq, Prod.mk.injEq] at h; rw [← h.1, ← h.2]; assumption
  · cases h

theorem ck1_sound {t : TypeId} {s : SV} (h : ck1 P t s = true) (e : Bool) (n : Nat) : (Instr.checkKey e (n + 1) t (s.den ρ)).run P w = .ok () w := by
  cases s <;> simp only [ck1] at h <;> try cases h
  rename_i x
  cases x <;> simp only at h <;> try cases h
  all_goals
    split at h
    · rename_i hd
      simp [SV.den, Instr.checkKey, run_und hd]
    · cases h

theorem ckAll_len : ∀ {ts : List TypeId} {xs : List SV}, ckAll P ts xs = true → xs.length = ts.length
  | [], [], _ => rfl
  | [], _ :: _, h => by simp [ckAll] at h
  | _ :: _, [], h => by simp [ckAll] at h
  | t :: ts, x :: xs, h => by
    simp only [ckAll, Bool.and_eq_true] at h
    simp [ckAll_len h.2]

theorem checkFields (e : Bool) (n : Nat) (cs : Array Value) : ∀ (fs : List Field) (o : Nat) (r : List SV),
    (fs.zipIdx o).all (fun (f, i) => f.name != "_" && f.offset == i && isAggT P f.type == some false) = true →
    (∀ (j : Nat) (u : SV), r[j]? = some u → cs[o + j]? = some (u.den ρ)) → ckAll P (fs.map (·.type)) r = true →
    (forIn (m := Sem) fs PUnit.unit (fun f _ => do
      if f.name ≠ "_" then Instr.checkKey e (n + 1) f.type (← part f.type cs f.offset)
      pure (ForInStep.yield PUnit.unit))).run P w = .ok PUnit.unit w
  | [], o, r, _, _, _ => by simp
  | f :: fs, o, r, hall, hx, h => by
    cases r with
    | nil => simp [ckAll] at h
    | cons x r =>
      simp only [List.map_cons, ckAll, Bool.and_eq_true] at h
      simp only [List.zipIdx_cons, List.all_cons, Bool.and_eq_true, bne_iff_ne, beq_iff_eq] at hall
      obtain ⟨⟨⟨hn, ho⟩, hag⟩, hall⟩ := hall
      have px := run_part (w := w) hag cs f.offset (x.den ρ) (by rw [ho]; exact hx 0 x rfl)
      have ih := checkFields e n cs fs (o + 1) r (by simpa using hall) (fun j u hu => by rw [show o + 1 + j = o + (j + 1) by omega]; exact hx (j + 1) u (by simpa using hu)) h.2
      rw [List.forIn_cons]
      simp only [ne_eq, hn, not_false_eq_true, if_true, Sem.run_bind, px, Result.andThen_ok, ck1_sound (w := w) (ρ := ρ) h.1 e n, Sem.run_pure]
      simpa using ih

theorem keyOK_sound {kt : TypeId} {s : SV} (h : keyOK P kt s = true) (e : Bool) : (Instr.checkKey e 10000 kt (s.den ρ)).run P w = .ok () w := by
  unfold keyOK at h
  split at h
  · rename_i xs
    simp only [Bool.and_eq_true] at h
    obtain ⟨h1, h2⟩ := h
    unfold isStructT at h1
    split at h1
    · rename_i fs hd
      unfold eqTypes at h2
      rw [hd] at h2
      simp only at h2
      split at h2
      · rename_i ts hts
        split at hts
        · rename_i hc
          simp only [Bool.and_eq_true] at hc
          simp only [Option.some.injEq] at hts; subst hts
          have hx : ∀ (j : Nat) (u : SV), xs[j]? = some u → ((SV.denL ρ xs).toArray)[0 + j]? = some (u.den ρ) := fun j u hu => by
            rw [denL_eq]; simp [hu]
          have := checkFields (w := w) e 9998 (SV.denL ρ xs).toArray fs.toList 0 xs hc.2 hx h2
          show (Instr.checkKey e (9999 + 1) kt _).run P w = _
          simp only [SV.den]
          unfold Instr.checkKey
          simp only [Sem.run_bind, run_und hd, Result.andThen_ok]
          rw [← Array.forIn_toList]
          simp only [ne_eq, ite_not] at this ⊢
          rw [this]
          simp
        · cases hts
      · cases h2
    · cases h1
  · exact ck1_sound h e 9999

theorem keq_sound {kt : TypeId} {x y : SV} {b : Bool} (h : keq P kt x y = some b) : (Op.equal kt (x.den ρ) (y.den ρ)).run P w = .ok b w ∧ ∀ d, P.underlying kt = some d → Instr.sameNow d (x.den ρ) (y.den ρ) = none ∨ Instr.sameNow d (x.den ρ) (y.den ρ) = some b := by
  unfold keq at h
  split at h
  · rename_i xs ys
    split at h
    · rename_i ts hts
      refine ⟨(binOp_agg_sound hts h).2 w, fun d hd => .inl ?_⟩
      simp only [SV.den]
      unfold Instr.sameNow
      split <;> simp_all
    · cases h
  · rename_i hne
    clear hne
    refine ⟨(eqT_sound h 9999).2.2 w, fun d hd => ?_⟩
    cases x <;> cases y <;> simp only [eqT] at h <;> try cases h
    rename_i x y
    cases x <;> cases y <;> simp only at h <;> try cases h
    · rw [hd] at h
      split at h
      · rename_i hd'
        simp only [Option.some.injEq] at hd' h
        subst hd' h
        exact .inr rfl
      · cases h
    · rw [hd] at h
      split at h
      · rename_i k hd'
        split at h
        · rename_i hk
          simp only [Option.some.injEq] at hd' h
          subst hd' h hk
          right
          simp [SV.den, Instr.sameNow]
        · cases h
      · cases h

theorem eqT_true {t : TypeId} {x y : SV} (h : eqT P t x y = some true) : x = y := by
  cases x <;> cases y <;> simp only [eqT] at h <;> try cases h
  rename_i x y
  cases x <;> cases y <;> simp only at h <;> try cases h
  · split at h
    · simp only [Option.some.injEq, beq_iff_eq] at h; rw [h]
    · cases h
  · split at h
    · split at h
      · rename_i hk
        simp only [Option.some.injEq, beq_iff_eq] at h; rw [h, hk]
      · cases h
    · cases h
theorem eqTs_true : ∀ {ts : List TypeId} {xs ys : List SV}, eqTs P ts xs ys = some true → xs = ys
  | [], [], [], _ => rfl
  | [], [], _ :: _, h => by simp [eqTs] at h
  | [], _ :: _, _, h => by simp [eqTs] at h
  | _ :: _, [], _, h => by simp [eqTs] at h
  | _ :: _, _ :: _, [], h => by simp [eqTs] at h
  | t :: ts, x :: xs, y :: ys, h => by
    simp only [eqTs] at h
    cases h1 : eqT P t x y with
    | none => simp [h1] at h
    | some b =>
      cases h2 : eqTs P ts xs ys with
      | none => simp [h1, h2] at h
      | some c =>
        simp only [h1, h2, Option.some.injEq, Bool.and_eq_true] at h
        obtain ⟨rfl, rfl⟩ := h
        rw [eqT_true h1, eqTs_true h2]
theorem keq_true {kt : TypeId} {x y : SV} (h : keq P kt x y = some true) : x = y := by
  unfold keq at h
  split at h
  · split at h
    · rw [eqTs_true h]
    · cases h
  · exact eqT_true h
/-- A key is looked for among entries in whatever order. -/
theorem find_any {kt : TypeId} {d : TypeDesc} (hd : P.underlying kt = some d) {k : SV} : ∀ {L : List (SV × SV)} {es : List MapEntry} {i : Nat}, es.map (fun e => (e.key, e.val)) = L.map (fun e => (e.1.den ρ, e.2.den ρ)) → (∀ e ∈ L, ∃ b, keq P kt k e.1 = some b) →
    ∃ r : Option (Nat × SV), ((r = none ∧ ∀ e ∈ L, keq P kt k e.1 = some false) ∨ ∃ j e, r = some (j, e.2) ∧ e ∈ L ∧ keq P kt k e.1 = some true) ∧
      (Instr.findAsking kt (k.den ρ) es i).run P w = .ok (r.map fun x => (x.1, x.2.den ρ)) w ∧ (Instr.findNow d (k.den ρ) es i = none ∨ Instr.findNow d (k.den ρ) es i = some (r.map fun x => (x.1, x.2.den ρ)))
  | [], [], i, _, _ => ⟨none, .inl ⟨rfl, by simp⟩, by simp [Instr.findAsking], .inr (by simp [Instr.findNow])⟩
  | [], _ :: _, _, e, _ => by simp at e
  | _ :: _, [], _, e, _ => by simp at e
  | (k', v) :: L, e :: es, i, he, h => by
    simp only [List.map_cons, List.cons.injEq, Prod.mk.injEq] at he
    obtain ⟨⟨h1, h2⟩, he⟩ := he
    obtain ⟨b, hb⟩ := h (k', v) (by simp)
    obtain ⟨q1, q2⟩ := keq_sound (w := w) (ρ := ρ) hb
    have q2 := q2 d hd
    simp only at q1 q2
    rw [← h1] at q1 q2
    cases b with
    | true =>
      refine ⟨some (i, v), .inr ⟨i, (k', v), rfl, by simp, hb⟩, by simp [Instr.findAsking, q1, h2], ?_⟩
      rcases q2 with q2 | q2 <;> simp [Instr.findNow, q2, h2]
    | false =>
      obtain ⟨r, hr, ha, hn⟩ := find_any hd (i := i + 1) he (fun e he => h e (by simp [he]))
      refine ⟨r, ?_, by simp [Instr.findAsking, q1, ha], ?_⟩
      · rcases hr with ⟨h3, h4⟩ | ⟨j, e, h3, h4, h5⟩
        · exact .inl ⟨h3, fun e he => by
            rcases List.mem_cons.1 he with rfl | he
            · exact hb
            · exact h4 e he⟩
        · exact .inr ⟨j, e, h3, by simp [h4], h5⟩
      · rcases q2 with q2 | q2 <;> simp [Instr.findNow, q2, hn]

theorem findKey_any {kt : TypeId} {d : TypeDesc} (hd : P.underlying kt = some d) {k : SV} {L : List (SV × SV)} {es : List MapEntry} (he : es.map (fun e => (e.key, e.val)) = L.map (fun e => (e.1.den ρ, e.2.den ρ))) (h : ∀ e ∈ L, ∃ b, keq P kt k e.1 = some b) :
    ∃ r : Option (Nat × SV), ((r = none ∧ ∀ e ∈ L, keq P kt k e.1 = some false) ∨ ∃ j e, r = some (j, e.2) ∧ e ∈ L ∧ keq P kt k e.1 = some true) ∧ (Instr.findKey kt (k.den ρ) es).run P w = .ok (r.map fun x => (x.1, x.2.den ρ)) w := by
  obtain ⟨r, hr, ha, hn⟩ := find_any (w := w) hd (i := 0) he h
  refine ⟨r, hr, ?_⟩
  simp only [Instr.findKey, Sem.run_bind, run_und hd, Result.andThen_ok]
  rcases hn with hn | hn <;> simp [hn, ha]

theorem perm_map {α β : Type} (f : α → β) {l : List α} {m : List β} (h : m.Perm (l.map f)) : ∃ l' : List α, l'.Perm l ∧ m = l'.map f := by
  generalize hx : l.map f = x at h
  induction h generalizing l with
  | nil => exact ⟨[], by rw [List.map_eq_nil_iff.1 hx], rfl⟩
  | cons a h ih =>
    cases l with
    | nil => simp at hx
    | cons b l =>
      simp only [List.map_cons, List.cons.injEq] at hx
      obtain ⟨l', h1, h2⟩ := ih hx.2
      exact ⟨b :: l', h1.cons b, by simp [h2, hx.1]⟩
  | swap a b r =>
    match l, hx with
    | x :: y :: l, hx =>
      simp only [List.map_cons, List.cons.injEq] at hx
      exact ⟨y :: x :: l, .swap _ _ _, by simp [hx.1, hx.2.1, hx.2.2]⟩
  | trans _ _ ih1 ih2 =>
    obtain ⟨l1, h1, rfl⟩ := ih2 hx
    obtain ⟨l2, h2, rfl⟩ := ih1 rfl
    exact ⟨l2, h2.trans h1, rfl⟩

theorem run_getMap {r : Nat} {m : Array MapEntry} {c : Nat} (h : w.heap[r]? = some (.map m c)) : (getObj r).run P w = .ok (.map m c) w := by
  simp [getObj, Sem.run, h]
theorem run_setMap {r : Nat} {m : Array MapEntry} {c : Nat} (o : Obj) (h : w.heap[r]? = some (.map m c)) : (setObj r o).run P w = .ok () { w with heap := w.heap.setIfInBounds r o } := by
  simp [setObj, Sem.run, h]

end

section
variable {P : Program} {w0 w : World} {F : HP} {ρ : Nat → Nat} {fr : List (Nat × SV)} {hp : List Blk} {a : Act}

theorem Sat.openMap (s : Sat w0 (star F (hpP ρ 0 hp)) w) {n : Nat} {es : List (SV × SV)} (h : hp[n]? = some (.mapB es)) :
    ∃ (m : Array MapEntry) (c : Nat), (m.toList.map (fun e => (e.key, e.val))).Perm (es.map (fun e => (e.1.den ρ, e.2.den ρ))) ∧ w.heap[ρ n]? = some (.map m c) ∧
      Sat w0 (star (Vc.pto (ρ n) (.map m c)) (star F (hpP ρ 0 (hp.set n .any)))) w := by
  rw [hpP_take ρ 0 hp n _ h, Nat.zero_add, star_left_comm] at s
  obtain ⟨g, ⟨g1, g2, d, e, ⟨m, c, hm, hp1⟩, f⟩, ho⟩ := s.own
  have : Sat w0 (star (Vc.pto (ρ n) (.map m c)) (star F (hpP ρ 0 (hp.set n .any)))) w := ⟨s.below, g, ⟨g1, g2, d, e, hp1, f⟩, ho⟩
  exact ⟨m, c, hm, this.pto.2, this⟩
theorem Sat.shutMap {n : Nat} {es : List (SV × SV)} {m : Array MapEntry} {c : Nat} (hn : n < hp.length) (hm : (m.toList.map (fun e => (e.key, e.val))).Perm (es.map (fun e => (e.1.den ρ, e.2.den ρ))))
    (s : Sat w0 (star (Vc.pto (ρ n) (.map m c)) (star F (hpP ρ 0 (hp.set n .any)))) w) : Sat w0 (star F (hpP ρ 0 (hp.set n (.mapB es)))) w := by
  rw [hpP_put ρ 0 hp n _ hn, Nat.zero_add, star_left_comm]
  exact s.mono (star_mono (fun h hh => ⟨m, c, hm, hh⟩) (fun _ h => h))
/-- A map's entries in another order. -/
theorem Sat.permMap {n : Nat} {es es' : List (SV × SV)} (hn : n < hp.length) (hp' : es.Perm es') (s : Sat w0 (star F (hpP ρ 0 (hp.set n (.mapB es)))) w) : Sat w0 (star F (hpP ρ 0 (hp.set n (.mapB es')))) w := by
  obtain ⟨m, c, hm, _, s'⟩ := s.openMap (n := n) (es := es) (by simp [hn])
  rw [List.set_set] at s'
  have := Sat.shutMap (hp := hp) hn (hm.trans (hp'.map _)) s'
  exact this

theorem aft_newMap {K : SV → List Blk → Prop} (s : Sat w0 (star F (hpP ρ 0 hp)) w) (hsh : ∀ B ∈ hp, B.lt hp.length) (h : K (.mp hp.length) (hp ++ [.mapB []])) :
    Aft w0 F ρ hp K (.map (some w.heap.size)) { w with heap := w.heap.push (.map #[] 0) } := by
  refine ⟨upd ρ hp.length w.heap.size, .mp hp.length, _, by simp [SV.den, upd_new], upd_old _ _ _, by simp, by simp [SV.lt], fun B hB => ?_, ?_, h⟩
  · rcases List.mem_append.1 hB with h | h
    · exact Blk.lt_mono (by simp) (hsh B h)
    · simp at h; subst h; intro e he; cases he
  · rw [hpP_append, hpP_upd _ hsh]
    simp only [hpP, star_emp, Nat.zero_add, upd_new]
    have s' := s.alloc (.map #[] 0)
    rw [← star_assoc, star_comm]
    exact s'.mono (star_mono (fun h hh => ⟨#[], 0, by simp, hh⟩) (fun _ h => h))

theorem key_und {kt : TypeId} {k : SV} (hk : keyOK P kt k = true) : ∃ d, P.underlying kt = some d := by
  unfold keyOK at hk
  split at hk
  · simp only [Bool.and_eq_true] at hk
    have := hk.1
    unfold isStructT at this
    cases hu : P.underlying kt with
    | none => rw [hu] at this; cases this
    | some d => exact ⟨d, rfl⟩
  · unfold ck1 at hk
    cases hu : P.underlying kt with
    | none => rw [hu] at hk; split at hk <;> cases hk
    | some d => exact ⟨d, rfl⟩

theorem lkp_found {kt : TypeId} {k : SV} {K : Option (Nat × SV) → Prop} : ∀ {i : Nat} {L : List (SV × SV)}, lkpK P kt k K i L → (K none ∧ ∀ e ∈ L, keq P kt k e.1 = some false) ∨ ∃ j e, e ∈ L ∧ keq P kt k e.1 = some true ∧ K (some (j, e.2))
  | i, [], h => .inl ⟨h, by simp⟩
  | i, (k', v) :: L, h => by
    obtain ⟨b, hb, ht, hf⟩ := h
    cases b with
    | true => exact .inr ⟨i, (k', v), by simp, hb, ht rfl⟩
    | false =>
      rcases lkp_found (hf rfl) with ⟨h1, h2⟩ | ⟨j, e, h1, h2, h3⟩
      · exact .inl ⟨h1, fun e he => by
          rcases List.mem_cons.1 he with rfl | he
          · exact hb
          · exact h2 e he⟩
      · exact .inr ⟨j, e, by simp [h1], h2, h3⟩

theorem apart_uniq {kt : TypeId} : ∀ {L : List (SV × SV)}, keysApart P kt L → ∀ {e e' : SV × SV}, e ∈ L → e' ∈ L → keq P kt e.1 e'.1 = some true → e = e'
  | [], _, e, e', h, _, _ => by cases h
  | x :: L, ⟨h1, h2⟩, e, e', he, he', hk => by
    have hkk := keq_true hk
    rcases List.mem_cons.1 he with e1 | he1
    · rcases List.mem_cons.1 he' with e2 | he2
      · rw [e1, e2]
      · rw [e1, h1 e' he2] at hk; cases hk
    · rcases List.mem_cons.1 he' with e2 | he2
      · have := h1 e he1
        rw [e2] at hk hkk
        rw [← hkk] at this
        rw [← hkk, this] at hk; cases hk
      · exact apart_uniq h2 he1 he2 hk

theorem lookup_sound {K : SV → List Blk → Prop} (s : Sat w0 (star F (hpP ρ 0 hp)) w) (hsh : ∀ B ∈ hp, B.lt hp.length) {t kt el : TypeId} {z : Value} {k : SV} {n : Nat} {es : List (SV × SV)} {ok : Bool} (ht : mapT P t = some (kt, el)) (hz : zero1 P el = some z)
    (hn : hp[n]? = some (.mapB es)) (hk : keyOK P kt k = true) (hdf : ∀ e ∈ es, ∃ b, keq P kt k e.1 = some b) (hap : keysApart P kt es) (h : lkpK P kt k (lkK K hp ok z) 0 es) : ∃ v, (Instr.lookup t (.map (some (ρ n))) (k.den ρ) ok).run P w = .ok v w ∧ Aft w0 F ρ hp K v w := by
  have hm := mapT_spec ht
  obtain ⟨m, c, he, hw, _⟩ := s.openMap hn
  obtain ⟨d, hd⟩ := key_und hk
  obtain ⟨es', hpe, he'⟩ := perm_map _ he
  obtain ⟨r, hr, hf⟩ := findKey_any (w := w) hd he' (fun e he => hdf e (hpe.subset he))
  have hck := keyOK_sound (w := w) (ρ := ρ) hk m.isEmpty
  have hzv : ∀ w, (zeroValue el).run P w = .ok z w := fun w => by
    unfold zero1 at hz
    split at hz
    · rename_i i hi
      simp [zeroValue, typeInfo, hi, hz]
    · cases hz
  have hkk : ∀ e e' : SV × SV, e ∈ es → e' ∈ es → keq P kt k e.1 = some true → keq P kt k e'.1 = some true → e = e' := fun e e' h1 h2 h3 h4 => by
    rw [keq_true h3] at h4
    exact apart_uniq hap h1 h2 h4
  rcases hr with ⟨rfl, hall⟩ | ⟨j, e, rfl, hme, hke⟩
  · have hr : K (if ok then .tup [.v z, .v (.bool false)] else .v z) hp := by
      rcases lkp_found h with ⟨h1, _⟩ | ⟨j, e, h1, h2, _⟩
      · exact h1
      · rw [hall e (hpe.symm.subset h1)] at h2; cases h2
    cases ok with
    | true =>
      have h2 : Aft w0 F ρ hp K ((SV.tup [.v z, .v (.bool false)]).den ρ) w := ⟨ρ, _, hp, rfl, fun _ _ => rfl, Nat.le_refl _, by simp [SV.lt, SV.ltL], hsh, s, by simpa using hr⟩
      exact ⟨.tuple #[z, .bool false], by simp [Instr.lookup, run_und hm, run_getMap hw, hck, hf, hzv], h2⟩
    | false => exact ⟨_, by simp [Instr.lookup, run_und hm, run_getMap hw, hck, hf, hzv], (⟨ρ, .v z, hp, rfl, fun _ _ => rfl, Nat.le_refl _, by simp [SV.lt], hsh, s, by simpa using hr⟩ : Aft w0 F ρ hp K z w)⟩
  · have hme' : e ∈ es := hpe.subset hme
    have hr : K (if ok then .tup [e.2, .v (.bool true)] else e.2) hp := by
      rcases lkp_found h with ⟨_, h1⟩ | ⟨j, e', h1, h2, h3⟩
      · rw [h1 e hme'] at hke; cases hke
      · rw [hkk e e' hme' h1 hke h2]; exact h3
    have hv : e.2.lt hp.length := (hsh _ (List.mem_of_getElem? hn) _ hme').2
    cases ok with
    | true =>
      have h2 : Aft w0 F ρ hp K ((SV.tup [e.2, .v (.bool true)]).den ρ) w := ⟨ρ, _, hp, rfl, fun _ _ => rfl, Nat.le_refl _, by simp [SV.lt, SV.ltL, hv], hsh, s, by simpa using hr⟩
      exact ⟨.tuple #[e.2.den ρ, .bool true], by simp [Instr.lookup, run_und hm, run_getMap hw, hck, hf], h2⟩
    | false => exact ⟨e.2.den ρ, by simp [Instr.lookup, run_und hm, run_getMap hw, hck, hf], (⟨ρ, e.2, hp, rfl, fun _ _ => rfl, Nat.le_refl _, hv, hsh, s, by simpa using hr⟩ : Aft w0 F ρ hp K (e.2.den ρ) w)⟩

theorem insert_map (s : Sat w0 (star F (hpP ρ 0 hp)) w) {t kt el : TypeId} {k v : SV} {n : Nat} {es : List (SV × SV)} (ht : mapT P t = some (kt, el)) (hn : hp[n]? = some (.mapB es)) (hk : keyOK P kt k = true) (h : ∀ e ∈ es, keq P kt k e.1 = some false) :
    ∃ w', (Instr.mapUpdate t (.map (some (ρ n))) (k.den ρ) (v.den ρ)).run P w = .ok () w' ∧ Sat w0 (star F (hpP ρ 0 (hp.set n (.mapB (es ++ [(k, v)]))))) w' := by
  have hm := mapT_spec ht
  obtain ⟨m, c, he, hw, s'⟩ := s.openMap hn
  have hnl : n < hp.length := (List.getElem?_eq_some_iff.1 hn).1
  obtain ⟨d, hd⟩ := key_und hk
  obtain ⟨es', hpe, he'⟩ := perm_map _ he
  obtain ⟨r, hr, hf⟩ := findKey_any (w := w) hd he' (fun e he => ⟨false, h e (hpe.subset he)⟩)
  have hck := keyOK_sound (w := w) (ρ := ρ) hk false
  rcases hr with ⟨rfl, _⟩ | ⟨j, e, rfl, hme, hke⟩
  · refine ⟨_, by simp [Instr.mapUpdate, run_und hm, run_getMap hw, hck, hf, run_setMap _ hw]; rfl, ?_⟩
    refine Sat.shutMap hnl (m := m.push { key := k.den ρ, val := v.den ρ, born := c }) (c := c + 1) (by simp only [Array.toList_push, List.map_append, List.map_cons, List.map_nil]; exact he.append (.refl _)) ?_
    have hsz := (Array.getElem?_eq_some_iff.1 hw).1
    exact s'.put _ (fun j hj => by simp [Array.getElem?_setIfInBounds, Ne.symm hj]) (by simp) (by simp [Array.getElem?_setIfInBounds, hsz]) rfl rfl rfl
  · rw [h e (hpe.subset hme)] at hke; cases hke

theorem lt_insert (hsh : ∀ B ∈ hp, B.lt hp.length) {n : Nat} {es : List (SV × SV)} {k v : SV} (hn : hp[n]? = some (.mapB es)) (hk : k.lt hp.length) (hv : v.lt hp.length) : ∀ B ∈ hp.set n (.mapB (es ++ [(k, v)])), B.lt (hp.set n (.mapB (es ++ [(k, v)]))).length := by
  refine lt_set hsh fun e he => ?_
  rcases List.mem_append.1 he with h | h
  · exact hsh _ (List.mem_of_getElem? hn) e h
  · simp at h; subst h; exact ⟨hk, hv⟩

theorem insert_sound {K : SV → List Blk → Prop} (s : Sat w0 (star F (hpP ρ 0 hp)) w) (hsh : ∀ B ∈ hp, B.lt hp.length) {t kt el : TypeId} {k v : SV} {n : Nat} {es : List (SV × SV)} (ht : mapT P t = some (kt, el))
    (hkl : k.lt hp.length) (hvl : v.lt hp.length) (hn : hp[n]? = some (.mapB es)) (hk : keyOK P kt k = true) (h : ∀ e ∈ es, keq P kt k e.1 = some false) (hK : K undefV (hp.set n (.mapB (es ++ [(k, v)])))) : ∃ w', (Instr.mapUpdate t (.map (some (ρ n))) (k.den ρ) (v.den ρ)).run P w = .ok () w' ∧ Aft w0 F ρ hp K undef w' := by
  obtain ⟨w', hr, s'⟩ := insert_map s ht hn hk h
  exact ⟨w', hr, ρ, undefV, _, by simp [undefV, SV.den], fun _ _ => rfl, by simp, by simp [undefV, SV.lt], lt_insert hsh hn hkl hvl, s', hK⟩

end
end Go.Vc

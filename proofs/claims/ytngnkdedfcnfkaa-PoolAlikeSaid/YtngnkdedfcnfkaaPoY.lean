/-
  A starter and its workers: a bystander's step, nobody meeting it.
-/
import Derived.Test.YtngnkdedfcnfkaaPoU
namespace Go.Proofs.Ytngnkdedfcnfkaa
open Go Go.Conc
open Go.ConcN (sumTo upd sumTo_upd upd_ne upd_same ShN RelBy CTag WD WgLive)
open Go.ConcR (stA smA WgAt mk Bk)

/-- the starter is not stirred by what a bystander does, or it sleeps at the semaphore -/
def Rests (Ch : Nat → Prop) (tag : CTag) (w : World) (a : Goroutine) : Prop :=
  (tag ≠ .blk ∧ ∀ w', (∀ c, Ch c → w'.heap[c]? = w.heap[c]?) → a.again w' = a) ∨ (tag = .blk ∧ a.status = .blocked ∧ a.offers = none)

/-- what has become of the roles by a bystander's step -/
def Evo (ρ ρ' : Roles) : Prop := ∀ j, (ρ' j).map (·.1) = (ρ j).map (·.1) ∧ (∀ s, ρ' j = some (s, .open) ↔ ρ j = some (s, .open))
theorem Evo.refl (ρ : Roles) : Evo ρ ρ := fun _ => ⟨rfl, fun _ => Iff.rfl⟩
theorem Evo.trans {ρ ρ' ρ'' : Roles} (h : Evo ρ ρ') (k : Evo ρ' ρ'') : Evo ρ ρ'' := fun j => ⟨(k j).1.trans (h j).1, fun s => ((k j).2 s).trans ((h j).2 s)⟩

section
variable (P : Program) (ty : TypeId) (Wg B : Nat) (Shun : Loc → Prop) (Ch : Nat → Prop) (SR : World → World → Prop)
def Moved (tag : CTag) (ρ : Roles) (T : Trace) (gs : Array Goroutine) (w : World) (q : Nat → Nat) (sl : Option (Nat × Nat)) (a : Goroutine) (i : Nat) : Prop :=
  ∃ (gs' : Array Goroutine) (ops : Array MemOp) (ρ' : Roles) (q' : Nat → Nat) (w' : World) (tag' : CTag) (a' : Goroutine),
    runT P (crowd gs w sl) i = (.next (crowd gs' w' sl), ops) ∧ gs'.size = gs.size ∧ gs'[0]? = some a' ∧ ((a' = a ∧ tag' = tag) ∨ (tag = .blk ∧ tag' = .w3 ∧ a' = { a with status := .running })) ∧ SR w w' ∧ (∀ c, Ch c → w'.heap[c]? = w.heap[c]?) ∧
      Hub P ty Wg B Shun Ch SR tag' ρ' (T ++ ops) gs' w' q' ∧ Deaf (T ++ ops) 0 = Deaf T 0 ∧ Evo ρ ρ' ∧ Lt2 (meas gs.size ρ' q') (meas gs.size ρ q) ∧
      (∀ j, j ≠ i → q' j = q j) ∧ (q' i = 0 → ∀ s, ρ i = some (s, .open) → offersAt a s.chan (!s.isSend) = [])
end

section
variable {P : Program} {ty : TypeId} {Wg B : Nat} {Shun : Loc → Prop} {Ch : Nat → Prop} {SR : World → World → Prop} {tag : CTag} {ρ : Roles} {T : Trace} {gs : Array Goroutine} {w : World} {q : Nat → Nat}

/-- the same spot, at a later stage -/
theorem NewRole.same (C : Hub P ty Wg B Shun Ch SR tag ρ T gs w q) {i : Nat} {s : Spot} {st st' : Stage} {w' : World} (hi : ρ i = some (s, st)) (hK : s.K w') (hc : w'.heap[s.chan]? = w.heap[s.chan]?)
    (hst : st' = st ∨ ∃ m d, st' = .wk m d) (hcalm : st' = .open ∨ (∀ w w', Aside Wg w w' → WgLive ty Wg w' → SR w w')) : NewRole ty Wg B Ch SR ρ i w' (some (s, st')) := by
  refine ⟨by rw [hi]; rfl, fun s' st'' e => ?_, fun s' e => ?_, fun s' e => ?_, fun s' st'' j s₂ st₂ e hj h hs => ?_, fun s' st'' j s₂ st₂ e hj h => ?_, ?_⟩
  · obtain ⟨rfl, rfl⟩ := Prod.mk.inj (Option.some.inj e)
    exact ⟨C.wf i s st hi, hK⟩
  · obtain ⟨rfl, rfl⟩ := Prod.mk.inj (Option.some.inj e)
    rcases hst with rfl | ⟨_, _, h⟩
    · rw [hc]; exact C.chans i s hi
    · cases h
  · obtain ⟨rfl, rfl⟩ := Prod.mk.inj (Option.some.inj e)
    rcases hst with rfl | ⟨_, _, h⟩
    · rw [hc]; exact C.shut i s hi
    · cases h
  · obtain ⟨rfl, rfl⟩ := Prod.mk.inj (Option.some.inj e)
    rcases hs with hs | hs
    · exact C.inj i j s s₂ st st₂ hi h (fun z => hj z.symm) hs
    · exact fun z => C.inj j i s₂ s st₂ st h hi hj hs z.symm
  · obtain ⟨rfl, rfl⟩ := Prod.mk.inj (Option.some.inj e)
    exact ⟨C.cross i j s s₂ st st₂ hi h (fun z => hj z.symm), C.cross j i s₂ s st₂ st h hi hj⟩
  · rcases hcalm with rfl | h
    · exact .inl fun s' st'' e => by obtain ⟨rfl, rfl⟩ := Prod.mk.inj (Option.some.inj e); rfl
    · exact .inr h
theorem NewRole.none {i : Nat} {w' : World} (hi : ρ i = none) : NewRole ty Wg B Ch SR ρ i w' none :=
  ⟨by rw [hi], by simp, by simp, by simp, by simp, by simp, .inl (by simp)⟩

/-- a step that is an own one of a bystander's -/
theorem Hub.by_go (C : Hub P ty Wg B Shun Ch SR tag ρ T gs w q) {a : Goroutine} (ha : gs[0]? = some a) (hA : Rests Ch tag w a) {i : Nat} {g g' : Goroutine} {w' : World} {es : Array Event} {sl : Option (Nat × Nat)} {o' : Option (Spot × Stage)} {n' : Nat}
    (hpos : 0 < i) (hi : gs[i]? = some g) (hgo : stepG P false g w = .go g' w' es)
    (hrole : RoleAt P ty Wg B (T ++ MemOp.ofEvents i g.frame.fn g.frame.place es) w' i n' g' o') (hnew : NewRole ty Wg B Ch SR ρ i w' o') (hevo : Evo ρ (upd ρ i o'))
    (hw : ∀ j s st, j ≠ i → ρ j = some (s, st) → s.K w' ∧ SameO s.Own w w' ∧ w'.heap[s.C]? = w.heap[s.C]?) (hCh : ∀ c, Ch c → w'.heap[c]? = w.heap[c]?) (hSR : SR w w')
    (hpast : PT Wg Shun (MemOf ρ) (RdOf ρ) (OwOf ρ) w'.heap.size (T ++ MemOp.ofEvents i g.frame.fn g.frame.place es))
    (hmode : ∀ tag', (tag' = tag ∨ (tag = .blk ∧ tag' = .w3)) → (mayWake P g = true → g'.status = .running → tag' ≠ .blk) → ∃ st sm, WgAt ty Wg w' st sm ∧ Go.ConcN.Mode gs.size (stg (upd ρ i o')) tag' st sm)
    (hlt : rank o' < rank (ρ i) ∨ (rank o' = rank (ρ i) ∧ n' < q i)) (hn0 : n' = 0 → ∀ s, ρ i ≠ some (s, .open)) : Moved P ty Wg B Shun Ch SR tag ρ T gs w q sl a i := by
  have hil : i < gs.size := (Array.getElem?_eq_some_iff.1 hi).1
  have hi0 : (i == 0) = false := by simp; omega
  have hops : ∀ op ∈ MemOp.ofEvents i g.frame.fn g.frame.place es, op.g = i := fun op hop => by obtain ⟨e, _, rfl⟩ := Go.Conc.mem_ofEvents hop; rfl
  have hfix : ∀ x y, 0 < x → gs[x]? = some y → woken P g g' w' y = y := fun x y hx hy => woken_of_again (C.fixed hx hy (fun j s h => hCh _ (C.wf j s _ h).chan))
  have hother : ∀ x, 0 < x → x ≠ i → ((gs.map (woken P g g' w')).setIfInBounds i g')[x]? = gs[x]? := by
    intro x hx hne
    rw [Array.getElem?_setIfInBounds_ne (fun e => hne e.symm), Array.getElem?_map]
    cases e : gs[x]? with
    | none => rfl
    | some y => simp [hfix x y hx e]
  have hself : ((gs.map (woken P g g' w')).setIfInBounds i g')[i]? = some g' := Array.getElem?_setIfInBounds_self_of_lt (by simpa using hil)
  have h0 : ((gs.map (woken P g g' w')).setIfInBounds i g')[0]? = some (woken P g g' w' a) := by
    rw [Array.getElem?_setIfInBounds_ne (by omega), Array.getElem?_map, ha]; rfl
  have key : ∀ tag' a', woken P g g' w' a = a' → ((a' = a ∧ tag' = tag) ∨ (tag = .blk ∧ tag' = .w3 ∧ a' = { a with status := .running })) → (mayWake P g = true → g'.status = .running → tag' ≠ .blk) → Moved P ty Wg B Shun Ch SR tag ρ T gs w q sl a i := by
    intro tag' a' ha' hcase hm
    refine ⟨_, _, upd ρ i o', upd q i n', w', tag', a', runT_crowd_go (sl := sl) hi (by rw [hi0]; exact hgo), by simp, by rw [h0, ha'], hcase, hSR, hCh, ?_, Deaf_other T (by omega) _ hops, hevo, meas_lt hil hlt, fun j hj => upd_ne q n' hj, fun h0 s h => absurd h (hn0 (by rw [upd_same] at h0; exact h0) s)⟩
    exact C.put hpos hil (by simp) hother hself (fun op hop => .inl (hops op hop)) hrole hnew (fun j s st hj h => ⟨(hw j s st hj h).1, (hw j s st hj h).2.1, (hw j s st hj h).2.2, fun cl k hk => ⟨k, by rw [hCh _ (C.wf j s _ h).chan]; exact hk⟩⟩) hpast
      (hmode tag' (hcase.elim (fun x => .inl x.2) (fun x => .inr ⟨x.1, x.2.1⟩)) hm)
  rcases hA with ⟨hb, hag⟩ | ⟨rfl, hs, ho⟩
  · exact key tag a (woken_of_again (hag w' hCh)) (.inl ⟨rfl, rfl⟩) (fun _ _ => hb)
  · by_cases hc : (mayWake P g && g'.status != .blocked && g'.status != .waiting) = true
    · refine key .w3 { a with status := .running } ?_ (.inr ⟨rfl, rfl, rfl⟩) (fun _ _ => by simp)
      unfold woken
      rw [if_pos hc]
      simp [Goroutine.again, hs, ho]
    · refine key .blk a ?_ (.inl ⟨rfl, rfl⟩) (fun hm hr => absurd (by rw [hm, hr]; rfl) hc)
      unfold woken
      rw [if_neg hc]

/-- what turns the group's block alone turns nobody else's -/
theorem Hub.kept_wg (E : Env ty Wg B Ch SR) (C : Hub P ty Wg B Shun Ch SR tag ρ T gs w q) {w' : World} (h : Aside Wg w w') : Kept w w' :=
  kept_off (S := (· = Wg)) h.block (fun b hb arr e => by
    subst hb
    obtain ⟨st, sm, h1, _⟩ := C.mode
    have h2 : w.heap[b]? = some (.cells #[_, _] ty) := h1
    rw [h2] at e
    exact E.ty9 (by cases e; rfl)) (Nat.le_of_eq h.size.symm)
theorem Hub.off_wg (E : Env ty Wg B Ch SR) (C : Hub P ty Wg B Shun Ch SR tag ρ T gs w q) {w' : World} (h : Aside Wg w w') :
    (∀ j s st, ρ j = some (s, st) → s.K w' ∧ SameO s.Own w w' ∧ w'.heap[s.C]? = w.heap[s.C]?) ∧ (∀ c, Ch c → w'.heap[c]? = w.heap[c]?) := by
  refine ⟨fun j s st hj => ?_, fun c hc => h.block c (fun e => E.chWg (e ▸ hc))⟩
  have W := C.wf j s st hj
  refine ⟨W.stabK _ _ (C.keep j s st hj) (fun a ha => same_block (h.block _ (W.depCh a ha).2)) (fun b hb => h.block b (W.depBCh b hb).2), ⟨fun a ha => same_block (h.block _ (W.ownCh a ha).2.1), C.kept_wg E h⟩, h.block _ (W.depBCh _ W.seeC).2⟩

/-- a worker's move turns its own cells alone -/
theorem Hub.off_move (C : Hub P ty Wg B Shun Ch SR tag ρ T gs w q) {i : Nat} {s : Spot} {st : Stage} (hi : ρ i = some (s, st)) {w' : World} (h : s.Move w w') :
    (∀ j s' st', j ≠ i → ρ j = some (s', st') → s'.K w' ∧ SameO s'.Own w w' ∧ w'.heap[s'.C]? = w.heap[s'.C]?) ∧ s.K w' ∧ (∀ c, Ch c → w'.heap[c]? = w.heap[c]?) ∧ w'.heap[Wg]? = w.heap[Wg]? ∧ SR w w' := by
  have W := C.wf i s st hi
  refine ⟨fun j s' st' hj hj' => ?_, W.moveK _ _ (C.keep i s st hi) h, fun c hc => W.moveB _ _ h c (.inr (.inl hc)) (fun a ha e => (W.ownCh a ha).1 (e ▸ hc)), W.moveB _ _ h Wg (.inr (.inr rfl)) (fun a ha e => (W.ownCh a ha).2.1 e), W.moveSR _ _ h⟩
  have W' := C.wf j s' st' hj'
  have hcr := C.cross i j s s' st st' hi hj' (fun e => hj e.symm)
  have hlow := W'.lowK w (C.keep j s' st' hj')
  have hb : ∀ b, s'.DepB b → w'.heap[b]? = w.heap[b]? := fun b hb => W.moveB _ _ h b (.inl (hlow.2 b hb)) (fun a ha e => hcr a ha (e ▸ hb))
  refine ⟨W'.stabK _ _ (C.keep j s' st' hj') (fun a ha => W.moveC _ _ h a ⟨hlow.1 a (.inl ha), fun ho => ?_⟩) hb, ⟨fun a ha => W.moveC _ _ h a ⟨hlow.1 a (.inr ha), fun ho => ?_⟩, W.moveKept _ _ h⟩, hb _ W'.seeC⟩
  · exact (C.lies.excl i j (.cell a) ⟨s, st, a, hi, rfl, ho⟩ (fun e => hj e.symm)).2 ⟨s', st', a, hj', rfl, ha⟩
  · exact (C.lies.excl i j (.cell a) ⟨s, st, a, hi, rfl, ho⟩ (fun e => hj e.symm)).1 ⟨s', st', a, hj', rfl, ha⟩

theorem evo_same {i : Nat} {s : Spot} {st st' : Stage} (hi : ρ i = some (s, st)) (h : st' = st ∨ (st ≠ .open ∧ st' ≠ .open)) : Evo ρ (upd ρ i (some (s, st'))) := by
  intro j
  by_cases e : j = i
  · subst e
    rw [upd_same, hi]
    refine ⟨rfl, fun s' => ?_⟩
    rcases h with rfl | ⟨h1, h2⟩
    · exact Iff.rfl
    · simp [h1, h2]
  · rw [upd_ne ρ _ e]; exact ⟨rfl, fun _ => Iff.rfl⟩
theorem evo_none {i : Nat} (hi : ρ i = none) : Evo ρ (upd ρ i none) := by
  intro j
  by_cases e : j = i
  · subst e; rw [upd_same, hi]; exact ⟨rfl, fun _ => Iff.rfl⟩
  · rw [upd_ne ρ _ e]; exact ⟨rfl, fun _ => Iff.rfl⟩

/-- the way is gone on: the mode stands -/
theorem Hub.mode_same (C : Hub P ty Wg B Shun Ch SR tag ρ T gs w q) {i : Nat} {o' : Option (Spot × Stage)} {w' : World} (hst : stgO o' = stgO (ρ i)) (hwg : w'.heap[Wg]? = w.heap[Wg]?) (tag' : CTag) (h : tag' = tag ∨ (tag = .blk ∧ tag' = .w3)) :
    ∃ st sm, WgAt ty Wg w' st sm ∧ Go.ConcN.Mode gs.size (stg (upd ρ i o')) tag' st sm := by
  obtain ⟨st, sm, h1, h2⟩ := C.mode
  refine ⟨st, sm, h1.of_block hwg, ?_⟩
  have := (h2.same (i := i) 0 0).retag h
  rw [stg_upd, hst]
  rw [stg_eq] at this
  exact this

theorem evP_work {i : Nat} {s : Spot} {st : Stage} (hi : ρ i = some (s, st)) {fn : FuncId} {pos : String} {es : Array Event} {M : Nat} (hM : ∀ a, s.Dep a ∨ s.Own a → a.block < M) (h : ∀ e ∈ es, EvP s B e) :
    (∀ op ∈ MemOp.ofEvents i fn pos es, op.g = i) ∧ (∀ op ∈ MemOp.ofEvents i fn pos es, ∀ b, op.act.touch? = some b → (b.write = false ∧ b.kind = .plain ∧ RdOf ρ i b.loc) ∨ (b.kind = .plain ∧ OwOf ρ i b.loc) ∨ (ShN Wg b.loc ∧ b.kind = .atomic)) ∧
      (∀ op ∈ MemOp.ofEvents i fn pos es, op.act.low M) ∧ (∀ op ∈ MemOp.ofEvents i fn pos es, op.act ≠ .mark (.release (stA Wg))) ∧ ∀ t : Trace, Deaf (t ++ MemOp.ofEvents i fn pos es) i = Deaf t i := by
  refine ⟨fun op hop => by obtain ⟨e, _, rfl⟩ := Go.Conc.mem_ofEvents hop; rfl, fun op hop b hb => ?_, fun op hop => ?_, fun op hop => ?_, fun t => ?_⟩
  · obtain ⟨e, he, rfl⟩ := Go.Conc.mem_ofEvents hop
    obtain ⟨a, wr, rfl, _, hc⟩ := h e he
    simp only [ofEvent_cell0, MemAct.touch?, Option.some.injEq] at hb
    subst hb
    rcases hc with ⟨rfl, hD⟩ | hO
    · exact .inl ⟨rfl, rfl, s, st, a, hi, rfl, hD⟩
    · exact .inr (.inl ⟨rfl, s, st, a, hi, rfl, hO⟩)
  · obtain ⟨e, he, rfl⟩ := Go.Conc.mem_ofEvents hop
    obtain ⟨a, wr, rfl, hB, hc⟩ := h e he
    rw [ofEvent_cell0]; exact hM a (hc.imp (·.2) id)
  · obtain ⟨e, he, rfl⟩ := Go.Conc.mem_ofEvents hop
    obtain ⟨a, wr, rfl, hB, _⟩ := h e he
    rw [ofEvent_cell0]; simp
  · rw [Deaf_own]
    exact deafBehind_still (fun e he => by obtain ⟨a, wr, rfl, _, _⟩ := h e he; exact ⟨by simp, by simp⟩) _

theorem bk_work (hW : Wg < B) {i : Nat} {fn : FuncId} {pos : String} {es : Array Event} (h : ∀ e ∈ es, Bk Wg e) :
    (∀ op ∈ MemOp.ofEvents i fn pos es, op.g = i) ∧ (∀ op ∈ MemOp.ofEvents i fn pos es, ∀ b, op.act.touch? = some b → (b.write = false ∧ b.kind = .plain ∧ RdOf ρ i b.loc) ∨ (b.kind = .plain ∧ OwOf ρ i b.loc) ∨ (ShN Wg b.loc ∧ b.kind = .atomic)) ∧
      (∀ op ∈ MemOp.ofEvents i fn pos es, op.act.low B) ∧ (∀ op ∈ MemOp.ofEvents i fn pos es, op.act ≠ .mark (.release (stA Wg))) := by
  refine ⟨fun op hop => by obtain ⟨e, _, rfl⟩ := Go.Conc.mem_ofEvents hop; rfl, fun op hop b hb => ?_, fun op hop => ?_, Go.ConcN.norel_of (Go.ConcN.norel_of_Bk h)⟩
  · obtain ⟨e, he, rfl⟩ := Go.Conc.mem_ofEvents hop
    rcases h e he with h1 | h1 | ⟨a, wr, rfl, ha⟩
    · simp only [Go.ConcR.ofEvent_loc_mark h1] at hb; cases hb
    · simp only [Go.ConcR.ofEvent_loc_mark h1] at hb; cases hb
    · simp only [Go.ConcR.ofEvent_cell, MemAct.touch?, Option.some.injEq] at hb
      subst hb
      exact .inr (.inr ⟨⟨a, rfl, ha⟩, by simp⟩)
  · obtain ⟨e, he, rfl⟩ := Go.Conc.mem_ofEvents hop
    rcases h e he with h1 | h1 | ⟨a, wr, rfl, ha⟩
    · rw [Go.ConcR.ofEvent_loc_mark h1]; trivial
    · rw [Go.ConcR.ofEvent_loc_mark h1]; trivial
    · rw [Go.ConcR.ofEvent_cell]
      show a.block < B
      omega
end

end Go.Proofs.Ytngnkdedfcnfkaa

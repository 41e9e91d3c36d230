/-
  A starter and its workers: the starter's own steps, its walk, its turn.
-/
import Derived.Test.YtngnkdedfcnfkaaPoV
namespace Go.Proofs.Ytngnkdedfcnfkaa
open Go Go.Conc
open Go.ConcN (sumTo upd sumTo_upd upd_ne upd_same ShN RelBy CTag WD WgLive)
open Go.ConcR (stA smA WgAt)

theorem lt2_trans' {a b c : Nat × Nat} (h : Lt2 a b) (h' : Lt2 b c) : Lt2 a c := Go.ConcN.lt2_trans h h'
/-- nothing has happened, or the measure has fallen -/
def LeH (N : Nat) (ρ' : Roles) (q' : Nat → Nat) (ρ : Roles) (q : Nat → Nat) : Prop := (ρ' = ρ ∧ q' = q) ∨ Lt2 (meas N ρ' q') (meas N ρ q)
theorem LeH.refl (N : Nat) (ρ : Roles) (q : Nat → Nat) : LeH N ρ q ρ q := .inl ⟨rfl, rfl⟩
theorem LeH.trans {N : Nat} {ρ ρ' ρ'' : Roles} {q q' q'' : Nat → Nat} (h : LeH N ρ'' q'' ρ' q') (k : LeH N ρ' q' ρ q) : LeH N ρ'' q'' ρ q := by
  rcases h with ⟨rfl, rfl⟩ | h
  · exact k
  · rcases k with ⟨rfl, rfl⟩ | k
    · exact .inr h
    · exact .inr (lt2_trans' h k)
theorem LeH.lt {N : Nat} {ρ ρ' : Roles} {q q' : Nat → Nat} {μ : Nat × Nat} (h : LeH N ρ' q' ρ q) (k : Lt2 (meas N ρ q) μ) : Lt2 (meas N ρ' q') μ := by
  rcases h with ⟨rfl, rfl⟩ | h
  · exact k
  · exact lt2_trans' h k

theorem runs_lex {P : Program} {Inv : Nat × Nat → Machine → Trace → Prop} {Done : Machine → Trace → Prop}
    (step : ∀ μ m t, Inv μ m t → Done m t ∨ ∃ m' ops μ', stepT P m = (.next m', ops) ∧ Lt2 μ' μ ∧ Inv μ' m' (t ++ ops)) :
    ∀ μ m t, Inv μ m t → ∃ N m' t', runNT P N m t = (.next m', t') ∧ Done m' t' := by
  intro μ
  induction μ using (Prod.lex Nat.lt_wfRel Nat.lt_wfRel).wf.induction with
  | _ μ ih =>
    intro m t h
    rcases step μ m t h with hd | ⟨m', ops, μ', hs, hlt, hI⟩
    · exact ⟨0, m, t, rfl, hd⟩
    · obtain ⟨N, m'', t'', hr, hd⟩ := ih μ' hlt m' (t ++ ops) hI
      exact ⟨N + 1, m'', t'', by simp only [runNT, hs]; exact hr, hd⟩

theorem Evo.spot {ρ ρ' : Roles} (h : Evo ρ ρ') {j : Nat} {s : Spot} {st' : Stage} (e : ρ' j = some (s, st')) : ∃ st, ρ j = some (s, st) := by
  have := (h j).1
  rw [e] at this
  cases hj : ρ j with
  | none => rw [hj] at this; cases this
  | some x =>
    rw [hj] at this
    simp only [Option.map_some, Option.some.injEq] at this
    exact ⟨x.2, by rw [this]⟩
theorem Evo.spot' {ρ ρ' : Roles} (h : Evo ρ ρ') {j : Nat} {s : Spot} {st : Stage} (e : ρ j = some (s, st)) : ∃ st', ρ' j = some (s, st') := by
  have := (h j).1
  rw [e] at this
  cases hj : ρ' j with
  | none => rw [hj] at this; cases this
  | some x =>
    rw [hj] at this
    simp only [Option.map_some, Option.some.injEq] at this
    exact ⟨x.2, by rw [← this]⟩
theorem Evo.eq_of_open {ρ ρ' : Roles} (h : Evo ρ ρ') (ho : ∀ i s st, ρ i = some (s, st) → st = .open) : ρ' = ρ := by
  funext j
  cases e : ρ j with
  | none =>
    have := (h j).1
    rw [e] at this
    cases hj : ρ' j with
    | none => rfl
    | some x => rw [hj] at this; cases this
  | some x =>
    obtain ⟨s, st⟩ := x
    obtain rfl := ho j s st e
    exact ((h j).2 s).2 e

/-- what the starter may list: a shunned place not plainly; what a worker reads it does not write; what is a worker's own it leaves alone -/
def EvM (Wg B : Nat) (Shun : Loc → Prop) (ρ : Roles) (e : Event) : Prop :=
  (∀ b, (MemAct.ofEvent e).touch? = some b → (Shun b.loc → b.kind ≠ .plain) ∧ ∀ i s st a, ρ i = some (s, st) → b.loc = .cell a → (s.Dep a → b.write = false) ∧ ¬ s.Own a) ∧ (Wg < B → (MemAct.ofEvent e).low B) ∧ e.loc ≠ .mark (.release (stA Wg))
def Unmarked (e : Event) : Prop := e.loc ≠ .mark .disable ∧ e.loc ≠ .mark .enable

/-- the starter's guarantee, the group's block apart -/
structure DM0 (Wg B : Nat) (Shun : Loc → Prop) (ρ : Roles) (w w' : World) (es : Array Event) : Prop where
  cells : ∀ i s st, ρ i = some (s, st) → Same s.Dep w w' ∧ SameO s.Own w w' ∧ (∀ b, s.DepB b → w'.heap[b]? = w.heap[b]?)
  chans : ∀ i s st, ρ i = some (s, st) → w'.heap[s.chan]? = w.heap[s.chan]?
  ev : ∀ e ∈ es, EvM Wg w'.heap.size Shun ρ e
  grow : w.heap.size ≤ w'.heap.size
/-- the starter's guarantee -/
structure DM (Wg B : Nat) (Shun : Loc → Prop) (ρ : Roles) (w w' : World) (es : Array Event) : Prop extends DM0 Wg B Shun ρ w w' es where
  wg : w'.heap[Wg]? = w.heap[Wg]?

theorem EvM.evo {Wg B : Nat} {Shun : Loc → Prop} {ρ ρ' : Roles} {e : Event} (h : Evo ρ ρ') (he : EvM Wg B Shun ρ e) : EvM Wg B Shun ρ' e :=
  ⟨fun b hb => ⟨(he.1 b hb).1, fun i s _ a hi hl => let ⟨st, hi'⟩ := h.spot hi; (he.1 b hb).2 i s st a hi' hl⟩, he.2⟩
theorem DM0.evo {Wg B : Nat} {Shun : Loc → Prop} {ρ ρ' : Roles} {w w' : World} {es : Array Event} (h : Evo ρ ρ') (d : DM0 Wg B Shun ρ w w' es) : DM0 Wg B Shun ρ' w w' es :=
  ⟨fun i s _ hi => let ⟨st, hi'⟩ := h.spot hi; d.cells i s st hi', fun i s _ hi => let ⟨st, hi'⟩ := h.spot hi; d.chans i s st hi', fun e he => (d.ev e he).evo h, d.grow⟩
theorem DM.evo {Wg B : Nat} {Shun : Loc → Prop} {ρ ρ' : Roles} {w w' : World} {es : Array Event} (h : Evo ρ ρ') (d : DM Wg B Shun ρ w w' es) : DM Wg B Shun ρ' w w' es := ⟨d.toDM0.evo h, d.wg⟩

section
variable {P : Program} {ty : TypeId} {Wg B : Nat} {Shun : Loc → Prop} {Ch : Nat → Prop} {SR : World → World → Prop} {tag : CTag} {ρ : Roles} {T : Trace} {gs : Array Goroutine} {w : World} {q : Nat → Nat}

theorem evM_ops (hW : Wg < B) {fn : FuncId} {pos : String} {es : Array Event} (he : ∀ e ∈ es, EvM Wg B Shun ρ e) :
    (∀ op ∈ MemOp.ofEvents 0 fn pos es, op.g = 0) ∧ (∀ op ∈ MemOp.ofEvents 0 fn pos es, ∀ b, op.act.touch? = some b → (Shun b.loc → b.kind ≠ .plain) ∧ (∀ g, MemOf ρ g → RdOf ρ g b.loc → b.write = false) ∧ (∀ g, MemOf ρ g → ¬ OwOf ρ g b.loc)) ∧
      (∀ op ∈ MemOp.ofEvents 0 fn pos es, op.act.low B) ∧ (∀ op ∈ MemOp.ofEvents 0 fn pos es, op.act ≠ .mark (.release (stA Wg))) :=
  ⟨fun op hop => by obtain ⟨e, _, rfl⟩ := Go.Conc.mem_ofEvents hop; rfl, fun op hop b hb => by
      obtain ⟨e, h, rfl⟩ := Go.Conc.mem_ofEvents hop
      refine ⟨((he e h).1 b hb).1, fun g _ ⟨s, st, a, h1, h2, h3⟩ => (((he e h).1 b hb).2 g s st a h1 h2).1 h3, fun g _ ⟨s, st, a, h1, h2, h3⟩ => (((he e h).1 b hb).2 g s st a h1 h2).2 h3⟩,
    fun op hop => by obtain ⟨e, h, rfl⟩ := Go.Conc.mem_ofEvents hop; exact (he e h).2.1 hW, Go.ConcN.norel_of fun e h => (he e h).2.2⟩

/-- the starter's own step -/
theorem Hub.own (C : Hub P ty Wg B Shun Ch SR tag ρ T gs w q) {a a' : Goroutine} {w' : World} {es : Array Event} {tag' : CTag} (ha : gs[0]? = some a) (hd : DM0 Wg B Shun ρ w w' es) (hmode : ∃ st sm, WgAt ty Wg w' st sm ∧ Go.ConcN.Mode gs.size (stg ρ) tag' st sm) :
    Hub P ty Wg B Shun Ch SR tag' ρ (T ++ MemOp.ofEvents 0 a.frame.fn a.frame.place es) ((gs.map (woken P a a' w')).setIfInBounds 0 a') w' q ∧ ((gs.map (woken P a a' w')).setIfInBounds 0 a')[0]? = some a' := by
  have hlt : 0 < gs.size := (Array.getElem?_eq_some_iff.1 ha).1
  have hlive : WgLive ty Wg w' := let ⟨st, sm, h, _⟩ := hmode; ⟨st, sm, h⟩
  obtain ⟨hops, hs, hl, hn⟩ := evM_ops (live_lt hlive) (fn := a.frame.fn) (pos := a.frame.place) hd.ev
  have hK : ∀ i s st, ρ i = some (s, st) → s.K w' := fun i s st h => (C.wf i s st h).stabK _ _ (C.keep i s st h) (hd.cells i s st h).1 (hd.cells i s st h).2.2
  refine ⟨⟨fun x y hx hy => ?_, hK, fun i s h => by rw [hd.chans i s _ h]; exact C.chans i s h, fun i s h => by rw [hd.chans i s _ h]; exact C.shut i s h, C.inj, C.wf, C.cross, C.zero, fun j hj => ?_, (C.past.mono hd.grow).appMain hops hs C.lies hl hn, C.lies, by simpa using hmode, C.calm⟩, Array.getElem?_setIfInBounds_self_of_lt (by simpa using hlt)⟩
  · rw [Array.getElem?_setIfInBounds_ne (by omega), Array.getElem?_map] at hy
    obtain ⟨y₀, hy₀, rfl⟩ := Option.map_eq_some_iff.1 hy
    rw [woken_of_again (C.fixed hx hy₀ (fun i s h => hd.chans i s _ h))]
    exact (C.role x y₀ hx hy₀).rely (Ch := Ch) (SR := SR) (fun op hop z => by have := hops op hop; omega) (fun s st h => ⟨C.wf x s st h, hK x s st h, (hd.cells x s st h).2.1, (hd.cells x s st h).2.2 _ (C.wf x s st h).seeC⟩) (fun _ => hlive)
  · simp only [Array.size_setIfInBounds, Array.size_map] at hj
    have := C.above j hj
    exact ⟨by rw [Deaf_other T (g' := 0) (by omega) _ hops]; exact this.1, this.2⟩

theorem Hub.mode_at (C : Hub P ty Wg B Shun Ch SR tag ρ T gs w q) {w' : World} (h : w'.heap[Wg]? = w.heap[Wg]?) : ∃ st sm, WgAt ty Wg w' st sm ∧ Go.ConcN.Mode gs.size (stg ρ) tag st sm := by
  obtain ⟨st, sm, h1, h2⟩ := C.mode
  exact ⟨st, sm, h1.of_block h, h2⟩

theorem rests_running {a : Goroutine} (ht : tag ≠ .blk) (h : a.status = .running) : Rests Ch tag w a := .inl ⟨ht, fun w' _ => again_of_running (.inl h) w'⟩

/-- ████ THE STARTER's WALK, ON WHATEVER TAPE, beside its workers. ████ -/
theorem Hub.hold_walk (E : Env ty Wg B Ch SR) (hN : gs.size + 1 < 2147483648) (ht : tag ≠ .blk) {D : World → World → Array Event → Prop} {Stop : Goroutine → World → Prop} (hD : ∀ w w' es, D w w' es → DM Wg B Shun ρ w w' es ∧ ∀ e ∈ es, Unmarked e)
    {n d0 : Nat} {a : Goroutine} {sl : Option (Nat × Nat)} (ha : gs[0]? = some a) (C : Hub P ty Wg B Shun Ch SR tag ρ T gs w q) (hd0 : Deaf T 0 = d0) (hG : Goes P true SR D Stop n a w) :
    ∃ (N : Nat) (gs' : Array Goroutine) (a' : Goroutine) (w' : World) (sl' : Option (Nat × Nat)) (T' : Trace) (q' : Nat → Nat) (ρ' : Roles),
      runNT P N (crowd gs w sl) T = (.next (crowd gs' w' sl'), T') ∧ gs'.size = gs.size ∧ gs'[0]? = some a' ∧ Stop a' w' ∧ Hub P ty Wg B Shun Ch SR tag ρ' T' gs' w' q' ∧ Deaf T' 0 = d0 ∧ Evo ρ ρ' ∧ LeH gs.size ρ' q' ρ q := by
  obtain ⟨N, m', T', hr, gs', a', w', sl', q', ρ', rfl, hsz, ha', hS, C', hd', he, hm⟩ := runs_lex (P := P)
    (Inv := fun μ m t => ∃ gs₁ a₁ w₁ sl₁ q₁ ρ₁ n₁, m = crowd gs₁ w₁ sl₁ ∧ gs₁.size = gs.size ∧ gs₁[0]? = some a₁ ∧ Hub P ty Wg B Shun Ch SR tag ρ₁ t gs₁ w₁ q₁ ∧ Deaf t 0 = d0 ∧ Evo ρ ρ₁ ∧ LeH gs.size ρ₁ q₁ ρ q ∧ Goes P true SR D Stop n₁ a₁ w₁ ∧ μ = ((meas gs.size ρ₁ q₁).1, (meas gs.size ρ₁ q₁).2 + n₁))
    (Done := fun m t => ∃ gs₁ a₁ w₁ sl₁ q₁ ρ₁, m = crowd gs₁ w₁ sl₁ ∧ gs₁.size = gs.size ∧ gs₁[0]? = some a₁ ∧ Stop a₁ w₁ ∧ Hub P ty Wg B Shun Ch SR tag ρ₁ t gs₁ w₁ q₁ ∧ Deaf t 0 = d0 ∧ Evo ρ ρ₁ ∧ LeH gs.size ρ₁ q₁ ρ q)
    (fun μ m t ⟨gs₁, a₁, w₁, sl₁, q₁, ρ₁, n₁, hm, hsz, ha₁, C₁, hd₁, he₁, hme₁, hG₁, hμ⟩ => by
      subst hm
      cases n₁ with
      | zero => exact .inl ⟨gs₁, a₁, w₁, sl₁, q₁, ρ₁, rfl, hsz, ha₁, hG₁ w₁ (E.refl w₁), C₁, hd₁, he₁, hme₁⟩
      | succ n₁ =>
        rcases hG₁ with hstop | ⟨hrun, hstep⟩
        · exact .inl ⟨gs₁, a₁, w₁, sl₁, q₁, ρ₁, rfl, hsz, ha₁, hstop w₁ (E.refl w₁), C₁, hd₁, he₁, hme₁⟩
        refine .inr ?_
        obtain ⟨i, g, d, sl', hi, hg, hst⟩ := crowd_pick (P := P) (w := w₁) (sl := sl₁) (C₁.awake ha₁ (.inl hrun)) ⟨0, a₁, ha₁, hrun⟩
        have Cd := Hub.at C₁ d
        rcases Nat.eq_zero_or_pos i with rfl | hpos
        · obtain rfl : g = a₁ := by rw [ha₁] at hi; exact (Option.some.inj hi).symm
          have hs := hstep (w₁.at d) (E.draw w₁ d)
          cases hgo : stepG P true g (w₁.at d) with
          | go a' w' es =>
            rw [hgo, goes_go] at hs
            obtain ⟨hd, hG'⟩ := hs
            obtain ⟨hdm, hun⟩ := hD _ _ _ hd
            obtain ⟨C', ha'⟩ := Cd.own (a' := a') hi (hdm.toDM0.evo he₁) (Cd.mode_at hdm.wg)
            exact ⟨_, _, ((meas gs.size ρ₁ q₁).1, (meas gs.size ρ₁ q₁).2 + n₁), by rw [hst]; exact runT_crowd_go (sl := sl') (i := 0) hi hgo, by rw [hμ]; exact Prod.Lex.right _ (by omega), _, a', w', sl', q₁, ρ₁, n₁, rfl, by simpa using hsz, ha', C',
              by rw [Deaf_own, deafBehind_still (fun e he => hun e he)]; exact hd₁, he₁, hme₁, hG', rfl⟩
          | _ => rw [hgo] at hs; exact hs.elim
        · obtain ⟨gs', ops, ρ', q', w', tag', a', hrt, hsz', h0', hcase, hSR, _, C', hdf, hev, hlt, _⟩ := Cd.by_step (sl := sl') E (by rw [hsz]; exact hN) ha₁ (rests_running ht hrun) hpos hi hg (fun s _ _ _ => offersAt_of_not_blocked (by rw [hrun]; simp) _ _)
          rw [hsz] at hlt
          rcases hcase with ⟨rfl, rfl⟩ | ⟨h, _⟩
          · refine ⟨_, _, ((meas gs.size ρ' q').1, (meas gs.size ρ' q').2 + (n₁ + 1)), by rw [hst]; exact hrt, ?_, gs', a', w', sl', q', ρ', n₁ + 1, rfl, hsz'.trans hsz, h0', C', hdf.trans hd₁, he₁.trans hev, LeH.trans (.inr hlt) hme₁,
              Goes.rely E.trans (.inr ⟨hrun, hstep⟩) (E.trans _ _ _ (E.draw w₁ d) hSR), rfl⟩
            rw [hμ]
            rcases Prod.lex_def.1 hlt with h | ⟨h1, h2⟩
            · exact Prod.Lex.left _ _ h
            · rw [h1]; exact Prod.Lex.right _ (by omega)
          · exact absurd h ht)
    _ _ T ⟨gs, a, w, sl, q, ρ, n, rfl, rfl, ha, C, hd0, Evo.refl ρ, LeH.refl _ _ _, hG, rfl⟩
  exact ⟨N, gs', a', w', sl', T', q', ρ', hr, hsz, ha', hS, C', hd', he, hm⟩

/-- the others move till it is the starter's turn: the machine stands ahead of a step of the starter's -/
theorem Hub.turn (E : Env ty Wg B Ch SR) (hN : gs.size + 1 < 2147483648) (ht : tag ≠ .blk) {a : Goroutine} {sl : Option (Nat × Nat)} (ha : gs[0]? = some a) (hrun : a.status = .running) (C : Hub P ty Wg B Shun Ch SR tag ρ T gs w q) :
    ∃ (N : Nat) (gs' : Array Goroutine) (sl' sl'' : Option (Nat × Nat)) (T' : Trace) (q' : Nat → Nat) (ρ' : Roles) (w₁ : World) (d : Nat),
      runNT P N (crowd gs w sl) T = (.next (crowd gs' w₁ sl'), T') ∧ gs'.size = gs.size ∧ gs'[0]? = some a ∧ Hub P ty Wg B Shun Ch SR tag ρ' T' gs' (w₁.at d) q' ∧ Deaf T' 0 = Deaf T 0 ∧ Evo ρ ρ' ∧ SR w (w₁.at d) ∧ (∀ c, Ch c → w₁.heap[c]? = w.heap[c]?) ∧
        LeH gs.size ρ' q' ρ q ∧ stepT P (crowd gs' w₁ sl') = runT P (crowd gs' (w₁.at d) sl'') 0 := by
  obtain ⟨N, m', T', hr, gs', sl', q', ρ', sl'', w₁, d, rfl, hsz, ha', C', hd', he, hSR, hch, hm, hst⟩ := runs_lex (P := P)
    (Inv := fun μ m t => ∃ gs₁ sl₁ q₁ ρ₁ w₁, m = crowd gs₁ w₁ sl₁ ∧ gs₁.size = gs.size ∧ gs₁[0]? = some a ∧ Hub P ty Wg B Shun Ch SR tag ρ₁ t gs₁ w₁ q₁ ∧ Deaf t 0 = Deaf T 0 ∧ Evo ρ ρ₁ ∧ SR w w₁ ∧ (∀ c, Ch c → w₁.heap[c]? = w.heap[c]?) ∧ LeH gs.size ρ₁ q₁ ρ q ∧ μ = meas gs.size ρ₁ q₁)
    (Done := fun m t => ∃ gs₁ sl₁ q₁ ρ₁ sl₂ w₁ d₂, m = crowd gs₁ w₁ sl₁ ∧ gs₁.size = gs.size ∧ gs₁[0]? = some a ∧ Hub P ty Wg B Shun Ch SR tag ρ₁ t gs₁ (w₁.at d₂) q₁ ∧ Deaf t 0 = Deaf T 0 ∧ Evo ρ ρ₁ ∧ SR w (w₁.at d₂) ∧ (∀ c, Ch c → w₁.heap[c]? = w.heap[c]?) ∧ LeH gs.size ρ₁ q₁ ρ q ∧ stepT P (crowd gs₁ w₁ sl₁) = runT P (crowd gs₁ (w₁.at d₂) sl₂) 0)
    (fun μ m t ⟨gs₁, sl₁, q₁, ρ₁, w₁, hm, hsz, ha₁, C₁, hd₁, he₁, hs₁, hc₁, hme₁, hμ⟩ => by
      subst hm
      obtain ⟨i, g, d, sl', hi, hg, hst⟩ := crowd_pick (P := P) (w := w₁) (sl := sl₁) (C₁.awake ha₁ (.inl hrun)) ⟨0, a, ha₁, hrun⟩
      have Cd := Hub.at C₁ d
      rcases Nat.eq_zero_or_pos i with rfl | hpos
      · exact .inl ⟨gs₁, sl₁, q₁, ρ₁, sl', w₁, d, rfl, hsz, ha₁, Cd, hd₁, he₁, E.trans _ _ _ hs₁ (E.draw w₁ d), hc₁, hme₁, hst⟩
      · obtain ⟨gs', ops, ρ', q', w', tag', a', hrt, hsz', h0', hcase, hSR, hch, C', hdf, hev, hlt, _⟩ := Cd.by_step (sl := sl') E (by rw [hsz]; exact hN) ha₁ (rests_running ht hrun) hpos hi hg (fun s _ _ _ => offersAt_of_not_blocked (by rw [hrun]; simp) _ _)
        rw [hsz] at hlt
        rcases hcase with ⟨rfl, rfl⟩ | ⟨h, _⟩
        · exact .inr ⟨_, _, meas gs.size ρ' q', by rw [hst]; exact hrt, by rw [hμ]; exact hlt, gs', sl', q', ρ', w', rfl, hsz'.trans hsz, h0', C', hdf.trans hd₁, he₁.trans hev, E.trans _ _ _ hs₁ (E.trans _ _ _ (E.draw w₁ d) hSR), fun c hc => (hch c hc).trans (hc₁ c hc), LeH.trans (.inr hlt) hme₁, rfl⟩
        · exact absurd h ht)
    _ _ T ⟨gs, sl, q, ρ, w, rfl, rfl, ha, C, rfl, Evo.refl ρ, E.refl w, fun _ _ => rfl, LeH.refl _ _ _, rfl⟩
  exact ⟨N, gs', sl', sl'', T', q', ρ', w₁, d, hr, hsz, ha', C', hd', he, hSR, hch, hm, hst⟩

/-- ████ ONE STEP OF THE STARTER's OWN, whatever it lists. ████ -/
theorem Hub.hold_step (E : Env ty Wg B Ch SR) (hN : gs.size + 1 < 2147483648) (ht : tag ≠ .blk) {a : Goroutine} {sl : Option (Nat × Nat)} (ha : gs[0]? = some a) (hrun : a.status = .running) (C : Hub P ty Wg B Shun Ch SR tag ρ T gs w q)
    {Next : Goroutine → World → Array Event → CTag → Roles → Prop} (hst : ∀ w₁ ρ₁, SR w w₁ → Evo ρ ρ₁ → (∀ c, Ch c → w₁.heap[c]? = w.heap[c]?) → (∃ st sm, WgAt ty Wg w₁ st sm ∧ Go.ConcN.Mode gs.size (stg ρ₁) tag st sm) →
      ∃ a' w' es tag', stepG P true a w₁ = .go a' w' es ∧ DM0 Wg B Shun ρ w₁ w' es ∧ (∃ st sm, WgAt ty Wg w' st sm ∧ Go.ConcN.Mode gs.size (stg ρ₁) tag' st sm) ∧ Next a' w' es tag' ρ₁) :
    ∃ (N : Nat) (gs' : Array Goroutine) (a' : Goroutine) (w' : World) (es : Array Event) (sl' : Option (Nat × Nat)) (T' : Trace) (q' : Nat → Nat) (ρ' : Roles) (tag' : CTag),
      runNT P N (crowd gs w sl) T = (.next (crowd gs' w' sl'), T') ∧ gs'.size = gs.size ∧ gs'[0]? = some a' ∧ Next a' w' es tag' ρ' ∧ Hub P ty Wg B Shun Ch SR tag' ρ' T' gs' w' q' ∧ Deaf T' 0 = deafBehind (Deaf T 0) es ∧ Evo ρ ρ' ∧ LeH gs.size ρ' q' ρ q := by
  obtain ⟨N, gs₁, sl₁, sl₂, T₁, q₁, ρ₁, w₁, d, hr, hsz, ha₁, C₁, hd₁, he, hSR, hch, hm, hstep⟩ := C.turn (sl := sl) E hN ht ha hrun
  obtain ⟨a', w', es, tag', hgo, hdm, hmo, hn⟩ := hst _ ρ₁ hSR he (fun c hc => hch c hc) (by rw [← hsz]; exact C₁.mode)
  obtain ⟨C', ha'⟩ := C₁.own (a' := a') ha₁ (hdm.evo he) (by rw [hsz]; exact hmo)
  refine ⟨N + 1, _, a', w', es, sl₂, _, q₁, ρ₁, tag', runNT_succ_of hr (hstep.trans (runT_crowd_go (sl := sl₂) (i := 0) ha₁ hgo)), by simpa using hsz, ha', hn, C', ?_, he, hm⟩
  rw [Deaf_own, hd₁]
end

end Go.Proofs.Ytngnkdedfcnfkaa

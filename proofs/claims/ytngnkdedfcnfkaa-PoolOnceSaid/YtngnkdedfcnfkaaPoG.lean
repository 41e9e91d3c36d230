/-
  A starter and its workers: the starter waits for all: the library's Wait.
-/
import Derived.Test.YtngnkdedfcnfkaaPoF
namespace Go.Proofs.Ytngnkdedfcnfkaa
open Go Go.Conc
open Go.ConcN (sumTo upd sumTo_upd upd_ne upd_same ShN RelBy CTag WD WgLive Vc cnt OpenSt AllQuit pend isW3 isFin isOpen bk_cell bk_sem)
open Go.ConcR (KK stA smA WgAt rd wr Bk)

section
variable (P : Program) (ty : TypeId) (Wg : Nat) (SR : World → World → Prop) (D : World → World → Array Event → Prop) (Anch Next : Goroutine → World → Prop)
/-! ### the starter's stops in Wait, from its end backwards -/
def XAcq (g : Goroutine) (w : World) : Prop := g.status = .running ∧ ∃ g', stepG P true g w = .go g' w #[Go.ConcR.mk (.acquire (stA Wg))] ∧ Next g' w
def XKe (g : Goroutine) (w : World) : Prop := g.status = .running ∧ ∃ g', stepG P true g w = .go g' w #[Go.ConcR.mk .enable] ∧ ∃ m, Goes P true SR D (XAcq P Wg Next) m g' w
def XW4 (g : Goroutine) (w : World) : Prop := g.status = .running ∧ (WgAt ty Wg w 0 0 → ∃ g', stepG P true g w = .go g' w #[rd (stA Wg)] ∧ ∃ m, Goes P true SR D (XKe P Wg SR D Next) m g' w)
def XW3 (g : Goroutine) (w : World) : Prop :=
  g.status = .running ∧ g.offers = none ∧ ((∃ st, WgAt ty Wg w st 0) → stepG P true g w = .go { g with status := .blocked } w #[]) ∧
    (WgAt ty Wg w 0 1 → ∃ g', stepG P true g w = .go g' (w.setCell (smA Wg) (.int .u32 0)) (semEvents (smA Wg)) ∧ ∃ m, Goes P true SR D (XW4 P ty Wg SR D Next) m g' (w.setCell (smA Wg) (.int .u32 0)))
def XW2 (vs : Nat) (g : Goroutine) (w : World) : Prop :=
  g.status = .running ∧ ∀ v : Nat, v < 2147483648 → WgAt ty Wg w (v * KK) 0 →
    (v = vs → ∃ g', stepG P true g w = .go g' (w.setCell (stA Wg) (.int .u64 (v * KK + 1))) #[rd (stA Wg), wr (stA Wg)] ∧ ∃ m, Goes P true SR D (XW3 P ty Wg SR D Next) m g' (w.setCell (stA Wg) (.int .u64 (v * KK + 1)))) ∧
    (v ≠ vs → ∃ g', stepG P true g w = .go g' w #[rd (stA Wg)] ∧ ∃ m, Goes P true SR D Anch m g' w)
def XW1 (g : Goroutine) (w : World) : Prop :=
  g.status = .running ∧ ∀ v : Nat, v < 2147483648 → WgAt ty Wg w (v * KK) 0 → ∃ g', stepG P true g w = .go g' w #[rd (stA Wg)] ∧
    (v = 0 → ∃ m, Goes P true SR D (XKe P Wg SR D Next) m g' w) ∧ (v ≠ 0 → ∃ m, Goes P true SR D (XW2 P ty Wg SR D Anch Next v) m g' w)
end

theorem goes_closed {P : Program} {main : Bool} {R : World → World → Prop} {D : World → World → Array Event → Prop} {Stop : Goroutine → World → Prop} (tr : ∀ a b c, R a b → R b c → R a c) : ∀ {n : Nat} {g : Goroutine} {w : World},
    Goes P main R D Stop n g w → Goes P main R D (fun g w => ∀ w₂, R w w₂ → Stop g w₂) n g w
  | 0, _, _, h => fun w₁ h₁ w₂ h₂ => h w₂ (tr _ _ _ h₁ h₂)
  | n + 1, g, w, h => by
    rcases h with h | ⟨hs, h⟩
    · exact .inl fun w₁ h₁ w₂ h₂ => h w₂ (tr _ _ _ h₁ h₂)
    · refine .inr ⟨hs, fun w₁ h₁ => ?_⟩
      have := h w₁ h₁
      revert this
      cases stepG P main g w₁ <;> simp only [GStep.goes, imp_self]
      exact fun ⟨d, x⟩ => ⟨d, goes_closed tr x⟩

section
variable {P : Program} {ty : TypeId} {Wg B : Nat} {Shun : Loc → Prop} {Ch : Nat → Prop} {SR : World → World → Prop} {tag : CTag} {ρ : Roles} {T : Trace} {gs : Array Goroutine} {w : World} {q : Nat → Nat}

theorem Hub.evM_bk (E : Env ty Wg B Ch SR) (C : Hub P ty Wg B Shun Ch SR tag ρ T gs w q) {e : Event} (h : Bk Wg e) : EvM Wg B Shun ρ e := by
  rcases h with h | h | ⟨a, x, rfl, ha⟩
  · exact ⟨fun b hb => (by rw [Go.ConcR.ofEvent_loc_mark h] at hb; cases hb), by rw [Go.ConcR.ofEvent_loc_mark h]; trivial, by rw [h]; simp⟩
  · exact ⟨fun b hb => (by rw [Go.ConcR.ofEvent_loc_mark h] at hb; cases hb), by rw [Go.ConcR.ofEvent_loc_mark h]; trivial, by rw [h]; simp⟩
  · refine ⟨fun b hb => ?_, by rw [Go.ConcR.ofEvent_cell]; show a.block < B; rw [ha]; exact E.lowW, by simp⟩
    simp only [Go.ConcR.ofEvent_cell, MemAct.touch?, Option.some.injEq] at hb
    subst hb
    refine ⟨fun _ => by simp, fun i s st a' hi hl => ?_⟩
    obtain rfl := Loc.cell.inj hl
    exact ⟨fun hd => absurd ha ((C.wf i s st hi).depCh _ hd).2, fun ho => absurd ha ((C.wf i s st hi).ownCh _ ho).2.1⟩
theorem evM_acq (E : Env ty Wg B Ch SR) : EvM Wg B Shun ρ (Go.ConcR.mk (.acquire (stA Wg))) :=
  ⟨fun b hb => by simp [Go.ConcR.ofEvent_mk, MemAct.touch?] at hb, E.lowW, by simp [Go.ConcR.mk]⟩
theorem Hub.dm0_wg (E : Env ty Wg B Ch SR) (C : Hub P ty Wg B Shun Ch SR tag ρ T gs w q) {w₁ w' : World} {es : Array Event} (h : Aside Wg w₁ w') (hes : ∀ e ∈ es, EvM Wg B Shun ρ e) : DM0 Wg B Shun ρ w₁ w' es :=
  ⟨fun i s st hi => ⟨fun a ha => same_block (h.block _ ((C.wf i s st hi).depCh a ha).2), fun a ha => same_block (h.block _ ((C.wf i s st hi).ownCh a ha).2.1), fun b hb => h.block b ((C.wf i s st hi).depBCh b hb).2⟩,
    fun i s st hi => h.block _ (fun e => E.chWg (e ▸ (C.wf i s st hi).chan)), hes⟩

/-- a walk to a stop, and the step there -/
theorem Hub.go_step (E : Env ty Wg B Ch SR) (hN : gs.size + 1 < 2147483648) (ht : tag ≠ .blk) {D : World → World → Array Event → Prop} {Stop : Goroutine → World → Prop} (hD : ∀ w w' es, D w w' es → DM Wg B Shun ρ w w' es ∧ ∀ e ∈ es, Unmarked e)
    {n d0 : Nat} {a : Goroutine} {sl : Option (Nat × Nat)} (ha : gs[0]? = some a) (C : Hub P ty Wg B Shun Ch SR tag ρ T gs w q) (hd0 : Deaf T 0 = d0) (hG : Goes P true SR D Stop n a w) (hrun : ∀ g w, Stop g w → g.status = .running)
    {Next : Goroutine → World → Array Event → CTag → Roles → (Nat → Nat) → Prop} (hst : ∀ a₁ w₁ ρ₁ q₁, (∀ w₂, SR w₁ w₂ → Stop a₁ w₂) → Evo ρ ρ₁ → LeH gs.size ρ₁ q₁ ρ q → (∃ st sm, WgAt ty Wg w₁ st sm ∧ Go.ConcN.Mode gs.size (stg ρ₁) tag st sm) →
      ∃ a' w' es tag', stepG P true a₁ w₁ = .go a' w' es ∧ DM0 Wg B Shun ρ w₁ w' es ∧ (∃ st sm, WgAt ty Wg w' st sm ∧ Go.ConcN.Mode gs.size (stg ρ₁) tag' st sm) ∧ Next a' w' es tag' ρ₁ q₁) :
    ∃ (N : Nat) (gs' : Array Goroutine) (a' : Goroutine) (w' : World) (es : Array Event) (sl' : Option (Nat × Nat)) (T₁ : Trace) (fn : FuncId) (pos : String) (q' : Nat → Nat) (ρ' : Roles) (tag' : CTag),
      runNT P N (crowd gs w sl) T = (.next (crowd gs' w' sl'), T₁ ++ MemOp.ofEvents 0 fn pos es) ∧ gs'.size = gs.size ∧ gs'[0]? = some a' ∧ Next a' w' es tag' ρ' q' ∧ Hub P ty Wg B Shun Ch SR tag' ρ' (T₁ ++ MemOp.ofEvents 0 fn pos es) gs' w' q' ∧ Deaf T₁ 0 = d0 ∧ Evo ρ ρ' ∧
        LeH gs.size ρ' q' ρ q ∧ (∃ gs₁ w₁, Hub P ty Wg B Shun Ch SR tag ρ' T₁ gs₁ w₁ q' ∧ gs₁.size = gs.size) := by
  obtain ⟨N, gs₁, a₁, w₁, sl₁, T₁, q₁, ρ₁, hr, hsz, ha₁, hS, C₁, hd₁, he₁, hm₁⟩ := C.hold_walk (sl := sl) E hN ht hD ha hd0 (goes_closed E.trans hG)
  have hrun₁ := hrun _ _ (hS _ (E.refl _))
  obtain ⟨N₂, gs₂, sl₂, sl₃, T₂, q₂, ρ₂, w₂, d, hr₂, hsz₂, ha₂, C₂, hd₂, he₂, hSR₂, _, hm₂, hstep⟩ := C₁.turn (sl := sl₁) E (by rw [hsz]; exact hN) ht ha₁ hrun₁
  rw [hsz] at hm₂
  obtain ⟨a', w', es, tag', hgo, hdm, hmo, hn⟩ := hst a₁ (w₂.at d) ρ₂ q₂ (fun w₃ h₃ => hS _ (E.trans _ _ _ hSR₂ h₃)) (he₁.trans he₂) (hm₂.trans hm₁) (by rw [← hsz, ← hsz₂]; exact C₂.mode)
  obtain ⟨C', ha'⟩ := C₂.own (a' := a') ha₂ (hdm.evo (he₁.trans he₂)) (by rw [hsz₂, hsz]; exact hmo)
  exact ⟨N + (N₂ + 1), _, a', w', es, sl₃, T₂, a₁.frame.fn, a₁.frame.place, q₂, ρ₂, tag', runNT_then hr (runNT_succ_of hr₂ (hstep.trans (runT_crowd_go (sl := sl₃) (i := 0) ha₂ hgo))), by simp [hsz₂, hsz], ha', hn, C', hd₂.trans hd₁, he₁.trans he₂, hm₂.trans hm₁, gs₂, w₂.at d, C₂, hsz₂.trans hsz⟩

/-- somebody runs while the starter sleeps -/
theorem Hub.someone (C : Hub P ty Wg B Shun Ch SR .blk ρ T gs w q) (hclosed : ∀ i s st, ρ i = some (s, st) → st ≠ .open) : ∃ (i : Nat) (g : Goroutine), 0 < i ∧ gs[i]? = some g ∧ g.status = .running := by
  obtain ⟨st, sm, _, hm⟩ := C.mode
  have key : ∀ i, i < gs.size → (stg ρ i).stage ≠ 1 → ∃ (i : Nat) (g : Goroutine), 0 < i ∧ gs[i]? = some g ∧ g.status = .running := by
    intro i hi hne
    have hpos : 0 < i := by
      rcases Nat.eq_zero_or_pos i with rfl | h
      · rw [stg_eq, C.zero] at hne; exact absurd rfl hne
      · exact h
    have hg : gs[i]? = some gs[i] := Array.getElem?_eq_getElem hi
    have hR := C.role i _ hpos hg
    refine ⟨i, _, hpos, hg, ?_⟩
    match e : ρ i, hR with
    | none, _ => rw [stg_eq, e] at hne; exact absurd rfl hne
    | some (s, .open), _ => exact absurd rfl (hclosed i s _ e)
    | some (s, .shut), hR =>
      obtain ⟨⟨k, _, hG⟩, _⟩ := hR
      exact hG.running (C.keep i s _ e)
    | some (s, .wk n d), hR =>
      rw [stg_eq, e] at hne
      exact hR.1.running_of hne
  cases hm with
  | opn h1 _ _ => exact h1.elim
  | reg _ _ h3 =>
    obtain ⟨i, hi, h5⟩ := Go.ConcN.exists_counted h3
    exact key i hi (by omega)
  | last L _ h2 h3 _ => exact key L h2 (by omega)
  | fin h1 _ => exact h1.elim

theorem Evo.closed {ρ ρ' : Roles} (h : Evo ρ ρ') (hc : ∀ i s st, ρ i = some (s, st) → st ≠ .open) : ∀ i s st, ρ' i = some (s, st) → st ≠ .open := by
  rintro i s st hi rfl
  exact hc i s _ (((h i).2 s).1 hi) rfl

/-- ████ THE STARTER SLEEPS till it is woken. ████ -/
theorem Hub.sleep (E : Env ty Wg B Ch SR) (hN : gs.size + 1 < 2147483648) (hclosed : ∀ i s st, ρ i = some (s, st) → st ≠ .open) {a : Goroutine} {sl : Option (Nat × Nat)} (hrun : a.status = .running) (hoff : a.offers = none) (ha : gs[0]? = some { a with status := .blocked }) (C : Hub P ty Wg B Shun Ch SR .blk ρ T gs w q) :
    ∃ (N : Nat) (gs' : Array Goroutine) (w' : World) (sl' : Option (Nat × Nat)) (T' : Trace) (q' : Nat → Nat) (ρ' : Roles),
      runNT P N (crowd gs w sl) T = (.next (crowd gs' w' sl'), T') ∧ gs'.size = gs.size ∧ gs'[0]? = some a ∧ SR w w' ∧ Hub P ty Wg B Shun Ch SR .w3 ρ' T' gs' w' q' ∧ Deaf T' 0 = Deaf T 0 ∧ Evo ρ ρ' ∧ Lt2 (meas gs.size ρ' q') (meas gs.size ρ q) := by
  obtain ⟨N, m', T', hr, gs', w', sl', q', ρ', rfl, h⟩ := runs_lex (P := P)
    (Inv := fun μ m t => (∃ gs₁ w₁ sl₁ q₁ ρ₁, m = crowd gs₁ w₁ sl₁ ∧ gs₁.size = gs.size ∧ gs₁[0]? = some a ∧ SR w w₁ ∧ Hub P ty Wg B Shun Ch SR .w3 ρ₁ t gs₁ w₁ q₁ ∧ Deaf t 0 = Deaf T 0 ∧ Evo ρ ρ₁ ∧ Lt2 (meas gs.size ρ₁ q₁) (meas gs.size ρ q)) ∨
      ∃ gs₁ w₁ sl₁ q₁ ρ₁, m = crowd gs₁ w₁ sl₁ ∧ gs₁.size = gs.size ∧ gs₁[0]? = some { a with status := .blocked } ∧ SR w w₁ ∧ Hub P ty Wg B Shun Ch SR .blk ρ₁ t gs₁ w₁ q₁ ∧ Deaf t 0 = Deaf T 0 ∧ Evo ρ ρ₁ ∧ LeH gs.size ρ₁ q₁ ρ q ∧ μ = meas gs.size ρ₁ q₁)
    (Done := fun m t => ∃ gs₁ w₁ sl₁ q₁ ρ₁, m = crowd gs₁ w₁ sl₁ ∧ gs₁.size = gs.size ∧ gs₁[0]? = some a ∧ SR w w₁ ∧ Hub P ty Wg B Shun Ch SR .w3 ρ₁ t gs₁ w₁ q₁ ∧ Deaf t 0 = Deaf T 0 ∧ Evo ρ ρ₁ ∧ Lt2 (meas gs.size ρ₁ q₁) (meas gs.size ρ q))
    (fun μ m t hInv => by
      rcases hInv with h | ⟨gs₁, w₁, sl₁, q₁, ρ₁, rfl, hsz, ha₁, hSR, C₁, hd₁, he₁, hm₁, hμ⟩
      · exact .inl h
      refine .inr ?_
      obtain ⟨j, y, _, hj, hy⟩ := C₁.someone (he₁.closed hclosed)
      obtain ⟨i, g, d, sl', hi, hg, hst⟩ := crowd_pick (P := P) (w := w₁) (sl := sl₁) (C₁.awake ha₁ (.inr rfl)) ⟨j, y, hj, hy⟩
      have Cd := Hub.at C₁ d
      have hpos : 0 < i := by
        rcases Nat.eq_zero_or_pos i with rfl | h
        · rw [ha₁] at hi; obtain rfl := Option.some.inj hi; cases hg
        · exact h
      obtain ⟨gs', ops, ρ', q', w', tag', a', hrt, hsz', h0', hcase, hSR', _, C', hdf, hev, hlt, _⟩ := Cd.by_step (sl := sl') E (by rw [hsz]; exact hN) ha₁ (.inr ⟨rfl, rfl, hoff⟩) hpos hi hg (fun s _ _ _ => by simp [offersAt, hoff])
      rw [hsz] at hlt
      have hS := E.trans _ _ _ hSR (E.trans _ _ _ (E.draw w₁ d) hSR')
      rcases hcase with ⟨rfl, rfl⟩ | ⟨_, rfl, rfl⟩
      · exact ⟨_, _, meas gs.size ρ' q', by rw [hst]; exact hrt, by rw [hμ]; exact hlt, .inr ⟨gs', w', sl', q', ρ', rfl, hsz'.trans hsz, h0', hS, C', hdf.trans hd₁, he₁.trans hev, LeH.trans (.inr hlt) hm₁, rfl⟩⟩
      · refine ⟨_, _, meas gs.size ρ' q', by rw [hst]; exact hrt, by rw [hμ]; exact hlt, .inl ⟨gs', w', sl', q', ρ', rfl, hsz'.trans hsz, ?_, hS, C', hdf.trans hd₁, he₁.trans hev, ?_⟩⟩
        · rw [h0', ← hrun]
        · rcases hm₁ with ⟨rfl, rfl⟩ | h
          · exact hlt
          · exact lt2_trans' hlt h)
    _ _ T (.inr ⟨gs, w, sl, q, ρ, rfl, rfl, ha, E.refl w, C, rfl, Evo.refl ρ, LeH.refl _ _ _, rfl⟩)
  obtain ⟨hsz, ha', hSR, C', hd, he, hl⟩ := h
  exact ⟨N, gs', w', sl', T', q', ρ', hr, hsz, ha', hSR, C', hd, he, hl⟩
end
end Go.Proofs.Ytngnkdedfcnfkaa

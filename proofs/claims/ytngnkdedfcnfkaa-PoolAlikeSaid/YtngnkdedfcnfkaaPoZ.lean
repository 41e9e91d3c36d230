/-
  A starter and its workers: a bystander's step, whichever.
-/
import Derived.Test.YtngnkdedfcnfkaaPoY
namespace Go.Proofs.Ytngnkdedfcnfkaa
open Go Go.Conc
open Go.ConcN (sumTo upd sumTo_upd upd_ne upd_same ShN RelBy CTag WD WgLive Vc cnt Vc_upd Vc_le le_sumTo OpenSt others_uncounted isW3 pend bk_cell)
open Go.ConcR (KK stA smA WgAt mk rd wr Bk)

section
variable {P : Program} {ty : TypeId} {Wg B : Nat} {Shun : Loc → Prop} {Ch : Nat → Prop} {SR : World → World → Prop} {tag : CTag} {ρ : Roles} {T : Trace} {gs : Array Goroutine} {w : World} {q : Nat → Nat}

theorem evo_wk {i : Nat} {s : Spot} {n d m dd : Nat} (hi : ρ i = some (s, .wk n d)) : Evo ρ (upd ρ i (some (s, .wk m dd))) := evo_same hi (.inr ⟨by simp, by simp⟩)

theorem Hub.calm_wk (C : Hub P ty Wg B Shun Ch SR tag ρ T gs w q) {i : Nat} {s : Spot} {st : Stage} (hi : ρ i = some (s, st)) (h : st ≠ .open) : ∀ w w', Aside Wg w w' → WgLive ty Wg w' → SR w w' := by
  rcases C.calm with h' | h'
  · exact absurd (h' i s st hi) h
  · exact h'

/-- a step of the library's bookkeeping: at most the group's block turns -/
theorem Hub.wk_book (E : Env ty Wg B Ch SR) (C : Hub P ty Wg B Shun Ch SR tag ρ T gs w q) {a : Goroutine} (ha : gs[0]? = some a) (hA : Rests Ch tag w a) {i : Nat} {s : Spot} {n d : Nat} {g g' : Goroutine} {w' : World} {es : Array Event} {sl : Option (Nat × Nat)} {m n' d' : Nat} {st' sm' : Int}
    (hpos : 0 < i) (hi : gs[i]? = some g) (hρ : ρ i = some (s, .wk n d)) (hgo : stepG P false g w = .go g' w' es) (hAs : Aside Wg w w') (hwg' : WgAt ty Wg w' st' sm') (hbk : ∀ e ∈ es, Bk Wg e)
    (hno : ∀ j e, es[j]? = some e → (MemAct.ofEvent e).touch? = none ∨ 0 < deafBehind d (es.extract 0 j)) (hs' : WS P ty Wg s.C m n' d' g' w') (hdd : deafBehind d es = d') (h6 : n ≤ 6)
    (hmode : ∀ tag', (tag' = tag ∨ (tag = .blk ∧ tag' = .w3)) → (mayWake P g = true → g'.status = .running → tag' ≠ .blk) → Go.ConcN.Mode gs.size (upd (stg ρ) i ⟨m, 0, 0⟩) tag' st' sm')
    (hlt : m < n ∨ (m = n ∧ n' < q i)) : Moved P ty Wg B Shun Ch SR tag ρ T gs w q sl a i := by
  have hR := C.role i g hpos hi
  rw [hρ] at hR
  obtain ⟨_, hD, hrel⟩ := hR
  obtain ⟨hoff, hCh⟩ := C.off_wg E hAs
  obtain ⟨hops, hr, hl, hn⟩ := bk_work (ρ := ρ) (i := i) (fn := g.frame.fn) (pos := g.frame.place) (live_lt ⟨_, _, hwg'⟩) hbk
  have hcalm := C.calm_wk hρ (by simp)
  refine C.by_go (o' := some (s, .wk m d')) (n' := n') ha hA hpos hi hgo ⟨hs', by rw [Deaf_own, hD]; exact hdd, fun _ => ?_⟩ (NewRole.same C hρ (hoff i s _ hρ).1 (hCh _ (C.wf i s _ hρ).chan) (.inr ⟨_, _, rfl⟩) (.inr hcalm)) (evo_wk hρ)
    (fun j s st _ h => hoff j s st h) hCh (hcalm _ _ hAs ⟨_, _, hwg'⟩) ((C.past.mono (Nat.le_of_eq hAs.size.symm)).appWork (by unfold MemOf; rw [hρ]; rfl) C.lies hops hr hl hn) (fun tag' h1 h2 => ⟨st', sm', hwg', ?_⟩) ?_ ?_
  · obtain ⟨r, hr⟩ := hrel h6
    exact ⟨r, hr.book hD _ _ hbk hno⟩
  · rw [stg_upd]; exact hmode tag' h1 h2
  · rw [hρ]; exact hlt
  · intro _ s h; rw [hρ] at h; cases h

/-- an idle step: nothing turns, nothing is listed -/
theorem Hub.wk_idle (E : Env ty Wg B Ch SR) (C : Hub P ty Wg B Shun Ch SR tag ρ T gs w q) {a : Goroutine} (ha : gs[0]? = some a) (hA : Rests Ch tag w a) {i : Nat} {s : Spot} {n d : Nat} {g g' : Goroutine} {sl : Option (Nat × Nat)} {m' : Nat}
    (hpos : 0 < i) (hi : gs[i]? = some g) (hρ : ρ i = some (s, .wk n d)) (hgo : stepG P false g w = .go g' w #[]) (hs' : WS P ty Wg s.C n m' d g' w) (hlt : m' < q i) : Moved P ty Wg B Shun Ch SR tag ρ T gs w q sl a i := by
  have hR := C.role i g hpos hi
  rw [hρ] at hR
  obtain ⟨_, hD, hrel⟩ := hR
  obtain ⟨hoff, hCh⟩ := C.off_wg E (Aside.refl Wg w)
  have hno : MemOp.ofEvents i g.frame.fn g.frame.place #[] = #[] := by rw [ofEvents_eq]; simp
  refine C.by_go (o' := some (s, .wk n d)) (n' := m') ha hA hpos hi hgo ⟨hs', by rw [hno, Array.append_empty]; exact hD, fun h => by rw [hno, Array.append_empty]; exact hrel h⟩ (NewRole.same C hρ (hoff i s _ hρ).1 rfl (.inl rfl) (.inr (C.calm_wk hρ (by simp)))) (evo_wk hρ)
    (fun j s st _ h => hoff j s st h) hCh (E.refl w) (by rw [hno, Array.append_empty]; exact C.past) (fun tag' h1 _ => C.mode_same (by rw [hρ]) rfl tag' h1) (.inr ⟨by rw [hρ], hlt⟩) (fun _ s h => by rw [hρ] at h; cases h)

set_option maxHeartbeats 1600000 in
/-- ████ A WORKER's STEP BEHIND ITS CLOSED CHANNEL. ████ -/
theorem Hub.by_wk (E : Env ty Wg B Ch SR) (hN : gs.size + 1 < 2147483648) (C : Hub P ty Wg B Shun Ch SR tag ρ T gs w q) {a : Goroutine} (ha : gs[0]? = some a) (hA : Rests Ch tag w a) {i : Nat} {s : Spot} {n d : Nat} {g : Goroutine} {sl : Option (Nat × Nat)}
    (hpos : 0 < i) (hi : gs[i]? = some g) (hρ : ρ i = some (s, .wk n d)) (hrun : g.status = .running) : Moved P ty Wg B Shun Ch SR tag ρ T gs w q sl a i := by
  have hil : i < gs.size := (Array.getElem?_eq_some_iff.1 hi).1
  have hR := C.role i g hpos hi
  rw [hρ] at hR
  obtain ⟨hs, hD, hrel⟩ := hR
  obtain ⟨st, sm, hwg, hmode⟩ := C.mode
  have hsg : stg ρ i = ⟨n, 0, 0⟩ := by rw [stg_eq, hρ]; rfl
  have hstage : (stg ρ i).stage = n := by rw [hsg]
  have rf := Go.ConcN.RW.refl (ty := ty) (Wg := Wg) (C := s.C) (n := 1) (Low := 0) (i := 0) w
  have hVj := Vc_le gs.size (stg ρ)
  have hpend : pend tag ≤ 1 := by cases tag <;> simp only [pend] <;> (try split) <;> omega
  have d0 : ∀ {es : Array Event}, (∀ e ∈ es, (MemAct.ofEvent e).touch? = none) → ∀ (j : Nat) (e : Event), es[j]? = some e → (MemAct.ofEvent e).touch? = none ∨ 0 < deafBehind d (es.extract 0 j) := fun h j e he => .inl (h e (Array.mem_of_getElem? he))
  generalize hqi : q i = m at hs
  cases hs with
  | r0 h =>
    rcases Goes.cases h with hstop | ⟨m', rfl, hstep⟩
    · obtain ⟨_, g', hgo, m₂, hk⟩ := hstop w rf
      obtain ⟨hoff, hCh⟩ := C.off_wg E (Aside.refl Wg w)
      have hes : ∀ op ∈ MemOp.ofEvents i g.frame.fn g.frame.place #[Go.ConcR.mk (.releaseMerge (stA Wg))], op.g = i ∧ op.act = .mark (.releaseMerge (stA Wg)) := by
        intro op hop
        obtain ⟨e, he, rfl⟩ := Go.Conc.mem_ofEvents hop
        simp only [List.mem_toArray, List.mem_cons, List.not_mem_nil, or_false] at he
        subst he
        exact ⟨rfl, rfl⟩
      refine C.by_go (o' := some (s, .wk 6 0)) (n' := m₂) ha hA hpos hi hgo ⟨.k1 hk, by rw [Deaf_own, hD]; rfl, fun _ => ⟨T.size, RelBy.new hD _ _⟩⟩ (NewRole.same C hρ (hoff i s _ hρ).1 rfl (.inr ⟨_, _, rfl⟩) (.inr (C.calm_wk hρ (by simp)))) (evo_wk hρ)
        (fun j s st _ h => hoff j s st h) hCh (E.refl w) (C.past.appWork (by unfold MemOf; rw [hρ]; rfl) C.lies (fun op h => (hes op h).1) (fun op h b hb => by rw [(hes op h).2] at hb; cases hb) (fun op h => by rw [(hes op h).2]; exact C.wgl) (fun op h => by rw [(hes op h).2]; simp))
        (fun tag' h1 _ => ⟨st, sm, hwg, ?_⟩) (.inl (by rw [hρ]; show 6 < 7; omega)) (fun _ s h => by rw [hρ] at h; cases h)
      rw [stg_upd]
      exact (hmode.counted hil (by rw [hstage]; omega) (.inl rfl) _ _).retag h1
    · obtain ⟨g', w', es, hgo, ⟨rfl, rfl⟩, hg'⟩ := hstep w rf
      exact C.wk_idle E ha hA hpos hi hρ hgo (.r0 hg') (by omega)
  | k1 h =>
    rcases Goes.cases h with hstop | ⟨m', rfl, hstep⟩
    · obtain ⟨_, g', hgo, m₂, hk⟩ := hstop w rf
      exact C.wk_book E ha hA hpos hi hρ hgo (.refl Wg w) hwg (by intro e he; simp at he; subst he; exact .inl rfl) (d0 (by intro e he; simp at he; subst he; rfl)) (.d1 hk) rfl (by omega)
        (fun tag' h1 _ => (hmode.counted hil (by rw [hstage]; omega) (.inr rfl) _ _).retag h1) (.inl (by omega))
    · obtain ⟨g', w', es, hgo, ⟨rfl, rfl⟩, hg'⟩ := hstep w rf
      exact C.wk_idle E ha hA hpos hi hρ hgo (.k1 hg') (by omega)
  | d1 h =>
    rcases Goes.cases h with hstop | ⟨m', rfl, hstep⟩
    · obtain ⟨_, hall⟩ := hstop w rf
      have hc1 : cnt (stg ρ i) = 1 := by simp [cnt, hstage]
      have hV1 : 1 ≤ Vc gs.size (stg ρ) := by have := le_sumTo (f := fun x => cnt (stg ρ x)) hil; simp only [Vc]; omega
      have bk2 : ∀ e ∈ #[rd (stA Wg), wr (stA Wg)], Bk Wg e := by intro e he; simp at he; rcases he with rfl | rfl <;> exact bk_cell _ _ rfl
      have df2 : ∀ jx e, (#[rd (stA Wg), wr (stA Wg)] : Array Event)[jx]? = some e → (MemAct.ofEvent e).touch? = none ∨ 0 < deafBehind 1 ((#[rd (stA Wg), wr (stA Wg)] : Array Event).extract 0 jx) := by
        intro jx e he
        match jx, he with
        | 0, _ => exact .inr (by simp [deafBehind])
        | 1, _ => exact .inr (by simp [deafBehind, rd])
        | jx + 2, he => simp at he
      have hq0 : cnt (⟨1, 0, 0⟩ : WD) = 0 := rfl
      have opq : OpenSt gs.size (stg ρ) → OpenSt gs.size (upd (stg ρ) i ⟨1, 0, 0⟩) := fun h x hx => by
        by_cases e : x = i
        · subst e; rw [upd_same]; simp
        · rw [upd_ne _ _ e]; exact h x hx
      have hup := Vc_upd (stg ρ) (⟨1, 0, 0⟩ : WD) hil
      cases hmode with
      | opn h1 h2 h3 =>
        obtain ⟨v, hv⟩ : ∃ v, Vc gs.size (stg ρ) + pend tag = v + 1 := ⟨Vc gs.size (stg ρ) + pend tag - 1, by omega⟩
        rw [hv] at hwg
        have hw1 : WgAt ty Wg w (((v : Nat) + 1) * KK + ((0 : Nat) : Int)) 0 := by simpa using hwg
        obtain ⟨g', hgo, _, hq⟩ := hall v 0 (by omega) (by omega) hw1
        obtain ⟨q', hq⟩ := hq (by omega)
        have hv' : Vc gs.size (upd (stg ρ) i ⟨1, 0, 0⟩) + pend tag = v := by omega
        refine C.wk_book E ha hA hpos hi hρ hgo (aside_setCell w (stA Wg) _) (hwg.setSt _) bk2 df2 (.quit hq) rfl (by omega) (fun tag' ht _ => ?_) (.inl (by omega))
        have e : ((v : Nat) : Int) * KK + ((0 : Nat) : Int) = ((Vc gs.size (upd (stg ρ) i ⟨1, 0, 0⟩) + pend tag : Nat) : Int) * KK := by rw [hv']; simp
        rw [e]
        exact (Go.ConcN.Mode.opn h1 (opq h2) (fun vs ev => by have := h3 vs ev; omega)).retag ht
      | reg h1 h2 h3 =>
        obtain ⟨v, hv⟩ : ∃ v, Vc gs.size (stg ρ) = v + 1 := ⟨Vc gs.size (stg ρ) - 1, by omega⟩
        rw [hv] at hwg
        have hw1 : WgAt ty Wg w (((v : Nat) + 1) * KK + ((1 : Nat) : Int)) 0 := by simpa using hwg
        obtain ⟨g', hgo, hl, hq⟩ := hall v 1 (by omega) (by omega) hw1
        by_cases hv0 : v = 0
        · subst hv0
          obtain ⟨m₂, hk⟩ := hl ⟨rfl, rfl⟩
          refine C.wk_book E ha hA hpos hi hρ hgo (aside_setCell w (stA Wg) _) (hwg.setSt _) bk2 df2 (.d2 hk) rfl (by omega) (fun tag' ht _ => ?_) (.inl (by omega))
          have hoth : ∀ x, x < gs.size → x ≠ i → (stg ρ x).stage = 1 := fun x hx e => by
            have c0 := others_uncounted hil hv hc1 x hx e
            have := h2 x hx
            simp only [cnt] at c0
            split at c0 <;> omega
          have := Go.ConcN.Mode.last (j := gs.size) (D := upd (stg ρ) i ⟨4, 0, 0⟩) (tag := tag) i h1 hil (by rw [upd_same]; simp) (fun x hx e => by rw [upd_ne _ _ e]; exact hoth x hx e)
          rw [upd_same] at this
          simpa using this.retag ht
        · obtain ⟨q', hq⟩ := hq (by omega)
          have hv' : Vc gs.size (upd (stg ρ) i ⟨1, 0, 0⟩) = v := by omega
          refine C.wk_book E ha hA hpos hi hρ hgo (aside_setCell w (stA Wg) _) (hwg.setSt _) bk2 df2 (.quit hq) rfl (by omega) (fun tag' ht _ => ?_) (.inl (by omega))
          have e : ((v : Nat) : Int) * KK + ((1 : Nat) : Int) = ((Vc gs.size (upd (stg ρ) i ⟨1, 0, 0⟩) : Nat) : Int) * KK + 1 := by rw [hv']; simp
          rw [e]
          exact (Go.ConcN.Mode.reg h1 (opq h2) (by omega)).retag ht
      | last L _ h2 h3 h4 =>
        by_cases e : i = L
        · subst e; omega
        · have := h4 i hil e; omega
      | sema h2 => have := h2 i hil; omega
      | fin _ h2 => have := h2 i hil; omega
    · obtain ⟨g', w', es, hgo, ⟨rfl, rfl⟩, hg'⟩ := hstep w rf
      exact C.wk_idle E ha hA hpos hi hρ hgo (.d1 hg') (by omega)
  | d2 h =>
    rcases Goes.cases h with hstop | ⟨m', rfl, hstep⟩
    · obtain ⟨_, hx⟩ := hstop w rf
      obtain ⟨hW3, hoth, rfl, rfl⟩ := hmode.isLast hil (by omega)
      simp only [hstage] at hwg
      obtain ⟨g', hgo, m₂, hk⟩ := hx (by simpa using hwg)
      refine C.wk_book E ha hA hpos hi hρ hgo (.refl Wg w) hwg (by intro e he; simp at he; subst he; exact bk_cell _ _ rfl) (by intro jx e he; match jx, he with | 0, _ => exact .inr (by simp [deafBehind]) | jx + 1, he => simp at he) (.d3 hk) rfl (by omega) (fun tag' ht _ => ?_) (.inl (by omega))
      have := Go.ConcN.Mode.last (j := gs.size) (D := upd (stg ρ) i ⟨3, 0, 0⟩) (tag := tag) i hW3 hil (by rw [upd_same]; simp) (fun x hx e => by rw [upd_ne _ _ e]; exact hoth x hx e)
      rw [upd_same] at this
      simpa using this.retag ht
    · obtain ⟨g', w', es, hgo, ⟨rfl, rfl⟩, hg'⟩ := hstep w rf
      exact C.wk_idle E ha hA hpos hi hρ hgo (.d2 hg') (by omega)
  | d3 h =>
    rcases Goes.cases h with hstop | ⟨m', rfl, hstep⟩
    · obtain ⟨_, hx⟩ := hstop w rf
      obtain ⟨hW3, hoth, rfl, rfl⟩ := hmode.isLast hil (by omega)
      simp only [hstage] at hwg
      obtain ⟨g', hgo, m₂, hk⟩ := hx (by simpa using hwg)
      refine C.wk_book E ha hA hpos hi hρ hgo (aside_setCell w (stA Wg) _) (hwg.setSt 0) (by intro e he; simp at he; subst he; exact bk_cell _ _ rfl) (by intro jx e he; match jx, he with | 0, _ => exact .inr (by simp [deafBehind]) | jx + 1, he => simp at he) (.d4 hk) rfl (by omega) (fun tag' ht _ => ?_) (.inl (by omega))
      have := Go.ConcN.Mode.last (j := gs.size) (D := upd (stg ρ) i ⟨2, 0, 0⟩) (tag := tag) i hW3 hil (by rw [upd_same]; simp) (fun x hx e => by rw [upd_ne _ _ e]; exact hoth x hx e)
      rw [upd_same] at this
      simpa using this.retag ht
    · obtain ⟨g', w', es, hgo, ⟨rfl, rfl⟩, hg'⟩ := hstep w rf
      exact C.wk_idle E ha hA hpos hi hρ hgo (.d3 hg') (by omega)
  | d4 h =>
    rcases Goes.cases h with hstop | ⟨m', rfl, hstep⟩
    · obtain ⟨_, hmw, hx⟩ := hstop w rf
      obtain ⟨hW3, hoth, rfl, rfl⟩ := hmode.isLast hil (by omega)
      simp only [hstage] at hwg
      obtain ⟨g', hgo, qq, hq⟩ := hx (by simpa using hwg)
      have hrun' : g'.status = .running := by
        cases qq with
        | zero => exact absurd hq.2 (by decide)
        | succ q => exact hq.elim (fun x => absurd x.2 (by decide)) (fun x => x.1)
      refine C.wk_book E ha hA hpos hi hρ hgo (aside_setCell w (smA Wg) _) (hwg.setSm 1) (es := semEvents (smA Wg)) Go.ConcN.bk_sem ?_ (.quit hq) (by simp [deafBehind, semEvents]) (by omega) (fun tag' ht hw' => ?_) (.inl (by omega))
      · intro jx e he
        match jx, he with
        | 0, he => simp [semEvents] at he; subst he; exact .inl rfl
        | 1, _ => exact .inr (by simp [deafBehind, semEvents])
        | 2, _ => exact .inr (by simp [deafBehind, semEvents])
        | 3, he => simp [semEvents] at he; subst he; exact .inl rfl
        | jx + 4, he => simp [semEvents] at he
      · have hnb := hw' hmw hrun'
        have e3 : tag' = .w3 := by
          rcases ht with rfl | ⟨_, rfl⟩
          · cases tag' <;> first | rfl | exact hW3.elim | exact absurd rfl hnb
          · rfl
        subst e3
        simp only [if_true]
        exact .sema fun x hx => by
          by_cases e : x = i
          · subst e; rw [upd_same]
          · rw [upd_ne _ _ e]; exact hoth x hx e
    · obtain ⟨g', w', es, hgo, ⟨rfl, rfl⟩, hg'⟩ := hstep w rf
      exact C.wk_idle E ha hA hpos hi hρ hgo (.d4 hg') (by omega)
  | quit h =>
    cases m with
    | zero => rw [h.1] at hrun; cases hrun
    | succ k =>
      rcases h with ⟨hf, _⟩ | ⟨_, g', es, hmute, hstep, hq⟩
      · rw [hf] at hrun; cases hrun
      · have hbk : ∀ e ∈ es, Bk Wg e := fun e he => Go.ConcR.bk_of_mute (hmute e he)
        refine C.wk_book E ha hA hpos hi hρ (hstep w) (.refl Wg w) hwg hbk (d0 fun e he => touch_mute (hmute e he)) (.quit hq) rfl (by omega) (fun tag' ht _ => ?_) (.inr ⟨rfl, by omega⟩)
        have := (hmode.same (i := i) 0 0).retag ht
        rw [hsg] at this
        exact this
end
end Go.Proofs.Ytngnkdedfcnfkaa

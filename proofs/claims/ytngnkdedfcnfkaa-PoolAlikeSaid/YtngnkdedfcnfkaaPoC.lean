/-
  A starter and its workers: a go statement.
-/
import Derived.Test.YtngnkdedfcnfkaaPoB
namespace Go.Proofs.Ytngnkdedfcnfkaa
open Go Go.Conc
open Go.ConcN (sumTo sumTo_congr upd sumTo_upd upd_ne upd_same ShN RelBy CTag WD WgLive Vc cnt OpenSt pend)
open Go.ConcR (stA smA WgAt)

theorem mode_hire {N : Nat} {ρ : Roles} {s : Spot} {st sm : Int} (h : Go.ConcN.Mode N (stg ρ) (.sp 0 3) st sm) : Go.ConcN.Mode (N + 1) (stg (upd ρ N (some (s, .open)))) .kd st sm := by
  cases h with
  | opn h1 h2 h3 =>
    have e : Vc (N + 1) (stg (upd ρ N (some (s, .open)))) + pend .kd = Vc N (stg ρ) + pend (.sp 0 3) := by
      rw [stg_upd]
      have e1 : (sumTo N fun i => cnt (upd (stg ρ) N ⟨stgO (some (s, .open)), 0, 0⟩ i)) = sumTo N fun i => cnt (stg ρ i) := sumTo_congr fun a ha => by rw [upd_ne _ _ (by omega)]
      simp only [Vc, sumTo, upd_same, e1]
      simp [cnt, stgO, pend]
    rw [← e]
    refine .opn trivial (fun i hi => ?_) (by simp)
    rw [stg_upd]
    by_cases e : i = N
    · subst e; rw [upd_same]; exact .inl rfl
    · rw [upd_ne _ _ e]; exact h2 i (by omega)
  | reg h1 _ _ => exact h1.elim
  | last L h1 _ _ _ => exact h1.elim
  | fin h1 _ => exact h1.elim

section
variable {P : Program} {ty : TypeId} {Wg B : Nat} {Shun : Loc → Prop} {Ch : Nat → Prop} {SR : World → World → Prop} {ρ : Roles} {T : Trace} {gs : Array Goroutine} {w : World} {q : Nat → Nat}

/-- ████ A go STATEMENT OF THE STARTER's: the child is on its way to a spot. The count of the group was raised ahead of it. ████ -/
theorem Hub.hire (E : Env ty Wg B Ch SR) (hN : gs.size + 1 < 2147483648) {a a' child : Goroutine} {es : Array Event} {sl : Option (Nat × Nat)} (ha : gs[0]? = some a) (hrun : a.status = .running) (C : Hub P ty Wg B Shun Ch SR (.sp 0 3) ρ T gs w q) (hd0 : Deaf T 0 = 0)
    (hgo : ∀ w₁, SR w w₁ → stepG P true a w₁ = .spawn a' child w₁ es) (hes : ∀ M, ∀ e ∈ es, EvM Wg M Shun ρ e ∧ Unmarked e)
    (s : Spot) (hwf : s.Wf ty Wg B Ch SR) (hK : ∀ w₁, SR w w₁ → s.K w₁) (hfresh : ∀ i s' st, ρ i = some (s', st) → s'.chan ≠ s.chan) (hch : ∃ k, w.heap[s.chan]? = some (.chan 0 #[] false k k false))
    (hcross : ∀ j s' st, ρ j = some (s', st) → (∀ a, s.Own a → ¬ s'.DepB a.block ∧ ¬ s'.Own a ∧ ¬ s'.Dep a) ∧ (∀ a, s'.Own a → ¬ s.DepB a.block ∧ ¬ s.Own a ∧ ¬ s.Dep a)) (hsh : ∀ a, s.Dep a ∨ s.Own a → ¬ Shun (.cell a))
    (hchild : ∀ w₁, SR w w₁ → ∃ nc, GoesTo P B s nc child w₁) :
    ∃ (N : Nat) (gs' : Array Goroutine) (w₁ : World) (sl' : Option (Nat × Nat)) (T' : Trace) (q' : Nat → Nat) (ρ₁ : Roles), runNT P N (crowd gs w sl) T = (.next (crowd gs' w₁ sl'), T') ∧ gs'.size = gs.size + 1 ∧ gs'[0]? = some a' ∧ SR w w₁ ∧ Evo ρ ρ₁ ∧
      Hub P ty Wg B Shun Ch SR .kd (upd ρ₁ gs.size (some (s, .open))) T' gs' w₁ q' ∧ Deaf T' 0 = 0 := by
  obtain ⟨N, gs₁, sl₁, sl₂, T₁, q₁, ρ₁, w₀, d, hr, hsz, ha₁, C₁, hd₁, hev, hSR, hchs, _, hst⟩ := C.turn (sl := sl) E hN (by simp) ha hrun
  have hlt : 0 < gs₁.size := (Array.getElem?_eq_some_iff.1 ha₁).1
  obtain ⟨hops, hs, hl, hn⟩ := evM_ops C₁.wgl (fn := a.frame.fn) (pos := a.frame.place) (fun e he => (hes _ e he).1.evo hev)
  have hdf : ∀ t : Trace, Deaf (t ++ MemOp.ofEvents 0 a.frame.fn a.frame.place es) 0 = Deaf t 0 := fun t => by rw [Deaf_own]; exact deafBehind_still (fun e he => (hes 0 e he).2) _
  have hrt := runT_crowd_spawn (P := P) (sl := sl₂) (i := 0) ha₁ (hgo _ hSR)
  have hpush : ((MemOp.ofEvents 0 a.frame.fn a.frame.place es).push { g := 0, fn := a.frame.fn, pos := a.frame.place, act := .go gs₁.size } |>.push { g := gs₁.size, fn := child.frame.fn, pos := a.frame.place, act := .start }) =
      MemOp.ofEvents 0 a.frame.fn a.frame.place es ++ #[{ g := 0, fn := a.frame.fn, pos := a.frame.place, act := .go gs₁.size }, { g := gs₁.size, fn := child.frame.fn, pos := a.frame.place, act := .start }] := by
    apply Array.ext'; simp
  rw [hpush] at hrt
  have hnone : ρ₁ gs₁.size = none := (C₁.above _ (Nat.le_refl _)).2
  have hD1 : ∀ x, Deaf (T₁ ++ MemOp.ofEvents 0 a.frame.fn a.frame.place es) x = Deaf T₁ x := fun x => by
    by_cases ex : x = 0
    · subst ex; exact hdf T₁
    · exact Deaf_other T₁ (fun z => ex z.symm) _ hops
  have hup : ∀ x, x ≠ gs₁.size → upd ρ₁ gs₁.size (some (s, .open)) x = ρ₁ x := fun x hx => upd_ne ρ₁ _ hx
  have hex : ∀ {j : Nat} {s' : Spot} {st' : Stage}, upd ρ₁ gs₁.size (some (s, .open)) j = some (s', st') → (j = gs₁.size ∧ s' = s ∧ st' = .open) ∨ (j ≠ gs₁.size ∧ ρ₁ j = some (s', st')) := by
    intro j s' st' h
    by_cases e : j = gs₁.size
    · subst e; rw [upd_same] at h
      obtain ⟨rfl, rfl⟩ := Prod.mk.inj (Option.some.inj h)
      exact .inl ⟨rfl, rfl, rfl⟩
    · rw [hup j e] at h; exact .inr ⟨e, h⟩
  have hcr : ∀ j s' st, ρ₁ j = some (s', st) → (∀ a, s.Own a → ¬ s'.DepB a.block ∧ ¬ s'.Own a ∧ ¬ s'.Dep a) ∧ (∀ a, s'.Own a → ¬ s.DepB a.block ∧ ¬ s.Own a ∧ ¬ s.Dep a) := fun j s' st h => let ⟨_, h'⟩ := hev.spot h; hcross j s' _ h'
  have hlies : Lies Wg Shun (RdOf (upd ρ₁ gs₁.size (some (s, .open)))) (OwOf (upd ρ₁ gs₁.size (some (s, .open)))) := by
    refine ⟨C₁.lies.grp, fun g l hl => ?_, fun g l hl => ?_, fun g g' l hO hne => ⟨fun hO' => ?_, fun hR' => ?_⟩⟩
    · rcases hl with ⟨s', st', a', h1, rfl, h3⟩ | ⟨s', st', a', h1, rfl, h3⟩
      · rcases hex h1 with ⟨_, rfl, _⟩ | ⟨_, h1⟩
        · exact hsh a' (.inl h3)
        · exact C₁.lies.apart g _ (.inl ⟨s', st', a', h1, rfl, h3⟩)
      · rcases hex h1 with ⟨_, rfl, _⟩ | ⟨_, h1⟩
        · exact hsh a' (.inr h3)
        · exact C₁.lies.apart g _ (.inr ⟨s', st', a', h1, rfl, h3⟩)
    · rcases hl with ⟨s', st', a', h1, rfl, h3⟩ | ⟨s', st', a', h1, rfl, h3⟩ <;> rfl
    · obtain ⟨s₁, st₁, a₁, h1, rfl, h3⟩ := hO
      obtain ⟨s₂, st₂, a₂, k1, k2, k3⟩ := hO'
      obtain rfl := Loc.cell.inj k2
      rcases hex h1 with ⟨e1, rfl, _⟩ | ⟨_, h1'⟩ <;> rcases hex k1 with ⟨e2, rfl, _⟩ | ⟨_, k1'⟩
      · exact hne (e1.trans e2.symm)
      · exact ((hcr g' s₂ st₂ k1').1 _ h3).2.1 k3
      · exact ((hcr g s₁ st₁ h1').2 _ h3).2.1 k3
      · exact (C₁.lies.excl g g' _ ⟨s₁, st₁, a₁, h1', rfl, h3⟩ hne).1 ⟨s₂, st₂, a₁, k1', rfl, k3⟩
    · obtain ⟨s₁, st₁, a₁, h1, rfl, h3⟩ := hO
      obtain ⟨s₂, st₂, a₂, k1, k2, k3⟩ := hR'
      obtain rfl := Loc.cell.inj k2
      rcases hex h1 with ⟨e1, rfl, _⟩ | ⟨_, h1'⟩ <;> rcases hex k1 with ⟨e2, rfl, _⟩ | ⟨_, k1'⟩
      · exact hne (e1.trans e2.symm)
      · exact ((hcr g' s₂ st₂ k1').1 _ h3).2.2 k3
      · exact ((hcr g s₁ st₁ h1').2 _ h3).2.2 k3
      · exact (C₁.lies.excl g g' _ ⟨s₁, st₁, a₁, h1', rfl, h3⟩ hne).2 ⟨s₂, st₂, a₁, k1', rfl, k3⟩
  have p1 := C₁.past.appMain hops hs C₁.lies hl hn
  have p2 := p1.congr (Mem' := MemOf ρ₁) (Rd' := RdOf (upd ρ₁ gs₁.size (some (s, .open)))) (Ow' := OwOf (upd ρ₁ gs₁.size (some (s, .open)))) (fun _ => Iff.rfl)
    (fun g l hM => by
      have hne : g ≠ gs₁.size := fun e => by subst e; unfold MemOf at hM; rw [hnone] at hM; cases hM
      unfold RdOf; rw [hup g hne])
    (fun g l hM => by
      have hne : g ≠ gs₁.size := fun e => by subst e; unfold MemOf at hM; rw [hnone] at hM; cases hM
      unfold OwOf; rw [hup g hne])
  have p3 := p2.hire hlies (c := gs₁.size) (x := { g := 0, fn := a.frame.fn, pos := a.frame.place, act := .go gs₁.size }) (y := { g := gs₁.size, fn := child.frame.fn, pos := a.frame.place, act := .start }) ⟨rfl, rfl⟩ ⟨rfl, rfl⟩
    (by rw [hD1, hd₁]; exact hd0) (by rw [hD1]; exact (C₁.above _ (Nat.le_refl _)).1) (by unfold MemOf; rw [hnone]; simp)
  rw [Array.append_assoc] at p3
  have p4 := p3.congr (Mem' := MemOf (upd ρ₁ gs₁.size (some (s, .open)))) (fun g => by
    unfold MemOf
    by_cases e : g = gs₁.size
    · subst e; rw [upd_same]; simp
    · rw [hup g e]; simp [e]) (fun _ _ _ => Iff.rfl) (fun _ _ _ => Iff.rfl)
  have hD2 : ∀ x, Deaf (T₁ ++ (MemOp.ofEvents 0 a.frame.fn a.frame.place es ++ #[{ g := 0, fn := a.frame.fn, pos := a.frame.place, act := .go gs₁.size }, { g := gs₁.size, fn := child.frame.fn, pos := a.frame.place, act := .start }])) x = Deaf T₁ x := fun x => by
    rw [← Array.append_assoc, Deaf_quiet (fun op hop d => by
      simp only [List.mem_toArray, List.mem_cons, List.not_mem_nil, or_false] at hop
      rcases hop with rfl | rfl <;> rfl), hD1]
  obtain ⟨nc, hnc⟩ := hchild _ hSR
  refine ⟨N + 1, _, w₀.at d, sl₂, _, upd q₁ gs₁.size (nc + 1), ρ₁, runNT_succ_of hr (hst.trans hrt), by simp [hsz], (by rw [Array.getElem?_push, if_neg (by simp; omega)]; exact Array.getElem?_setIfInBounds_self_of_lt hlt), hSR, hev, ?_, by rw [hD2, hd₁]; exact hd0⟩
  rw [← hsz]
  refine ⟨fun x y hx hy => ?_, fun i s' st' e => ?_, fun i s' e => ?_, fun i s' e => ?_, fun i j s₁ s₂ st₁ st₂ e₁ e₂ hne hb => ?_, fun i s' st' e => ?_, fun i j s₁ s₂ st₁ st₂ e₁ e₂ hne => ?_, by rw [hup 0 (by omega)]; exact C₁.zero, fun x hx => ?_, p4, hlies, ?_, ?_⟩
  · by_cases ex : x = gs₁.size
    · subst ex
      rw [Array.getElem?_push, if_pos (by simp)] at hy
      obtain rfl := Option.some.inj hy
      rw [upd_same, upd_same]
      exact ⟨.inl ⟨nc, rfl, hnc⟩, by rw [hD2]; exact (C₁.above _ (Nat.le_refl _)).1⟩
    · have hxl : x < gs₁.size := by
        have := (Array.getElem?_eq_some_iff.1 hy).1
        simp at this; omega
      rw [Array.getElem?_push, if_neg (by simp; omega), Array.getElem?_setIfInBounds_ne (by omega)] at hy
      rw [upd_ne q₁ _ ex, hup x ex]
      have hops2 : ∀ op ∈ MemOp.ofEvents 0 a.frame.fn a.frame.place es ++ #[({ g := 0, fn := a.frame.fn, pos := a.frame.place, act := .go gs₁.size } : MemOp), { g := gs₁.size, fn := child.frame.fn, pos := a.frame.place, act := .start }], op.g ≠ x := by
        intro op hop z
        rcases Array.mem_append.1 hop with h | h
        · have := hops op h; omega
        · simp only [List.mem_toArray, List.mem_cons, List.not_mem_nil, or_false] at h
          rcases h with rfl | rfl
          · exact absurd z (by simp; omega)
          · exact ex z.symm
      exact (C₁.role x y hx hy).rely (Ch := Ch) (SR := SR) hops2 (fun s st h => ⟨C₁.wf x s st h, C₁.keep x s st h, SameO.refl _ _, rfl⟩) id
  · rcases hex e with ⟨_, rfl, _⟩ | ⟨_, e⟩
    · exact hK _ hSR
    · exact C₁.keep i s' st' e
  · rcases hex e with ⟨_, rfl, _⟩ | ⟨_, e⟩
    · obtain ⟨k, hk⟩ := hch; exact ⟨k, (hchs _ hwf.chan).trans hk⟩
    · exact C₁.chans i s' e
  · rcases hex e with ⟨_, _, h⟩ | ⟨_, e⟩
    · cases h
    · exact C₁.shut i s' e
  · rcases hex e₁ with ⟨e1, rfl, _⟩ | ⟨_, e₁'⟩ <;> rcases hex e₂ with ⟨e2, rfl, _⟩ | ⟨_, e₂'⟩
    · exact absurd (e1.trans e2.symm) hne
    · obtain ⟨_, h⟩ := hev.spot e₂'; exact hfresh j s₂ _ h
    · obtain ⟨_, h⟩ := hev.spot e₁'; exact fun z => hfresh i s₁ _ h z.symm
    · exact C₁.inj i j s₁ s₂ st₁ st₂ e₁' e₂' hne hb
  · rcases hex e with ⟨_, rfl, _⟩ | ⟨_, e⟩
    · exact hwf
    · exact C₁.wf i s' st' e
  · rcases hex e₁ with ⟨e1, rfl, _⟩ | ⟨_, e₁'⟩ <;> rcases hex e₂ with ⟨e2, rfl, _⟩ | ⟨_, e₂'⟩
    · exact absurd (e1.trans e2.symm) hne
    · exact fun a h => ((hcr j s₂ st₂ e₂').1 a h).1
    · exact fun a h => ((hcr i s₁ st₁ e₁').2 a h).1
    · exact C₁.cross i j s₁ s₂ st₁ st₂ e₁' e₂' hne
  · have hx2 : gs₁.size + 1 ≤ x := by simpa using hx
    have := C₁.above x (by omega)
    exact ⟨by rw [hD2]; exact this.1, by rw [hup x (by omega)]; exact this.2⟩
  · obtain ⟨st, sm, h1, h2⟩ := C₁.mode
    refine ⟨st, sm, h1, ?_⟩
    have := mode_hire (s := s) h2
    simpa using this
  · rcases C₁.calm with h | h
    · left
      intro j s' st' e
      rcases hex e with ⟨_, _, h'⟩ | ⟨_, e⟩
      · exact h'
      · exact h j s' st' e
    · exact .inr h
end

end Go.Proofs.Ytngnkdedfcnfkaa

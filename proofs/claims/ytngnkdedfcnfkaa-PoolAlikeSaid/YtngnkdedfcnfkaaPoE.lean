/-
  A starter and its workers: the starter's select, from the step ahead of it.
-/
import Derived.Test.YtngnkdedfcnfkaaPoD
namespace Go.Proofs.Ytngnkdedfcnfkaa
open Go Go.Conc
open Go.ConcN (sumTo upd sumTo_upd upd_ne upd_same ShN RelBy CTag WD WgLive)
open Go.ConcR (stA smA WgAt)

section
variable {P : Program} {ty : TypeId} {Wg B : Nat} {Shun : Loc → Prop} {Ch : Nat → Prop} {SR : World → World → Prop} {tag : CTag} {ρ : Roles} {T : Trace} {gs : Array Goroutine} {w : World} {q : Nat → Nat}

/-- ████ THE STARTER's select. ████ -/
theorem Hub.select (E : Env ty Wg B Ch SR) (hN : gs.size + 1 < 2147483648) (ht : tag ≠ .blk) (hopen : ∀ i s st, ρ i = some (s, st) → st = .open) {sl : Option (Nat × Nat)} {c₀ : CommCase} {back : Nat} {zb : Value} {a a₂ : Goroutine} {es : Array Event} {Nx : Nat → Spot → Spot → Prop}
    (ha : gs[0]? = some a) (hrun : a.status = .running) (C : Hub P ty Wg B Shun Ch SR tag ρ T gs w q) (hd0 : Deaf T 0 = 0) (hst : ∀ w₁, SR w w₁ → stepG P true a w₁ = .comm a₂ #[c₀, rcase back zb] true .select w₁ es) (hes : ∀ M, ∀ e ∈ es, EvM Wg M Shun ρ e ∧ Unmarked e)
    (S : Sel Ch B ρ w c₀ back) (hnext : Serves P ty Wg B Ch SR ρ w c₀ back Nx) (hrdy : ∃ i s, ρ i = some (s, .open) ∧ i < gs.size ∧ Wants c₀ back s) :
    ∃ N m' T', runNT P N (crowd gs w sl) T = (.next m', T') ∧ Selected P ty Wg B Shun Ch SR tag ρ w gs.size c₀ back zb a₂ Nx m' T' := by
  obtain ⟨N, gs₁, sl₁, sl₂, T₁, q₁, ρ₁, w₀, d, hr, hsz, ha₁, C₁, hd₁, hev, hSR, hch, _, hstp⟩ := C.turn (sl := sl) E hN ht ha hrun
  obtain rfl := hev.eq_of_open hopen
  generalize hw₁ : w₀.at d = w₁ at C₁ hSR hstp
  have hch' : ∀ c, Ch c → w₁.heap[c]? = w.heap[c]? := fun c hc => by rw [← hw₁]; exact hch c hc
  have hlt0 : 0 < gs₁.size := (Array.getElem?_eq_some_iff.1 ha₁).1
  obtain ⟨hops, hs, hl, hn⟩ := evM_ops C₁.wgl (fn := a.frame.fn) (pos := a.frame.place) (fun e he => (hes _ e he).1)
  have hdf : ∀ t : Trace, Deaf (t ++ MemOp.ofEvents 0 a.frame.fn a.frame.place es) 0 = Deaf t 0 := fun t => by rw [Deaf_own]; exact deafBehind_still (fun e he => (hes 0 e he).2) _
  have p1 := C₁.past.appMain hops hs C₁.lies hl hn
  have S₁ : Sel Ch B ρ₁ w₁ c₀ back := ⟨S.first.imp (fun ⟨c, v, z, h, h1, h2, h3, k, hk⟩ => ⟨c, v, z, h, h1, h2, h3, k, (hch' _ h1).trans hk⟩) id, S.ch, S.low, let ⟨k, hk⟩ := S.chan; ⟨k, (hch' _ S.ch).trans hk⟩, S.sends⟩
  obtain ⟨kb, hkb⟩ := S₁.chan
  have hstep := hst w₁ hSR
  have hcase : ∀ cc ∈ #[c₀, rcase back zb], cc = c₀ ∨ cc = rcase back zb := fun cc h => by simpa using h
  have hall : ∀ cc ∈ #[c₀, rcase back zb], NoWays w₁ (gs₁.setIfInBounds 0 ph) cc ∨ (∃ c v z k, cc = scase c v z ∧ w₁.heap[c]? = some (.chan 0 #[] false k k false) ∧ ∀ p ∈ partners (gs₁.setIfInBounds 0 ph) c false, p.2 = 0 ∧ p.1 ≠ 0 ∧ ∃ gj zj shj, gs₁[p.1]? = some (parked gj #[rcase c zj] shj)) ∨
      (∃ c z k, cc = rcase c z ∧ w₁.heap[c]? = some (.chan 0 #[] false k k false) ∧ ∀ p ∈ partners (gs₁.setIfInBounds 0 ph) c true, p.2 = 0 ∧ p.1 ≠ 0 ∧ ∃ gj vj zj shj, gs₁[p.1]? = some (parked gj #[scase c vj zj] shj)) := by
    intro cc hcc
    rcases hcase cc hcc with rfl | rfl
    · rcases S₁.first with ⟨c, v, z, rfl, h1, h2, h3, k, hk⟩ | ⟨v, z, rfl⟩
      · refine .inr (.inl ⟨c, v, z, k, rfl, hk, fun p hp => ?_⟩)
        obtain ⟨e1, e2, s, g₂, u, _, h1, h2, _, h3⟩ := C₁.partner hp
        refine ⟨e1, e2, g₂, s.z, .recv true, ?_⟩
        rw [h3]
        unfold Spot.seat Spot.case Spot.shape
        rw [h1, ← h2]; rfl
      · exact .inl ⟨by simp [illMade, scaseNil], by simp [ways, scaseNil]⟩
    · refine .inr (.inr ⟨back, zb, kb, rfl, hkb, fun p hp => ?_⟩)
      obtain ⟨e1, e2, s, g₂, u, _, h1, h2, _, h3⟩ := C₁.partner hp
      refine ⟨e1, e2, g₂, u, s.z, .send, ?_⟩
      rw [h3]
      unfold Spot.seat Spot.case Spot.shape
      rw [h1, ← h2]; rfl
  by_cases hsome : ∃ cc ∈ #[c₀, rcase back zb], ways w₁ (gs₁.setIfInBounds 0 ph) cc ≠ []
  · -- SOMEBODY IS PARKED THERE
    obtain ⟨n, d', c, k, j, gj, zj, shj, hc, hj0, hkind⟩ := crowd_sel_meets (sl := sl₂) ha₁ (by simpa using hstep) hall hsome
    have hjl : ∀ {y : Goroutine}, gs₁[j]? = some y → j < gs₁.size := fun h => (Array.getElem?_eq_some_iff.1 h).1
    have harr : ∀ (x y : Goroutine) (i : Nat), 0 < i → i ≠ j → ((gs₁.setIfInBounds j x).setIfInBounds 0 y)[i]? = gs₁[i]? := fun x y i h1 h2 => by
      rw [Array.getElem?_setIfInBounds_ne (by omega), Array.getElem?_setIfInBounds_ne (fun e => h2 e.symm)]
    have harr0 : ∀ (x y : Goroutine), ((gs₁.setIfInBounds j x).setIfInBounds 0 y)[0]? = some y := fun x y => Array.getElem?_setIfInBounds_self_of_lt (by simpa using hlt0)
    have fin : ∀ {s : Spot} {ops : Array MemOp} {gs' : Array Goroutine} {g₂ g' a' : Goroutine}, ρ₁ j = some (s, .open) → s.chan = c → s.home g₂ → s.Has w₁ → Deaf T₁ j = 0 → j < gs₁.size →
        (∀ op ∈ ops, (op.g = 0 ∨ op.g = j) ∧ op.act.touch? = none ∧ (∀ B, c < B → op.act.low B) ∧ ∀ m, op.act ≠ .mark m) →
        runT P (crowd gs₁ w₁ sl₂) 0 = (.next (crowd gs' ((w₁.at d').setChan c 0 #[] false (k + 1) (k + 1) false) sl₂), MemOp.ofEvents 0 a.frame.fn a.frame.place es ++ ops) →
        gs'.size = gs₁.size → (∀ x, 0 < x → x ≠ j → gs'[x]? = gs₁[x]?) → gs'[j]? = some g' → gs'[0]? = some a' →
        ((s.isSend = false ∧ (∃ v z, c₀ = scase s.chan v z ∧ g' = Go.Conc.served g₂ (recvd true v true)) ∧ a' = a₂.finishComm P #[c₀, rcase back zb] .select 0 undef false) ∨
          (s.isSend = true ∧ s.chan = back ∧ g' = Go.Conc.served g₂ undef ∧ ∃ u, s.Val u w₁ ∧ a' = a₂.finishComm P #[c₀, rcase back zb] .select 1 u true)) →
        ∃ N m' T', runNT P N (crowd gs w sl) T = (.next m', T') ∧ Selected P ty Wg B Shun Ch SR tag ρ₁ w gs.size c₀ back zb a₂ Nx m' T' := by
      intro s ops gs' g₂ g' a' hρ hsc hhome hhas hDj hjs hx hrt hsz' hoth hself h0' hkind'
      have hW : Meets Ch w₁ ((w₁.at d').setChan c 0 #[] false (k + 1) (k + 1) false) := ⟨d', c, k, by rw [← hsc]; exact (C₁.wf j s _ hρ).chan, hc, rfl⟩
      have p2 := p1.appMute (fun op h => (hx op h).2.1) (fun op h => (hx op h).2.2.1 _ (Array.getElem?_eq_some_iff.1 hc).1) (fun op h => (hx op h).2.2.2 _)
      rw [Array.append_assoc] at p2
      have hdeaf : ∀ x, Deaf (T₁ ++ (MemOp.ofEvents 0 a.frame.fn a.frame.place es ++ ops)) x = Deaf (T₁ ++ MemOp.ofEvents 0 a.frame.fn a.frame.place es) x := fun x => nomark_ev (fun op h => ⟨(hx op h).2.1, (hx op h).2.2.2⟩) T₁ x
      have := C₁.selected (sl' := sl₂) E (by omega) hjs hρ hsz' hoth hself h0' (fun op h => (Array.mem_append.1 h).elim (fun h => .inr (hops op h)) (fun h => (hx op h).1.symm)) p2 (by rw [hdeaf, Deaf_other T₁ (g' := 0) (fun e => hj0 e.symm) _ hops]; exact hDj) (by rw [hdeaf, hdf T₁, hd₁]; exact hd0) hSR hW hhome hhas hnext hkind'
      rw [hsz] at this
      exact ⟨N + 1, _, _, runNT_succ_of hr (hstp.trans hrt), this⟩
    have hseat : ∀ {y : Goroutine} {cs : Array CommCase} {sh : CommShape}, gs₁[j]? = some (parked y cs sh) → ∃ s g₂ u, ρ₁ j = some (s, .open) ∧ s.Val u w₁ ∧ cs = (s.seat u).cases ∧ sh = (s.seat u).shape ∧ s.home g₂ ∧ s.Has w₁ ∧ Deaf T₁ j = 0 ∧ ∀ P c s k v ok, y.finishComm P c s k v ok = g₂.finishComm P c s k v ok := by
      intro y cs sh hy
      have hR := C₁.role j _ (by omega) hy
      rcases hR.cases (fun s st => C₁.keep j s st) with ⟨z, _⟩ | z | ⟨s, g₂, u, h1, _, _, h3⟩
      · cases z
      · cases z
      · rw [h1] at hR
        rcases hR.1 with ⟨kk, _, hG⟩ | ⟨_, hhas, u', hu', g₀, g₃, h4, hat⟩
        · have := hG.running (C₁.keep j s _ h1); cases this
        · obtain ⟨e1, e2, e3⟩ := parked_inj h4
          exact ⟨s, g₃, u', h1, hu', e1, e2, hat.2.2.2.2.1, hhas, hR.2, e3⟩
    rcases hkind with ⟨v, z, hcn, hgj, ops, hx, hrt⟩ | ⟨v, z, hcn, hgj, ops, hx, hrt⟩
    · obtain ⟨s, g₂, u, hρ, hu, hcs, hsh, hhome, hhas, hDj, hfin⟩ := hseat hgj
      have hn0 : n = 0 ∧ c₀ = scase c v z := by
        match n, hcn with
        | 0, hcn => exact ⟨rfl, by simpa using hcn⟩
        | 1, hcn => simp [rcase, scase] at hcn
        | n + 2, hcn => simp at hcn
      obtain ⟨rfl, hc0⟩ := hn0
      have hrecv : s.isSend = false ∧ s.chan = c ∧ shj = .recv true := by
        unfold Spot.seat Spot.case Spot.shape at hcs hsh
        cases hb : s.isSend with
        | true => rw [hb] at hcs; simp [rcase, scase] at hcs
        | false => rw [hb] at hcs hsh; simp [rcase] at hcs; exact ⟨rfl, hcs.1.symm, hsh⟩
      obtain ⟨hb, hsc, rfl⟩ := hrecv
      refine fin hρ hsc hhome hhas hDj (hjl hgj) hx hrt (by simp) (harr _ _) (g' := Go.Conc.served g₂ (recvd true v true)) ?_ (harr0 _ _) (.inl ⟨hb, ⟨v, z, by rw [hsc]; exact hc0, rfl⟩, rfl⟩)
      rw [Array.getElem?_setIfInBounds_ne (fun e => hj0 e.symm), Array.getElem?_setIfInBounds_self_of_lt (hjl hgj), hfin, finishComm_recv]
    · obtain ⟨s, g₂, u, hρ, hu, hcs, hsh, hhome, hhas, hDj, hfin⟩ := hseat hgj
      have hn1 : n = 1 ∧ c = back := by
        match n, hcn with
        | 0, hcn =>
          rcases S₁.first with ⟨c', v', z', rfl, _⟩ | ⟨v', z', rfl⟩
          · simp [rcase, scase] at hcn
          · simp [rcase, scaseNil] at hcn
        | 1, hcn => simp [rcase] at hcn; exact ⟨rfl, hcn.1.symm⟩
        | n + 2, hcn => simp at hcn
      obtain ⟨rfl, rfl⟩ := hn1
      have hsend : s.isSend = true ∧ s.chan = c ∧ u = v ∧ shj = .send := by
        unfold Spot.seat Spot.case Spot.shape at hcs hsh
        cases hb : s.isSend with
        | false => rw [hb] at hcs; simp [rcase, scase] at hcs
        | true => rw [hb] at hcs hsh; simp [scase] at hcs; exact ⟨rfl, hcs.1.symm, hcs.2.1.symm, hsh⟩
      obtain ⟨hb, hsc, rfl, rfl⟩ := hsend
      refine fin hρ hsc hhome hhas hDj (hjl hgj) hx hrt (by simp) (harr _ _) (g' := Go.Conc.served g₂ undef) ?_ (harr0 _ _) (.inr ⟨hb, hsc, rfl, _, hu, rfl⟩)
      rw [Array.getElem?_setIfInBounds_ne (fun e => hj0 e.symm), Array.getElem?_setIfInBounds_self_of_lt (hjl hgj), hfin, finishComm_send]
  · -- NOBODY: IT IS PARKED
    have hnw : ∀ cc ∈ #[c₀, rcase back zb], NoWays w₁ (gs₁.setIfInBounds 0 ph) cc := by
      intro cc hcc
      have hw : ways w₁ (gs₁.setIfInBounds 0 ph) cc = [] := by
        by_cases e : ways w₁ (gs₁.setIfInBounds 0 ph) cc = []
        · exact e
        · exact absurd ⟨cc, hcc, e⟩ hsome
      rcases hall cc hcc with h | ⟨c, v, z, k, rfl, hc, _⟩ | ⟨c, z, k, rfl, hc, _⟩
      · exact h
      · exact ⟨made_send v z hc, hw⟩
      · exact ⟨made_recv z hc, hw⟩
    have hrt := crowd_waits (P := P) (sl := sl₂) ha₁ (by simpa using hstep) hnw
    have hfirst : (∃ c v z, c₀ = scase c v z) ∨ ∃ v z, c₀ = scaseNil v z := S.first.imp (fun ⟨c, v, z, h, _⟩ => ⟨c, v, z, h⟩) id
    have hdf0 : ∀ x, x ≠ 0 → Deaf (T₁ ++ MemOp.ofEvents 0 a.frame.fn a.frame.place es) x = Deaf T₁ x := fun x hx => Deaf_other T₁ (fun z => hx z.symm) _ hops
    have C₂ : Hub P ty Wg B Shun Ch SR tag ρ₁ (T₁ ++ MemOp.ofEvents 0 a.frame.fn a.frame.place es) (gs₁.setIfInBounds 0 (parked a₂ #[c₀, rcase back zb] .select)) w₁ q₁ := by
      refine ⟨fun x y hx hy => ?_, C₁.keep, C₁.chans, C₁.shut, C₁.inj, C₁.wf, C₁.cross, C₁.zero, fun x hx => ?_, p1, C₁.lies, by simpa using C₁.mode, C₁.calm⟩
      · rw [Array.getElem?_setIfInBounds_ne (by omega)] at hy
        exact (C₁.role x y hx hy).rely (Ch := Ch) (SR := SR) (fun op hop z => by have := hops op hop; omega) (fun s st h => ⟨C₁.wf x s st h, C₁.keep x s st h, SameO.refl _ _, rfl⟩) id
      · have hx' : gs₁.size ≤ x := by simpa using hx
        have := C₁.above x hx'
        exact ⟨by rw [hdf0 x (by omega)]; exact this.1, this.2⟩
    obtain ⟨i, s, hρ, hil, hwant⟩ := hrdy
    have := C₂.sel_parked (sl := sl₂) (zb := zb) (a₂ := a₂) E (by simpa [hsz] using hN) ht hopen (Array.getElem?_setIfInBounds_self_of_lt hlt0) (by rw [hdf T₁, hd₁]; exact hd0) hSR S₁ hnext ⟨i, s, hρ, by simpa [hsz] using hil, hwant⟩ (fun i s hi hq => ?_)
    · obtain ⟨N', m', T', hr', hsel⟩ := this
      rw [show (gs₁.setIfInBounds 0 (parked a₂ #[c₀, rcase back zb] .select)).size = gs.size by simpa using hsz] at hsel
      refine ⟨N + (1 + N'), m', T', ?_, hsel⟩
      rw [runNT_add, hr]
      show runNT P (1 + N') (crowd gs₁ w₀ sl₁) T₁ = _
      have hone : runNT P 1 (crowd gs₁ w₀ sl₁) T₁ = _ := runNT_succ_of (N := 0) rfl (hstp.trans hrt)
      rw [runNT_add, hone]
      exact hr'
    · -- nobody who wants it is parked
      have hpos : 0 < i := by
        rcases Nat.eq_zero_or_pos i with rfl | h
        · rw [C₁.zero] at hi; cases hi
        · exact h
      by_cases hex : ∃ y, gs₁[i]? = some y
      · obtain ⟨y, hy⟩ := hex
        have hR := C₁.role i y hpos hy
        rw [hi] at hR
        rcases hR.1 with ⟨kk, h, _⟩ | ⟨_, _, u, hu, g₀, g₂, rfl, _⟩
        · omega
        · have hstand := stand_get (i := 0) (by omega) hy
          cases hb : s.isSend with
          | true =>
            have ho := (sel_offers (back := back) (zb := zb) hfirst a₂ s).1 hb
            rw [hb] at ho
            rw [ho]
            by_cases e : s.chan = back
            · exfalso
              have hm : (i, 0) ∈ partners (gs₁.setIfInBounds 0 ph) back true := mem_partners.2 ⟨_, hstand, by rw [offers_send, if_pos ⟨hb, e⟩]; simp⟩
              have hw := (hnw (rcase back zb) (by simp)).2
              rw [ways_recv hkb, List.map_eq_nil_iff] at hw
              rw [hw] at hm; cases hm
            · rw [if_neg e]
          | false =>
            have ho := (sel_offers (back := back) (zb := zb) hfirst a₂ s).2 hb
            rw [hb] at ho
            rcases ho with ⟨ho, _⟩ | ⟨_, v, z, hc0⟩
            · exact ho
            · exfalso
              rcases S₁.first with ⟨c', v', z', hc1, _, _, _, k', hk'⟩ | ⟨v', z', hc1⟩
              · have ec : s.chan = c' := by rw [hc0] at hc1; simp [scase] at hc1; exact hc1.1
                have hm : (i, 0) ∈ partners (gs₁.setIfInBounds 0 ph) s.chan false := mem_partners.2 ⟨_, hstand, by rw [offers_recv, if_pos ⟨hb, rfl⟩]; simp⟩
                have hw := (hnw c₀ (by simp)).2
                rw [hc0, ways_send (by rw [ec]; exact hk'), List.map_eq_nil_iff] at hw
                rw [hw] at hm; cases hm
              · rw [hc0] at hc1; simp [scase, scaseNil] at hc1
      · have := (C₁.above i (by
          rcases Nat.lt_or_ge i gs₁.size with h | h
          · exact absurd ⟨_, Array.getElem?_eq_getElem h⟩ hex
          · exact h)).2
        rw [this] at hi; cases hi
end
end Go.Proofs.Ytngnkdedfcnfkaa

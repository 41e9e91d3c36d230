/-
  A starter and its workers: a bystander's step, whichever ('Hub.by_step').
-/
import Derived.Test.YtngnkdedfcnfkaaPoZ
namespace Go.Proofs.Ytngnkdedfcnfkaa
open Go Go.Conc
open Go.ConcN (sumTo upd sumTo_upd upd_ne upd_same ShN RelBy CTag WD WgLive)
open Go.ConcR (stA smA WgAt)

section
variable {P : Program} {ty : TypeId} {Wg B : Nat} {Shun : Loc → Prop} {Ch : Nat → Prop} {SR : World → World → Prop} {tag : CTag} {ρ : Roles} {T : Trace} {gs : Array Goroutine} {w : World} {q : Nat → Nat}

/-- nobody offers what spot s of goroutine i wants -/
theorem Hub.no_partner (C : Hub P ty Wg B Shun Ch SR tag ρ T gs w q) {a : Goroutine} (ha : gs[0]? = some a) {i : Nat} {s : Spot} {st : Stage} (hρ : ρ i = some (s, st)) (hoff : offersAt a s.chan (!s.isSend) = []) :
    partners (gs.setIfInBounds i ph) s.chan (!s.isSend) = [] := partners_nil fun x y hy => by
  rcases getElem?_stand gs i x y hy with ⟨_, rfl⟩ | ⟨hx, hy'⟩
  · exact offersAt_ph _ _
  · rcases Nat.eq_zero_or_pos x with rfl | hxp
    · rw [ha] at hy'; obtain rfl := Option.some.inj hy'; exact hoff
    · refine (C.role x y hxp hy').offers (fun s st => C.keep x s st) _ _ (fun s' hs' ⟨h1, h2⟩ => ?_)
      cases hb : s.isSend with
      | false => exact C.inj i x s s' _ _ hρ hs' (fun z => hx z.symm) hb h2
      | true =>
        rw [hb] at h1
        exact C.inj x i s' s _ _ hs' hρ hx h1 h2.symm

/-- a step on the way to the seat -/
theorem Hub.by_way (C : Hub P ty Wg B Shun Ch SR tag ρ T gs w q) {a : Goroutine} (ha : gs[0]? = some a) (hA : Rests Ch tag w a) {i : Nat} {s : Spot} {st : Stage} {g g' : Goroutine} {w' : World} {es : Array Event} {sl : Option (Nat × Nat)} {k : Nat}
    (hpos : 0 < i) (hi : gs[i]? = some g) (hρ : ρ i = some (s, st)) (hst : st = .open ∨ st = .shut) (hD : Deaf T i = 0) (hby : st = .shut → Bye P ty Wg s) (hgo : stepG P false g w = .go g' w' es) (hd : DP s B w w' es) (hG : GoesTo P B s k g' w') (hlt : k + 1 < q i) : Moved P ty Wg B Shun Ch SR tag ρ T gs w q sl a i := by
  obtain ⟨hoff, hK, hCh, hWg, hSR⟩ := C.off_move hρ hd.1
  have hgrow : w.heap.size ≤ w'.heap.size := ((C.wf i s _ hρ).moveKept _ _ hd.1).size
  obtain ⟨hops, hr, hl, hn, hdf⟩ := evP_work (Wg := Wg) hρ (fn := g.frame.fn) (pos := g.frame.place) (fun a ha => Nat.lt_of_lt_of_le (C.low hρ a ha) hgrow) hd.2
  refine C.by_go (o' := some (s, st)) (n' := k + 1) ha hA hpos hi hgo ?_ (NewRole.same C hρ hK (hCh _ (C.wf i s _ hρ).chan) (.inl rfl) ?_) (evo_same hρ (.inl rfl)) hoff hCh hSR
    ((C.past.mono hgrow).appWork (by unfold MemOf; rw [hρ]; rfl) C.lies hops hr hl hn) (fun tag' h1 _ => C.mode_same (by rw [hρ]) hWg tag' h1) (.inr ⟨by rw [hρ], hlt⟩) (fun h => by omega)
  · rcases hst with rfl | rfl
    · exact ⟨.inl ⟨k, rfl, hG⟩, (hdf T).trans hD⟩
    · exact ⟨⟨k, rfl, hG⟩, hby rfl, (hdf T).trans hD⟩
  · rcases hst with rfl | rfl
    · exact .inl rfl
    · exact .inr (C.calm_wk hρ (by simp))

/-- ████ A BYSTANDER's STEP, NOBODY MEETING IT. ████ -/
theorem Hub.by_step (E : Env ty Wg B Ch SR) (hN : gs.size + 1 < 2147483648) (C : Hub P ty Wg B Shun Ch SR tag ρ T gs w q) {a : Goroutine} (ha : gs[0]? = some a) (hA : Rests Ch tag w a) {i : Nat} {g : Goroutine} {sl : Option (Nat × Nat)}
    (hpos : 0 < i) (hi : gs[i]? = some g) (hrun : g.status = .running) (hoff : ∀ s st, ρ i = some (s, st) → AtSeat P B s g w → offersAt a s.chan (!s.isSend) = []) : Moved P ty Wg B Shun Ch SR tag ρ T gs w q sl a i := by
  have hil : i < gs.size := (Array.getElem?_eq_some_iff.1 hi).1
  have hi0 : (i == 0) = false := by simp; omega
  have hR := C.role i g hpos hi
  have hf := fun j s st => C.keep j s st
  match e : ρ i, hR with
  | none, hR =>
    have hq : QuitsD P (q i) (Deaf T i) g := hR
    cases hqi : q i with
    | zero => rw [hqi] at hq; rw [hq.1] at hrun; cases hrun
    | succ k =>
      rw [hqi] at hq
      rcases hq with ⟨hf, _⟩ | ⟨_, g', es, hm, hstp, hq'⟩
      · rw [hf] at hrun; cases hrun
      have hs := fun op (hop : op ∈ MemOp.ofEvents i g.frame.fn g.frame.place es) => Go.Conc.mem_ofEvents hop
      refine C.by_go (o' := none) (n' := k) ha hA hpos hi (hstp w) (by show QuitsD P k (Deaf _ i) g'; rw [Deaf_own]; exact hq') (NewRole.none e) (evo_none e) (fun j s st _ h => ⟨hf j s st h, SameO.refl _ _, rfl⟩) (fun _ _ => rfl) (E.refl w)
        (C.past.appMute (fun op hop => by obtain ⟨e, he, rfl⟩ := hs op hop; exact touch_mute (hm e he)) (fun op hop => by obtain ⟨e, he, rfl⟩ := hs op hop; exact low_mute (hm e he) _)
          (Go.ConcN.norel_of fun e he h => by have := hm e he; rw [show e = ⟨e.loc, e.write, e.sync⟩ from rfl, h] at this; simp [Event.mute] at this))
        (fun tag' h1 _ => C.mode_same (by rw [e]) rfl tag' h1) (.inr ⟨by rw [e], by omega⟩) (fun _ s h => by rw [e] at h; cases h)
  | some (s, .open), hR =>
    obtain ⟨hS, hD⟩ := hR
    have hgt : ∃ k, q i = k + 1 ∧ GoesTo P B s k g w := by
      rcases hS with h | ⟨_, _, _, _, _, g₂, rfl, _⟩
      · exact h
      · cases hrun
    obtain ⟨k, hqi, hG⟩ := hgt
    rcases Goes.cases hG with hstop | ⟨k', rfl, hstep⟩
    · obtain ⟨hhas, u, hu, g₂, hat⟩ := hstop w ⟨C.keep i s _ e, SameO.refl _ w⟩
      obtain ⟨_, _, _, _, _, es, hes, hstp⟩ := id hat
      have hes' : ∀ x ∈ es, EvP s B x := fun x hx => by obtain ⟨a, rfl, ⟨a', ha', hd⟩, hb⟩ := hes x hx; obtain rfl := Loc.cell.inj ha'; exact ⟨a, false, rfl, hb, .inl ⟨rfl, hd⟩⟩
      obtain ⟨hops, hr, hl, hn, hdf⟩ := evP_work (Wg := Wg) e (fn := g.frame.fn) (pos := g.frame.place) (C.low e) hes'
      have hof := hoff s _ e ⟨hhas, u, hu, g₂, hat⟩
      have hnone := C.no_partner ha e hof
      obtain ⟨kk, hc⟩ := C.chans i s e
      have hw : ∀ cc ∈ (s.seat u).cases, NoWays w (gs.setIfInBounds i ph) cc := by
        intro cc hcc
        have : cc = s.case u := by simpa [Spot.seat] using hcc
        subst this
        unfold Spot.case
        cases hb : s.isSend with
        | false => rw [hb] at hnone; simp only [Bool.false_eq_true, if_false]; exact ways_recv_none hc hnone
        | true => rw [hb] at hnone; simp only [if_true]; exact ways_send_none hc (Nat.le_refl _) hnone
      refine ⟨_, _, upd ρ i (some (s, .open)), upd q i 0, w, tag, a, crowd_waits (sl := sl) hi (by rw [hi0]; exact hstp w (C.keep i s _ e)) hw, by simp, by rw [Array.getElem?_setIfInBounds_ne (by omega)]; exact ha, .inl ⟨rfl, rfl⟩, E.refl w, fun _ _ => rfl, ?_, Deaf_other T (by omega) _ hops, evo_same e (.inl rfl), meas_lt hil (.inr ⟨by rw [e], by omega⟩), fun j hj => upd_ne q 0 hj, fun _ s' h => by rw [e] at h; obtain ⟨rfl, _⟩ := Prod.mk.inj (Option.some.inj h); exact hof⟩
      refine C.put hpos hil (by simp) (fun x _ hx => Array.getElem?_setIfInBounds_ne (fun z => hx z.symm)) (Array.getElem?_setIfInBounds_self_of_lt hil) (fun op h => .inl (hops op h)) ⟨.inr ⟨rfl, hhas, u, hu, g, g₂, rfl, hat⟩, (hdf T).trans hD⟩
        (NewRole.same C e (C.keep i s _ e) rfl (.inl rfl) (.inl rfl)) (fun j s st _ h => ⟨hf j s st h, SameO.refl _ _, rfl, fun _ k h => ⟨k, h⟩⟩) (C.past.appWork (by unfold MemOf; rw [e]; rfl) C.lies hops hr hl hn) (C.mode_same (by rw [e]) rfl tag (.inl rfl))
    · obtain ⟨g', w', es, hgo, hd, hG'⟩ := hstep w ⟨C.keep i s _ e, SameO.refl _ w⟩
      exact C.by_way ha hA hpos hi e (.inl rfl) hD (by simp) hgo hd hG' (by omega)
  | some (s, .shut), hR =>
    obtain ⟨⟨k, hqi, hG⟩, hby, hD⟩ := hR
    rcases Goes.cases hG with hstop | ⟨k', rfl, hstep⟩
    · obtain ⟨hhas, u, hu, g₂, hat⟩ := hstop w ⟨C.keep i s _ e, SameO.refl _ w⟩
      obtain ⟨_, hfr, _, _, hhome, es, hes, hstp⟩ := id hat
      have hes' : ∀ x ∈ es, EvP s B x := fun x hx => by obtain ⟨a, rfl, ⟨a', ha', hd⟩, hb⟩ := hes x hx; obtain rfl := Loc.cell.inj ha'; exact ⟨a, false, rfl, hb, .inl ⟨rfl, hd⟩⟩
      obtain ⟨hops, hr, hl, hn, hdf⟩ := evP_work (Wg := Wg) e (fn := g.frame.fn) (pos := g.frame.place) (C.low e) hes'
      obtain ⟨hsend, kk, hc⟩ := C.shut i s e
      have hof := hoff s _ e ⟨hhas, u, hu, g₂, hat⟩
      have hnone := C.no_partner ha e hof
      rw [hsend] at hnone
      have hcase : (s.seat u).cases = #[rcase s.chan s.z] ∧ (s.seat u).shape = .recv true := by unfold Spot.seat Spot.case Spot.shape; rw [hsend]; exact ⟨rfl, rfl⟩
      obtain ⟨m, hm⟩ := hby g₂ w hhome hhas (C.keep i s _ e) C.live
      have hst := hstp w (C.keep i s _ e)
      rw [hcase.1, hcase.2] at hst
      have hfin : g₂.finishComm P #[rcase s.chan s.z] (.recv true) 0 s.z false = Go.Conc.served g₂ (recvd true s.z false) := rfl
      have hx : ∀ op ∈ #[({ g := i, fn := g₂.frame.fn, pos := g₂.frame.place, act := .recvClosed s.chan } : MemOp)], op.g = i ∧ op.act = .recvClosed s.chan := by
        intro op hop
        simp only [List.mem_toArray, List.mem_cons, List.not_mem_nil, or_false] at hop
        subst hop
        exact ⟨rfl, rfl⟩
      have hrt := crowd_recv_closed (P := P) (sl := sl) hi (by rw [hi0]; exact hst) hc hnone
      rw [hfin] at hrt
      have p1 := C.past.appWork (by unfold MemOf; rw [e]; rfl) C.lies hops hr hl hn
      have p2 := p1.appMute (u := #[({ g := i, fn := g₂.frame.fn, pos := g₂.frame.place, act := .recvClosed s.chan } : MemOp)]) (fun op h => by rw [(hx op h).2]; rfl) (fun op h => by rw [(hx op h).2]; exact (Array.getElem?_eq_some_iff.1 hc).1) (fun op h => by rw [(hx op h).2]; simp)
      rw [Array.append_assoc] at p2
      have hopsA : ∀ op ∈ MemOp.ofEvents i g.frame.fn g.frame.place es ++ #[({ g := i, fn := g₂.frame.fn, pos := g₂.frame.place, act := .recvClosed s.chan } : MemOp)], op.g = i := fun op h => (Array.mem_append.1 h).elim (hops op) fun h => (hx op h).1
      have hdf2 : Deaf (T ++ (MemOp.ofEvents i g.frame.fn g.frame.place es ++ #[({ g := i, fn := g₂.frame.fn, pos := g₂.frame.place, act := .recvClosed s.chan } : MemOp)])) i = 0 := by
        rw [← Array.append_assoc, Deaf_quiet (fun op hop d => by
          have := hx op hop
          obtain ⟨g0, f0, p0, a0⟩ := op
          simp only at this
          rw [this.2]; rfl), hdf T, hD]
      refine ⟨_, _, upd ρ i (some (s, .wk 7 0)), upd q i m, w, tag, a, hrt, by simp, by rw [Array.getElem?_setIfInBounds_ne (by omega)]; exact ha, .inl ⟨rfl, rfl⟩, E.refl w, fun _ _ => rfl, ?_, Deaf_other T (by omega) _ hopsA, evo_same e (.inr ⟨by simp, by simp⟩), meas_lt hil (.inl (by rw [e]; show 7 < 8; omega)), fun j hj => upd_ne q m hj, fun _ s' h => by rw [e] at h; cases h⟩
      refine C.put hpos hil (by simp) (fun x _ hx => Array.getElem?_setIfInBounds_ne (fun z => hx z.symm)) (Array.getElem?_setIfInBounds_self_of_lt hil) (fun op h => .inl (hopsA op h)) ⟨hm, hdf2, fun h => by omega⟩
        (NewRole.same C e (C.keep i s _ e) rfl (.inr ⟨_, _, rfl⟩) (.inr (C.calm_wk e (by simp)))) (fun j s st _ h => ⟨hf j s st h, SameO.refl _ _, rfl, fun _ k h => ⟨k, h⟩⟩) p2 (C.mode_same (by rw [e]; rfl) rfl tag (.inl rfl))
    · obtain ⟨g', w', es, hgo, hd, hG'⟩ := hstep w ⟨C.keep i s _ e, SameO.refl _ w⟩
      exact C.by_way ha hA hpos hi e (.inr rfl) hD (fun _ => hby) hgo hd hG' (by omega)
  | some (s, .wk n d), _ => exact C.by_wk E hN ha hA hpos hi e hrun
end
end Go.Proofs.Ytngnkdedfcnfkaa

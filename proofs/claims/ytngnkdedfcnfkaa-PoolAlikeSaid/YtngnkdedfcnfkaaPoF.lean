/-
  A starter and its workers: the starter closes a worker's channel.
-/
import Derived.Test.YtngnkdedfcnfkaaPoE
namespace Go.Proofs.Ytngnkdedfcnfkaa
open Go Go.Conc
open Go.ConcN (sumTo upd sumTo_upd upd_ne upd_same ShN RelBy CTag WD WgLive)
open Go.ConcR (stA smA WgAt)

theorem closeEvents_evM {Wg B c : Nat} {Shun : Loc → Prop} {ρ : Roles} (hc : c < B) : ∀ e ∈ closeEvents c, EvM Wg B Shun ρ e ∧ Unmarked e := by
  intro e he
  simp only [closeEvents, List.mem_toArray, List.mem_cons, List.not_mem_nil, or_false] at he
  rcases he with rfl | rfl
  · refine ⟨⟨fun b hb => ?_, fun _ => hc, by simp⟩, by simp, by simp⟩
    simp only [MemAct.ofEvent, MemAct.touch?, Option.some.injEq] at hb
    subst hb
    exact ⟨fun _ => by simp, fun _ _ _ a _ h => by cases h⟩
  · exact ⟨⟨fun b hb => by simp [MemAct.ofEvent, MemAct.touch?] at hb, fun _ => hc, by simp⟩, by simp, by simp⟩

section
variable {P : Program} {ty : TypeId} {Wg B : Nat} {Shun : Loc → Prop} {Ch : Nat → Prop} {SR : World → World → Prop} {tag : CTag} {ρ : Roles} {T : Trace} {gs : Array Goroutine} {w : World} {q : Nat → Nat}

/-- ████ THE STARTER CLOSES WORKER j's CHANNEL. ████ -/
theorem Hub.close (E : Env ty Wg B Ch SR) (hN : gs.size + 1 < 2147483648) (ht : tag ≠ .blk) {j : Nat} {s : Spot} {a a' : Goroutine} {sl : Option (Nat × Nat)} (hρ : ρ j = some (s, .open)) (hs : s.isSend = false) (hby : Bye P ty Wg s)
    (hcalm : ∀ w w', Aside Wg w w' → WgLive ty Wg w' → SR w w') (ha : gs[0]? = some a) (hrun : a.status = .running) (C : Hub P ty Wg B Shun Ch SR tag ρ T gs w q) (hmw : mayWake P a = true) (hrun' : a'.status = .running)
    (hgo : ∀ w₁ k, SR w w₁ → w₁.heap[s.chan]? = some (.chan 0 #[] false k k false) → stepG P true a w₁ = .go a' (w₁.setChan s.chan 0 #[] true k k false) (closeEvents s.chan)) :
    ∃ (N : Nat) (gs' : Array Goroutine) (w₁ : World) (sl' : Option (Nat × Nat)) (T' : Trace) (q' : Nat → Nat) (ρ₁ : Roles) (k : Nat), runNT P N (crowd gs w sl) T = (.next (crowd gs' (w₁.setChan s.chan 0 #[] true k k false) sl'), T') ∧ gs'.size = gs.size ∧ gs'[0]? = some a' ∧ SR w w₁ ∧ Evo ρ ρ₁ ∧
      (∀ c, Ch c → w₁.heap[c]? = w.heap[c]?) ∧ Hub P ty Wg B Shun Ch SR tag (upd ρ₁ j (some (s, .shut))) T' gs' (w₁.setChan s.chan 0 #[] true k k false) q' ∧ Deaf T' 0 = Deaf T 0 := by
  obtain ⟨N, gs₁, sl₁, sl₂, T₁, q₁, ρ₁, w₀, d, hr, hsz, ha₁, C₁, hd₁, hev, hSR, hch, _, hstp⟩ := C.turn (sl := sl) E hN ht ha hrun
  have hch' : ∀ c, Ch c → (w₀.at d).heap[c]? = w.heap[c]? := fun c hc => hch c hc
  generalize hw₁ : w₀.at d = w₁ at C₁ hSR hstp hch'
  have hρ₁ : ρ₁ j = some (s, .open) := ((hev j).2 s).2 hρ
  obtain ⟨k, hk⟩ := C₁.chans j s hρ₁
  have hW := C₁.wf j s _ hρ₁
  have hgo' := hgo w₁ k hSR hk
  have hlt : 0 < gs₁.size := (Array.getElem?_eq_some_iff.1 ha₁).1
  have hclt : s.chan < w₁.heap.size := (Array.getElem?_eq_some_iff.1 hk).1
  generalize hWd : w₁.setChan s.chan 0 #[] true k k false = W at hgo' 
  have hWc : W.heap[s.chan]? = some (.chan 0 #[] true k k false) := by
    rw [← hWd]; show (w₁.heap.setIfInBounds s.chan _)[s.chan]? = _
    exact Array.getElem?_setIfInBounds_self_of_lt hclt
  have hWn : ∀ b, b ≠ s.chan → W.heap[b]? = w₁.heap[b]? := fun b hb => by
    rw [← hWd]; show (w₁.heap.setIfInBounds s.chan _)[b]? = _
    exact Array.getElem?_setIfInBounds_ne (fun e => hb e.symm)
  have hoff : ∀ b, ¬ Ch b → W.heap[b]? = w₁.heap[b]? := fun b hb => hWn b (fun e => hb (e ▸ hW.chan))
  have hWg : W.heap[Wg]? = w₁.heap[Wg]? := hoff Wg E.chWg
  have hkept : Kept w₁ W := kept_off (S := (· = s.chan)) hWn (fun b hb arr e => by subst hb; rw [hk] at e; cases e) (Nat.le_of_eq (by rw [← hWd]; show _ = (w₁.heap.setIfInBounds s.chan _).size; simp))
  have hlive : WgLive ty Wg w₁ → WgLive ty Wg W := fun ⟨st, sm, h⟩ => ⟨st, sm, h.of_block hWg⟩
  have hK : ∀ i s' st, ρ₁ i = some (s', st) → s'.K W ∧ SameO s'.Own w₁ W ∧ W.heap[s'.C]? = w₁.heap[s'.C]? := fun i s' st h => by
    have Wf := C₁.wf i s' st h
    exact ⟨Wf.stabK _ _ (C₁.keep i s' st h) (fun a ha => same_block (hoff _ (Wf.depCh a ha).1)) (fun b hb => hoff b (Wf.depBCh b hb).1), ⟨fun a ha => same_block (hoff _ (Wf.ownCh a ha).1), hkept⟩, hoff _ (Wf.depBCh _ Wf.seeC).1⟩
  have hne : ∀ i s' st, i ≠ j → ρ₁ i = some (s', st) → s'.chan ≠ s.chan := fun i s' st hi h => C₁.inj j i s s' _ _ hρ₁ h (fun e => hi e.symm) hs
  obtain ⟨hops, hss, hl, hn⟩ := evM_ops C₁.wgl (fn := a.frame.fn) (pos := a.frame.place) (fun e he => (closeEvents_evM (Wg := Wg) (Shun := Shun) (ρ := ρ₁) hclt e he).1)
  have hWs : w₁.heap.size ≤ W.heap.size := hkept.size
  have hpast := (C₁.past.appMain hops hss C₁.lies hl hn).mono hWs
  have hdf : Deaf (T₁ ++ MemOp.ofEvents 0 a.frame.fn a.frame.place (closeEvents s.chan)) 0 = Deaf T₁ 0 := by
    rw [Deaf_own]; exact deafBehind_still (fun e he => (closeEvents_evM (Wg := Wg) (Shun := Shun) (ρ := ρ₁) hclt e he).2) _
  have hpos : 0 < j := by
    rcases Nat.eq_zero_or_pos j with rfl | h
    · rw [C₁.zero] at hρ₁; cases hρ₁
    · exact h
  have hex : ∀ {i : Nat} {s' : Spot} {st' : Stage}, upd ρ₁ j (some (s, .shut)) i = some (s', st') → (i = j ∧ s' = s ∧ st' = .shut) ∨ (i ≠ j ∧ ρ₁ i = some (s', st')) := by
    intro i s' st' h
    by_cases e : i = j
    · subst e; rw [upd_same] at h
      obtain ⟨rfl, rfl⟩ := Prod.mk.inj (Option.some.inj h)
      exact .inl ⟨rfl, rfl, rfl⟩
    · rw [upd_ne ρ₁ _ e] at h; exact .inr ⟨e, h⟩
  have hex0 : ∀ {i : Nat} {s' : Spot} {st' : Stage}, upd ρ₁ j (some (s, .shut)) i = some (s', st') → ∃ st, ρ₁ i = some (s', st) := by
    intro i s' st' h
    rcases hex h with ⟨rfl, rfl, _⟩ | ⟨_, h⟩
    · exact ⟨_, hρ₁⟩
    · exact ⟨_, h⟩
  have hf := fam_upd (ρ := ρ₁) (i := j) (o' := some (s, .shut)) (by rw [hρ₁]; rfl)
  -- the others' records stand; its own, if it was parked, is let try again
  have hother : ∀ (x : Nat) (y : Goroutine), 0 < x → x ≠ j → gs₁[x]? = some y → woken P a a' W y = y := fun x y hx hxj hy =>
    woken_of_again ((C₁.role x y hx hy).again (fun s st => C₁.keep x s st) (fun s' h => by rw [hWn _ (hne x s' _ hxj h)]; exact C₁.chans x s' h))
  have hself : ∀ y, gs₁[j]? = some y → ∃ n, RoleAt P ty Wg B (T₁ ++ MemOp.ofEvents 0 a.frame.fn a.frame.place (closeEvents s.chan)) W j n (woken P a a' W y) (some (s, .shut)) := by
    intro y hy
    have hR := C₁.role j y hpos hy
    rw [hρ₁] at hR
    have hD0 : Deaf (T₁ ++ MemOp.ofEvents 0 a.frame.fn a.frame.place (closeEvents s.chan)) j = 0 := by rw [Deaf_other T₁ (g' := 0) (by omega) _ hops]; exact hR.2
    obtain ⟨hKW, hOW, _⟩ := hK j s _ hρ₁
    rcases hR.1 with ⟨kk, _, hG⟩ | ⟨_, hhas, u, hu, g₀, g₂, rfl, hat⟩
    · refine ⟨kk + 1, ⟨kk, rfl, ?_⟩, hby, hD0⟩
      rw [woken_of_again (again_of_running (.inl (hG.running (C₁.keep j s _ hρ₁))) W)]
      exact hG.rely hKW hOW
    · refine ⟨1, ⟨0, rfl, ?_⟩, hby, hD0⟩
      have hw : woken P a a' W (parked g₂ (s.seat u).cases (s.seat u).shape) = { parked g₂ (s.seat u).cases (s.seat u).shape with status := .running } := by
        unfold woken
        rw [if_pos (by rw [hmw, hrun']; rfl)]
        unfold Spot.seat Spot.case Spot.shape
        rw [hs]
        exact again_recv_closed hWc
      rw [hw]
      exact Goes.stop (fun w₂ h₂ => ⟨hW.stabHas _ _ (hW.stabHas _ _ hhas hOW.1) h₂.2.1, u, hW.stabVal _ _ _ (hW.stabVal _ _ _ hu hOW.2) h₂.2.2, g₂, hat.tries _ _⟩)
  obtain ⟨yj, hyj⟩ : ∃ y, gs₁[j]? = some y := by
    rcases Nat.lt_or_ge j gs₁.size with h | h
    · exact ⟨_, Array.getElem?_eq_getElem h⟩
    · have := (C₁.above j h).2; rw [this] at hρ₁; cases hρ₁
  obtain ⟨nj, hnj⟩ := hself yj hyj
  refine ⟨N + 1, _, w₁, sl₂, _, upd q₁ j nj, ρ₁, k, runNT_succ_of hr (hstp.trans (runT_crowd_go (sl := sl₂) (i := 0) ha₁ (by rw [hWd]; exact hgo'))), by simpa using hsz, Array.getElem?_setIfInBounds_self_of_lt (by simpa using hlt), hSR, hev, hch', ?_, hdf.trans hd₁⟩
  rw [hWd]
  refine ⟨fun x y hx hy => ?_, fun i s' st h => ?_, fun i s' h => ?_, fun i s' h => ?_, fun i i' s₁ s₂ st₁ st₂ h1 h2 hii hsnd => ?_, fun i s' st h => ?_, fun i i' s₁ s₂ st₁ st₂ h1 h2 hii => ?_, ?_, fun i hi => ?_, hpast.fam hf, C₁.lies.fam hf, ?_, .inr hcalm⟩
  · rw [Array.getElem?_setIfInBounds_ne (by omega), Array.getElem?_map] at hy
    obtain ⟨y₀, hy₀, rfl⟩ := Option.map_eq_some_iff.1 hy
    by_cases e : x = j
    · subst e
      rw [hyj] at hy₀
      obtain rfl := Option.some.inj hy₀
      rw [upd_same, upd_same]; exact hnj
    · rw [hother x y₀ hx e hy₀, upd_ne q₁ nj e, upd_ne ρ₁ _ e]
      exact (C₁.role x y₀ hx hy₀).rely (Ch := Ch) (SR := SR) (fun op hop z => by have := hops op hop; omega) (fun s' st h => ⟨C₁.wf x s' st h, hK x s' st h⟩) hlive
  · obtain ⟨st', h'⟩ := hex0 h; exact (hK i s' st' h').1
  · rcases hex h with ⟨_, _, h⟩ | ⟨e, h⟩
    · cases h
    · rw [hWn _ (hne i s' _ e h)]; exact C₁.chans i s' h
  · rcases hex h with ⟨rfl, rfl, _⟩ | ⟨e, h⟩
    · exact ⟨hs, k, hWc⟩
    · rw [hWn _ (hne i s' _ e h)]; exact C₁.shut i s' h
  · obtain ⟨st₁', h1'⟩ := hex0 h1; obtain ⟨st₂', h2'⟩ := hex0 h2
    exact C₁.inj i i' s₁ s₂ _ _ h1' h2' hii hsnd
  · obtain ⟨st', h'⟩ := hex0 h; exact C₁.wf i s' st' h'
  · obtain ⟨st₁', h1'⟩ := hex0 h1; obtain ⟨st₂', h2'⟩ := hex0 h2
    exact C₁.cross i i' s₁ s₂ _ _ h1' h2' hii
  · rw [upd_ne ρ₁ _ (by omega)]; exact C₁.zero
  · have hi' : gs₁.size ≤ i := by simpa using hi
    have := C₁.above i hi'
    refine ⟨by rw [Deaf_other T₁ (g' := 0) (by omega) _ hops]; exact this.1, ?_⟩
    have : i ≠ j := fun e => by subst e; rw [this.2] at hρ₁; cases hρ₁
    rw [upd_ne ρ₁ _ this]; exact (C₁.above i hi').2
  · have := C₁.mode_same (i := j) (o' := some (s, .shut)) (by rw [hρ₁]; rfl) hWg tag (.inl rfl)
    simpa using this
end
end Go.Proofs.Ytngnkdedfcnfkaa

/-
  pool.Run's starter: the world once all answers are taken.
-/
import Derived.Test.YtngnkdedfcnfkaaPrH
set_option linter.unusedSimpArgs false
set_option linter.unusedVariables false
namespace Go.Proofs.Ytngnkdedfcnfkaa
open Go Go.Conc Go.RowKit Go.Conc.Lib Go.ConcR.Gen Go.ConcN.Gen
open Go.ConcN (WgLive Has RW ShN upd upd_same upd_ne)
open Go.ConcR (KK WgAt stA smA)

structure KE (c : Ctx) (re : TypeId) (W : World) (w : World) : Prop where
  kb : KB c W c.n w
  sz : c.H + 8 + 2 * c.n ≤ w.heap.size
  outb : ∃ arr : Array Value, w.heap[c.H + 7 + 2 * c.n]? = some (.cells arr re) ∧ arr.size = c.J ∧ ∀ x, x < c.J → ∃ v, arr[x]? = some v ∧ c.Ans x v w
section
variable {c : Ctx} {Shun : Loc → Prop} {W w w' : World} {B : Nat} {re : TypeId}
theorem KD.ke (h : KD c re W c.J (fun x => x < c.J) w) : KE c re W w :=
  let ⟨arr, h1, h2, h3⟩ := h.outb
  ⟨h.kb, h.sz, ⟨arr, h1, h2, fun x hx => h3 x hx hx⟩⟩
/-- the group's block is no row of texts -/
theorem live_not9 {b : Nat} (h : WgLive 51 b w) : ∀ arr, w.heap[b]? ≠ some (.cells arr 9) := fun arr e => by
  obtain ⟨st, sm, h6⟩ := h
  have h7 : w.heap[b]? = some (.cells #[.int .u64 st, .int .u32 sm] 51) := h6
  rw [h7] at e; cases e
theorem KE.off6 (hc : OkC c Shun) (h : KE c re W w) (r : Off (· = c.H + 6) w w') (hl : WgLive 51 (c.H + 6) w') : KE c re W w' :=
  let ⟨arr, h1, h2, h3⟩ := h.outb
  have hk : Kept w w' := r.kept (fun b hb => by subst hb; exact live_not9 h.kb.live)
  ⟨h.kb.off6 hc r hl, by rw [r.size]; exact h.sz, ⟨arr, (r.block _ (by omega)).trans h1, h2, fun x hx => let ⟨v, h4, h5⟩ := h3 x hx; ⟨v, h4, hc.ansK _ _ _ _ h5 hk⟩⟩⟩
theorem KE.off2 (hc : OkC c Shun) (h : KE c re W w) (r : SR2 c w w') : KE c re W w' := h.off6 hc r.1 (r.2 h.kb.live)
theorem KE.at_ (hc : OkC c Shun) (h : KE c re W w) (r : AtRel w w') : KE c re W w' := by
  obtain ⟨d, rfl⟩ := r
  exact h.off6 hc (Off.at _ w d) h.kb.live
theorem KE.stays (hc : OkC c Shun) : Stays 51 (c.H + 6) (SR2 c) (KE c re W) where
  rl h r := h.off2 hc r
  live h := h.kb.live
  turn h a hl := h.off6 hc (Off.of_aside a rfl) hl
  at_ h r := h.at_ hc r
/-- a channel is closed -/
theorem KE.close (hc : OkC c Shun) (h : KE c re W w) {j q : Nat} (hj : j < c.n) (hch : ∃ x, w.heap[c.H + 8 + 2 * j]? = some (.chan 0 #[] false x x false)) : KE c re W (w.setChan (c.H + 8 + 2 * j) 0 #[] true q q false) := by
  have hne : ∀ b, b ≠ c.H + 8 + 2 * j → (w.setChan (c.H + 8 + 2 * j) 0 #[] true q q false).heap[b]? = w.heap[b]? := fun b hb => by
    show (w.heap.setIfInBounds (c.H + 8 + 2 * j) _)[b]? = _
    rw [Array.getElem?_setIfInBounds_ne (fun e => hb e.symm)]
  have hoff : ∀ b, ¬ ChW c b → (w.setChan (c.H + 8 + 2 * j) 0 #[] true q q false).heap[b]? = w.heap[b]? := fun b hb => hne b (fun e => hb (.inr ⟨j, hj, e⟩))
  obtain ⟨arr, h1, h2, h3⟩ := h.outb
  have hs : (w.setChan (c.H + 8 + 2 * j) 0 #[] true q q false).heap.size = w.heap.size := by simp [World.setChan]
  have hk : Kept w (w.setChan (c.H + 8 + 2 * j) 0 #[] true q q false) := kept_off (S := (· = c.H + 8 + 2 * j)) hne (fun b hb arr e => by subst hb; obtain ⟨x, hx⟩ := hch; rw [hx] at e; cases e) (Nat.le_of_eq hs.symm)
  refine ⟨h.kb.notch hc (Nat.le_refl _) ⟨rfl, rfl, rfl, hs⟩ hoff, by rw [hs]; exact h.sz, ⟨arr, (hoff _ ?_).trans h1, h2, fun x hx => let ⟨v, h4, h5⟩ := h3 x hx; ⟨v, h4, hc.ansK _ _ _ _ h5 hk⟩⟩⟩
  rintro (e | ⟨j', hj', e⟩) <;> omega
theorem off_sr2 (hc : OkC c Shun) {w w' : World} (r : SR0 w w') : SR2 c w w' :=
  ⟨r.weaken (fun _ x => x.elim), fun ⟨st, sm, h⟩ => ⟨st, sm, h.of_block (r.block _ (fun h => h))⟩⟩
end
end Go.Proofs.Ytngnkdedfcnfkaa

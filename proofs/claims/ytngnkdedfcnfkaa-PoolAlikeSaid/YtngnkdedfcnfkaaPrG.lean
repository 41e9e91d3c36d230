/-
  pool.Run's starter: the world while jobs are handed out.
-/
import Derived.Test.YtngnkdedfcnfkaaPrF
set_option linter.unusedSimpArgs false
set_option linter.unusedVariables false
namespace Go.Proofs.Ytngnkdedfcnfkaa
open Go Go.Conc Go.RowKit Go.Conc.Lib Go.ConcR.Gen Go.ConcN.Gen
open Go.ConcN (WgLive Has RW ShN upd upd_same upd_ne)
open Go.ConcR (KK WgAt stA smA)

/-- t answers are taken, those of 'don' lie in their places -/
structure KD (c : Ctx) (re : TypeId) (W : World) (t : Nat) (don : Nat → Prop) (w : World) : Prop where
  kb : KB c W c.n w
  sz : c.H + 8 + 2 * c.n ≤ w.heap.size
  outb : ∃ arr : Array Value, w.heap[c.H + 7 + 2 * c.n]? = some (.cells arr re) ∧ arr.size = c.J ∧ ∀ x, x < c.J → don x → ∃ v, arr[x]? = some v ∧ c.Ans x v w
  back : ∃ q, w.heap[c.H + 4]? = some (.chan 0 #[] false q q false)
  chs : ∀ j, j < c.n → ∃ q, w.heap[c.H + 8 + 2 * j]? = some (.chan 0 #[] false q q false)

section
variable {c : Ctx} {Shun : Loc → Prop} {W w w' : World} {k B t : Nat} {re : TypeId} {don : Nat → Prop}
theorem KD.grow (hc : OkC c Shun) (h : KD c re W t don w) (r : OffG (fun _ => False) c.E w w') : KD c re W t don w' := by
  obtain ⟨arr, h1, h2, h3⟩ := h.outb
  obtain ⟨q, hq⟩ := h.back
  have lt : ∀ {b : Nat}, b < c.H + 8 + 2 * c.n → w'.heap[b]? = w.heap[b]? := fun hb => r.block _ (.inr hb) (fun x => x)
  exact ⟨h.kb.grow hc r, Nat.le_trans h.sz r.kept.size, ⟨arr, (lt (by omega)).trans h1, h2, fun x hx hd => let ⟨v, h4, h5⟩ := h3 x hx hd; ⟨v, h4, hc.ansK _ _ _ _ h5 r.kept⟩⟩, ⟨q, (lt (by omega)).trans hq⟩, fun j hj => let ⟨q, hq⟩ := h.chs j hj; ⟨q, (lt (by omega)).trans hq⟩⟩
theorem KD.off0 (hc : OkC c Shun) (h : KD c re W t don w) (r : SR0 w w') : KD c re W t don w' := h.grow hc (move0 c _ _ r)
theorem OffG.of_at {S : Nat → Prop} {E : Nat} {w w' : World} (h : AtRel w w') : OffG S E w w' := by
  obtain ⟨d, rfl⟩ := h
  exact OffG.at S E w d
theorem KD.mono (h : KD c re W t don w) {don' : Nat → Prop} (hd : ∀ x, x < c.J → don' x → don x) : KD c re W t don' w :=
  let ⟨arr, h1, h2, h3⟩ := h.outb
  ⟨h.kb, h.sz, ⟨arr, h1, h2, fun x hx hd' => h3 x hx (hd x hx hd')⟩, h.back, h.chs⟩
theorem KS.out (hc : OkC c Shun) (h : KS c W c.n w) {arr : Array Value} (ha : arr.size = c.J) : KD c re W 0 (fun _ => False) (w.alloc (.cells arr re)) := by
  have hb : Below (c.H + 7 + 2 * c.n) w (w.alloc (.cells arr re)) := (Below.refl _ w).alloc (by rw [h.sz]; omega) _
  refine ⟨h.toKB.below hc hb, by simp [h.sz]; omega, ⟨arr, ?_, ha, fun _ _ x => x.elim⟩, ⟨0, (hb.block _ (by omega)).trans h.back⟩, fun j hj => let ⟨q, hq⟩ := h.chs j hj; ⟨q, (hb.block _ (by omega)).trans hq⟩⟩
  rw [← h.sz]; exact heap_alloc_new _ _
theorem KB.notch (hc : OkC c Shun) (h : KB c W k w) (hk : k ≤ c.n) (hs : w'.os = w.os ∧ w'.tape = w.tape ∧ w'.output = w.output ∧ w'.heap.size = w.heap.size) (r : ∀ b, ¬ ChW c b → w'.heap[b]? = w.heap[b]?) : KB c W k w' := by
  obtain ⟨arr, h1, h2⟩ := h.desks
  have hn : ∀ b, b < c.H + 4 ∨ b = c.H + 5 ∨ b = c.H + 6 ∨ (∃ j, b = c.H + 7 + 2 * j) → w'.heap[b]? = w.heap[b]? := by
    intro b hb
    refine r b ?_
    rintro (e | ⟨j, hj, e⟩)
    · rcases hb with hb | hb | hb | ⟨j, hb⟩ <;> omega
    · rcases hb with hb | hb | hb | ⟨j, hb⟩ <;> omega
  have hcell : ∀ a : Addr, (a.block < c.H + 4 ∨ a.block = c.H + 5 ∨ a.block = c.H + 6 ∨ (∃ j, a.block = c.H + 7 + 2 * j)) → w'.cell? a = w.cell? a := fun a ha => (same_block (hn _ ha)).1
  refine ⟨⟨hs.1.trans h.old.os, hs.2.1.trans h.old.tape, hs.2.2.1.trans h.old.output, by rw [hs.2.2.2]; exact h.old.size, fun b hb => (hn b (.inl (by omega))).trans (h.old.block b hb)⟩, ?_, ?_, ?_, ?_, ⟨arr, (hn _ (.inl (by omega))).trans h1, h2⟩, fun j hj => ?_, fun j hj => (hn _ (.inr (.inr (.inr ⟨j, rfl⟩)))).trans (h.kv j hj), fun i hi => ?_, ?_⟩
  · rw [hcell _ (.inl (by simp))]; exact h.jobsv
  · rw [hcell _ (.inl (by simp))]; exact h.dov
  · rw [hcell _ (.inl (by simp))]; exact h.desksv
  · rw [hcell _ (.inr (.inl rfl))]; exact h.backv
  · rw [hcell _ (.inl (by simp))]; exact h.desk j hj
  · have := hc.jbH (by omega)
    rw [hcell _ (.inl (by simp only; omega))]; exact h.jobs i hi
  · obtain ⟨st, sm, h6⟩ := h.live
    exact ⟨st, sm, h6.of_block (hn _ (.inr (.inr (.inl rfl))))⟩
theorem KD.meets (hc : OkC c Shun) (h : KD c re W t don w) (r : Meets (ChW c) w w') : KD c re W t don w' := by
  have hoff := r.off
  have hs : w'.os = w.os ∧ w'.tape = w.tape ∧ w'.output = w.output ∧ w'.heap.size = w.heap.size := by
    obtain ⟨d, x, q, _, _, rfl⟩ := r
    exact ⟨rfl, rfl, rfl, by simp [World.setChan, World.at]⟩
  obtain ⟨arr, h1, h2, h3⟩ := h.outb
  obtain ⟨q, hq⟩ := h.back
  refine ⟨h.kb.notch hc (Nat.le_refl _) hs hoff, by rw [hs.2.2.2]; exact h.sz, ⟨arr, (hoff _ ?_).trans h1, h2, fun x hx hd => let ⟨v, h4, h5⟩ := h3 x hx hd; ⟨v, h4, hc.ansK _ _ _ _ h5 r.kept⟩⟩, r.chan hq, fun j hj => let ⟨q, hq⟩ := h.chs j hj; r.chan hq⟩
  rintro (e | ⟨j, hj, e⟩) <;> omega
/-- whatever happens above -/
theorem KD.above (hc : OkC c Shun) (h : KD c re W t don w) {t' : Nat} (r : Below (c.H + 8 + 2 * c.n) w w') (hk : Kept w w') : KD c re W t' don w' := by
  obtain ⟨arr, h1, h2, h3⟩ := h.outb
  obtain ⟨q, hq⟩ := h.back
  exact ⟨h.kb.below hc (r.mono (by omega)), Nat.le_trans h.sz r.size, ⟨arr, (r.block _ (by omega)).trans h1, h2, fun x hx hd => let ⟨v, h4, h5⟩ := h3 x hx hd; ⟨v, h4, hc.ansK _ _ _ _ h5 hk⟩⟩, ⟨q, (r.block _ (by omega)).trans hq⟩, fun j hj => let ⟨q, hq⟩ := h.chs j hj; ⟨q, (r.block _ (by omega)).trans hq⟩⟩
/-- a new box above -/
theorem KD.box (hc : OkC c Shun) (h : KD c re W t don w) (o : Obj) : KD c re W (t + 1) don (w.alloc o) := h.above hc ((Below.refl _ w).alloc h.sz o) (kept_alloc w o)
/-- an answer is put in its place -/
theorem KD.put (hc : OkC c Shun) (hre : re ≠ 9) (h : KD c re W t don w) {x : Nat} (hx : x < c.J) {v : Value} (hv : c.Ans x v w) : KD c re W t (fun y => don y ∨ y = x) (w.setCell ⟨c.H + 7 + 2 * c.n, x, none⟩ v) := by
  have hb : Below (c.H + 7 + 2 * c.n) w (w.setCell ⟨c.H + 7 + 2 * c.n, x, none⟩ v) := (Below.refl _ w).setCell (by simp) _
  have hne : ∀ b, b ≠ c.H + 7 + 2 * c.n → (w.setCell ⟨c.H + 7 + 2 * c.n, x, none⟩ v).heap[b]? = w.heap[b]? := fun b h => Below.heap_setCell _ _ _ _ h
  obtain ⟨arr, h1, h2, h3⟩ := h.outb
  obtain ⟨q, hq⟩ := h.back
  have hk : Kept w (w.setCell ⟨c.H + 7 + 2 * c.n, x, none⟩ v) := kept_cell v (fun arr2 e => by simp only at e; rw [h1] at e; cases e; exact hre rfl)
  refine ⟨h.kb.below hc hb, by simpa using h.sz, ⟨_, heap_setCell_same w _ x arr re v h1, by simpa using h2, fun y hy hd => ?_⟩, ⟨q, (hne _ (by omega)).trans hq⟩, fun j hj => let ⟨q, hq⟩ := h.chs j hj; ⟨q, (hne _ (by omega)).trans hq⟩⟩
  by_cases e : x = y
  · subst e; exact ⟨v, by rw [Array.getElem?_setIfInBounds_self_of_lt (by omega)], hc.ansK _ _ _ _ hv hk⟩
  · rw [Array.getElem?_setIfInBounds_ne e]
    obtain ⟨v2, h4, h5⟩ := h3 y hy (hd.resolve_right (fun h => e h.symm))
    exact ⟨v2, h4, hc.ansK _ _ _ _ h5 hk⟩
theorem KD.ocell (h : KD c re W t don w) {x : Nat} (hx : x < c.J) : ∃ v, w.cell? ⟨c.H + 7 + 2 * c.n, x, none⟩ = some v := by
  obtain ⟨arr, h1, h2, _⟩ := h.outb
  exact ⟨arr[x]'(by omega), by simp [World.cell?, h1, Array.getElem?_eq_getElem, h2, hx]⟩
theorem KD.ofree (h : KD c re W t don w) (x : Nat) : w.frozen? ⟨c.H + 7 + 2 * c.n, x, none⟩ = false := by
  obtain ⟨arr, h1, h2, _⟩ := h.outb
  exact frozen_of_row w _ x _ re h1
/-- .. and the new box of an answer, wherever it lies, holds so much -/
structure KX (c : Ctx) (re de : TypeId) (W : World) (t : Nat) (don : Nat → Prop) (x0 : Nat) (z0 z1 : Value) (w : World) : Prop where
  kd : KD c re W (t + 1) don w
  hi : c.H + 8 + 2 * c.n ≤ x0
  bx : w.heap[x0]? = some (.cells #[z0, z1] de)
theorem KX.grow {de : TypeId} {x0 : Nat} {z0 z1 : Value} (hc : OkC c Shun) (h : KX c re de W t don x0 z0 z1 w) (r : OffG (fun _ => False) c.E w w') : KX c re de W t don x0 z0 z1 w' :=
  ⟨h.kd.grow hc r, h.hi, (r.block _ (.inl (Array.getElem?_eq_some_iff.1 h.bx).1) (fun x => x)).trans h.bx⟩
theorem KD.boxX {de : TypeId} (hc : OkC c Shun) (h : KD c re W t don w) (z0 z1 : Value) : KX c re de W t don w.heap.size z0 z1 (w.alloc (.cells #[z0, z1] de)) := ⟨h.box hc _, h.sz, heap_alloc_new _ _⟩
theorem KX.not9 {de : TypeId} {x0 : Nat} {z0 z1 : Value} (hde : de ≠ 9) (h : KX c re de W t don x0 z0 z1 w) : ∀ arr, w.heap[x0]? ≠ some (.cells arr 9) := fun arr e => by rw [h.bx] at e; cases e; exact hde rfl
theorem KX.set0 {de : TypeId} {x0 : Nat} {z0 z1 : Value} (hc : OkC c Shun) (hde : de ≠ 9) (h : KX c re de W t don x0 z0 z1 w) (v : Value) : KX c re de W t don x0 v z1 (w.setCell ⟨x0, 0, none⟩ v) := by
  refine ⟨h.kd.above hc ((Below.refl _ w).setCell h.hi _) (kept_cell v (h.not9 hde)), h.hi, ?_⟩
  have := heap_setCell_same w x0 0 _ _ v h.bx
  simpa using this
theorem KX.set1 {de : TypeId} {x0 : Nat} {z0 z1 : Value} (hc : OkC c Shun) (hde : de ≠ 9) (h : KX c re de W t don x0 z0 z1 w) (v : Value) : KX c re de W t don x0 z0 v (w.setCell ⟨x0, 1, none⟩ v) := by
  refine ⟨h.kd.above hc ((Below.refl _ w).setCell h.hi _) (kept_cell v (h.not9 hde)), h.hi, ?_⟩
  have := heap_setCell_same w x0 1 _ _ v h.bx
  simpa using this
/-- .. and the answer v is one -/
def KDA (c : Ctx) (re : TypeId) (W : World) (t : Nat) (don : Nat → Prop) (x : Nat) (v : Value) (w : World) : Prop := KD c re W t don w ∧ c.Ans x v w
theorem KDA.grow (hc : OkC c Shun) {x : Nat} {v : Value} (h : KDA c re W t don x v w) (r : OffG (fun _ => False) c.E w w') : KDA c re W t don x v w' := ⟨h.1.grow hc r, hc.ansK _ _ _ _ h.2 r.kept⟩
def KXA (c : Ctx) (re de : TypeId) (W : World) (t : Nat) (don : Nat → Prop) (x0 : Nat) (z0 z1 : Value) (x : Nat) (v : Value) (w : World) : Prop := KX c re de W t don x0 z0 z1 w ∧ c.Ans x v w
theorem KXA.grow (hc : OkC c Shun) {de : TypeId} {x0 x : Nat} {z0 z1 v : Value} (h : KXA c re de W t don x0 z0 z1 x v w) (r : OffG (fun _ => False) c.E w w') : KXA c re de W t don x0 z0 z1 x v w' := ⟨h.1.grow hc r, hc.ansK _ _ _ _ h.2 r.kept⟩
theorem KDA.box (hc : OkC c Shun) {de : TypeId} {x : Nat} {v : Value} (h : KDA c re W t don x v w) (z0 z1 : Value) : KXA c re de W t don w.heap.size z0 z1 x v (w.alloc (.cells #[z0, z1] de)) := ⟨h.1.boxX hc z0 z1, hc.ansK _ _ _ _ h.2 (kept_alloc w _)⟩
theorem KX.lt {de : TypeId} {x0 : Nat} {z0 z1 : Value} (h : KX c re de W t don x0 z0 z1 w) : x0 < w.heap.size := (Array.getElem?_eq_some_iff.1 h.bx).1
theorem KXA.put (hc : OkC c Shun) {de : TypeId} (hde : de ≠ 9) {x0 x : Nat} {z0 z1 v : Value} (h : KXA c re de W t don x0 z0 z1 x v w) (u0 u1 : Value) : KXA c re de W t don x0 u0 u1 x v ((w.setCell ⟨x0, 0, none⟩ u0).setCell ⟨x0, 1, none⟩ u1) ∧ Kept w ((w.setCell ⟨x0, 0, none⟩ u0).setCell ⟨x0, 1, none⟩ u1) := by
  have h1 := h.1.set0 hc hde u0
  have k1 : Kept w (w.setCell ⟨x0, 0, none⟩ u0) := kept_cell u0 (h.1.not9 hde)
  have k2 : Kept (w.setCell ⟨x0, 0, none⟩ u0) ((w.setCell ⟨x0, 0, none⟩ u0).setCell ⟨x0, 1, none⟩ u1) := kept_cell u1 (h1.not9 hde)
  exact ⟨⟨h1.set1 hc hde u1, hc.ansK _ _ _ _ h.2 (k1.trans k2)⟩, k1.trans k2⟩
theorem KX.c0 {de : TypeId} {x0 : Nat} {z0 z1 : Value} (h : KX c re de W t don x0 z0 z1 w) : w.cell? ⟨x0, 0, none⟩ = some z0 := by simp [World.cell?, h.bx]
theorem KX.c1 {de : TypeId} {x0 : Nat} {z0 z1 : Value} (h : KX c re de W t don x0 z0 z1 w) : w.cell? ⟨x0, 1, none⟩ = some z1 := by simp [World.cell?, h.bx]
theorem KX.f {de : TypeId} {x0 : Nat} {z0 z1 : Value} (h : KX c re de W t don x0 z0 z1 w) (j : Nat) : w.frozen? ⟨x0, j, none⟩ = false := frozen_of_row w _ j _ de h.bx
end
end Go.Proofs.Ytngnkdedfcnfkaa

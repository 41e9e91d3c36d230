/-
  pool.Run's starter: the world while jobs are handed out.
-/
import Derived.Test.YtngnkdedfcnfkaaPrF
set_option linter.unusedSimpArgs false
set_option linter.unusedVariables false
namespace Go.Proofs.Ytngnkdedfcnfkaa
open Go Go.Conc Go.RowKit Go.Conc.Lib Go.ConcR.Gen Go.ConcN.Gen
open Go.ConcN (WgLive Has RW ShN upd upd_same upd_ne)
open Go.ConcR (KK WgAt stA smA)

/-- t answers are taken, those of 'don' lie in their places -/
structure KD (c : Ctx) (re : TypeId) (W : World) (t : Nat) (don : Nat → Prop) (w : World) : Prop where
  kb : KB c W c.n w
  sz : w.heap.size = c.H + 8 + 2 * c.n + t
  outb : ∃ arr : Array Value, w.heap[c.H + 7 + 2 * c.n]? = some (.cells arr re) ∧ arr.size = c.J ∧ ∀ x, x < c.J → don x → arr[x]? = some (c.f x)
  back : ∃ q, w.heap[c.H + 4]? = some (.chan 0 #[] false q q false)
  chs : ∀ j, j < c.n → ∃ q, w.heap[c.H + 8 + 2 * j]? = some (.chan 0 #[] false q q false)

section
variable {c : Ctx} {Shun : Loc → Prop} {W w w' : World} {k B t : Nat} {re : TypeId} {don : Nat → Prop}
theorem KD.off (hc : OkC c Shun) (h : KD c re W t don w) (r : Off c.ob w w') : KD c re W t don w' := by
  obtain ⟨arr, h1, h2⟩ := h.outb
  obtain ⟨q, hq⟩ := h.back
  exact ⟨h.kb.off hc r, by rw [r.size]; exact h.sz, ⟨arr, (r.block _ (hc.hi (by omega))).trans h1, h2⟩, ⟨q, (r.block _ (hc.hi (by omega))).trans hq⟩, fun j hj => let ⟨q, hq⟩ := h.chs j hj; ⟨q, (r.block _ (hc.hi (by omega))).trans hq⟩⟩
theorem KD.mono (h : KD c re W t don w) {don' : Nat → Prop} (hd : ∀ x, x < c.J → don' x → don x) : KD c re W t don' w :=
  let ⟨arr, h1, h2, h3⟩ := h.outb
  ⟨h.kb, h.sz, ⟨arr, h1, h2, fun x hx hd' => h3 x hx (hd x hx hd')⟩, h.back, h.chs⟩
theorem KS.out (hc : OkC c Shun) (h : KS c W c.n w) {arr : Array Value} (ha : arr.size = c.J) : KD c re W 0 (fun _ => False) (w.alloc (.cells arr re)) := by
  have hb : Below (c.H + 7 + 2 * c.n) w (w.alloc (.cells arr re)) := (Below.refl _ w).alloc (by rw [h.sz]; omega) _
  refine ⟨h.toKB.below hc hb, by simp [h.sz]; omega, ⟨arr, ?_, ha, fun _ _ x => x.elim⟩, ⟨0, (hb.block _ (by omega)).trans h.back⟩, fun j hj => let ⟨q, hq⟩ := h.chs j hj; ⟨q, (hb.block _ (by omega)).trans hq⟩⟩
  rw [← h.sz]; exact heap_alloc_new _ _
theorem KB.notch (hc : OkC c Shun) (h : KB c W k w) (hk : k ≤ c.n) (hs : w'.os = w.os ∧ w'.tape = w.tape ∧ w'.output = w.output ∧ w'.heap.size = w.heap.size) (r : ∀ b, ¬ ChW c b → w'.heap[b]? = w.heap[b]?) : KB c W k w' := by
  obtain ⟨arr, h1, h2⟩ := h.desks
  have hn : ∀ b, b < c.H + 4 ∨ b = c.H + 5 ∨ b = c.H + 6 ∨ (∃ j, b = c.H + 7 + 2 * j) → w'.heap[b]? = w.heap[b]? := by
    intro b hb
    refine r b ?_
    rintro (e | ⟨j, hj, e⟩)
    · rcases hb with hb | hb | hb | ⟨j, hb⟩ <;> omega
    · rcases hb with hb | hb | hb | ⟨j, hb⟩ <;> omega
  have hcell : ∀ a : Addr, (a.block < c.H + 4 ∨ a.block = c.H + 5 ∨ a.block = c.H + 6 ∨ (∃ j, a.block = c.H + 7 + 2 * j)) → w'.cell? a = w.cell? a := fun a ha => (same_block (hn _ ha)).1
  refine ⟨⟨hs.1.trans h.old.os, hs.2.1.trans h.old.tape, hs.2.2.1.trans h.old.output, by rw [hs.2.2.2]; exact h.old.size, fun b hb ho => (hn b (.inl (by omega))).trans (h.old.block b hb ho)⟩, ?_, ?_, ?_, ?_, ⟨arr, (hn _ (.inl (by omega))).trans h1, h2⟩, fun j hj => ?_, fun j hj => (hn _ (.inr (.inr (.inr ⟨j, rfl⟩)))).trans (h.kv j hj), fun i hi => ?_, ?_⟩
  · rw [hcell _ (.inl (by simp))]; exact h.jobsv
  · rw [hcell _ (.inl (by simp))]; exact h.dov
  · rw [hcell _ (.inl (by simp))]; exact h.desksv
  · rw [hcell _ (.inr (.inl rfl))]; exact h.backv
  · rw [hcell _ (.inl (by simp))]; exact h.desk j hj
  · have := hc.jbH (by omega)
    rw [hcell _ (.inl (by simp only; omega))]; exact h.jobs i hi
  · obtain ⟨st, sm, h6⟩ := h.live
    exact ⟨st, sm, h6.of_block (hn _ (.inr (.inr (.inl rfl))))⟩
theorem KD.meets (hc : OkC c Shun) (h : KD c re W t don w) (r : Meets (ChW c) w w') : KD c re W t don w' := by
  have hoff := r.off
  have hs : w'.os = w.os ∧ w'.tape = w.tape ∧ w'.output = w.output ∧ w'.heap.size = w.heap.size := by
    obtain ⟨d, x, q, _, _, rfl⟩ := r
    exact ⟨rfl, rfl, rfl, by simp [World.setChan, World.at]⟩
  obtain ⟨arr, h1, h2⟩ := h.outb
  obtain ⟨q, hq⟩ := h.back
  refine ⟨h.kb.notch hc (Nat.le_refl _) hs hoff, by rw [hs.2.2.2]; exact h.sz, ⟨arr, (hoff _ ?_).trans h1, h2⟩, r.chan hq, fun j hj => let ⟨q, hq⟩ := h.chs j hj; r.chan hq⟩
  rintro (e | ⟨j, hj, e⟩) <;> omega
/-- a new box above -/
theorem KD.box (hc : OkC c Shun) (h : KD c re W t don w) (o : Obj) : KD c re W (t + 1) don (w.alloc o) := by
  have hb : Below (c.H + 8 + 2 * c.n) w (w.alloc o) := (Below.refl _ w).alloc (by rw [h.sz]; omega) _
  obtain ⟨arr, h1, h2⟩ := h.outb
  obtain ⟨q, hq⟩ := h.back
  exact ⟨h.kb.below hc (hb.mono (by omega)), by simp [h.sz]; omega, ⟨arr, (hb.block _ (by omega)).trans h1, h2⟩, ⟨q, (hb.block _ (by omega)).trans hq⟩, fun j hj => let ⟨q, hq⟩ := h.chs j hj; ⟨q, (hb.block _ (by omega)).trans hq⟩⟩
/-- whatever happens above -/
theorem KD.above (hc : OkC c Shun) (h : KD c re W t don w) (r : Below (c.H + 8 + 2 * c.n) w w') (hs : w'.heap.size = w.heap.size) : KD c re W t don w' := by
  obtain ⟨arr, h1, h2⟩ := h.outb
  obtain ⟨q, hq⟩ := h.back
  exact ⟨h.kb.below hc (r.mono (by omega)), by rw [hs]; exact h.sz, ⟨arr, (r.block _ (by omega)).trans h1, h2⟩, ⟨q, (r.block _ (by omega)).trans hq⟩, fun j hj => let ⟨q, hq⟩ := h.chs j hj; ⟨q, (r.block _ (by omega)).trans hq⟩⟩
/-- an answer is put in its place -/
theorem KD.put (hc : OkC c Shun) (h : KD c re W t don w) {x : Nat} (hx : x < c.J) : KD c re W t (fun y => don y ∨ y = x) (w.setCell ⟨c.H + 7 + 2 * c.n, x, none⟩ (c.f x)) := by
  have hb : Below (c.H + 7 + 2 * c.n) w (w.setCell ⟨c.H + 7 + 2 * c.n, x, none⟩ (c.f x)) := (Below.refl _ w).setCell (by simp) _
  have hne : ∀ b, b ≠ c.H + 7 + 2 * c.n → (w.setCell ⟨c.H + 7 + 2 * c.n, x, none⟩ (c.f x)).heap[b]? = w.heap[b]? := fun b h => Below.heap_setCell _ _ _ _ h
  obtain ⟨arr, h1, h2, h3⟩ := h.outb
  obtain ⟨q, hq⟩ := h.back
  refine ⟨h.kb.below hc hb, by simpa using h.sz, ⟨_, heap_setCell_same w _ x arr re (c.f x) h1, by simpa using h2, fun y hy hd => ?_⟩, ⟨q, (hne _ (by omega)).trans hq⟩, fun j hj => let ⟨q, hq⟩ := h.chs j hj; ⟨q, (hne _ (by omega)).trans hq⟩⟩
  by_cases e : x = y
  · subst e; rw [Array.getElem?_setIfInBounds_self_of_lt (by omega)]
  · rw [Array.getElem?_setIfInBounds_ne e]
    exact h3 y hy (hd.resolve_right (fun h => e h.symm))
theorem KD.ocell (h : KD c re W t don w) {x : Nat} (hx : x < c.J) : ∃ v, w.cell? ⟨c.H + 7 + 2 * c.n, x, none⟩ = some v := by
  obtain ⟨arr, h1, h2, _⟩ := h.outb
  exact ⟨arr[x]'(by omega), by simp [World.cell?, h1, Array.getElem?_eq_getElem, h2, hx]⟩
theorem KD.ofree (h : KD c re W t don w) (x : Nat) : w.frozen? ⟨c.H + 7 + 2 * c.n, x, none⟩ = false := by
  obtain ⟨arr, h1, h2, _⟩ := h.outb
  exact frozen_of_row w _ x _ re h1
/-- .. and the new box of an answer holds so much -/
structure KX (c : Ctx) (re de : TypeId) (W : World) (t : Nat) (don : Nat → Prop) (z0 z1 : Value) (w : World) : Prop where
  kd : KD c re W (t + 1) don w
  bx : w.heap[c.H + 8 + 2 * c.n + t]? = some (.cells #[z0, z1] de)
theorem KX.off {de : TypeId} {z0 z1 : Value} (hc : OkC c Shun) (h : KX c re de W t don z0 z1 w) (r : Off c.ob w w') : KX c re de W t don z0 z1 w' := ⟨h.kd.off hc r, (r.block _ (hc.hi (by omega))).trans h.bx⟩
theorem KD.boxX {de : TypeId} (hc : OkC c Shun) (h : KD c re W t don w) (z0 z1 : Value) : KX c re de W t don z0 z1 (w.alloc (.cells #[z0, z1] de)) := ⟨h.box hc _, by rw [← h.sz]; exact heap_alloc_new _ _⟩
theorem KX.set0 {de : TypeId} {z0 z1 : Value} (hc : OkC c Shun) (h : KX c re de W t don z0 z1 w) (v : Value) : KX c re de W t don v z1 (w.setCell ⟨c.H + 8 + 2 * c.n + t, 0, none⟩ v) := by
  refine ⟨h.kd.above hc ((Below.refl _ w).setCell (by simp only; omega) _) (by simp), ?_⟩
  have := heap_setCell_same w (c.H + 8 + 2 * c.n + t) 0 _ _ v h.bx
  simpa using this
theorem KX.set1 {de : TypeId} {z0 z1 : Value} (hc : OkC c Shun) (h : KX c re de W t don z0 z1 w) (v : Value) : KX c re de W t don z0 v (w.setCell ⟨c.H + 8 + 2 * c.n + t, 1, none⟩ v) := by
  refine ⟨h.kd.above hc ((Below.refl _ w).setCell (by simp only; omega) _) (by simp), ?_⟩
  have := heap_setCell_same w (c.H + 8 + 2 * c.n + t) 1 _ _ v h.bx
  simpa using this
theorem KX.c0 {de : TypeId} {z0 z1 : Value} (h : KX c re de W t don z0 z1 w) : w.cell? ⟨c.H + 8 + 2 * c.n + t, 0, none⟩ = some z0 := by simp [World.cell?, h.bx]
theorem KX.c1 {de : TypeId} {z0 z1 : Value} (h : KX c re de W t don z0 z1 w) : w.cell? ⟨c.H + 8 + 2 * c.n + t, 1, none⟩ = some z1 := by simp [World.cell?, h.bx]
theorem KX.f {de : TypeId} {z0 z1 : Value} (h : KX c re de W t don z0 z1 w) (j : Nat) : w.frozen? ⟨c.H + 8 + 2 * c.n + t, j, none⟩ = false := frozen_of_row w _ j _ de h.bx
def KH (c : Ctx) (re : TypeId) (W : World) (t : Nat) (don : Nat → Prop) (d : Nat) (w : World) : Prop := KD c re W t don w ∧ c.has d w
theorem KH.off0 (hc : OkC c Shun) {d : Nat} (h : KH c re W t don d w) (r : SR0 w w') : KH c re W t don d w' := ⟨h.1.off hc (r.weaken (fun _ x => x.elim)), hc.hasS _ _ _ h.2 (same_off r _)⟩
end
end Go.Proofs.Ytngnkdedfcnfkaa

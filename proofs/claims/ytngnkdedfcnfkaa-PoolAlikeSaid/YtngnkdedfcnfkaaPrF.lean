/-
  pool.Run's starter: the world while a worker's things are made.
-/
import Derived.Test.YtngnkdedfcnfkaaPrE
import Derived.Laws.MakeOwn
set_option linter.unusedSimpArgs false
set_option linter.unusedVariables false
namespace Go.Proofs.Ytngnkdedfcnfkaa
open Go Go.Conc Go.RowKit Go.Conc.Lib Go.ConcR.Gen Go.ConcN.Gen
open Go.ConcN (WgLive Has RW ShN upd upd_same upd_ne goes_mono)
open Go.ConcR (KK WgAt stA smA)

section
variable {c : Ctx} {Shun : Loc → Prop} {W w w' : World} {k B : Nat}
theorem kept_alloc (w : World) (o : Obj) : Kept w (w.alloc o) := ⟨fun b arr e => by rw [← e]; exact heap_alloc_old w o b (Array.getElem?_eq_some_iff.1 e).1, by simp⟩
theorem kept_cell {w : World} {a : Addr} (v : Value) (h9 : ∀ arr, w.heap[a.block]? ≠ some (.cells arr 9)) : Kept w (w.setCell a v) :=
  kept_off (S := (· = a.block)) (fun b hb => Below.heap_setCell _ _ _ _ hb) (fun b hb arr => by subst hb; exact h9 arr) (Nat.le_of_eq (World.size_setCell ..).symm)
theorem ds_below {es : Array Event} (h : Below (c.H + 7 + 2 * k) w w') (hk : Kept w w') (he : ∀ e ∈ es, EvS c Shun w'.heap.size k e) : DS c Shun B k w w' es :=
  ⟨fun b hb _ => h.block b hb, fun j hj => same_block (h.block _ (by simp; omega)), hk, he⟩
theorem ds_alloc {es : Array Event} {o : Obj} (h : c.H + 7 + 2 * k ≤ w.heap.size) (he : ∀ e ∈ es, EvS c Shun (w.alloc o).heap.size k e) : DS c Shun B k w (w.alloc o) es := ds_below ((Below.refl _ w).alloc h o) (kept_alloc w o) he
theorem ds_set {es : Array Event} {a : Addr} {v : Value} (h : c.H + 7 + 2 * k ≤ a.block) (h9 : ∀ arr, w.heap[a.block]? ≠ some (.cells arr 9)) (he : ∀ e ∈ es, EvS c Shun (w.setCell a v).heap.size k e) : DS c Shun B k w (w.setCell a v) es := ds_below ((Below.refl _ w).setCell h v) (kept_cell v h9) he
theorem ds_desk {es : Array Event} {j : Nat} {v : Value} (h : k ≤ j) (h9 : ∃ arr, w.heap[c.H + 2]? = some (.cells arr 52)) (he : ∀ e ∈ es, EvS c Shun (w.setCell ⟨c.H + 2, j, none⟩ v).heap.size k e) : DS c Shun B k w (w.setCell ⟨c.H + 2, j, none⟩ v) es :=
  ⟨fun b hb hne => Below.heap_setCell _ _ _ _ (by simpa using hne), fun j' hj => ⟨World.cell?_setCell_other _ _ _ _ (by simp; omega), by simp⟩, kept_cell v (fun arr e => by obtain ⟨a2, h2⟩ := h9; simp only at e; rw [h2] at e; cases e), he⟩

theorem ds_draw {d : Nat} : DS c Shun B k w { w with drawn := d } #[] := ⟨fun _ _ _ => rfl, fun _ _ => ⟨rfl, rfl⟩, Kept.at w d, by simp⟩
theorem KB.below (hc : OkC c Shun) (h : KB c W k w) (r : Below (c.H + 7 + 2 * k) w w') : KB c W k w' := by
  obtain ⟨arr, h1, h2⟩ := h.desks
  refine ⟨⟨r.os.trans h.old.os, r.tape.trans h.old.tape, r.output.trans h.old.output, Nat.le_trans h.old.size r.size, fun b hb => (r.block b (by omega)).trans (h.old.block b hb)⟩, ?_, ?_, ?_, ?_, ⟨arr, (r.block _ (by omega)).trans h1, h2⟩, fun j hj => ?_, fun j hj => (r.block _ (by omega)).trans (h.kv j hj), fun i hi => ?_, ?_⟩
  · rw [r.cell (by simp; omega)]; exact h.jobsv
  · rw [r.cell (by simp; omega)]; exact h.dov
  · rw [r.cell (by simp; omega)]; exact h.desksv
  · rw [r.cell (by simp; omega)]; exact h.backv
  · rw [r.cell (by simp; omega)]; exact h.desk j hj
  · have := hc.jbH (by omega)
    rw [r.cell (by simp; omega)]; exact h.jobs i hi
  · obtain ⟨st, sm, h6⟩ := h.live
    exact ⟨st, sm, h6.of_block (r.block _ (by omega))⟩

/-- worker k's things are being made: its number's box; its channel (b2); the channel is on its desk (then it is 'KS (k + 1)') -/
structure K1 (c : Ctx) (W : World) (k : Nat) (z : Value) (b2 : Bool) (w : World) : Prop where
  kb : KB c W k w
  sz : w.heap.size = c.H + 8 + 2 * k + (if b2 then 1 else 0)
  back : w.heap[c.H + 4]? = some (.chan 0 #[] false 0 0 false)
  chs : ∀ j, j < k → ∃ q, w.heap[c.H + 8 + 2 * j]? = some (.chan 0 #[] false q q false)
  box : w.heap[c.H + 7 + 2 * k]? = some (.cells #[z] 3)
  ch : b2 = true → w.heap[c.H + 8 + 2 * k]? = some (.chan 0 #[] false 0 0 false)
theorem K1.off (hc : OkC c Shun) {z : Value} {b2 : Bool} (h : K1 c W k z b2 w) (r : SR0 w w') : K1 c W k z b2 w' :=
  ⟨h.kb.off r, by rw [r.size]; exact h.sz, (r.block _ (fun h => h)).trans h.back, fun j hj => let ⟨q, hq⟩ := h.chs j hj; ⟨q, (r.block _ (fun h => h)).trans hq⟩, (r.block _ (fun h => h)).trans h.box, fun e => (r.block _ (fun h => h)).trans (h.ch e)⟩
theorem KS.box (hc : OkC c Shun) (h : KS c W k w) (z : Value) : K1 c W k z false (w.alloc (.cells #[z] 3)) := by
  have hb : Below (c.H + 7 + 2 * k) w (w.alloc (.cells #[z] 3)) := (Below.refl _ w).alloc (by rw [h.sz]; omega) _
  refine ⟨h.toKB.below hc hb, by simp [h.sz]; omega, (hb.block _ (by omega)).trans h.back, fun j hj => let ⟨q, hq⟩ := h.chs j hj; ⟨q, (hb.block _ (by omega)).trans hq⟩, ?_, fun e => (by cases e)⟩
  rw [← h.sz]; exact heap_alloc_new _ _
theorem K1.put (hc : OkC c Shun) {z : Value} (h : K1 c W k z false w) (z' : Value) : K1 c W k z' false (w.setCell ⟨c.H + 7 + 2 * k, 0, none⟩ z') := by
  have hb : Below (c.H + 7 + 2 * k) w (w.setCell ⟨c.H + 7 + 2 * k, 0, none⟩ z') := (Below.refl _ w).setCell (by simp) _
  refine ⟨h.kb.below hc hb, by simpa using h.sz, (hb.block _ (by omega)).trans h.back, fun j hj => let ⟨q, hq⟩ := h.chs j hj; ⟨q, (hb.block _ (by omega)).trans hq⟩, ?_, fun e => (by cases e)⟩
  have := heap_setCell_same w (c.H + 7 + 2 * k) 0 _ _ z' h.box
  simpa using this
theorem K1.chan (hc : OkC c Shun) {z : Value} (h : K1 c W k z false w) : K1 c W k z true (w.alloc (.chan 0 #[] false 0 0 false)) := by
  have hsz := h.sz
  simp only [Bool.false_eq_true, if_false, Nat.add_zero] at hsz
  have hb : Below (c.H + 8 + 2 * k) w (w.alloc (.chan 0 #[] false 0 0 false)) := (Below.refl _ w).alloc (by omega) _
  refine ⟨h.kb.below hc (hb.mono (by omega)), by simp [hsz], (hb.block _ (by omega)).trans h.back, fun j hj => let ⟨q, hq⟩ := h.chs j hj; ⟨q, (hb.block _ (by omega)).trans hq⟩, (hb.block _ (by omega)).trans h.box, fun _ => ?_⟩
  rw [← hsz]; exact heap_alloc_new _ _
theorem K1.lay (hc : OkC c Shun) (hk : k < c.n) (h : K1 c W k (.int .i64 k) true w) : KS c W (k + 1) (w.setCell ⟨c.H + 2, k, none⟩ (.chan (some (c.H + 8 + 2 * k)))) := by
  have hsz := h.sz
  simp only [if_true] at hsz
  obtain ⟨arr, h1, h2⟩ := h.kb.desks
  have hn : ∀ b, b ≠ c.H + 2 → (w.setCell ⟨c.H + 2, k, none⟩ (.chan (some (c.H + 8 + 2 * k)))).heap[b]? = w.heap[b]? := fun b hb => Below.heap_setCell _ _ _ _ hb
  have hcell : ∀ a : Addr, a.block ≠ c.H + 2 → (w.setCell ⟨c.H + 2, k, none⟩ (.chan (some (c.H + 8 + 2 * k)))).cell? a = w.cell? a := fun a ha => (same_block (hn _ ha)).1
  have hkb := h.kb
  have h2' := heap_setCell_same w (c.H + 2) k arr 52 (.chan (some (c.H + 8 + 2 * k))) h1
  refine ⟨⟨⟨hkb.old.os, hkb.old.tape, hkb.old.output, by simpa using hkb.old.size, fun b hb => (hn b (by omega)).trans (hkb.old.block b hb)⟩, ?_, ?_, ?_, ?_, ⟨_, h2', by simpa using h2⟩, fun j hj => ?_, fun j hj => ?_, fun i hi => ?_, ?_⟩, by simp [hsz]; omega, (hn _ (by omega)).trans h.back, fun j hj => ?_⟩
  · rw [hcell _ (by simp)]; exact hkb.jobsv
  · rw [hcell _ (by simp)]; exact hkb.dov
  · rw [hcell _ (by simp)]; exact hkb.desksv
  · rw [hcell _ (by simp)]; exact hkb.backv
  · by_cases e : j = k
    · subst e
      simp [World.cell?, h2', Array.getElem?_setIfInBounds, h2, hk]
    · rw [World.cell?_setCell_other _ _ _ _ (by simp; omega)]; exact hkb.desk j (by omega)
  · by_cases e : j = k
    · subst e; exact (hn _ (by omega)).trans h.box
    · exact (hn _ (by omega)).trans (hkb.kv j (by omega))
  · have := hc.jbH (by omega)
    rw [hcell _ (by simp only; omega)]; exact hkb.jobs i hi
  · obtain ⟨st, sm, h6⟩ := hkb.live
    exact ⟨st, sm, h6.of_block (hn _ (by omega))⟩
  · by_cases e : j = k
    · subst e; exact ⟨0, (hn _ (by omega)).trans (h.ch rfl)⟩
    · obtain ⟨q, hq⟩ := h.chs j (by omega)
      exact ⟨q, (hn _ (by omega)).trans hq⟩
theorem K1.bcell {z : Value} {b2 : Bool} (h : K1 c W k z b2 w) : w.cell? ⟨c.H + 7 + 2 * k, 0, none⟩ = some z := by
  simp [World.cell?, h.box]
theorem K1.bfree {z : Value} {b2 : Bool} (h : K1 c W k z b2 w) : w.frozen? ⟨c.H + 7 + 2 * k, 0, none⟩ = false := frozen_of_row w _ 0 _ 3 h.box
theorem K1.sz0 {z : Value} (h : K1 c W k z false w) : w.heap.size = c.H + 8 + 2 * k := by simpa using h.sz
theorem KB.dcell (h : KB c W k w) {j : Nat} (hj : j < c.n) : ∃ v, w.cell? ⟨c.H + 2, j, none⟩ = some v := by
  obtain ⟨arr, h1, h2⟩ := h.desks
  exact ⟨arr[j]'(by omega), by simp [World.cell?, h1, Array.getElem?_eq_getElem, h2, hj]⟩
theorem KB.dfree (h : KB c W k w) (j : Nat) : w.frozen? ⟨c.H + 2, j, none⟩ = false := by
  obtain ⟨arr, h1, h2⟩ := h.desks
  exact frozen_of_row w _ j _ 52 h1
theorem env0 (c : Ctx) (hB : c.H + 8 + 2 * c.n ≤ B) : Env 51 (c.H + 6) B (ChW c) SR0 :=
  ⟨Off.refl _, Off.at _, fun _ _ _ => Off.trans, by rintro (e | ⟨j, hj, e⟩) <;> omega, by omega, by decide⟩
theorem mode_sp_of {N : Nat} {ρ : Roles} (h : Go.ConcN.OpenSt N (stg ρ)) : Go.ConcN.Mode N (stg ρ) (.sp 0 3) ((((Go.ConcN.Vc N (stg ρ) : Nat) : Int) + 1) * KK) 0 := by
  have := Go.ConcN.Mode.opn (j := N) (D := stg ρ) (tag := .sp 0 3) trivial h (by simp)
  simpa [Go.ConcN.pend] using this
theorem spotOf_W (c : Ctx) (j : Nat) {isSend : Bool} {chan : Nat} {V : Value → World → Prop} {z : Value} {home : Goroutine → Prop} {mv : World → World → Prop} (h : chan = c.H + 4 ∨ chan = c.H + 8 + 2 * j) : SpotOf c j (spotW c j isSend chan V z home mv) := ⟨rfl, rfl, rfl, h⟩
end
end Go.Proofs.Ytngnkdedfcnfkaa

/-
  pool.Run's starter: what it knows, what its steps may do.
-/
import Derived.Test.YtngnkdedfcnfkaaPrA
import Derived.Conc.CrowdMono
set_option linter.unusedSimpArgs false
set_option linter.unusedVariables false
namespace Go.Proofs.Ytngnkdedfcnfkaa
open Go Go.Conc Go.RowKit Go.Conc.Lib Go.ConcR.Gen Go.ConcN.Gen
open Go.ConcN (WgLive Has RW ShN upd upd_same upd_ne goes_mono)
open Go.ConcR (KK WgAt stA smA)

theorem goes_D {P : Program} {main : Bool} {R : World → World → Prop} {D D' : World → World → Array Event → Prop} {Stop : Goroutine → World → Prop} (hD : ∀ w w' es, D w w' es → D' w w' es) : ∀ {n : Nat} {g : Goroutine} {w : World}, Goes P main R D Stop n g w → Goes P main R D' Stop n g w
  | 0, _, _, h => h
  | n + 1, g, w, h => by
    rcases h with h | ⟨hs, h⟩
    · exact .inl h
    · refine .inr ⟨hs, fun w₁ h₁ => ?_⟩
      have := h w₁ h₁
      revert this
      cases stepG P main g w₁ <;> simp only [GStep.goes, imp_self]
      exact fun ⟨d, x⟩ => ⟨hD _ _ _ d, goes_D hD x⟩

set_option maxRecDepth 100000 in
theorem by93 {P : Array Value → Prop} (h : ∀ v0 v1 v2 v3 v4 v5 v6 v7 v8 v9 v10 v11 v12 v13 v14 v15 v16 v17 v18 v19 v20 v21 v22 v23 v24 v25 v26 v27 v28 v29 v30 v31 v32 v33 v34 v35 v36 v37 v38 v39 v40 v41 v42 v43 v44 v45 v46 v47 v48 v49 v50 v51 v52 v53 v54 v55 v56 v57 v58 v59 v60 v61 v62 v63 v64 v65 v66 v67 v68 v69 v70 v71 v72 v73 v74 v75 v76 v77 v78 v79 v80 v81 v82 v83 v84 v85 v86 v87 v88 v89 v90 v91 v92 : Value, P (v0 :: v1 :: v2 :: v3 :: v4 :: v5 :: v6 :: v7 :: v8 :: v9 :: v10 :: v11 :: v12 :: v13 :: v14 :: v15 :: v16 :: v17 :: v18 :: v19 :: v20 :: v21 :: v22 :: v23 :: v24 :: v25 :: v26 :: v27 :: v28 :: v29 :: v30 :: v31 :: v32 :: v33 :: v34 :: v35 :: v36 :: v37 :: v38 :: v39 :: v40 :: v41 :: v42 :: v43 :: v44 :: v45 :: v46 :: v47 :: v48 :: v49 :: v50 :: v51 :: v52 :: v53 :: v54 :: v55 :: v56 :: v57 :: v58 :: v59 :: v60 :: v61 :: v62 :: v63 :: v64 :: v65 :: v66 :: v67 :: v68 :: v69 :: v70 :: v71 :: v72 :: v73 :: v74 :: v75 :: v76 :: v77 :: v78 :: v79 :: v80 :: v81 :: v82 :: v83 :: v84 :: v85 :: v86 :: v87 :: v88 :: v89 :: v90 :: v91 :: v92 :: []).toArray) : ∀ T : Array Value, T.size = 93 → P T := by
  rintro ⟨l⟩ hl
  simp only [List.size_toArray] at hl
  rcases l with _ | ⟨v0, l⟩
  · simp at hl
  rcases l with _ | ⟨v1, l⟩
  · simp at hl
  rcases l with _ | ⟨v2, l⟩
  · simp at hl
  rcases l with _ | ⟨v3, l⟩
  · simp at hl
  rcases l with _ | ⟨v4, l⟩
  · simp at hl
  rcases l with _ | ⟨v5, l⟩
  · simp at hl
  rcases l with _ | ⟨v6, l⟩
  · simp at hl
  rcases l with _ | ⟨v7, l⟩
  · simp at hl
  rcases l with _ | ⟨v8, l⟩
  · simp at hl
  rcases l with _ | ⟨v9, l⟩
  · simp at hl
  rcases l with _ | ⟨v10, l⟩
  · simp at hl
  rcases l with _ | ⟨v11, l⟩
  · simp at hl
  rcases l with _ | ⟨v12, l⟩
  · simp at hl
  rcases l with _ | ⟨v13, l⟩
  · simp at hl
  rcases l with _ | ⟨v14, l⟩
  · simp at hl
  rcases l with _ | ⟨v15, l⟩
  · simp at hl
  rcases l with _ | ⟨v16, l⟩
  · simp at hl
  rcases l with _ | ⟨v17, l⟩
  · simp at hl
  rcases l with _ | ⟨v18, l⟩
  · simp at hl
  rcases l with _ | ⟨v19, l⟩
  · simp at hl
  rcases l with _ | ⟨v20, l⟩
  · simp at hl
  rcases l with _ | ⟨v21, l⟩
  · simp at hl
  rcases l with _ | ⟨v22, l⟩
  · simp at hl
  rcases l with _ | ⟨v23, l⟩
  · simp at hl
  rcases l with _ | ⟨v24, l⟩
  · simp at hl
  rcases l with _ | ⟨v25, l⟩
  · simp at hl
  rcases l with _ | ⟨v26, l⟩
  · simp at hl
  rcases l with _ | ⟨v27, l⟩
  · simp at hl
  rcases l with _ | ⟨v28, l⟩
  · simp at hl
  rcases l with _ | ⟨v29, l⟩
  · simp at hl
  rcases l with _ | ⟨v30, l⟩
  · simp at hl
  rcases l with _ | ⟨v31, l⟩
  · simp at hl
  rcases l with _ | ⟨v32, l⟩
  · simp at hl
  rcases l with _ | ⟨v33, l⟩
  · simp at hl
  rcases l with _ | ⟨v34, l⟩
  · simp at hl
  rcases l with _ | ⟨v35, l⟩
  · simp at hl
  rcases l with _ | ⟨v36, l⟩
  · simp at hl
  rcases l with _ | ⟨v37, l⟩
  · simp at hl
  rcases l with _ | ⟨v38, l⟩
  · simp at hl
  rcases l with _ | ⟨v39, l⟩
  · simp at hl
  rcases l with _ | ⟨v40, l⟩
  · simp at hl
  rcases l with _ | ⟨v41, l⟩
  · simp at hl
  rcases l with _ | ⟨v42, l⟩
  · simp at hl
  rcases l with _ | ⟨v43, l⟩
  · simp at hl
  rcases l with _ | ⟨v44, l⟩
  · simp at hl
  rcases l with _ | ⟨v45, l⟩
  · simp at hl
  rcases l with _ | ⟨v46, l⟩
  · simp at hl
  rcases l with _ | ⟨v47, l⟩
  · simp at hl
  rcases l with _ | ⟨v48, l⟩
  · simp at hl
  rcases l with _ | ⟨v49, l⟩
  · simp at hl
  rcases l with _ | ⟨v50, l⟩
  · simp at hl
  rcases l with _ | ⟨v51, l⟩
  · simp at hl
  rcases l with _ | ⟨v52, l⟩
  · simp at hl
  rcases l with _ | ⟨v53, l⟩
  · simp at hl
  rcases l with _ | ⟨v54, l⟩
  · simp at hl
  rcases l with _ | ⟨v55, l⟩
  · simp at hl
  rcases l with _ | ⟨v56, l⟩
  · simp at hl
  rcases l with _ | ⟨v57, l⟩
  · simp at hl
  rcases l with _ | ⟨v58, l⟩
  · simp at hl
  rcases l with _ | ⟨v59, l⟩
  · simp at hl
  rcases l with _ | ⟨v60, l⟩
  · simp at hl
  rcases l with _ | ⟨v61, l⟩
  · simp at hl
  rcases l with _ | ⟨v62, l⟩
  · simp at hl
  rcases l with _ | ⟨v63, l⟩
  · simp at hl
  rcases l with _ | ⟨v64, l⟩
  · simp at hl
  rcases l with _ | ⟨v65, l⟩
  · simp at hl
  rcases l with _ | ⟨v66, l⟩
  · simp at hl
  rcases l with _ | ⟨v67, l⟩
  · simp at hl
  rcases l with _ | ⟨v68, l⟩
  · simp at hl
  rcases l with _ | ⟨v69, l⟩
  · simp at hl
  rcases l with _ | ⟨v70, l⟩
  · simp at hl
  rcases l with _ | ⟨v71, l⟩
  · simp at hl
  rcases l with _ | ⟨v72, l⟩
  · simp at hl
  rcases l with _ | ⟨v73, l⟩
  · simp at hl
  rcases l with _ | ⟨v74, l⟩
  · simp at hl
  rcases l with _ | ⟨v75, l⟩
  · simp at hl
  rcases l with _ | ⟨v76, l⟩
  · simp at hl
  rcases l with _ | ⟨v77, l⟩
  · simp at hl
  rcases l with _ | ⟨v78, l⟩
  · simp at hl
  rcases l with _ | ⟨v79, l⟩
  · simp at hl
  rcases l with _ | ⟨v80, l⟩
  · simp at hl
  rcases l with _ | ⟨v81, l⟩
  · simp at hl
  rcases l with _ | ⟨v82, l⟩
  · simp at hl
  rcases l with _ | ⟨v83, l⟩
  · simp at hl
  rcases l with _ | ⟨v84, l⟩
  · simp at hl
  rcases l with _ | ⟨v85, l⟩
  · simp at hl
  rcases l with _ | ⟨v86, l⟩
  · simp at hl
  rcases l with _ | ⟨v87, l⟩
  · simp at hl
  rcases l with _ | ⟨v88, l⟩
  · simp at hl
  rcases l with _ | ⟨v89, l⟩
  · simp at hl
  rcases l with _ | ⟨v90, l⟩
  · simp at hl
  rcases l with _ | ⟨v91, l⟩
  · simp at hl
  rcases l with _ | ⟨v92, l⟩
  · simp at hl
  rcases l with _ | ⟨x, l⟩
  · exact h v0 v1 v2 v3 v4 v5 v6 v7 v8 v9 v10 v11 v12 v13 v14 v15 v16 v17 v18 v19 v20 v21 v22 v23 v24 v25 v26 v27 v28 v29 v30 v31 v32 v33 v34 v35 v36 v37 v38 v39 v40 v41 v42 v43 v44 v45 v46 v47 v48 v49 v50 v51 v52 v53 v54 v55 v56 v57 v58 v59 v60 v61 v62 v63 v64 v65 v66 v67 v68 v69 v70 v71 v72 v73 v74 v75 v76 v77 v78 v79 v80 v81 v82 v83 v84 v85 v86 v87 v88 v89 v90 v91 v92
  · simp at hl

theorem at_size (w : World) (d : Nat) : (w.at d).heap.size = w.heap.size := rfl
theorem at_alloc (w : World) (d : Nat) (o : Obj) : (w.at d).alloc o = (w.alloc o).at d := rfl
theorem at_setCell (w : World) (d : Nat) (a : Addr) (v : Value) : (w.at d).setCell a v = (w.setCell a v).at d := rfl

theorem YKd.mono {P : Program} {ty : TypeId} {Wg : Nat} {SR : World → World → Prop} {Fin Fin' : Goroutine → World → Prop} (h : ∀ g w, Fin g w → Fin' g w) {g : Goroutine} {w : World} (x : YKd P ty Wg SR Fin g w) : YKd P ty Wg SR Fin' g w := by
  obtain ⟨h0, g1, h1, m1, x1⟩ := x
  refine ⟨h0, g1, h1, m1, goes_mono (fun g w x => ?_) x1⟩
  obtain ⟨h2, x2⟩ := x
  refine ⟨h2, fun v hv hw => ?_⟩
  obtain ⟨g3, h3, m3, x3⟩ := x2 v hv hw
  refine ⟨g3, h3, m3, goes_mono (fun g w x => ?_) x3⟩
  obtain ⟨h4, g5, h5, m5, x5⟩ := x
  exact ⟨h4, g5, h5, m5, goes_mono h x5⟩

/-- the places that are not touched plainly from now on -/
def ShunW (c : Ctx) (Shun : Loc → Prop) (l : Loc) : Prop := Shun l ∨ ShN (c.H + 6) l
theorem shunW_not {c : Ctx} {Shun : Loc → Prop} {a : Addr} (h : ¬ Shun (.cell a)) (h6 : a.block ≠ c.H + 6) : ¬ ShunW c Shun (.cell a) := by
  rintro (x | ⟨b, hb, hbl⟩)
  · exact h x
  · cases hb; exact h6 hbl

/-- the world behind Run's entry: old blocks stand, but the jobs' own -/
structure Old (c : Ctx) (W w : World) : Prop where
  os : w.os = W.os
  tape : w.tape = W.tape
  output : w.output = W.output
  size : c.H ≤ w.heap.size
  block : ∀ b, b < c.H → w.heap[b]? = W.heap[b]?
theorem Old.off {c : Ctx} {W w w' : World} (h : Old c W w) (r : Off (fun _ => False) w w') : Old c W w' := ⟨r.os.trans h.os, r.tape.trans h.tape, r.output.trans h.output, by rw [r.size]; exact h.size, fun b hb => (r.block b (fun x => x)).trans (h.block b hb)⟩
theorem Old.grow {c : Ctx} {W w w' : World} (h : Old c W w) (r : OffG (fun _ => False) c.E w w') : Old c W w' :=
  ⟨r.os.trans h.os, r.tape.trans h.tape, r.output.trans h.output, Nat.le_trans h.size r.kept.size, fun b hb => (r.block b (.inr (by unfold Ctx.E; omega)) (fun x => x)).trans (h.block b hb)⟩
theorem Old.off6 {c : Ctx} {W w w' : World} (h : Old c W w) (r : Off (· = c.H + 6) w w') : Old c W w' := ⟨r.os.trans h.os, r.tape.trans h.tape, r.output.trans h.output, by rw [r.size]; exact h.size, fun b hb => (r.block b (by omega)).trans (h.block b hb)⟩

/-- what stands whatever phase: k workers' things are laid -/
structure KB (c : Ctx) (W : World) (k : Nat) (w : World) : Prop where
  old : Old c W w
  jobsv : w.cell? ⟨c.H, 0, none⟩ = some (.slice c.ja c.J c.cap)
  dov : w.cell? ⟨c.H + 1, 0, none⟩ = some c.fn
  desksv : w.cell? ⟨c.H + 3, 0, none⟩ = some (.slice (some ⟨c.H + 2, 0, none⟩) c.n c.n)
  backv : w.cell? ⟨c.H + 5, 0, none⟩ = some (.chan (some (c.H + 4)))
  desks : ∃ arr : Array Value, w.heap[c.H + 2]? = some (.cells arr 52) ∧ arr.size = c.n
  desk : ∀ j, j < k → w.cell? ⟨c.H + 2, j, none⟩ = some (.chan (some (c.H + 8 + 2 * j)))
  kv : ∀ j, j < k → w.heap[c.H + 7 + 2 * j]? = some (.cells #[.int .i64 j] 3)
  jobs : ∀ i, i < c.J → w.cell? ⟨c.jb, i, none⟩ = some (c.vals i)
  live : WgLive 51 (c.H + 6) w
theorem cell_off {S : Nat → Prop} {w w' : World} (r : Off S w w') {a : Addr} (h : ¬ S a.block) : w'.cell? a = w.cell? a := (same_block (r.block _ h)).1
section
variable {c : Ctx} {Shun : Loc → Prop} {W w w' : World} {k : Nat}
theorem KB.off (h : KB c W k w) (r : Off (fun _ => False) w w') : KB c W k w' := by
  obtain ⟨arr, h1, h2⟩ := h.desks
  refine ⟨h.old.off r, ?_, ?_, ?_, ?_, ⟨arr, (r.block _ (fun x => x)).trans h1, h2⟩, fun j hj => ?_, fun j hj => (r.block _ (fun x => x)).trans (h.kv j hj), fun i hi => ?_, ?_⟩
  · rw [cell_off r (fun x => x)]; exact h.jobsv
  · rw [cell_off r (fun x => x)]; exact h.dov
  · rw [cell_off r (fun x => x)]; exact h.desksv
  · rw [cell_off r (fun x => x)]; exact h.backv
  · rw [cell_off r (fun x => x)]; exact h.desk j hj
  · rw [cell_off r (fun x => x)]; exact h.jobs i hi
  · obtain ⟨st, sm, h6⟩ := h.live
    exact ⟨st, sm, h6.of_block (r.block _ (fun x => x))⟩
theorem KB.grow (hc : OkC c Shun) (h : KB c W k w) (r : OffG (fun _ => False) c.E w w') : KB c W k w' := by
  obtain ⟨arr, h1, h2⟩ := h.desks
  have lt : ∀ {b : Nat}, b < c.H + 8 → w'.heap[b]? = w.heap[b]? := fun hb => r.block _ (.inr (by unfold Ctx.E; omega)) (fun x => x)
  have cl : ∀ {a : Addr}, a.block < c.H + 8 → w'.cell? a = w.cell? a := fun ha => (same_block (lt ha)).1
  refine ⟨h.old.grow r, ?_, ?_, ?_, ?_, ⟨arr, (lt (by omega)).trans h1, h2⟩, fun j hj => ?_, fun j hj => ?_, fun i hi => ?_, ?_⟩
  · rw [cl (by simp)]; exact h.jobsv
  · rw [cl (by simp)]; exact h.dov
  · rw [cl (by simp)]; exact h.desksv
  · rw [cl (by simp)]; exact h.backv
  · rw [cl (by simp)]; exact h.desk j hj
  · rw [r.block _ (.inl (Array.getElem?_eq_some_iff.1 (h.kv j hj)).1) (fun x => x)]; exact h.kv j hj
  · have := hc.jbH (by omega)
    rw [cl (by simp; omega)]; exact h.jobs i hi
  · obtain ⟨st, sm, h6⟩ := h.live
    exact ⟨st, sm, h6.of_block (lt (by omega))⟩
theorem KB.off6 (hc : OkC c Shun) (h : KB c W k w) (r : Off (· = c.H + 6) w w') (hl : WgLive 51 (c.H + 6) w') : KB c W k w' := by
  obtain ⟨arr, h1, h2⟩ := h.desks
  refine ⟨h.old.off6 r, ?_, ?_, ?_, ?_, ⟨arr, (r.block _ (by omega)).trans h1, h2⟩, fun j hj => ?_, fun j hj => (r.block _ (by omega)).trans (h.kv j hj), fun i hi => ?_, hl⟩
  · rw [cell_off r (by simp)]; exact h.jobsv
  · rw [cell_off r (by simp)]; exact h.dov
  · rw [cell_off r (by simp)]; exact h.desksv
  · rw [cell_off r (by simp)]; exact h.backv
  · rw [cell_off r (by simp)]; exact h.desk j hj
  · have := hc.jbH (by omega)
    rw [cell_off r (by simp; omega)]; exact h.jobs i hi
theorem KB.kw (h : KB c W k w) {j : Nat} (hj : j < k) : KW c j w := ⟨h.jobsv, h.dov, h.desksv, h.backv, h.kv j hj, h.desk j hj, h.jobs⟩
end

/-- while it spawns: k workers are hired, or will be -/
structure KS (c : Ctx) (W : World) (k : Nat) (w : World) : Prop extends KB c W k w where
  sz : w.heap.size = c.H + 7 + 2 * k
  back : w.heap[c.H + 4]? = some (.chan 0 #[] false 0 0 false)
  chs : ∀ j, j < k → ∃ q, w.heap[c.H + 8 + 2 * j]? = some (.chan 0 #[] false q q false)
/-- what the starter suffers while it spawns -/
abbrev SR0 : World → World → Prop := Off (fun _ => False)
theorem same_off {w w' : World} (r : SR0 w w') (A : Addr → Prop) : Same A w w' := fun a _ => same_block (r.block _ (fun h => h))
section
variable {c : Ctx} {Shun : Loc → Prop} {W w w' : World} {k : Nat}
theorem KS.off (h : KS c W k w) (r : SR0 w w') : KS c W k w' :=
  ⟨h.toKB.off r, by rw [r.size]; exact h.sz, (r.block _ (fun h => h)).trans h.back, fun j hj => let ⟨q, hq⟩ := h.chs j hj; ⟨q, (r.block _ (fun h => h)).trans hq⟩⟩
theorem KS.stays (hc : OkC c Shun) : Stays 51 (c.H + 6) SR0 (KS c W k) where
  rl h r := h.off r
  live h := h.live
  turn h a hl := ⟨h.toKB.off6 hc (Off.of_aside a rfl) hl, by rw [a.size]; exact h.sz, (a.block _ (by omega)).trans h.back, fun j hj => let ⟨q, hq⟩ := h.chs j hj; ⟨q, (a.block _ (by omega)).trans hq⟩⟩
  at_ h r := h.off (Off.of_at r)
end

/-! ### what the starter's steps may do -/
def EvS (c : Ctx) (Shun : Loc → Prop) (B k : Nat) (e : Event) : Prop :=
  EvG (c.H + 6) e ∨ ∃ a wr, e = ⟨.cell a, wr, false⟩ ∧ a.block < B ∧ ¬ ShunW c Shun (.cell a) ∧ (wr = true → ∀ j, j < k → ¬ DepW c j a)
structure DS (c : Ctx) (Shun : Loc → Prop) (B k : Nat) (w w' : World) (es : Array Event) : Prop where
  blk : ∀ b, b < c.H + 7 + 2 * k → b ≠ c.H + 2 → w'.heap[b]? = w.heap[b]?
  cell : ∀ j, j < k → w'.cell? ⟨c.H + 2, j, none⟩ = w.cell? ⟨c.H + 2, j, none⟩ ∧ w'.frozen? ⟨c.H + 2, j, none⟩ = w.frozen? ⟨c.H + 2, j, none⟩
  kept : Kept w w'
  ev : ∀ e ∈ es, EvS c Shun w'.heap.size k e
theorem ds_none' {c : Ctx} {Shun : Loc → Prop} {B k : Nat} {w : World} {es : Array Event} (h : ∀ e ∈ es, False) : DS c Shun B k w w es := ⟨fun _ _ _ => rfl, fun _ _ => ⟨rfl, rfl⟩, Kept.refl _, fun e he => (h e he).elim⟩
theorem ds_still {c : Ctx} {Shun : Loc → Prop} {B k : Nat} {w : World} {es : Array Event} (h : ∀ e ∈ es, EvS c Shun w.heap.size k e) : DS c Shun B k w w es := ⟨fun _ _ _ => rfl, fun _ _ => ⟨rfl, rfl⟩, Kept.refl _, h⟩
theorem dg_ds {c : Ctx} {Shun : Loc → Prop} {B k : Nat} {w w' : World} {es : Array Event} (h : DG (c.H + 6) w w' es) : DS c Shun B k w w' es := by
  obtain ⟨rfl, h⟩ := h
  exact ds_still fun e he => .inl (h e he)

/-- whose spot it is -/
structure SpotOf (c : Ctx) (j : Nat) (s : Spot) : Prop where
  dep : s.Dep = DepW c j
  own : s.Own = fun _ => False
  depB : s.DepB = (· = c.H + 7 + 2 * j)
  chan : s.chan = c.H + 4 ∨ s.chan = c.H + 8 + 2 * j
def LaidG (c : Ctx) (k base : Nat) (ρ : Roles) : Prop := ∀ i s st, ρ i = some (s, st) → ∃ j, j < k ∧ i = base + j ∧ SpotOf c j s
theorem LaidG.evo {c : Ctx} {k base : Nat} {ρ ρ' : Roles} (h : LaidG c k base ρ) (e : Evo ρ ρ') : LaidG c k base ρ' := fun i s st hi => let ⟨st', hi'⟩ := e.spot hi; h i s st' hi'

section
variable {c : Ctx} {Shun : Loc → Prop} {B k base : Nat} {ρ : Roles}
theorem meekS (hc : OkC c Shun) (hk : k ≤ c.n) (hB : c.H + 8 + 2 * c.n ≤ B) (hl : LaidG c k base ρ) : Meek (c.H + 6) B (ShunW c Shun) ρ (DS c Shun B k) := by
  intro w w' es d
  refine ⟨⟨⟨fun i s st hi => ?_, fun i s st hi => ?_, fun e he => ?_, d.kept.size⟩, d.blk _ (by omega) (by omega)⟩, fun e he => ?_⟩
  · obtain ⟨j, hj, _, hs⟩ := hl i s st hi
    rw [hs.dep, hs.own, hs.depB]
    refine ⟨fun a ha => ?_, ⟨fun a ha => ha.elim, d.kept⟩, fun b hb => by rw [hb]; exact d.blk _ (by omega) (by omega)⟩
    rcases ha.where_ with e | e | e | e | e | e | ⟨e, hJ⟩
    · exact same_block (d.blk _ (by omega) (by omega))
    · exact same_block (d.blk _ (by omega) (by omega))
    · exact same_block (d.blk _ (by omega) (by omega))
    · exact same_block (d.blk _ (by omega) (by omega))
    · exact same_block (d.blk _ (by omega) (by omega))
    · subst e; exact d.cell j hj
    · have := hc.jbH hJ
      exact same_block (d.blk _ (by omega) (by omega))
  · obtain ⟨j, hj, _, hs⟩ := hl i s st hi
    rcases hs.chan with e | e <;> rw [e] <;> exact d.blk _ (by omega) (by omega)
  · rcases d.ev e he with h | ⟨a, wr, rfl, hb, hsh, hw⟩
    · have key : ∀ a : Addr, a.block = c.H + 6 → ∀ i s st a', ρ i = some (s, st) → Loc.cell a = .cell a' → (s.Dep a' → False) ∧ ¬ s.Own a' := by
        intro a ha i s st a' hi e
        obtain rfl := Loc.cell.inj e
        obtain ⟨j, hj, _, hs⟩ := hl i s st hi
        rw [hs.dep, hs.own]
        refine ⟨fun hd => ?_, fun x => x⟩
        rcases hd.where_ with e | e | e | e | e | e | ⟨e, hJ⟩
        · omega
        · omega
        · omega
        · omega
        · omega
        · subst e; simp at ha
        · have := hc.jbH hJ; omega
      rcases h with rfl | rfl
      · refine ⟨fun b hb => ?_, fun h => h, by simp⟩
        simp only [MemAct.ofEvent, MemAct.touch?, Option.some.injEq] at hb
        subst hb
        exact ⟨fun _ => by simp, fun i s st a' hi e => ⟨fun _ => rfl, (key _ rfl i s st a' hi e).2⟩⟩
      · refine ⟨fun b hb => ?_, fun h => h, by simp⟩
        simp only [MemAct.ofEvent, MemAct.touch?, Option.some.injEq] at hb
        subst hb
        exact ⟨fun _ => by simp, fun i s st a' hi e => ⟨fun h => ((key _ rfl i s st a' hi e).1 h).elim, (key _ rfl i s st a' hi e).2⟩⟩
    · refine ⟨fun b hb' => ?_, fun _ => hb, by simp⟩
      simp only [ofEvent_cell0, MemAct.touch?, Option.some.injEq] at hb'
      subst hb'
      refine ⟨fun hx => absurd hx hsh, fun i s st a' hi e => ?_⟩
      obtain rfl := Loc.cell.inj e
      obtain ⟨j, hj, _, hs⟩ := hl i s st hi
      rw [hs.dep, hs.own]
      refine ⟨fun hd => ?_, fun x => x⟩
      cases wr with
      | false => rfl
      | true => exact absurd hd (hw rfl j hj)
  · rcases d.ev e he with (rfl | rfl) | ⟨a, wr, rfl, _⟩ <;> exact ⟨by simp, by simp⟩

/-- a place of this call -/
theorem evs_hi (hc : OkC c Shun) (a : Addr) (wr : Bool) (h1 : c.H ≤ a.block) (h2 : a.block ≠ c.H + 6) (h3 : a.block < B) (hw : wr = true → ∀ j, j < k → ¬ DepW c j a) : EvS c Shun B k ⟨.cell a, wr, false⟩ :=
  .inr ⟨a, wr, rfl, h3, shunW_not (hc.sh a h1 h2) h2, hw⟩
/-- a new place is nobody's -/
theorem dep_hi (hc : OkC c Shun) {a : Addr} (h : c.H + 7 + 2 * k ≤ a.block) : ∀ j, j < k → ¬ DepW c j a := by
  intro j hj hd
  rcases hd.where_ with e | e | e | e | e | e | ⟨e, hJ⟩
  · omega
  · omega
  · omega
  · omega
  · omega
  · subst e; simp only at h; omega
  · have := hc.jbH hJ; omega
theorem dep_desk {j' : Nat} (hc : OkC c Shun) (h : k ≤ j') : ∀ j, j < k → ¬ DepW c j ⟨c.H + 2, j', none⟩ := by
  intro j hj hd
  rcases hd.where_ with e | e | e | e | e | e | ⟨e, hJ⟩
  · simp at e
  · simp at e
  · simp at e
  · simp at e
  · simp only at e; omega
  · simp only [Addr.mk.injEq] at e; omega
  · have := hc.jbH hJ; simp only at e; omega
end
end Go.Proofs.Ytngnkdedfcnfkaa

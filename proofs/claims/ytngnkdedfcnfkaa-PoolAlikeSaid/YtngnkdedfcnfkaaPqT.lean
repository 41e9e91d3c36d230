/-
  lantern/lanternlaw20.PoolAlike (function 4): its walks from its entry to its calls of Run. (Printed by tools/pqt_gen.py.)
-/
import Derived.Test.YtngnkdedfcnfkaaPqB
import Derived.Test.YtngnkdedfcnfkaaRBZA
set_option linter.unusedSimpArgs false
set_option linter.unusedVariables false
namespace Go.Proofs.Ytngnkdedfcnfkaa
open Go Go.Conc Go.RowKit Go.Conc.Lib Go.ConcR.Gen Go.ConcN.Gen

theorem at_rl {W w w₁ : World} (h : AtRel W w) (r : AtRel w w₁) : AtRel W w₁ := atRel_trans _ _ _ h r
theorem Below.at_ {N : Nat} {W w w₁ : World} (h : Below N W w) (r : AtRel w w₁) : Below N W w₁ := by
  obtain ⟨d, rfl⟩ := r
  exact ⟨h.os, h.tape, h.output, h.size, h.block⟩

/-- a row of the law's own: its block, how many, what -/
abbrev Row := Nat × Nat × (Nat → Value)
/-- the world between the calls: what was there stands, rows have been made -/
structure G4 (W : World) (N₁ : Nat) (rows : List Row) (w : World) : Prop where
  below : Below W.heap.size W w
  size : N₁ ≤ w.heap.size
  rows : ∀ r ∈ rows, N₁ ≤ r.1 ∧ r.1 < w.heap.size ∧ ∀ i, i < r.2.1 → w.cell? ⟨r.1, i, none⟩ = some (r.2.2 i)
/-- one of them is new and empty -/
structure G5 (W : World) (N₁ : Nat) (rows : List Row) (g : Nat) (w : World) : Prop where
  four : G4 W N₁ rows w
  lt : ∀ r ∈ rows, r.1 < g
  ge : N₁ ≤ g
  own : w.ownsRow g 3 1 (.slice (some ⟨g, 0, none⟩) 0 0) 0 []
section
variable {W w w' : World} {N₁ g : Nat} {rows : List Row}
theorem G4.at_ (h : G4 W N₁ rows w) (r : AtRel w w') : G4 W N₁ rows w' := by
  obtain ⟨d, rfl⟩ := r
  exact ⟨Below.at_ h.below ⟨d, rfl⟩, h.size, h.rows⟩
theorem G5.at_ (h : G5 W N₁ rows g w) (r : AtRel w w') : G5 W N₁ rows g w' := by
  obtain ⟨d, rfl⟩ := r
  exact ⟨h.four.at_ ⟨d, rfl⟩, h.lt, h.ge, h.own⟩
theorem G4.made (hN : W.heap.size ≤ N₁) (h : G4 W N₁ rows w) : G5 W N₁ rows w.heap.size (w.alloc (.cells #[] 3)) := by
  have hs := h.size
  refine ⟨⟨h.below.alloc (by omega) _, by simp; omega, fun r hr => ?_⟩, fun r hr => (h.rows r hr).2.1, hs, World.ownsRow_made w #[] 0 (Nat.le_refl _) (Nat.zero_le _) rfl⟩
  obtain ⟨h1, h2, h3⟩ := h.rows r hr
  exact ⟨h1, by simp; omega, fun i hi => by rw [World.cell?_alloc_past _ _ _ (by simpa using h2)]; exact h3 i hi⟩
theorem G4.later (hN : W.heap.size ≤ N₁) (h : G4 W N₁ rows w) {g : Nat} (hr : ∀ r ∈ rows, r.1 < g) (hg : N₁ ≤ g) (r : Below g w w') : G4 W N₁ rows w' := by
  refine ⟨h.below.trans (r.mono (by omega)), Nat.le_trans h.size r.size, fun x hx => ?_⟩
  obtain ⟨h1, h2, h3⟩ := h.rows x hx
  exact ⟨h1, Nat.lt_of_lt_of_le h2 r.size, fun i hi => by rw [r.cell (by simpa using hr x hx)]; exact h3 i hi⟩
theorem G5.grow (hN : W.heap.size ≤ N₁) (h : G5 W N₁ rows g w) {b m : Nat} {f : Nat → Value} (r : Below g w w') (h1 : g ≤ b) (h2 : b < w'.heap.size) (h3 : ∀ i, i < m → w'.cell? ⟨b, i, none⟩ = some (f i)) : G4 W N₁ ((b, m, f) :: rows) w' := by
  have h4 := h.four.later hN h.lt h.ge r
  have := h.ge
  refine ⟨h4.below, h4.size, fun x hx => ?_⟩
  rcases List.mem_cons.1 hx with rfl | hx
  · exact ⟨by simp only; omega, h2, h3⟩
  · exact h4.rows x hx
end

theorem info22 : (Try.prog.info? 3).map (fun i => (i.zero, i.size, i.bytes)) = some (some (.int .i64 0), 1, 8) := by kernel_rfl
section
variable {B : Nat} {Shun : Loc → Prop}
theorem evL_cellS {Shun : Loc → Prop} {B : Nat} (a : Addr) (wr sy : Bool) (hS : ¬ Shun (.cell a)) (hB : a.block < B) : EvL Shun B ⟨.cell a, wr, sy⟩ := by
  refine ⟨fun x hx hs => ?_, by simp, by simp, ?_⟩
  · simp only [ofEvent_cell0, MemAct.touch?, Option.some.injEq] at hx
    subst hx
    exact absurd hs hS
  · rw [ofEvent_cell0]; exact hB
theorem append_ev {es : Array Event} {N g : Nat} (hS1 : ∀ a : Addr, a.block < N → ¬ Shun (.cell a)) (hS2 : ∀ a : Addr, a.block = g → ¬ Shun (.cell a)) (hN : N ≤ B) (hg : g < B)
    (h : ∀ ev ∈ es, (∃ ad, ev.loc = .cell ad ∧ ((ev.write = false ∧ ad.block < N) ∨ ad.block = g)) ∨ ∃ m, ev = ⟨.mark m, false, true⟩ ∧ Neutral m) : ∀ ev ∈ es, EvL Shun B ev := by
  intro ev he
  rcases h ev he with ⟨ad, h1, h2⟩ | ⟨m, rfl, hm⟩
  · obtain ⟨l, wr, sy⟩ := ev
    obtain rfl : l = .cell ad := h1
    rcases h2 with ⟨_, h2⟩ | h2
    · exact evL_cellS _ _ _ (hS1 ad h2) (by omega)
    · exact evL_cellS _ _ _ (hS2 ad h2) (by omega)
  · exact evL_mark hm
end
/-- one of the rows is new and empty, whatever its elements -/
structure G5e (e : TypeId) (W : World) (N₁ : Nat) (rows : List Row) (g : Nat) (w : World) : Prop where
  four : G4 W N₁ rows w
  lt : ∀ r ∈ rows, r.1 < g
  ge : N₁ ≤ g
  own : w.ownsRow g e 1 (.slice (some ⟨g, 0, none⟩) 0 0) 0 []
section
variable {W w w' : World} {N₁ g : Nat} {rows : List Row} {e : TypeId}
theorem G5e.at_ (h : G5e e W N₁ rows g w) (r : AtRel w w') : G5e e W N₁ rows g w' := by
  obtain ⟨d, rfl⟩ := r
  exact ⟨h.four.at_ ⟨d, rfl⟩, h.lt, h.ge, h.own⟩
theorem G4.madee (hN : W.heap.size ≤ N₁) (h : G4 W N₁ rows w) : G5e e W N₁ rows w.heap.size (w.alloc (.cells #[] e)) := by
  have hs := h.size
  refine ⟨⟨h.below.alloc (by omega) _, by simp; omega, fun r hr => ?_⟩, fun r hr => (h.rows r hr).2.1, hs, World.ownsRow_made w #[] 0 (Nat.le_refl _) (Nat.zero_le _) rfl⟩
  obtain ⟨h1, h2, h3⟩ := h.rows r hr
  exact ⟨h1, by simp; omega, fun i hi => by rw [World.cell?_alloc_past _ _ _ (by simpa using h2)]; exact h3 i hi⟩
theorem G5e.grow (hN : W.heap.size ≤ N₁) (h : G5e e W N₁ rows g w) {b m : Nat} {f : Nat → Value} (r : Below g w w') (h1 : g ≤ b) (h2 : b < w'.heap.size) (h3 : ∀ i, i < m → w'.cell? ⟨b, i, none⟩ = some (f i)) : G4 W N₁ ((b, m, f) :: rows) w' := by
  have h4 := h.four.later hN h.lt h.ge r
  have := h.ge
  refine ⟨h4.below, h4.size, fun x hx => ?_⟩
  rcases List.mem_cons.1 hx with rfl | hx
  · exact ⟨by simp only; omega, h2, h3⟩
  · exact h4.rows x hx
end
theorem info29 : (Try.prog.info? 9).map (fun i => (i.zero, i.size, i.bytes)) = some (some (.string ByteArray.empty), 1, 16) := by kernel_rfl
/-- how many workers the law asks for -/
def wk (n : Int) : Int := 1 + Int.tmod (n % 18446744073709551616) 64
theorem wk_lo (n : Int) : 1 ≤ wk n := by
  unfold wk
  have := Int.tmod_nonneg (64 : Int) (a := n % 18446744073709551616) (by omega)
  omega
theorem wk_hi (n : Int) : wk n ≤ 64 := by
  unfold wk
  have := Int.tmod_lt_of_pos (n % 18446744073709551616) (b := 64) (by omega)
  omega
theorem wk_eq (n : Int) : IntKind.i64.wrap (1 + IntKind.i64.wrap (Int.tmod (n % 18446744073709551616) 64)) = wk n := by
  have h1 := wk_lo n
  have h2 := wk_hi n
  unfold wk at *
  rw [IntKind.wrap_i64, IntKind.wrap_i64]
  omega

theorem SrcV.at_ {w w' : World} {ao : Option Addr} {m N : Nat} {f : Nat → Value} (h : SrcV w ao m N f) (r : AtRel w w') : SrcV w' ao m N f := by
  obtain ⟨d, rfl⟩ := r
  exact ⟨h.nil, h.blk, h.cell, h.one⟩
theorem by134 {P : Array Value → Prop} (h : ∀ v0 v1 v2 v3 v4 v5 v6 v7 v8 v9 v10 v11 v12 v13 v14 v15 v16 v17 v18 v19 v20 v21 v22 v23 v24 v25 v26 v27 v28 v29 v30 v31 v32 v33 v34 v35 v36 v37 v38 v39 v40 v41 v42 v43 v44 v45 v46 v47 v48 v49 v50 v51 v52 v53 v54 v55 v56 v57 v58 v59 v60 v61 v62 v63 v64 v65 v66 v67 v68 v69 v70 v71 v72 v73 v74 v75 v76 v77 v78 v79 v80 v81 v82 v83 v84 v85 v86 v87 v88 v89 v90 v91 v92 v93 v94 v95 v96 v97 v98 v99 v100 v101 v102 v103 v104 v105 v106 v107 v108 v109 v110 v111 v112 v113 v114 v115 v116 v117 v118 v119 v120 v121 v122 v123 v124 v125 v126 v127 v128 v129 v130 v131 v132 v133 : Value, P (v0 :: v1 :: v2 :: v3 :: v4 :: v5 :: v6 :: v7 :: v8 :: v9 :: v10 :: v11 :: v12 :: v13 :: v14 :: v15 :: v16 :: v17 :: v18 :: v19 :: v20 :: v21 :: v22 :: v23 :: v24 :: v25 :: v26 :: v27 :: v28 :: v29 :: v30 :: v31 :: v32 :: v33 :: v34 :: v35 :: v36 :: v37 :: v38 :: v39 :: v40 :: v41 :: v42 :: v43 :: v44 :: v45 :: v46 :: v47 :: v48 :: v49 :: v50 :: v51 :: v52 :: v53 :: v54 :: v55 :: v56 :: v57 :: v58 :: v59 :: v60 :: v61 :: v62 :: v63 :: v64 :: v65 :: v66 :: v67 :: v68 :: v69 :: v70 :: v71 :: v72 :: v73 :: v74 :: v75 :: v76 :: v77 :: v78 :: v79 :: v80 :: v81 :: v82 :: v83 :: v84 :: v85 :: v86 :: v87 :: v88 :: v89 :: v90 :: v91 :: v92 :: v93 :: v94 :: v95 :: v96 :: v97 :: v98 :: v99 :: v100 :: v101 :: v102 :: v103 :: v104 :: v105 :: v106 :: v107 :: v108 :: v109 :: v110 :: v111 :: v112 :: v113 :: v114 :: v115 :: v116 :: v117 :: v118 :: v119 :: v120 :: v121 :: v122 :: v123 :: v124 :: v125 :: v126 :: v127 :: v128 :: v129 :: v130 :: v131 :: v132 :: v133 :: []).toArray) : ∀ T : Array Value, T.size = 134 → P T := by
  intro T hT
  obtain ⟨l⟩ := T
  have hl : l.length = 134 := by simpa using hT
  clear hT
  rcases l with _ | ⟨v0, l⟩
  · simp at hl
  rcases l with _ | ⟨v1, l⟩
  · simp at hl
  rcases l with _ | ⟨v2, l⟩
  · simp at hl
  rcases l with _ | ⟨v3, l⟩
  · simp at hl
  rcases l with _ | ⟨v4, l⟩
  · simp at hl
  rcases l with _ | ⟨v5, l⟩
  · simp at hl
  rcases l with _ | ⟨v6, l⟩
  · simp at hl
  rcases l with _ | ⟨v7, l⟩
  · simp at hl
  rcases l with _ | ⟨v8, l⟩
  · simp at hl
  rcases l with _ | ⟨v9, l⟩
  · simp at hl
  rcases l with _ | ⟨v10, l⟩
  · simp at hl
  rcases l with _ | ⟨v11, l⟩
  · simp at hl
  rcases l with _ | ⟨v12, l⟩
  · simp at hl
  rcases l with _ | ⟨v13, l⟩
  · simp at hl
  rcases l with _ | ⟨v14, l⟩
  · simp at hl
  rcases l with _ | ⟨v15, l⟩
  · simp at hl
  rcases l with _ | ⟨v16, l⟩
  · simp at hl
  rcases l with _ | ⟨v17, l⟩
  · simp at hl
  rcases l with _ | ⟨v18, l⟩
  · simp at hl
  rcases l with _ | ⟨v19, l⟩
  · simp at hl
  rcases l with _ | ⟨v20, l⟩
  · simp at hl
  rcases l with _ | ⟨v21, l⟩
  · simp at hl
  rcases l with _ | ⟨v22, l⟩
  · simp at hl
  rcases l with _ | ⟨v23, l⟩
  · simp at hl
  rcases l with _ | ⟨v24, l⟩
  · simp at hl
  rcases l with _ | ⟨v25, l⟩
  · simp at hl
  rcases l with _ | ⟨v26, l⟩
  · simp at hl
  rcases l with _ | ⟨v27, l⟩
  · simp at hl
  rcases l with _ | ⟨v28, l⟩
  · simp at hl
  rcases l with _ | ⟨v29, l⟩
  · simp at hl
  rcases l with _ | ⟨v30, l⟩
  · simp at hl
  rcases l with _ | ⟨v31, l⟩
  · simp at hl
  rcases l with _ | ⟨v32, l⟩
  · simp at hl
  rcases l with _ | ⟨v33, l⟩
  · simp at hl
  rcases l with _ | ⟨v34, l⟩
  · simp at hl
  rcases l with _ | ⟨v35, l⟩
  · simp at hl
  rcases l with _ | ⟨v36, l⟩
  · simp at hl
  rcases l with _ | ⟨v37, l⟩
  · simp at hl
  rcases l with _ | ⟨v38, l⟩
  · simp at hl
  rcases l with _ | ⟨v39, l⟩
  · simp at hl
  rcases l with _ | ⟨v40, l⟩
  · simp at hl
  rcases l with _ | ⟨v41, l⟩
  · simp at hl
  rcases l with _ | ⟨v42, l⟩
  · simp at hl
  rcases l with _ | ⟨v43, l⟩
  · simp at hl
  rcases l with _ | ⟨v44, l⟩
  · simp at hl
  rcases l with _ | ⟨v45, l⟩
  · simp at hl
  rcases l with _ | ⟨v46, l⟩
  · simp at hl
  rcases l with _ | ⟨v47, l⟩
  · simp at hl
  rcases l with _ | ⟨v48, l⟩
  · simp at hl
  rcases l with _ | ⟨v49, l⟩
  · simp at hl
  rcases l with _ | ⟨v50, l⟩
  · simp at hl
  rcases l with _ | ⟨v51, l⟩
  · simp at hl
  rcases l with _ | ⟨v52, l⟩
  · simp at hl
  rcases l with _ | ⟨v53, l⟩
  · simp at hl
  rcases l with _ | ⟨v54, l⟩
  · simp at hl
  rcases l with _ | ⟨v55, l⟩
  · simp at hl
  rcases l with _ | ⟨v56, l⟩
  · simp at hl
  rcases l with _ | ⟨v57, l⟩
  · simp at hl
  rcases l with _ | ⟨v58, l⟩
  · simp at hl
  rcases l with _ | ⟨v59, l⟩
  · simp at hl
  rcases l with _ | ⟨v60, l⟩
  · simp at hl
  rcases l with _ | ⟨v61, l⟩
  · simp at hl
  rcases l with _ | ⟨v62, l⟩
  · simp at hl
  rcases l with _ | ⟨v63, l⟩
  · simp at hl
  rcases l with _ | ⟨v64, l⟩
  · simp at hl
  rcases l with _ | ⟨v65, l⟩
  · simp at hl
  rcases l with _ | ⟨v66, l⟩
  · simp at hl
  rcases l with _ | ⟨v67, l⟩
  · simp at hl
  rcases l with _ | ⟨v68, l⟩
  · simp at hl
  rcases l with _ | ⟨v69, l⟩
  · simp at hl
  rcases l with _ | ⟨v70, l⟩
  · simp at hl
  rcases l with _ | ⟨v71, l⟩
  · simp at hl
  rcases l with _ | ⟨v72, l⟩
  · simp at hl
  rcases l with _ | ⟨v73, l⟩
  · simp at hl
  rcases l with _ | ⟨v74, l⟩
  · simp at hl
  rcases l with _ | ⟨v75, l⟩
  · simp at hl
  rcases l with _ | ⟨v76, l⟩
  · simp at hl
  rcases l with _ | ⟨v77, l⟩
  · simp at hl
  rcases l with _ | ⟨v78, l⟩
  · simp at hl
  rcases l with _ | ⟨v79, l⟩
  · simp at hl
  rcases l with _ | ⟨v80, l⟩
  · simp at hl
  rcases l with _ | ⟨v81, l⟩
  · simp at hl
  rcases l with _ | ⟨v82, l⟩
  · simp at hl
  rcases l with _ | ⟨v83, l⟩
  · simp at hl
  rcases l with _ | ⟨v84, l⟩
  · simp at hl
  rcases l with _ | ⟨v85, l⟩
  · simp at hl
  rcases l with _ | ⟨v86, l⟩
  · simp at hl
  rcases l with _ | ⟨v87, l⟩
  · simp at hl
  rcases l with _ | ⟨v88, l⟩
  · simp at hl
  rcases l with _ | ⟨v89, l⟩
  · simp at hl
  rcases l with _ | ⟨v90, l⟩
  · simp at hl
  rcases l with _ | ⟨v91, l⟩
  · simp at hl
  rcases l with _ | ⟨v92, l⟩
  · simp at hl
  rcases l with _ | ⟨v93, l⟩
  · simp at hl
  rcases l with _ | ⟨v94, l⟩
  · simp at hl
  rcases l with _ | ⟨v95, l⟩
  · simp at hl
  rcases l with _ | ⟨v96, l⟩
  · simp at hl
  rcases l with _ | ⟨v97, l⟩
  · simp at hl
  rcases l with _ | ⟨v98, l⟩
  · simp at hl
  rcases l with _ | ⟨v99, l⟩
  · simp at hl
  rcases l with _ | ⟨v100, l⟩
  · simp at hl
  rcases l with _ | ⟨v101, l⟩
  · simp at hl
  rcases l with _ | ⟨v102, l⟩
  · simp at hl
  rcases l with _ | ⟨v103, l⟩
  · simp at hl
  rcases l with _ | ⟨v104, l⟩
  · simp at hl
  rcases l with _ | ⟨v105, l⟩
  · simp at hl
  rcases l with _ | ⟨v106, l⟩
  · simp at hl
  rcases l with _ | ⟨v107, l⟩
  · simp at hl
  rcases l with _ | ⟨v108, l⟩
  · simp at hl
  rcases l with _ | ⟨v109, l⟩
  · simp at hl
  rcases l with _ | ⟨v110, l⟩
  · simp at hl
  rcases l with _ | ⟨v111, l⟩
  · simp at hl
  rcases l with _ | ⟨v112, l⟩
  · simp at hl
  rcases l with _ | ⟨v113, l⟩
  · simp at hl
  rcases l with _ | ⟨v114, l⟩
  · simp at hl
  rcases l with _ | ⟨v115, l⟩
  · simp at hl
  rcases l with _ | ⟨v116, l⟩
  · simp at hl
  rcases l with _ | ⟨v117, l⟩
  · simp at hl
  rcases l with _ | ⟨v118, l⟩
  · simp at hl
  rcases l with _ | ⟨v119, l⟩
  · simp at hl
  rcases l with _ | ⟨v120, l⟩
  · simp at hl
  rcases l with _ | ⟨v121, l⟩
  · simp at hl
  rcases l with _ | ⟨v122, l⟩
  · simp at hl
  rcases l with _ | ⟨v123, l⟩
  · simp at hl
  rcases l with _ | ⟨v124, l⟩
  · simp at hl
  rcases l with _ | ⟨v125, l⟩
  · simp at hl
  rcases l with _ | ⟨v126, l⟩
  · simp at hl
  rcases l with _ | ⟨v127, l⟩
  · simp at hl
  rcases l with _ | ⟨v128, l⟩
  · simp at hl
  rcases l with _ | ⟨v129, l⟩
  · simp at hl
  rcases l with _ | ⟨v130, l⟩
  · simp at hl
  rcases l with _ | ⟨v131, l⟩
  · simp at hl
  rcases l with _ | ⟨v132, l⟩
  · simp at hl
  rcases l with _ | ⟨v133, l⟩
  · simp at hl
  rcases l with _ | ⟨x, l⟩
  · exact h v0 v1 v2 v3 v4 v5 v6 v7 v8 v9 v10 v11 v12 v13 v14 v15 v16 v17 v18 v19 v20 v21 v22 v23 v24 v25 v26 v27 v28 v29 v30 v31 v32 v33 v34 v35 v36 v37 v38 v39 v40 v41 v42 v43 v44 v45 v46 v47 v48 v49 v50 v51 v52 v53 v54 v55 v56 v57 v58 v59 v60 v61 v62 v63 v64 v65 v66 v67 v68 v69 v70 v71 v72 v73 v74 v75 v76 v77 v78 v79 v80 v81 v82 v83 v84 v85 v86 v87 v88 v89 v90 v91 v92 v93 v94 v95 v96 v97 v98 v99 v100 v101 v102 v103 v104 v105 v106 v107 v108 v109 v110 v111 v112 v113 v114 v115 v116 v117 v118 v119 v120 v121 v122 v123 v124 v125 v126 v127 v128 v129 v130 v131 v132 v133
  · simp at hl
noncomputable def body4 : Code := Try.f4.body.getD .skip
noncomputable def R1ops4 : Array Oper := match body4 with | .seq _ (.seq (.seq (.region _ ops _) _) _) => ops | _ => #[]
noncomputable def E41 : Code := match body4 with | .seq _ (.seq (.seq _ c) _) => c | _ => .skip
noncomputable def C41 : Code := match body4 with | .seq _ (.seq _ c) => c | _ => .skip
noncomputable def C46 : Code := match C41 with | .seq _ (.seq _ c) => c | _ => .skip
noncomputable def R6ops4 : Array Oper := match C46 with | .seq (.region _ ops _) _ => ops | _ => #[]
noncomputable def C47 : Code := match C46 with | .seq _ c => c | _ => .skip
noncomputable def R7ops4 : Array Oper := match C47 with | .seq (.region _ ops _) _ => ops | _ => #[]
noncomputable def C48 : Code := match C47 with | .seq _ c => c | _ => .skip
theorem nm7 : (Try.f7.name == "runtime.NumGoroutine") = false := by kernel_rfl
theorem nm10 : (Try.f10.name == "runtime.NumGoroutine") = false := by kernel_rfl
/-- the frame while Awake is under way -/
noncomputable def a41 (jv nv mv tv sv : Value) : Act := ⟨(jv :: nv :: mv :: tv :: sv :: undef :: undef :: undef :: undef :: undef :: .bool false :: List.replicate 123 undef).toArray, []⟩
/-- what later walks look at -/
structure S4 (jv tv sv : Value) (n m : Int) (T : Array Value) : Prop where
  sz : T.size = 134
  s0 : T[0]? = some jv
  s1 : T[1]? = some (.int .i64 n)
  s2 : T[2]? = some (.int .i64 m)
  s3 : T[3]? = some tv
  s4 : T[4]? = some sv

section
variable {Shun : Loc → Prop} {B : Nat} {W : World} {jv tv sv : Value} {n m : Int}
set_option maxRecDepth 100000 in
theorem law4a {nv mv : Value} : Goes Try.prog true AtRel (DE (EvL Shun B)) (fun g w => g = gAwake ((base 4).at (a41 jv nv mv tv sv) (.inRegion R1ops4 [0, 1] :: [.code E41, .code C41]) :: []) ∧ AtRel W w) 12
    (G ((base 4).at ⟨(jv :: nv :: mv :: tv :: sv :: List.replicate 129 undef).toArray, []⟩ [.code body4]) []) W := by
  have hF : AtRel W W := atRel_refl W
  simp only [body4, Try.f4, Option.getD_some, List.replicate]
  (refine Goes.step rfl (fun _ h₁_ => ?_); replace hF := at_rl hF h₁_; clear h₁_; rw [stepG_seq]; simp only [goes_go]; refine ⟨by (refine de_none ?_; intro e he; simp at he), ?_⟩)
  (refine Goes.step rfl (fun _ h₁_ => ?_); replace hF := at_rl hF h₁_; clear h₁_; rw [stepG_region]; simp only [goes_go, List.size_toArray, List.length_cons, List.length_nil, Nat.reduceAdd, Nat.zero_add, List.range, List.range.loop]; refine ⟨by (refine de_none ?_; intro e he; simp at he), ?_⟩)
  (refine Goes.step rfl (fun _ h₁_ => ?_); replace hF := at_rl hF h₁_; clear h₁_; refine goes_oper_k rfl rfl (by k_ne) (fun K_ hK_ => ?_); go_simp; refine hK_ _ _ ⟨?_, ?_⟩; (focus (refine de_none ?_; intro e he; have hm := mem_listed he; simp [go_sem, *] at hm)); clear hK_ K_; try w_num)
  (refine Goes.step rfl (fun _ h₁_ => ?_); replace hF := at_rl hF h₁_; clear h₁_; rw [stepG_region_end]; simp only [goes_go]; refine ⟨by (refine de_none ?_; intro e he; simp at he), ?_⟩)
  (refine Goes.step rfl (fun _ h₁_ => ?_); replace hF := at_rl hF h₁_; clear h₁_; rw [stepG_seq]; simp only [goes_go]; refine ⟨by (refine de_none ?_; intro e he; simp at he), ?_⟩)
  (refine Goes.step rfl (fun _ h₁_ => ?_); replace hF := at_rl hF h₁_; clear h₁_; rw [stepG_seq]; simp only [goes_go]; refine ⟨by (refine de_none ?_; intro e he; simp at he), ?_⟩)
  (refine Goes.step rfl (fun _ h₁_ => ?_); replace hF := at_rl hF h₁_; clear h₁_; rw [stepG_region]; simp only [goes_go, List.size_toArray, List.length_cons, List.length_nil, Nat.reduceAdd, Nat.zero_add, List.range, List.range.loop]; refine ⟨by (refine de_none ?_; intro e he; simp at he), ?_⟩)
  (refine Goes.step rfl (fun _ h₁_ => ?_); replace hF := at_rl hF h₁_; clear h₁_)
  refine goes_call rfl rfl (by k_ne) rfl Try.func7 nm7 rfl ⟨by (refine de_none ?_; intro e he; simp at he), ?_⟩
  refine Goes.stop (fun w₁ h₁ => ⟨?_, at_rl hF h₁⟩)
  simp only [gAwake, body7, a41, R1ops4, E41, C41, body4, Try.f4, Try.f7, Option.getD_some, List.replicate, Array.replicate, Act.eval, List.map_toArray, List.map_cons, List.map_nil, List.append_toArray, List.nil_append, List.size_toArray, List.length_nil, Nat.reduceSub, Nat.sub_zero]

set_option maxRecDepth 100000 in
set_option maxHeartbeats 4000000 in
/-- so many jobs that the law lets them go -/
theorem law4b {nv mv : Value} {Post : Value → World → Prop} {w : World} {ja : Option Addr} {J cap : Nat} (hJ : 500 < J) (hF : Below W.heap.size W w) (hpost : ∀ w, Below W.heap.size W w → Post (.bool true) w) :
    Goes Try.prog true AtRel (DE (EvL Shun B)) (AtEnd Try.prog Shun B Post) 20 (G ((base 4).at ((a41 (.slice ja J cap) nv mv tv sv).put ((R1ops4[0]?).bind (·.dst)) (.bool true)) (.inRegion R1ops4 [1] :: [.code E41, .code C41])) []) w := by
  have e : (R1ops4[0]?).bind (·.dst) = some 16 := rfl
  rw [e]
  have hd : decide ((500 : Int) < (J : Int)) = true := decide_eq_true (by omega)
  simp only [a41, R1ops4, E41, C41, body4, Try.f4, Option.getD_some, List.replicate, Act.put, List.setIfInBounds_toArray, List.set_cons_succ, List.set_cons_zero]
  (refine Goes.step rfl (fun _ h₁_ => ?_); replace hF := Below.at_ hF h₁_; clear h₁_; refine goes_oper_k rfl rfl (by k_ne) (fun K_ hK_ => ?_); go_simp; refine hK_ _ _ ⟨?_, ?_⟩; (focus (refine de_none ?_; intro e he; have hm := mem_listed he; simp [go_sem, *] at hm)); clear hK_ K_; try w_num)
  (refine Goes.step rfl (fun _ h₁_ => ?_); replace hF := Below.at_ hF h₁_; clear h₁_; rw [stepG_region_end]; simp only [goes_go]; refine ⟨by (refine de_none ?_; intro e he; simp at he), ?_⟩)
  (refine Goes.step rfl (fun _ h₁_ => ?_); replace hF := Below.at_ hF h₁_; clear h₁_; rw [stepG_cond (t := false) rfl]; simp only [goes_go, if_true, if_false, Bool.false_eq_true, ↓reduceIte]; refine ⟨by (refine de_none ?_; intro e he; simp at he), ?_⟩)
  (refine Goes.step rfl (fun _ h₁_ => ?_); replace hF := Below.at_ hF h₁_; clear h₁_; rw [stepG_skip]; simp only [goes_go]; refine ⟨by (refine de_none ?_; intro e he; simp at he), ?_⟩)
  (refine Goes.step rfl (fun _ h₁_ => ?_); replace hF := Below.at_ hF h₁_; clear h₁_; rw [stepG_seq]; simp only [goes_go]; refine ⟨by (refine de_none ?_; intro e he; simp at he), ?_⟩)
  (refine Goes.step rfl (fun _ h₁_ => ?_); replace hF := Below.at_ hF h₁_; clear h₁_; rw [stepG_seq]; simp only [goes_go]; refine ⟨by (refine de_none ?_; intro e he; simp at he), ?_⟩)
  (refine Goes.step rfl (fun _ h₁_ => ?_); replace hF := Below.at_ hF h₁_; clear h₁_; rw [stepG_region]; simp only [goes_go, List.size_toArray, List.length_cons, List.length_nil, Nat.reduceAdd, Nat.zero_add, List.range, List.range.loop]; refine ⟨by (refine de_none ?_; intro e he; simp at he), ?_⟩)
  (refine Goes.step rfl (fun _ h₁_ => ?_); replace hF := Below.at_ hF h₁_; clear h₁_; refine goes_oper_k rfl rfl (by k_ne) (fun K_ hK_ => ?_); go_simp; refine hK_ _ _ ⟨?_, ?_⟩; (focus (refine de_none ?_; intro e he; have hm := mem_listed he; simp [go_sem, *] at hm)); clear hK_ K_; try w_num)
  (refine Goes.step rfl (fun _ h₁_ => ?_); replace hF := Below.at_ hF h₁_; clear h₁_; refine goes_oper_k rfl rfl (by k_ne) (fun K_ hK_ => ?_); go_simp; refine hK_ _ _ ⟨?_, ?_⟩; (focus (refine de_none ?_; intro e he; have hm := mem_listed he; simp [go_sem, *] at hm)); clear hK_ K_; try w_num)
  (refine Goes.step rfl (fun _ h₁_ => ?_); replace hF := Below.at_ hF h₁_; clear h₁_; refine goes_oper_k rfl rfl (by k_ne) (fun K_ hK_ => ?_); go_simp; refine hK_ _ _ ⟨?_, ?_⟩; (focus (refine de_none ?_; intro e he; have hm := mem_listed he; simp [go_sem, *] at hm)); clear hK_ K_; try w_num)
  (refine Goes.step rfl (fun _ h₁_ => ?_); replace hF := Below.at_ hF h₁_; clear h₁_; rw [stepG_region_end]; simp only [goes_go]; refine ⟨by (refine de_none ?_; intro e he; simp at he), ?_⟩)
  (refine Goes.step rfl (fun _ h₁_ => ?_); replace hF := Below.at_ hF h₁_; clear h₁_; rw [stepG_cond (t := true) rfl]; simp only [goes_go, if_true, if_false, Bool.false_eq_true, ↓reduceIte]; refine ⟨by (refine de_none ?_; intro e he; simp at he), ?_⟩)
  (refine Goes.step rfl (fun _ h₁_ => ?_); replace hF := Below.at_ hF h₁_; clear h₁_; rw [stepG_seq]; simp only [goes_go]; refine ⟨by (refine de_none ?_; intro e he; simp at he), ?_⟩)
  (refine Goes.step rfl (fun _ h₁_ => ?_); replace hF := Below.at_ hF h₁_; clear h₁_; rw [stepG_region]; simp only [goes_go, List.size_toArray, List.length_cons, List.length_nil, Nat.reduceAdd, Nat.zero_add, List.range, List.range.loop]; refine ⟨by (refine de_none ?_; intro e he; simp at he), ?_⟩)
  (refine Goes.step rfl (fun _ h₁_ => ?_); replace hF := Below.at_ hF h₁_; clear h₁_; refine goes_oper_k rfl rfl (by k_ne) (fun K_ hK_ => ?_); go_simp; refine hK_ _ _ ⟨?_, ?_⟩; (focus (refine de_none ?_; intro e he; have hm := mem_listed he; simp [go_sem, *] at hm)); clear hK_ K_; try w_num)
  (refine Goes.step rfl (fun _ h₁_ => ?_); replace hF := Below.at_ hF h₁_; clear h₁_; rw [stepG_region_end]; simp only [goes_go]; refine ⟨by (refine de_none ?_; intro e he; simp at he), ?_⟩)
  (refine Goes.step rfl (fun _ h₁_ => ?_); replace hF := Below.at_ hF h₁_; clear h₁_; rw [stepG_ret']; simp only [goes_go]; refine ⟨by (refine de_none ?_; intro e he; simp at he), ?_⟩)
  refine Goes.stop (fun w₂ r₂ => ⟨rfl, .bool true, #[], ?_, by simp, hpost _ (Below.at_ hF r₂)⟩)
  simp [G, stepG, unwind, doReturn, results, Frame.at, base, Try.func4, Try.f4, seen, GStep.after]

set_option maxRecDepth 100000 in
set_option maxHeartbeats 4000000 in
/-- from Awake's return to ahead of the first call of Run -/
theorem law4c {w : World} {ja : Option Addr} {J cap : Nat} (hJ : J ≤ 500) {F : World → Prop} (hat : ∀ {w w' : World}, F w → AtRel w w' → F w') (hF : F w) :
    Goes Try.prog true AtRel (DE (EvL Shun B)) (fun g w => ∃ T, g = G ((base 4).at ⟨T, []⟩ [.code C46]) [] ∧ S4 (.slice ja J cap) tv sv (wk n) (wk m) T ∧ F w) 40
      (G ((base 4).at ((a41 (.slice ja J cap) (.int .i64 n) (.int .i64 m) tv sv).put ((R1ops4[0]?).bind (·.dst)) (.bool true)) (.inRegion R1ops4 [1] :: [.code E41, .code C41])) []) w := by
  have e : (R1ops4[0]?).bind (·.dst) = some 16 := rfl
  rw [e]
  have hd : decide ((500 : Int) < (J : Int)) = false := decide_eq_false (by omega)
  simp only [a41, R1ops4, E41, C41, body4, Try.f4, Option.getD_some, List.replicate, Act.put, List.setIfInBounds_toArray, List.set_cons_succ, List.set_cons_zero]
  (refine Goes.step rfl (fun _ h₁_ => ?_); replace hF := hat hF h₁_; clear h₁_; refine goes_oper_k rfl rfl (by k_ne) (fun K_ hK_ => ?_); go_simp; refine hK_ _ _ ⟨?_, ?_⟩; (focus (refine de_none ?_; intro e he; have hm := mem_listed he; simp [go_sem, *] at hm)); clear hK_ K_; try w_num)
  (refine Goes.step rfl (fun _ h₁_ => ?_); replace hF := hat hF h₁_; clear h₁_; rw [stepG_region_end]; simp only [goes_go]; refine ⟨by (refine de_none ?_; intro e he; simp at he), ?_⟩)
  (refine Goes.step rfl (fun _ h₁_ => ?_); replace hF := hat hF h₁_; clear h₁_; rw [stepG_cond (t := false) rfl]; simp only [goes_go, if_true, if_false, Bool.false_eq_true, ↓reduceIte]; refine ⟨by (refine de_none ?_; intro e he; simp at he), ?_⟩)
  (refine Goes.step rfl (fun _ h₁_ => ?_); replace hF := hat hF h₁_; clear h₁_; rw [stepG_skip]; simp only [goes_go]; refine ⟨by (refine de_none ?_; intro e he; simp at he), ?_⟩)
  (refine Goes.step rfl (fun _ h₁_ => ?_); replace hF := hat hF h₁_; clear h₁_; rw [stepG_seq]; simp only [goes_go]; refine ⟨by (refine de_none ?_; intro e he; simp at he), ?_⟩)
  (refine Goes.step rfl (fun _ h₁_ => ?_); replace hF := hat hF h₁_; clear h₁_; rw [stepG_seq]; simp only [goes_go]; refine ⟨by (refine de_none ?_; intro e he; simp at he), ?_⟩)
  (refine Goes.step rfl (fun _ h₁_ => ?_); replace hF := hat hF h₁_; clear h₁_; rw [stepG_region]; simp only [goes_go, List.size_toArray, List.length_cons, List.length_nil, Nat.reduceAdd, Nat.zero_add, List.range, List.range.loop]; refine ⟨by (refine de_none ?_; intro e he; simp at he), ?_⟩)
  (refine Goes.step rfl (fun _ h₁_ => ?_); replace hF := hat hF h₁_; clear h₁_; refine goes_oper_k rfl rfl (by k_ne) (fun K_ hK_ => ?_); go_simp; refine hK_ _ _ ⟨?_, ?_⟩; (focus (refine de_none ?_; intro e he; have hm := mem_listed he; simp [go_sem, *] at hm)); clear hK_ K_; try w_num)
  (refine Goes.step rfl (fun _ h₁_ => ?_); replace hF := hat hF h₁_; clear h₁_; refine goes_oper_k rfl rfl (by k_ne) (fun K_ hK_ => ?_); go_simp; refine hK_ _ _ ⟨?_, ?_⟩; (focus (refine de_none ?_; intro e he; have hm := mem_listed he; simp [go_sem, *] at hm)); clear hK_ K_; try w_num)
  (refine Goes.step rfl (fun _ h₁_ => ?_); replace hF := hat hF h₁_; clear h₁_; refine goes_oper_k rfl rfl (by k_ne) (fun K_ hK_ => ?_); go_simp; refine hK_ _ _ ⟨?_, ?_⟩; (focus (refine de_none ?_; intro e he; have hm := mem_listed he; simp [go_sem, *] at hm)); clear hK_ K_; try w_num)
  (refine Goes.step rfl (fun _ h₁_ => ?_); replace hF := hat hF h₁_; clear h₁_; rw [stepG_region_end]; simp only [goes_go]; refine ⟨by (refine de_none ?_; intro e he; simp at he), ?_⟩)
  (refine Goes.step rfl (fun _ h₁_ => ?_); replace hF := hat hF h₁_; clear h₁_; rw [stepG_cond (t := false) rfl]; simp only [goes_go, if_true, if_false, Bool.false_eq_true, ↓reduceIte]; refine ⟨by (refine de_none ?_; intro e he; simp at he), ?_⟩)
  (refine Goes.step rfl (fun _ h₁_ => ?_); replace hF := hat hF h₁_; clear h₁_; rw [stepG_skip]; simp only [goes_go]; refine ⟨by (refine de_none ?_; intro e he; simp at he), ?_⟩)
  (refine Goes.step rfl (fun _ h₁_ => ?_); replace hF := hat hF h₁_; clear h₁_; rw [stepG_seq]; simp only [goes_go]; refine ⟨by (refine de_none ?_; intro e he; simp at he), ?_⟩)
  (refine Goes.step rfl (fun _ h₁_ => ?_); replace hF := hat hF h₁_; clear h₁_; rw [stepG_region]; simp only [goes_go, List.size_toArray, List.length_cons, List.length_nil, Nat.reduceAdd, Nat.zero_add, List.range, List.range.loop]; refine ⟨by (refine de_none ?_; intro e he; simp at he), ?_⟩)
  (refine Goes.step rfl (fun _ h₁_ => ?_); replace hF := hat hF h₁_; clear h₁_; refine goes_oper_k rfl rfl (by k_ne) (fun K_ hK_ => ?_); go_simp; refine hK_ _ _ ⟨?_, ?_⟩; (focus (refine de_none ?_; intro e he; have hm := mem_listed he; simp [go_sem, *] at hm)); clear hK_ K_; try w_num)
  (refine Goes.step rfl (fun _ h₁_ => ?_); replace hF := hat hF h₁_; clear h₁_; refine goes_oper_k rfl rfl (by k_ne) (fun K_ hK_ => ?_); have hf0_ := Try.underlying3; have hf1_ := Try.underlying30; go_simp; refine hK_ _ _ ⟨?_, ?_⟩; (focus (refine de_none ?_; intro e he; have hm := mem_listed he; simp [go_sem, *] at hm)); clear hK_ K_ hf0_ hf1_; try w_num)
  (refine Goes.step rfl (fun _ h₁_ => ?_); replace hF := hat hF h₁_; clear h₁_; refine goes_oper_k rfl rfl (by k_ne) (fun K_ hK_ => ?_); go_simp; refine hK_ _ _ ⟨?_, ?_⟩; (focus (refine de_none ?_; intro e he; have hm := mem_listed he; simp [go_sem, *] at hm)); clear hK_ K_; try w_num)
  (refine Goes.step rfl (fun _ h₁_ => ?_); replace hF := hat hF h₁_; clear h₁_; refine goes_oper_k rfl rfl (by k_ne) (fun K_ hK_ => ?_); have hf0_ := Try.underlying3; have hf1_ := Try.underlying30; go_simp; refine hK_ _ _ ⟨?_, ?_⟩; (focus (refine de_none ?_; intro e he; have hm := mem_listed he; simp [go_sem, *] at hm)); clear hK_ K_ hf0_ hf1_; try w_num)
  (refine Goes.step rfl (fun _ h₁_ => ?_); replace hF := hat hF h₁_; clear h₁_; refine goes_oper_k rfl rfl (by k_ne) (fun K_ hK_ => ?_); go_simp; refine hK_ _ _ ⟨?_, ?_⟩; (focus (refine de_none ?_; intro e he; have hm := mem_listed he; simp [go_sem, *] at hm)); clear hK_ K_; try w_num)
  (refine Goes.step rfl (fun _ h₁_ => ?_); replace hF := hat hF h₁_; clear h₁_; refine goes_oper_k rfl rfl (by k_ne) (fun K_ hK_ => ?_); go_simp; refine hK_ _ _ ⟨?_, ?_⟩; (focus (refine de_none ?_; intro e he; have hm := mem_listed he; simp [go_sem, *] at hm)); clear hK_ K_; try w_num)
  (refine Goes.step rfl (fun _ h₁_ => ?_); replace hF := hat hF h₁_; clear h₁_; refine goes_oper_k rfl rfl (by k_ne) (fun K_ hK_ => ?_); have hf0_ := Try.underlying3; have hf1_ := Try.underlying30; go_simp; refine hK_ _ _ ⟨?_, ?_⟩; (focus (refine de_none ?_; intro e he; have hm := mem_listed he; simp [go_sem, *] at hm)); clear hK_ K_ hf0_ hf1_; try w_num)
  (refine Goes.step rfl (fun _ h₁_ => ?_); replace hF := hat hF h₁_; clear h₁_; refine goes_oper_k rfl rfl (by k_ne) (fun K_ hK_ => ?_); go_simp; refine hK_ _ _ ⟨?_, ?_⟩; (focus (refine de_none ?_; intro e he; have hm := mem_listed he; simp [go_sem, *] at hm)); clear hK_ K_; try w_num)
  (refine Goes.step rfl (fun _ h₁_ => ?_); replace hF := hat hF h₁_; clear h₁_; refine goes_oper_k rfl rfl (by k_ne) (fun K_ hK_ => ?_); have hf0_ := Try.underlying3; have hf1_ := Try.underlying30; go_simp; refine hK_ _ _ ⟨?_, ?_⟩; (focus (refine de_none ?_; intro e he; have hm := mem_listed he; simp [go_sem, *] at hm)); clear hK_ K_ hf0_ hf1_; try w_num)
  (refine Goes.step rfl (fun _ h₁_ => ?_); replace hF := hat hF h₁_; clear h₁_; refine goes_oper_k rfl rfl (by k_ne) (fun K_ hK_ => ?_); go_simp; refine hK_ _ _ ⟨?_, ?_⟩; (focus (refine de_none ?_; intro e he; have hm := mem_listed he; simp [go_sem, *] at hm)); clear hK_ K_; try w_num)
  simp only [wk_eq]
  (refine Goes.step rfl (fun _ h₁_ => ?_); replace hF := hat hF h₁_; clear h₁_; refine goes_oper_k rfl rfl (by k_ne) (fun K_ hK_ => ?_); go_simp; refine hK_ _ _ ⟨?_, ?_⟩; (focus (refine de_none ?_; intro e he; have hm := mem_listed he; simp [go_sem, *] at hm)); clear hK_ K_; try w_num)
  (refine Goes.step rfl (fun _ h₁_ => ?_); replace hF := hat hF h₁_; clear h₁_; refine goes_oper_k rfl rfl (by k_ne) (fun K_ hK_ => ?_); go_simp; refine hK_ _ _ ⟨?_, ?_⟩; (focus (refine de_none ?_; intro e he; have hm := mem_listed he; simp [go_sem, *] at hm)); clear hK_ K_; try w_num)
  (refine Goes.step rfl (fun _ h₁_ => ?_); replace hF := hat hF h₁_; clear h₁_; rw [stepG_region_end]; simp only [goes_go]; refine ⟨by (refine de_none ?_; intro e he; simp at he), ?_⟩)
  refine Goes.mono (Goes.stop (n := 0) (fun w₂ r₂ => ⟨_, rfl, ⟨rfl, rfl, rfl, rfl, rfl, rfl⟩, hat hF r₂⟩)) (by omega)

set_option maxRecDepth 100000 in
set_option maxHeartbeats 4000000 in
/-- the first row of the first call -/
theorem callA6 {T : Array Value} {ja : Option Addr} {J cap N0 N₁ : Nat} {fj : Nat → Value} (hT : S4 (.slice ja J cap) tv sv n m T) {w : World} (hN : W.heap.size ≤ N₁) (hN0 : N0 ≤ N₁) (hJ : J ≤ 500) (hF : G4 W N₁ [] w ∧ SrcV w ja J N0 fj ∧ w.heap.size = N₁)
    (hS1 : ∀ a : Addr, a.block < N0 → ¬ Shun (.cell a)) (hS2 : ∀ a : Addr, N₁ ≤ a.block → ¬ Shun (.cell a)) (hB : N₁ + 1 ≤ B) :
    Goes Try.prog true AtRel (DE (EvL Shun B)) (fun g w => ∃ T j1 c1, g = G ((base 4).at ⟨T, []⟩ (.inRegion R6ops4 [3, 4, 5, 6, 7, 8, 9, 10, 11, 12] :: [.code C47])) [] ∧ S4 (.slice ja J cap) tv sv n m T ∧ T[34]? = some (.slice (some ⟨j1, 0, none⟩) J c1) ∧ G4 W N₁ [(j1, J, fj)] w) 40
      (G ((base 4).at ⟨T, []⟩ [.code C46]) []) w := by
  have fa : ∀ {w w' : World}, (G4 W N₁ [] w ∧ SrcV w ja J N0 fj ∧ w.heap.size = N₁) → AtRel w w' → (G4 W N₁ [] w' ∧ SrcV w' ja J N0 fj ∧ w'.heap.size = N₁) := fun h r => by
    obtain ⟨d, rfl⟩ := r
    exact ⟨h.1.at_ ⟨d, rfl⟩, ⟨h.2.1.nil, h.2.1.blk, h.2.1.cell, h.2.1.one⟩, h.2.2⟩
  have hsz := hT.sz
  revert hT
  revert hsz
  revert T
  refine @by134 _ ?_
  intro v0 v1 v2 v3 v4 v5 v6 v7 v8 v9 v10 v11 v12 v13 v14 v15 v16 v17 v18 v19 v20 v21 v22 v23 v24 v25 v26 v27 v28 v29 v30 v31 v32 v33 v34 v35 v36 v37 v38 v39 v40 v41 v42 v43 v44 v45 v46 v47 v48 v49 v50 v51 v52 v53 v54 v55 v56 v57 v58 v59 v60 v61 v62 v63 v64 v65 v66 v67 v68 v69 v70 v71 v72 v73 v74 v75 v76 v77 v78 v79 v80 v81 v82 v83 v84 v85 v86 v87 v88 v89 v90 v91 v92 v93 v94 v95 v96 v97 v98 v99 v100 v101 v102 v103 v104 v105 v106 v107 v108 v109 v110 v111 v112 v113 v114 v115 v116 v117 v118 v119 v120 v121 v122 v123 v124 v125 v126 v127 v128 v129 v130 v131 v132 v133 hT
  obtain ⟨_, t0, t1, t2, t3, t4⟩ := hT
  simp only [List.getElem?_toArray, List.getElem?_cons_succ, List.getElem?_cons_zero, Option.some.injEq] at t0 t1 t2 t3 t4
  subst t0 t1 t2 t3 t4
  simp only [R6ops4, C47, C46, C41, body4, Try.f4, Option.getD_some]
  (refine Goes.step rfl (fun _ h₁_ => ?_); replace hF := fa hF h₁_; clear h₁_; rw [stepG_seq]; simp only [goes_go]; refine ⟨by (refine de_none ?_; intro e he; simp at he), ?_⟩)
  (refine Goes.step rfl (fun _ h₁_ => ?_); replace hF := fa hF h₁_; clear h₁_; rw [stepG_region]; simp only [goes_go, List.size_toArray, List.length_cons, List.length_nil, Nat.reduceAdd, Nat.zero_add, List.range, List.range.loop]; refine ⟨by (refine de_none ?_; intro e he; simp at he), ?_⟩)
  (refine Goes.step rfl (fun _ h₁_ => ?_); replace hF := fa hF h₁_; clear h₁_)
  rename_i w₁
  refine goes_oper_k rfl rfl (by decide) (fun K_ hK_ => ?_)
  go_simp
  refine hK_ _ _ ⟨fun e he => ?_, ?_⟩
  · have hm := mem_listed he
    simp [go_sem] at hm
  clear hK_ K_
  obtain ⟨h4, hs, hw⟩ := hF
  have hF : G5e 9 W N₁ [] N₁ (w₁.alloc (.cells #[] 9)) ∧ SrcV (w₁.alloc (.cells #[] 9)) ja J N0 fj := by
    have := h4.madee (e := 9) hN
    rw [hw] at this
    exact ⟨this, hs.below ((Below.refl _ _).alloc (by omega) _)⟩

  clear h4 hs hw
  have fb : ∀ {w w' : World}, (G5e 9 W N₁ [] N₁ w ∧ SrcV w ja J N0 fj) → AtRel w w' → (G5e 9 W N₁ [] N₁ w' ∧ SrcV w' ja J N0 fj) := fun h r => by
    obtain ⟨d, rfl⟩ := r
    exact ⟨h.1.at_ ⟨d, rfl⟩, ⟨h.2.nil, h.2.blk, h.2.cell, h.2.one⟩⟩
  (refine Goes.step rfl (fun _ h₁_ => ?_); replace hF := fb hF h₁_; clear h₁_; refine goes_oper_k rfl rfl (by k_ne) (fun K_ hK_ => ?_); go_simp; refine hK_ _ _ ⟨?_, ?_⟩; (focus (refine de_none ?_; intro e he; have hm := mem_listed he; simp [go_sem, *] at hm)); clear hK_ K_; try w_num)
  (refine Goes.step rfl (fun _ h₁_ => ?_); replace hF := fb hF h₁_; clear h₁_)
  rename_i w₂
  obtain ⟨i0, hi, hz0, hz1, hz2⟩ := info_parts info29
  have hg := (hF.1.own.lt N₁ rfl)
  obtain ⟨j1, c1, w₃, hr, hj1, hj2, hcells, hbelow, hev⟩ := append_src (tb := 29) (mc := cap) Try.underlying29 hi hz0 hz1 hz2 rfl (base := N₁) (by omega) hF.1.own hF.2 (by simp only [maxLen]; omega) (by omega)
  refine goes_oper_k rfl rfl (by decide) (fun K_ hK_ => ?_)
  refine uponK_append (.tmp 32) (.tmp 33) 29 rfl rfl rfl hr (hK_ _ _ ⟨append_ev (N := N0) (g := N₁) hS1 (fun a h => hS2 a (by omega)) (by omega) (by omega) (fun e he => ?_), ?_⟩)
  · have hm := mem_listed he
    rw [events_append_op (.tmp 32) (.tmp 33) 29 rfl rfl rfl] at hm
    exact hev e hm
  clear hK_ K_
  have hF := hF.1.grow hN hbelow hj1 hj2 hcells
  simp only [List.getElem_toArray, List.getElem_cons_succ, List.getElem_cons_zero, List.getElem?_toArray, List.getElem?_cons_succ, List.getElem?_cons_zero, Act.put, List.setIfInBounds_toArray, List.set_cons_succ, List.set_cons_zero]
  refine Goes.mono (Goes.stop (n := 0) (fun w₃ r₃ => ⟨_, j1, c1, rfl, ⟨rfl, rfl, rfl, rfl, rfl, rfl⟩, rfl, hF.at_ r₃⟩)) (by omega)

set_option maxRecDepth 100000 in
set_option maxHeartbeats 4000000 in
/-- .. and on, into Run -/
theorem callB6 {T : Array Value} {jv : Value} {ta j1 : Option Addr} {J tl tc c1 jb N0 N₁ : Nat} {fj ft : Nat → Value} (hT : S4 jv (.slice ta tl tc) sv n m T) (h34 : T[34]? = some (.slice j1 J c1)) {w : World} (hN : W.heap.size ≤ N₁) (hN0 : N0 ≤ N₁) (htl : tl * 8 ≤ 140737488355328) (hF : G4 W N₁ [(jb, J, fj)] w ∧ SrcV w ta tl N0 ft)
    (hS1 : ∀ a : Addr, a.block < N0 → ¬ Shun (.cell a)) (hS2 : ∀ a : Addr, N₁ ≤ a.block → ¬ Shun (.cell a)) {g : Nat} (hw : w.heap.size = g) (hB : g + 1 ≤ B) :
    Goes Try.prog true AtRel (DE (EvL Shun B)) (fun a w => ∃ T t1 c2, a = R10.gRun (.slice j1 J c1) (.int .i64 n) (.slice (some ⟨t1, 0, none⟩) tl c2) (.func (.func 11) #[] #[]) ((base 4).at ⟨T, []⟩ (.inRegion R6ops4 (7 :: [8, 9, 10, 11, 12]) :: [.code C47]) :: []) ∧ S4 jv (.slice ta tl tc) sv n m T ∧ G4 W N₁ [(t1, tl, ft), (jb, J, fj)] w ∧ g ≤ t1) 20
      (G ((base 4).at ⟨T, []⟩ (.inRegion R6ops4 [3, 4, 5, 6, 7, 8, 9, 10, 11, 12] :: [.code C47])) []) w := by
  have fa : ∀ {w w' : World}, (G4 W N₁ [(jb, J, fj)] w ∧ SrcV w ta tl N0 ft ∧ w.heap.size = g) → AtRel w w' → (G4 W N₁ [(jb, J, fj)] w' ∧ SrcV w' ta tl N0 ft ∧ w'.heap.size = g) := fun h r => by
    obtain ⟨d, rfl⟩ := r
    exact ⟨h.1.at_ ⟨d, rfl⟩, ⟨h.2.1.nil, h.2.1.blk, h.2.1.cell, h.2.1.one⟩, h.2.2⟩
  replace hF := And.intro hF.1 (And.intro hF.2 hw)
  clear hw
  have hsz := hT.sz
  revert hT h34
  revert hsz
  revert T
  refine @by134 _ ?_
  intro v0 v1 v2 v3 v4 v5 v6 v7 v8 v9 v10 v11 v12 v13 v14 v15 v16 v17 v18 v19 v20 v21 v22 v23 v24 v25 v26 v27 v28 v29 v30 v31 v32 v33 v34 v35 v36 v37 v38 v39 v40 v41 v42 v43 v44 v45 v46 v47 v48 v49 v50 v51 v52 v53 v54 v55 v56 v57 v58 v59 v60 v61 v62 v63 v64 v65 v66 v67 v68 v69 v70 v71 v72 v73 v74 v75 v76 v77 v78 v79 v80 v81 v82 v83 v84 v85 v86 v87 v88 v89 v90 v91 v92 v93 v94 v95 v96 v97 v98 v99 v100 v101 v102 v103 v104 v105 v106 v107 v108 v109 v110 v111 v112 v113 v114 v115 v116 v117 v118 v119 v120 v121 v122 v123 v124 v125 v126 v127 v128 v129 v130 v131 v132 v133 hT h34
  obtain ⟨_, t0, t1, t2, t3, t4⟩ := hT
  simp only [List.getElem?_toArray, List.getElem?_cons_succ, List.getElem?_cons_zero, Option.some.injEq] at t0 t1 t2 t3 t4 h34
  subst t0 t1 t2 t3 t4 h34
  simp only [R6ops4, C47, C46, C41, body4, Try.f4, Option.getD_some]
  (refine Goes.step rfl (fun _ h₁_ => ?_); replace hF := fa hF h₁_; clear h₁_; refine goes_oper_k rfl rfl (by k_ne) (fun K_ hK_ => ?_); go_simp; refine hK_ _ _ ⟨?_, ?_⟩; (focus (refine de_none ?_; intro e he; have hm := mem_listed he; simp [go_sem, *] at hm)); clear hK_ K_; try w_num)
  (refine Goes.step rfl (fun _ h₁_ => ?_); replace hF := fa hF h₁_; clear h₁_)
  rename_i w₁
  refine goes_oper_k rfl rfl (by decide) (fun K_ hK_ => ?_)
  go_simp
  refine hK_ _ _ ⟨fun e he => ?_, ?_⟩
  · have hm := mem_listed he
    simp [go_sem] at hm
  clear hK_ K_
  obtain ⟨h4, hs, hw⟩ := hF
  have hF : G5e 3 W N₁ [(jb, J, fj)] g (w₁.alloc (.cells #[] 3)) ∧ SrcV (w₁.alloc (.cells #[] 3)) ta tl N0 ft := by
    have := h4.madee (e := 3) hN
    rw [hw] at this
    exact ⟨this, hs.below ((Below.refl _ _).alloc (by have := h4.size; omega) _)⟩

  clear h4 hs hw
  have fb : ∀ {w w' : World}, (G5e 3 W N₁ [(jb, J, fj)] g w ∧ SrcV w ta tl N0 ft) → AtRel w w' → (G5e 3 W N₁ [(jb, J, fj)] g w' ∧ SrcV w' ta tl N0 ft) := fun h r => by
    obtain ⟨d, rfl⟩ := r
    exact ⟨h.1.at_ ⟨d, rfl⟩, ⟨h.2.nil, h.2.blk, h.2.cell, h.2.one⟩⟩
  (refine Goes.step rfl (fun _ h₁_ => ?_); replace hF := fb hF h₁_; clear h₁_; refine goes_oper_k rfl rfl (by k_ne) (fun K_ hK_ => ?_); go_simp; refine hK_ _ _ ⟨?_, ?_⟩; (focus (refine de_none ?_; intro e he; have hm := mem_listed he; simp [go_sem, *] at hm)); clear hK_ K_; try w_num)
  (refine Goes.step rfl (fun _ h₁_ => ?_); replace hF := fb hF h₁_; clear h₁_)
  rename_i w₂
  obtain ⟨i0, hi, hz0, hz1, hz2⟩ := info_parts info22
  have hg := (hF.1.own.lt g rfl)
  have hge := hF.1.ge
  obtain ⟨t1, c2, w₃, hr, hj1, hj2, hcells, hbelow, hev⟩ := append_src (tb := 22) (mc := tc) Try.underlying22 hi hz0 hz1 hz2 rfl (base := g) (by omega) hF.1.own hF.2 (by simp only [maxLen]; omega) (by omega)
  refine goes_oper_k rfl rfl (by decide) (fun K_ hK_ => ?_)
  refine uponK_append (.tmp 36) (.tmp 37) 22 rfl rfl rfl hr (hK_ _ _ ⟨append_ev (N := N0) (g := g) hS1 (fun a h => hS2 a (by omega)) (by omega) (by omega) (fun e he => ?_), ?_⟩)
  · have hm := mem_listed he
    rw [events_append_op (.tmp 36) (.tmp 37) 22 rfl rfl rfl] at hm
    exact hev e hm
  clear hK_ K_
  replace hF := hF.1.grow hN hbelow hj1 hj2 hcells
  simp only [List.getElem_toArray, List.getElem_cons_succ, List.getElem_cons_zero, List.getElem?_toArray, List.getElem?_cons_succ, List.getElem?_cons_zero, Act.put, List.setIfInBounds_toArray, List.set_cons_succ, List.set_cons_zero]
  (refine Goes.step rfl (fun _ h₁_ => ?_); replace hF := G4.at_ hF h₁_; clear h₁_)
  refine goes_call rfl rfl (by k_ne) rfl Try.func10 nm10 rfl ⟨by (refine de_none ?_; intro e he; simp at he), ?_⟩
  refine Goes.mono (Goes.stop (n := 0) (fun w₁ h₁ => ?_)) (by omega)
  simp only [R10.gRun, R10.bodyR, R6ops4, C47, C46, C41, body4, Try.f4, Try.f10, Option.getD_some, List.replicate, Act.eval, List.map_toArray, List.map_cons, List.map_nil, Array.getD_eq_getD_getElem?, List.getElem?_toArray, List.getElem?_cons_succ, List.getElem?_cons_zero, List.size_toArray, List.length_cons, List.length_nil, Nat.reduceAdd, Nat.reduceSub]
  exact ⟨_, t1, c2, rfl, ⟨rfl, rfl, rfl, rfl, rfl, rfl⟩, hF.at_ h₁, hj1⟩

end
end Go.Proofs.Ytngnkdedfcnfkaa

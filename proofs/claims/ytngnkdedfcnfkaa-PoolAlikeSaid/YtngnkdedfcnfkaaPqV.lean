/-
  lantern/lanternlaw20.PoolAlike (function 4): the drawn region of its last loop. (Printed by tools/pqt_gen.py.)
-/
import Derived.Test.YtngnkdedfcnfkaaPqU
import Derived.Conc.CompanyMem
set_option linter.unusedSimpArgs false
set_option linter.unusedVariables false
namespace Go.Proofs.Ytngnkdedfcnfkaa
open Go Go.Conc Go.RowKit Go.Conc.Lib Go.ConcR.Gen Go.ConcN.Gen

/-- what the law leans on behind its calls of Run: its texts, the answers' rows O and P, the rows of texts -/
structure FL4 (W : World) (ja : Option Addr) (J O P N0 : Nat) (ba bb : Nat → Nat) (z : Nat → ByteArray) (w : World) : Prop where
  below : Below W.heap.size W w
  srcw : SrcV w ja J N0 (fun i => .string (z i))
  a : ∀ i, i < J → w.cell? ⟨O, i, none⟩ = some (.slice (some ⟨ba i, 0, none⟩) 2 2) ∧ w.cell? ⟨ba i, 0, none⟩ = some (.string (z i)) ∧ w.cell? ⟨ba i, 1, none⟩ = some (.string (z i ++ bang))
  b : ∀ i, i < J → w.cell? ⟨P, i, none⟩ = some (.slice (some ⟨bb i, 0, none⟩) 2 2) ∧ w.cell? ⟨bb i, 0, none⟩ = some (.string (z i)) ∧ w.cell? ⟨bb i, 1, none⟩ = some (.string (z i ++ bang))
theorem FL4.at_ {W : World} {ja : Option Addr} {J O P N0 : Nat} {ba bb : Nat → Nat} {z : Nat → ByteArray} {w w₁ : World} (h : FL4 W ja J O P N0 ba bb z w) (r : AtRel w w₁) : FL4 W ja J O P N0 ba bb z w₁ := by
  obtain ⟨d, rfl⟩ := r
  exact ⟨Below.at_ h.below ⟨d, rfl⟩, ⟨h.srcw.nil, h.srcw.blk, h.srcw.cell, h.srcw.one⟩, h.a, h.b⟩
theorem termsE (Shun : Loc → Prop) (B : Nat) : Terms AtRel (DE (EvL Shun B)) := ⟨fun _ _ _ ⟨_, h⟩ ⟨d, k⟩ => ⟨d, by subst h; subst k; rfl⟩, fun _ e he => by simp at he⟩
theorem drawE (Shun : Loc → Prop) (B : Nat) : LetsDraw (DE (EvL Shun B)) := fun _ e he => by simp at he
theorem ownDraw (w : World) : AtRel w { w with drawn := w.drawn + 1 } := ⟨w.drawn + 1, rfl⟩
noncomputable def C410 : Code := match C48 with | .seq _ c => c | _ => .skip
noncomputable def L4l : Code := match C410 with | .seq (.seq _ (.block _ (.loop c))) _ => c | _ => .skip
noncomputable def C416 : Code := match C410 with | .seq _ c => c | _ => .skip
noncomputable def B4l : Code := match L4l with | .seq _ (.seq _ (.seq (.block _ c) _)) => c | _ => .skip
noncomputable def K412 : Code := match B4l with | .seq _ c => c | _ => .skip
noncomputable def R15c4 : Code := match L4l with | .seq _ (.seq _ (.seq _ c)) => c | _ => .skip
/-- the slots of the loop -/
structure SL (jv A Bv : Value) (J k : Nat) (T : Array Value) : Prop where
  sz : T.size = 134
  s0 : T[0]? = some jv
  s11 : T[11]? = some A
  s13 : T[13]? = some Bv
  s74 : T[74]? = some (.int .i64 J)
  s75 : T[75]? = some (.int .i64 k)
section
variable {Shun : Loc → Prop} {B : Nat} {W : World}
set_option maxRecDepth 100000 in
set_option maxHeartbeats 8000000 in
/-- the test of one answer -/
theorem reg13 {a : Addr} {J cap O P N0 : Nat} {ba bb : Nat → Nat} {z : Nat → ByteArray} (hS : ∀ b : Addr, b.block < N0 → ¬ Shun (.cell b)) (hO : ∀ b : Addr, b.block = O → ¬ Shun (.cell b)) (hP : ∀ b : Addr, b.block = P → ¬ Shun (.cell b)) (hba : ∀ i, i < J → ba i < B ∧ ∀ b : Addr, b.block = ba i → ¬ Shun (.cell b)) (hbb : ∀ i, i < J → bb i < B ∧ ∀ b : Addr, b.block = bb i → ¬ Shun (.cell b)) (hN : N0 ≤ B) (hOB : O < B) (hPB : P < B) (hbl : ∀ b : Addr, b.block = a.block → b.block < N0) :
    ∃ c, ∀ (k : Nat), k < J → ∀ (v1 v2 v3 v4 v5 v6 v7 v8 v9 v10 v12 v14 v16 v17 v18 v19 v20 v21 v22 v23 v24 v25 v26 v27 v28 v29 v30 v31 v32 v33 v34 v35 v36 v37 v38 v39 v40 v41 v42 v43 v44 v45 v46 v47 v48 v49 v50 v51 v52 v53 v54 v55 v56 v57 v58 v59 v60 v61 v62 v63 v64 v65 v66 v67 v68 v69 v70 v71 v72 v73 v76 v77 v78 v79 v80 v81 v82 v83 v84 v85 v86 v87 v88 v89 v90 v91 v92 v93 v94 v95 v96 v97 v98 v99 v100 v101 v102 v103 v104 v105 v106 v107 v108 v109 v110 v111 v112 v113 v114 v115 v116 v117 v118 v119 v120 v121 v122 v123 v124 v125 v126 v127 v128 v129 v130 v131 v132 v133 : Value) (w : World), FL4 W (some a) J O P N0 ba bb z w → K412.wpC Try.prog true AtRel (DE (EvL Shun B)) 4 c (fun e a' w => e = .normal ∧ (∃ T, a' = ⟨T, []⟩ ∧ SL (.slice (some a) J cap) (.slice (some ⟨O, 0, none⟩) J J) (.slice (some ⟨P, 0, none⟩) J J) J k T) ∧ FL4 W (some a) J O P N0 ba bb z w) ⟨((.slice (some a) J cap) :: v1 :: v2 :: v3 :: v4 :: v5 :: v6 :: v7 :: v8 :: v9 :: v10 :: (.slice (some ⟨O, 0, none⟩) J J) :: v12 :: (.slice (some ⟨P, 0, none⟩) J J) :: v14 :: (.int .i64 k) :: v16 :: v17 :: v18 :: v19 :: v20 :: v21 :: v22 :: v23 :: v24 :: v25 :: v26 :: v27 :: v28 :: v29 :: v30 :: v31 :: v32 :: v33 :: v34 :: v35 :: v36 :: v37 :: v38 :: v39 :: v40 :: v41 :: v42 :: v43 :: v44 :: v45 :: v46 :: v47 :: v48 :: v49 :: v50 :: v51 :: v52 :: v53 :: v54 :: v55 :: v56 :: v57 :: v58 :: v59 :: v60 :: v61 :: v62 :: v63 :: v64 :: v65 :: v66 :: v67 :: v68 :: v69 :: v70 :: v71 :: v72 :: v73 :: (.int .i64 J) :: (.int .i64 k) :: v76 :: v77 :: v78 :: v79 :: v80 :: v81 :: v82 :: v83 :: v84 :: v85 :: v86 :: v87 :: v88 :: v89 :: v90 :: v91 :: v92 :: v93 :: v94 :: v95 :: v96 :: v97 :: v98 :: v99 :: v100 :: v101 :: v102 :: v103 :: v104 :: v105 :: v106 :: v107 :: v108 :: v109 :: v110 :: v111 :: v112 :: v113 :: v114 :: v115 :: v116 :: v117 :: v118 :: v119 :: v120 :: v121 :: v122 :: v123 :: v124 :: v125 :: v126 :: v127 :: v128 :: v129 :: v130 :: v131 :: v132 :: v133 :: []).toArray, []⟩ w := by
  co_apply Exists.intro
  intro k hk v1 v2 v3 v4 v5 v6 v7 v8 v9 v10 v12 v14 v16 v17 v18 v19 v20 v21 v22 v23 v24 v25 v26 v27 v28 v29 v30 v31 v32 v33 v34 v35 v36 v37 v38 v39 v40 v41 v42 v43 v44 v45 v46 v47 v48 v49 v50 v51 v52 v53 v54 v55 v56 v57 v58 v59 v60 v61 v62 v63 v64 v65 v66 v67 v68 v69 v70 v71 v72 v73 v76 v77 v78 v79 v80 v81 v82 v83 v84 v85 v86 v87 v88 v89 v90 v91 v92 v93 v94 v95 v96 v97 v98 v99 v100 v101 v102 v103 v104 v105 v106 v107 v108 v109 v110 v111 v112 v113 v114 v115 v116 v117 v118 v119 v120 v121 v122 v123 v124 v125 v126 v127 v128 v129 v130 v131 v132 v133 w hF
  have hk0 : (0 : Int) ≤ (k : Int) := by omega
  have hk1 : (k : Int) < (J : Int) := by omega
  have hkn : k < J := hk
  simp only [K412, B4l, L4l, C410, C48, C47, C46, C41, body4, Try.f4, Option.getD_some]
  co_apply wpC_seq (termsE Shun B)
  co_held (termsE Shun B) (drawE Shun B) ownDraw (FL4 W (some a) J O P N0 ba bb z) FL4.at_ hF
  co_take 0 (termsE Shun B) FL4.at_ hF hw (skip) (co_quiet (termsE Shun B))
  co_take 1 (termsE Shun B) FL4.at_ hF hw (skip) (co_quiet (termsE Shun B))
  co_take 2 (termsE Shun B) FL4.at_ hF hw (skip) (co_still (termsE Shun B))
  co_take 3 (termsE Shun B) FL4.at_ hF hw (have hc := (hw.a k hk).1) (co_evs (exact evL_cell _ _ (hO _ rfl) (by simp; omega)))
  co_take 4 (termsE Shun B) FL4.at_ hF hw (skip) (co_quiet (termsE Shun B))
  co_take 5 (termsE Shun B) FL4.at_ hF hw (skip) (co_quiet (termsE Shun B))
  co_take 6 (termsE Shun B) FL4.at_ hF hw (skip) (co_quiet (termsE Shun B))
  co_take 7 (termsE Shun B) FL4.at_ hF hw (skip) (co_quiet (termsE Shun B))
  co_take 8 (termsE Shun B) FL4.at_ hF hw (skip) (co_quiet (termsE Shun B))
  co_take 9 (termsE Shun B) FL4.at_ hF hw (skip) (co_still (termsE Shun B))
  co_take 10 (termsE Shun B) FL4.at_ hF hw (have hc := (hw.b k hk).1) (co_evs (exact evL_cell _ _ (hP _ rfl) (by simp; omega)))
  co_take 11 (termsE Shun B) FL4.at_ hF hw (skip) (co_quiet (termsE Shun B))
  co_take 12 (termsE Shun B) FL4.at_ hF hw (skip) (co_quiet (termsE Shun B))
  co_take 13 (termsE Shun B) FL4.at_ hF hw (skip) (co_quiet (termsE Shun B))
  co_take 14 (termsE Shun B) FL4.at_ hF hw (skip) (co_quiet (termsE Shun B))
  co_take 15 (termsE Shun B) FL4.at_ hF hw (skip) (co_quiet (termsE Shun B))
  co_take 16 (termsE Shun B) FL4.at_ hF hw (skip) (co_quiet (termsE Shun B))
  co_take 17 (termsE Shun B) FL4.at_ hF hw (skip) (co_still (termsE Shun B))
  co_take 18 (termsE Shun B) FL4.at_ hF hw (have hc := (hw.a k hk).1) (co_evs (exact evL_cell _ _ (hO _ rfl) (by simp; omega)))
  co_take 19 (termsE Shun B) FL4.at_ hF hw (skip) (co_still (termsE Shun B))
  co_take 20 (termsE Shun B) FL4.at_ hF hw (have hc := (hw.a k hk).2.1) (co_evs (exact evL_cell _ _ ((hba k hk).2 _ rfl) (by have := (hba k hk).1; simp; omega)))
  co_take 21 (termsE Shun B) FL4.at_ hF hw (skip) (co_quiet (termsE Shun B))
  co_take 22 (termsE Shun B) FL4.at_ hF hw (skip) (co_quiet (termsE Shun B))
  co_take 23 (termsE Shun B) FL4.at_ hF hw (skip) (co_still (termsE Shun B))
  co_take 24 (termsE Shun B) FL4.at_ hF hw (have hc := hw.srcw.cell a rfl k hk) (co_evs (exact evL_cell _ _ (hS _ (hbl _ (addBlock _ _))) (by have := hbl (a.add k) (addBlock _ _); omega)))
  co_take 25 (termsE Shun B) FL4.at_ hF hw (skip) (co_quiet (termsE Shun B))
  co_take 26 (termsE Shun B) FL4.at_ hF hw (skip) (co_quiet (termsE Shun B))
  co_take 27 (termsE Shun B) FL4.at_ hF hw (skip) (co_quiet (termsE Shun B))
  co_take 28 (termsE Shun B) FL4.at_ hF hw (skip) (co_quiet (termsE Shun B))
  co_take 29 (termsE Shun B) FL4.at_ hF hw (skip) (co_quiet (termsE Shun B))
  co_take 30 (termsE Shun B) FL4.at_ hF hw (skip) (co_still (termsE Shun B))
  co_take 31 (termsE Shun B) FL4.at_ hF hw (have hc := (hw.a k hk).1) (co_evs (exact evL_cell _ _ (hO _ rfl) (by simp; omega)))
  co_take 32 (termsE Shun B) FL4.at_ hF hw (skip) (co_still (termsE Shun B))
  co_take 33 (termsE Shun B) FL4.at_ hF hw (have hc := (hw.a k hk).2.2) (co_evs (exact evL_cell _ _ ((hba k hk).2 _ rfl) (by have := (hba k hk).1; simp; omega)))
  co_take 34 (termsE Shun B) FL4.at_ hF hw (skip) (co_quiet (termsE Shun B))
  co_take 35 (termsE Shun B) FL4.at_ hF hw (skip) (co_quiet (termsE Shun B))
  co_take 36 (termsE Shun B) FL4.at_ hF hw (skip) (co_still (termsE Shun B))
  co_take 37 (termsE Shun B) FL4.at_ hF hw (have hc := (hw.b k hk).1) (co_evs (exact evL_cell _ _ (hP _ rfl) (by simp; omega)))
  co_take 38 (termsE Shun B) FL4.at_ hF hw (skip) (co_still (termsE Shun B))
  co_take 39 (termsE Shun B) FL4.at_ hF hw (have hc := (hw.b k hk).2.2) (co_evs (exact evL_cell _ _ ((hbb k hk).2 _ rfl) (by have := (hbb k hk).1; simp; omega)))
  co_take 40 (termsE Shun B) FL4.at_ hF hw (skip) (co_quiet (termsE Shun B))
  co_take 41 (termsE Shun B) FL4.at_ hF hw (skip) (co_quiet (termsE Shun B))
  co_take 42 (termsE Shun B) FL4.at_ hF hw (skip) (co_quiet (termsE Shun B))
  co_take 43 (termsE Shun B) FL4.at_ hF hw (skip) (co_quiet (termsE Shun B))
  co_take 44 (termsE Shun B) FL4.at_ hF hw (skip) (co_quiet (termsE Shun B))
  co_take 45 (termsE Shun B) FL4.at_ hF hw (skip) (co_still (termsE Shun B))
  co_take 46 (termsE Shun B) FL4.at_ hF hw (have hc := (hw.b k hk).1) (co_evs (exact evL_cell _ _ (hP _ rfl) (by simp; omega)))
  co_take 47 (termsE Shun B) FL4.at_ hF hw (skip) (co_still (termsE Shun B))
  co_take 48 (termsE Shun B) FL4.at_ hF hw (have hc := (hw.b k hk).2.1) (co_evs (exact evL_cell _ _ ((hbb k hk).2 _ rfl) (by have := (hbb k hk).1; simp; omega)))
  co_take 49 (termsE Shun B) FL4.at_ hF hw (skip) (co_quiet (termsE Shun B))
  co_take 50 (termsE Shun B) FL4.at_ hF hw (skip) (co_quiet (termsE Shun B))
  co_take 51 (termsE Shun B) FL4.at_ hF hw (skip) (co_still (termsE Shun B))
  co_take 52 (termsE Shun B) FL4.at_ hF hw (have hc := hw.srcw.cell a rfl k hk) (co_evs (exact evL_cell _ _ (hS _ (hbl _ (addBlock _ _))) (by have := hbl (a.add k) (addBlock _ _); omega)))
  co_take 53 (termsE Shun B) FL4.at_ hF hw (skip) (co_quiet (termsE Shun B))
  co_take 54 (termsE Shun B) FL4.at_ hF hw (skip) (co_quiet (termsE Shun B))
  refine anyCH_done (by first | kernel_rfl | decide +kernel) ?_ _
  simp only [Exit.then, Exit.inBlock, if_true, if_false, reduceIte, Nat.reduceEqDiff]
  exact wpC_cond (n := 1) (t := false) (termsE Shun B) rfl (wpC_skip (termsE Shun B) ⟨rfl, ⟨_, rfl, ⟨rfl, rfl, rfl, rfl, rfl, rfl⟩⟩, hF⟩)
end
end Go.Proofs.Ytngnkdedfcnfkaa

/-
  lantern/lanternlaw20.PoolAlike (function 4): its walks from its first call of Run to its second. (Printed by tools/pqt_gen.py.)
-/
import Derived.Test.YtngnkdedfcnfkaaPqT
set_option linter.unusedSimpArgs false
set_option linter.unusedVariables false
namespace Go.Proofs.Ytngnkdedfcnfkaa
open Go Go.Conc Go.RowKit Go.Conc.Lib Go.ConcR.Gen Go.ConcN.Gen

section
variable {Shun : Loc → Prop} {B : Nat} {W : World} {jv tv sv : Value} {n m : Int}
set_option maxRecDepth 100000 in
set_option maxHeartbeats 4000000 in
/-- back from the first call; the first row of the second -/
theorem callA7 {T : Array Value} {ja : Option Addr} {J cap N0 N₁ O : Nat} {fj : Nat → Value} (hT : S4 (.slice ja J cap) tv sv n m T) {w : World} (hN : W.heap.size ≤ N₁) (hN0 : N0 ≤ N₁) (hJ : J ≤ 500) (hF : G4 W N₁ [] w ∧ SrcV w ja J N0 fj ∧ w.heap.size = N₁)
    (hS1 : ∀ a : Addr, a.block < N0 → ¬ Shun (.cell a)) (hS2 : ∀ a : Addr, N₁ ≤ a.block → ¬ Shun (.cell a)) (hB : N₁ + 1 ≤ B) :
    Goes Try.prog true AtRel (DE (EvL Shun B)) (fun g w => ∃ T j1 c1, g = G ((base 4).at ⟨T, []⟩ (.inRegion R7ops4 [3, 4, 5, 6, 7, 8, 9, 10, 11, 12] :: [.code C48])) [] ∧ S4 (.slice ja J cap) tv sv n m T ∧ T[45]? = some (.slice (some ⟨j1, 0, none⟩) J c1) ∧ T[11]? = some (.slice (some ⟨O, 0, none⟩) J J) ∧ T[12]? = some (.int .i64 0) ∧ G4 W N₁ [(j1, J, fj)] w) 40
      (G ((base 4).at ((⟨T, []⟩ : Act).put ((R6ops4[7]?).bind (·.dst)) (.tuple #[.slice (some ⟨O, 0, none⟩) J J, .int .i64 0])) (.inRegion R6ops4 [8, 9, 10, 11, 12] :: [.code C47])) []) w := by
  have fa : ∀ {w w' : World}, (G4 W N₁ [] w ∧ SrcV w ja J N0 fj ∧ w.heap.size = N₁) → AtRel w w' → (G4 W N₁ [] w' ∧ SrcV w' ja J N0 fj ∧ w'.heap.size = N₁) := fun h r => by
    obtain ⟨d, rfl⟩ := r
    exact ⟨h.1.at_ ⟨d, rfl⟩, ⟨h.2.1.nil, h.2.1.blk, h.2.1.cell, h.2.1.one⟩, h.2.2⟩
  have e : (R6ops4[7]?).bind (·.dst) = some 39 := rfl
  rw [e]
  have hsz := hT.sz
  revert hT
  revert hsz
  revert T
  refine @by134 _ ?_
  intro v0 v1 v2 v3 v4 v5 v6 v7 v8 v9 v10 v11 v12 v13 v14 v15 v16 v17 v18 v19 v20 v21 v22 v23 v24 v25 v26 v27 v28 v29 v30 v31 v32 v33 v34 v35 v36 v37 v38 v39 v40 v41 v42 v43 v44 v45 v46 v47 v48 v49 v50 v51 v52 v53 v54 v55 v56 v57 v58 v59 v60 v61 v62 v63 v64 v65 v66 v67 v68 v69 v70 v71 v72 v73 v74 v75 v76 v77 v78 v79 v80 v81 v82 v83 v84 v85 v86 v87 v88 v89 v90 v91 v92 v93 v94 v95 v96 v97 v98 v99 v100 v101 v102 v103 v104 v105 v106 v107 v108 v109 v110 v111 v112 v113 v114 v115 v116 v117 v118 v119 v120 v121 v122 v123 v124 v125 v126 v127 v128 v129 v130 v131 v132 v133 hT
  obtain ⟨_, t0, t1, t2, t3, t4⟩ := hT
  simp only [List.getElem?_toArray, List.getElem?_cons_succ, List.getElem?_cons_zero, Option.some.injEq] at t0 t1 t2 t3 t4
  subst t0 t1 t2 t3 t4
  simp only [Act.put, List.setIfInBounds_toArray, List.set_cons_succ, List.set_cons_zero]
  simp only [R7ops4, C48, R6ops4, C47, C46, C41, body4, Try.f4, Option.getD_some]
  (refine Goes.step rfl (fun _ h₁_ => ?_); replace hF := fa hF h₁_; clear h₁_; refine goes_oper_k rfl rfl (by k_ne) (fun K_ hK_ => ?_); go_simp; refine hK_ _ _ ⟨?_, ?_⟩; (focus (refine de_none ?_; intro e he; have hm := mem_listed he; simp [go_sem, *] at hm)); clear hK_ K_; try w_num)
  (refine Goes.step rfl (fun _ h₁_ => ?_); replace hF := fa hF h₁_; clear h₁_; refine goes_oper_k rfl rfl (by k_ne) (fun K_ hK_ => ?_); go_simp; refine hK_ _ _ ⟨?_, ?_⟩; (focus (refine de_none ?_; intro e he; have hm := mem_listed he; simp [go_sem, *] at hm)); clear hK_ K_; try w_num)
  (refine Goes.step rfl (fun _ h₁_ => ?_); replace hF := fa hF h₁_; clear h₁_; refine goes_oper_k rfl rfl (by k_ne) (fun K_ hK_ => ?_); go_simp; refine hK_ _ _ ⟨?_, ?_⟩; (focus (refine de_none ?_; intro e he; have hm := mem_listed he; simp [go_sem, *] at hm)); clear hK_ K_; try w_num)
  (refine Goes.step rfl (fun _ h₁_ => ?_); replace hF := fa hF h₁_; clear h₁_; refine goes_oper_k rfl rfl (by k_ne) (fun K_ hK_ => ?_); go_simp; refine hK_ _ _ ⟨?_, ?_⟩; (focus (refine de_none ?_; intro e he; have hm := mem_listed he; simp [go_sem, *] at hm)); clear hK_ K_; try w_num)
  (refine Goes.step rfl (fun _ h₁_ => ?_); replace hF := fa hF h₁_; clear h₁_; refine goes_oper_k rfl rfl (by k_ne) (fun K_ hK_ => ?_); go_simp; refine hK_ _ _ ⟨?_, ?_⟩; (focus (refine de_none ?_; intro e he; have hm := mem_listed he; simp [go_sem, *] at hm)); clear hK_ K_; try w_num)
  (refine Goes.step rfl (fun _ h₁_ => ?_); replace hF := fa hF h₁_; clear h₁_; rw [stepG_region_end]; simp only [goes_go]; refine ⟨by (refine de_none ?_; intro e he; simp at he), ?_⟩)
  (refine Goes.step rfl (fun _ h₁_ => ?_); replace hF := fa hF h₁_; clear h₁_; rw [stepG_seq]; simp only [goes_go]; refine ⟨by (refine de_none ?_; intro e he; simp at he), ?_⟩)
  (refine Goes.step rfl (fun _ h₁_ => ?_); replace hF := fa hF h₁_; clear h₁_; rw [stepG_region]; simp only [goes_go, List.size_toArray, List.length_cons, List.length_nil, Nat.reduceAdd, Nat.zero_add, List.range, List.range.loop]; refine ⟨by (refine de_none ?_; intro e he; simp at he), ?_⟩)
  (refine Goes.step rfl (fun _ h₁_ => ?_); replace hF := fa hF h₁_; clear h₁_)
  rename_i w₁
  refine goes_oper_k rfl rfl (by decide) (fun K_ hK_ => ?_)
  go_simp
  refine hK_ _ _ ⟨fun e he => ?_, ?_⟩
  · have hm := mem_listed he
    simp [go_sem] at hm
  clear hK_ K_
  obtain ⟨h4, hs, hw⟩ := hF
  have hF : G5e 9 W N₁ [] N₁ (w₁.alloc (.cells #[] 9)) ∧ SrcV (w₁.alloc (.cells #[] 9)) ja J N0 fj := by
    have := h4.madee (e := 9) hN
    rw [hw] at this
    exact ⟨this, hs.below ((Below.refl _ _).alloc (by omega) _)⟩

  clear h4 hs hw
  have fb : ∀ {w w' : World}, (G5e 9 W N₁ [] N₁ w ∧ SrcV w ja J N0 fj) → AtRel w w' → (G5e 9 W N₁ [] N₁ w' ∧ SrcV w' ja J N0 fj) := fun h r => by
    obtain ⟨d, rfl⟩ := r
    exact ⟨h.1.at_ ⟨d, rfl⟩, ⟨h.2.nil, h.2.blk, h.2.cell, h.2.one⟩⟩
  (refine Goes.step rfl (fun _ h₁_ => ?_); replace hF := fb hF h₁_; clear h₁_; refine goes_oper_k rfl rfl (by k_ne) (fun K_ hK_ => ?_); go_simp; refine hK_ _ _ ⟨?_, ?_⟩; (focus (refine de_none ?_; intro e he; have hm := mem_listed he; simp [go_sem, *] at hm)); clear hK_ K_; try w_num)
  (refine Goes.step rfl (fun _ h₁_ => ?_); replace hF := fb hF h₁_; clear h₁_)
  rename_i w₂
  obtain ⟨i0, hi, hz0, hz1, hz2⟩ := info_parts info29
  have hg := (hF.1.own.lt N₁ rfl)
  obtain ⟨j1, c1, w₃, hr, hj1, hj2, hcells, hbelow, hev⟩ := append_src (tb := 29) (mc := cap) Try.underlying29 hi hz0 hz1 hz2 rfl (base := N₁) (by omega) hF.1.own hF.2 (by simp only [maxLen]; omega) (by omega)
  refine goes_oper_k rfl rfl (by decide) (fun K_ hK_ => ?_)
  refine uponK_append (.tmp 43) (.tmp 44) 29 rfl rfl rfl hr (hK_ _ _ ⟨append_ev (N := N0) (g := N₁) hS1 (fun a h => hS2 a (by omega)) (by omega) (by omega) (fun e he => ?_), ?_⟩)
  · have hm := mem_listed he
    rw [events_append_op (.tmp 43) (.tmp 44) 29 rfl rfl rfl] at hm
    exact hev e hm
  clear hK_ K_
  have hF := hF.1.grow hN hbelow hj1 hj2 hcells
  simp only [List.getElem_toArray, List.getElem_cons_succ, List.getElem_cons_zero, List.getElem?_toArray, List.getElem?_cons_succ, List.getElem?_cons_zero, Act.put, List.setIfInBounds_toArray, List.set_cons_succ, List.set_cons_zero]
  refine Goes.mono (Goes.stop (n := 0) (fun w₃ r₃ => ⟨_, j1, c1, rfl, ⟨rfl, rfl, rfl, rfl, rfl, rfl⟩, rfl, rfl, rfl, hF.at_ r₃⟩)) (by omega)

set_option maxRecDepth 100000 in
set_option maxHeartbeats 4000000 in
/-- .. and on, into Run -/
theorem callB7 {T : Array Value} {jv : Value} {ta j1 : Option Addr} {J tl tc c1 jb N0 N₁ : Nat} {fj ft : Nat → Value} (hT : S4 jv tv (.slice ta tl tc) n m T) (h34 : T[45]? = some (.slice j1 J c1)) {v11 v12 : Value} (h11 : T[11]? = some v11) (h12 : T[12]? = some v12) {w : World} (hN : W.heap.size ≤ N₁) (hN0 : N0 ≤ N₁) (htl : tl * 8 ≤ 140737488355328) (hF : G4 W N₁ [(jb, J, fj)] w ∧ SrcV w ta tl N0 ft)
    (hS1 : ∀ a : Addr, a.block < N0 → ¬ Shun (.cell a)) (hS2 : ∀ a : Addr, N₁ ≤ a.block → ¬ Shun (.cell a)) {g : Nat} (hw : w.heap.size = g) (hB : g + 1 ≤ B) :
    Goes Try.prog true AtRel (DE (EvL Shun B)) (fun a w => ∃ T t1 c2, a = R10.gRun (.slice j1 J c1) (.int .i64 m) (.slice (some ⟨t1, 0, none⟩) tl c2) (.func (.func 11) #[] #[]) ((base 4).at ⟨T, []⟩ (.inRegion R7ops4 (7 :: [8, 9, 10, 11, 12]) :: [.code C48]) :: []) ∧ S4 jv tv (.slice ta tl tc) n m T ∧ T[11]? = some v11 ∧ T[12]? = some v12 ∧ G4 W N₁ [(t1, tl, ft), (jb, J, fj)] w ∧ g ≤ t1) 20
      (G ((base 4).at ⟨T, []⟩ (.inRegion R7ops4 [3, 4, 5, 6, 7, 8, 9, 10, 11, 12] :: [.code C48])) []) w := by
  have fa : ∀ {w w' : World}, (G4 W N₁ [(jb, J, fj)] w ∧ SrcV w ta tl N0 ft ∧ w.heap.size = g) → AtRel w w' → (G4 W N₁ [(jb, J, fj)] w' ∧ SrcV w' ta tl N0 ft ∧ w'.heap.size = g) := fun h r => by
    obtain ⟨d, rfl⟩ := r
    exact ⟨h.1.at_ ⟨d, rfl⟩, ⟨h.2.1.nil, h.2.1.blk, h.2.1.cell, h.2.1.one⟩, h.2.2⟩
  replace hF := And.intro hF.1 (And.intro hF.2 hw)
  clear hw
  have hsz := hT.sz
  revert hT h34 h11 h12
  revert hsz
  revert T
  refine @by134 _ ?_
  intro v0 v1 v2 v3 v4 v5 v6 v7 v8 v9 v10 v11 v12 v13 v14 v15 v16 v17 v18 v19 v20 v21 v22 v23 v24 v25 v26 v27 v28 v29 v30 v31 v32 v33 v34 v35 v36 v37 v38 v39 v40 v41 v42 v43 v44 v45 v46 v47 v48 v49 v50 v51 v52 v53 v54 v55 v56 v57 v58 v59 v60 v61 v62 v63 v64 v65 v66 v67 v68 v69 v70 v71 v72 v73 v74 v75 v76 v77 v78 v79 v80 v81 v82 v83 v84 v85 v86 v87 v88 v89 v90 v91 v92 v93 v94 v95 v96 v97 v98 v99 v100 v101 v102 v103 v104 v105 v106 v107 v108 v109 v110 v111 v112 v113 v114 v115 v116 v117 v118 v119 v120 v121 v122 v123 v124 v125 v126 v127 v128 v129 v130 v131 v132 v133 hT h34 h11 h12
  obtain ⟨_, t0, t1, t2, t3, t4⟩ := hT
  simp only [List.getElem?_toArray, List.getElem?_cons_succ, List.getElem?_cons_zero, Option.some.injEq] at t0 t1 t2 t3 t4 h34 h11 h12
  subst t0 t1 t2 t3 t4 h34 h11 h12
  simp only [R7ops4, C48, C47, C46, C41, body4, Try.f4, Option.getD_some]
  (refine Goes.step rfl (fun _ h₁_ => ?_); replace hF := fa hF h₁_; clear h₁_; refine goes_oper_k rfl rfl (by k_ne) (fun K_ hK_ => ?_); go_simp; refine hK_ _ _ ⟨?_, ?_⟩; (focus (refine de_none ?_; intro e he; have hm := mem_listed he; simp [go_sem, *] at hm)); clear hK_ K_; try w_num)
  (refine Goes.step rfl (fun _ h₁_ => ?_); replace hF := fa hF h₁_; clear h₁_)
  rename_i w₁
  refine goes_oper_k rfl rfl (by decide) (fun K_ hK_ => ?_)
  go_simp
  refine hK_ _ _ ⟨fun e he => ?_, ?_⟩
  · have hm := mem_listed he
    simp [go_sem] at hm
  clear hK_ K_
  obtain ⟨h4, hs, hw⟩ := hF
  have hF : G5e 3 W N₁ [(jb, J, fj)] g (w₁.alloc (.cells #[] 3)) ∧ SrcV (w₁.alloc (.cells #[] 3)) ta tl N0 ft := by
    have := h4.madee (e := 3) hN
    rw [hw] at this
    exact ⟨this, hs.below ((Below.refl _ _).alloc (by have := h4.size; omega) _)⟩

  clear h4 hs hw
  have fb : ∀ {w w' : World}, (G5e 3 W N₁ [(jb, J, fj)] g w ∧ SrcV w ta tl N0 ft) → AtRel w w' → (G5e 3 W N₁ [(jb, J, fj)] g w' ∧ SrcV w' ta tl N0 ft) := fun h r => by
    obtain ⟨d, rfl⟩ := r
    exact ⟨h.1.at_ ⟨d, rfl⟩, ⟨h.2.nil, h.2.blk, h.2.cell, h.2.one⟩⟩
  (refine Goes.step rfl (fun _ h₁_ => ?_); replace hF := fb hF h₁_; clear h₁_; refine goes_oper_k rfl rfl (by k_ne) (fun K_ hK_ => ?_); go_simp; refine hK_ _ _ ⟨?_, ?_⟩; (focus (refine de_none ?_; intro e he; have hm := mem_listed he; simp [go_sem, *] at hm)); clear hK_ K_; try w_num)
  (refine Goes.step rfl (fun _ h₁_ => ?_); replace hF := fb hF h₁_; clear h₁_)
  rename_i w₂
  obtain ⟨i0, hi, hz0, hz1, hz2⟩ := info_parts info22
  have hg := (hF.1.own.lt g rfl)
  have hge := hF.1.ge
  obtain ⟨t1, c2, w₃, hr, hj1, hj2, hcells, hbelow, hev⟩ := append_src (tb := 22) (mc := tc) Try.underlying22 hi hz0 hz1 hz2 rfl (base := g) (by omega) hF.1.own hF.2 (by simp only [maxLen]; omega) (by omega)
  refine goes_oper_k rfl rfl (by decide) (fun K_ hK_ => ?_)
  refine uponK_append (.tmp 47) (.tmp 48) 22 rfl rfl rfl hr (hK_ _ _ ⟨append_ev (N := N0) (g := g) hS1 (fun a h => hS2 a (by omega)) (by omega) (by omega) (fun e he => ?_), ?_⟩)
  · have hm := mem_listed he
    rw [events_append_op (.tmp 47) (.tmp 48) 22 rfl rfl rfl] at hm
    exact hev e hm
  clear hK_ K_
  replace hF := hF.1.grow hN hbelow hj1 hj2 hcells
  simp only [List.getElem_toArray, List.getElem_cons_succ, List.getElem_cons_zero, List.getElem?_toArray, List.getElem?_cons_succ, List.getElem?_cons_zero, Act.put, List.setIfInBounds_toArray, List.set_cons_succ, List.set_cons_zero]
  (refine Goes.step rfl (fun _ h₁_ => ?_); replace hF := G4.at_ hF h₁_; clear h₁_)
  refine goes_call rfl rfl (by k_ne) rfl Try.func10 nm10 rfl ⟨by (refine de_none ?_; intro e he; simp at he), ?_⟩
  refine Goes.mono (Goes.stop (n := 0) (fun w₁ h₁ => ?_)) (by omega)
  simp only [R10.gRun, R10.bodyR, R7ops4, C48, C47, C46, C41, body4, Try.f4, Try.f10, Option.getD_some, List.replicate, Act.eval, List.map_toArray, List.map_cons, List.map_nil, Array.getD_eq_getD_getElem?, List.getElem?_toArray, List.getElem?_cons_succ, List.getElem?_cons_zero, List.size_toArray, List.length_cons, List.length_nil, Nat.reduceAdd, Nat.reduceSub]
  exact ⟨_, t1, c2, rfl, ⟨rfl, rfl, rfl, rfl, rfl, rfl⟩, rfl, rfl, hF.at_ h₁, hj1⟩

end
end Go.Proofs.Ytngnkdedfcnfkaa

/-
  lantern/pool.Run (function 10): the starter's third loop: the desks are closed; Wait; the return.
-/
import Derived.Test.YtngnkdedfcnfkaaRBY
import Derived.Test.YtngnkdedfcnfkaaPrI
set_option linter.unusedSimpArgs false
set_option linter.unusedVariables false
namespace Go.Proofs.Ytngnkdedfcnfkaa.R10
open Go Go.Conc Go.RowKit Go.Conc.Lib Go.ConcR.Gen Go.ConcN.Gen
open Go.ConcN (WgLive Has RW ShN upd upd_same upd_ne goes_mono)
open Go.ConcR (KK WgAt stA smA)
noncomputable def L3 : Code := match C3 with | .seq (.seq _ (.block _ (.loop c))) _ => c | _ => .skip
noncomputable def C4 : Code := match C3 with | .seq _ c => c | _ => .skip
noncomputable def R30ops : Array Oper := match L3 with | .seq _ (.seq _ (.seq (.block _ (.seq _ (.region _ ops _))) _)) => ops | _ => #[]
noncomputable def R31c : Code := match L3 with | .seq _ (.seq _ (.seq _ c)) => c | _ => .skip
noncomputable def R32ops : Array Oper := match C4 with | .seq (.region _ ops _) _ => ops | _ => #[]
noncomputable def C5 : Code := match C4 with | .seq _ c => c | _ => .skip
noncomputable def rest3 : List Item := [.inBlock 6, .code R31c, .inLoop L3, .inBlock 5, .code C4]
structure Sl3 (c : Ctx) (k : Nat) (T : Array Value) : Prop where
  sz : T.size = 93
  s12 : T[12]? = some (pt (c.H + 6))
  s14 : T[14]? = some (.slice (some ⟨c.H + 7 + 2 * c.n, 0, none⟩) c.J c.J)
  s83 : T[83]? = some (.slice (some ⟨c.H + 2, 0, none⟩) c.n c.n)
  s84 : T[84]? = some (.int .i64 c.n)
  s85 : T[85]? = some (.int .i64 k)
def Head3 (c : Ctx) (cs : List Frame) (k : Nat) (a : Goroutine) : Prop :=
  ∃ T : Array Value, a = G ((base 10).at ⟨T, []⟩ [.code L3, .inLoop L3, .inBlock 5, .code C4]) cs ∧ Sl3 c k T
/-- at 'close' -/
def AtCl3 (c : Ctx) (cs : List Frame) (k : Nat) (a : Goroutine) : Prop :=
  ∃ T : Array Value, a = G ((base 10).at ⟨T, []⟩ (.inRegion R30ops [1] :: rest3)) cs ∧ Sl3 c k T ∧ T[89]? = some (.chan (some (c.H + 8 + 2 * k)))
def Cl3 (c : Ctx) (cs : List Frame) (k : Nat) (a : Goroutine) : Prop :=
  ∃ T : Array Value, a = G ((base 10).at ⟨T, []⟩ (.inRegion R30ops [] :: rest3)) cs ∧ Sl3 c k T
/-- Wait is to be called, with T in its slots -/
def Back3 (c : Ctx) (T : Array Value) : Prop := T.size = 93 ∧ T[14]? = some (.slice (some ⟨c.H + 7 + 2 * c.n, 0, none⟩) c.J c.J)

section
variable {c : Ctx} {Shun : Loc → Prop} {B : Nat} {cs : List Frame} {W : World} {tv : Value}
set_option maxRecDepth 100000 in
set_option maxHeartbeats 1000000 in
/-- from the second loop's end to the third's head -/
theorem end2 (hc : OkC c Shun) (hB : c.H + 8 + 2 * c.n ≤ B) {a : Goroutine} {w : World} (ha : Head2 c tv cs c.J c.J a) (hF : KE c 29 W w) :
    Goes Try.prog true (SR2 c) (DS c Shun B c.n) (fun a w => Head3 c cs 0 a ∧ KE c 29 W w) 30 a w := by
  have hlt : decide ((c.J : Int) < (c.J : Int)) = false := decide_eq_false (by omega)
  obtain ⟨T, rfl, hT⟩ := ha
  have hsz := hT.sz
  revert hT
  revert hsz
  revert T
  refine by93 ?_
  intro v0 v1 v2 v3 v4 v5 v6 v7 v8 v9 v10 v11 v12 v13 v14 v15 v16 v17 v18 v19 v20 v21 v22 v23 v24 v25 v26 v27 v28 v29 v30 v31 v32 v33 v34 v35 v36 v37 v38 v39 v40 v41 v42 v43 v44 v45 v46 v47 v48 v49 v50 v51 v52 v53 v54 v55 v56 v57 v58 v59 v60 v61 v62 v63 v64 v65 v66 v67 v68 v69 v70 v71 v72 v73 v74 v75 v76 v77 v78 v79 v80 v81 v82 v83 v84 v85 v86 v87 v88 v89 v90 v91 v92 hT
  obtain ⟨_, t1, t2, t4, t10, t11, t12, t14, t15, t16⟩ := hT
  simp only [List.getElem?_toArray, List.getElem?_cons_succ, List.getElem?_cons_zero, Option.some.injEq] at t1 t2 t4 t10 t11 t12 t14 t15 t16
  subst t1 t2 t4 t10 t11 t12 t14 t15 t16
  simp only [L2, C2, C1, bodyR, Try.f10, Option.getD_some, pt]
  (refine Goes.step rfl (fun _ h₁_ => ?_); replace hF := (KE.off2 hc) hF h₁_; clear h₁_; rw [stepG_seq]; simp only [goes_go]; refine ⟨by ((first | refine ds_none' ?_ | refine dg_none ?_); intro e he; simp at he), ?_⟩)
  (refine Goes.step rfl (fun _ h₁_ => ?_); replace hF := (KE.off2 hc) hF h₁_; clear h₁_; rw [stepG_seq]; simp only [goes_go]; refine ⟨by ((first | refine ds_none' ?_ | refine dg_none ?_); intro e he; simp at he), ?_⟩)
  (refine Goes.step rfl (fun _ h₁_ => ?_); replace hF := (KE.off2 hc) hF h₁_; clear h₁_; rw [stepG_region]; simp only [goes_go, List.size_toArray, List.length_cons, List.length_nil, Nat.reduceAdd, Nat.zero_add, List.range, List.range.loop]; refine ⟨by ((first | refine ds_none' ?_ | refine dg_none ?_); intro e he; simp at he), ?_⟩)
  (refine Goes.step rfl (fun _ h₁_ => ?_); replace hF := (KE.off2 hc) hF h₁_; clear h₁_; refine goes_oper_k rfl rfl (by k_ne) (fun K_ hK_ => ?_); go_simp; refine hK_ _ _ ⟨?_, ?_⟩; (focus ((first | refine ds_none' ?_ | refine dg_none ?_); intro e he; have hm := mem_listed he; simp [go_sem, *] at hm)); clear hK_ K_; try w_num)
  (refine Goes.step rfl (fun _ h₁_ => ?_); replace hF := (KE.off2 hc) hF h₁_; clear h₁_; refine goes_oper_k rfl rfl (by decide) (fun K_ hK_ => ?_); have hf0_ := (hF.kb.jobsv); go_simp; refine hK_ _ _ ⟨ds_still (fun e he => ?_), ?_⟩; (focus (have hm := mem_listed he; simp [go_sem, storedEv, *] at hm; try (subst hm; exact (evs_hi hc _ _ (by simp) (by simp) (by have hz_ := hF.sz; simp; omega) (fun h => by cases h))))); clear hK_ K_ hf0_)
  (refine Goes.step rfl (fun _ h₁_ => ?_); replace hF := (KE.off2 hc) hF h₁_; clear h₁_; refine goes_oper_k rfl rfl (by k_ne) (fun K_ hK_ => ?_); go_simp; refine hK_ _ _ ⟨?_, ?_⟩; (focus ((first | refine ds_none' ?_ | refine dg_none ?_); intro e he; have hm := mem_listed he; simp [go_sem, *] at hm)); clear hK_ K_; try w_num)
  (refine Goes.step rfl (fun _ h₁_ => ?_); replace hF := (KE.off2 hc) hF h₁_; clear h₁_; refine goes_oper_k rfl rfl (by k_ne) (fun K_ hK_ => ?_); go_simp; refine hK_ _ _ ⟨?_, ?_⟩; (focus ((first | refine ds_none' ?_ | refine dg_none ?_); intro e he; have hm := mem_listed he; simp [go_sem, *] at hm)); clear hK_ K_; try w_num)
  (refine Goes.step rfl (fun _ h₁_ => ?_); replace hF := (KE.off2 hc) hF h₁_; clear h₁_; rw [stepG_region_end]; simp only [goes_go]; refine ⟨by ((first | refine ds_none' ?_ | refine dg_none ?_); intro e he; simp at he), ?_⟩)
  (refine Goes.step rfl (fun _ h₁_ => ?_); replace hF := (KE.off2 hc) hF h₁_; clear h₁_; rw [stepG_cond (t := false) rfl]; simp only [goes_go, if_true, if_false, Bool.false_eq_true, ↓reduceIte]; refine ⟨by ((first | refine ds_none' ?_ | refine dg_none ?_); intro e he; simp at he), ?_⟩)
  (refine Goes.step rfl (fun _ h₁_ => ?_); replace hF := (KE.off2 hc) hF h₁_; clear h₁_; refine goes_exit rfl ?_; refine ⟨by ((first | refine ds_none' ?_ | refine dg_none ?_); intro e he; simp at he), ?_⟩)
  simp only [C3, C2, C1, bodyR, Try.f10, Option.getD_some]
  (refine Goes.step rfl (fun _ h₁_ => ?_); replace hF := (KE.off2 hc) hF h₁_; clear h₁_; rw [stepG_seq]; simp only [goes_go]; refine ⟨by ((first | refine ds_none' ?_ | refine dg_none ?_); intro e he; simp at he), ?_⟩)
  (refine Goes.step rfl (fun _ h₁_ => ?_); replace hF := (KE.off2 hc) hF h₁_; clear h₁_; rw [stepG_seq]; simp only [goes_go]; refine ⟨by ((first | refine ds_none' ?_ | refine dg_none ?_); intro e he; simp at he), ?_⟩)
  (refine Goes.step rfl (fun _ h₁_ => ?_); replace hF := (KE.off2 hc) hF h₁_; clear h₁_; rw [stepG_region]; simp only [goes_go, List.size_toArray, List.length_cons, List.length_nil, Nat.reduceAdd, Nat.zero_add, List.range, List.range.loop]; refine ⟨by ((first | refine ds_none' ?_ | refine dg_none ?_); intro e he; simp at he), ?_⟩)
  (refine Goes.step rfl (fun _ h₁_ => ?_); replace hF := (KE.off2 hc) hF h₁_; clear h₁_; refine goes_oper_k rfl rfl (by decide) (fun K_ hK_ => ?_); have hf0_ := (hF.kb.desksv); go_simp; refine hK_ _ _ ⟨ds_still (fun e he => ?_), ?_⟩; (focus (have hm := mem_listed he; simp [go_sem, storedEv, *] at hm; try (subst hm; exact (evs_hi hc _ _ (by simp) (by simp) (by have hz_ := hF.sz; simp; omega) (fun h => by cases h))))); clear hK_ K_ hf0_)
  (refine Goes.step rfl (fun _ h₁_ => ?_); replace hF := (KE.off2 hc) hF h₁_; clear h₁_; refine goes_oper_k rfl rfl (by k_ne) (fun K_ hK_ => ?_); go_simp; refine hK_ _ _ ⟨?_, ?_⟩; (focus ((first | refine ds_none' ?_ | refine dg_none ?_); intro e he; have hm := mem_listed he; simp [go_sem, *] at hm)); clear hK_ K_; try w_num)
  (refine Goes.step rfl (fun _ h₁_ => ?_); replace hF := (KE.off2 hc) hF h₁_; clear h₁_; refine goes_oper_k rfl rfl (by k_ne) (fun K_ hK_ => ?_); go_simp; refine hK_ _ _ ⟨?_, ?_⟩; (focus ((first | refine ds_none' ?_ | refine dg_none ?_); intro e he; have hm := mem_listed he; simp [go_sem, *] at hm)); clear hK_ K_; try w_num)
  (refine Goes.step rfl (fun _ h₁_ => ?_); replace hF := (KE.off2 hc) hF h₁_; clear h₁_; rw [stepG_region_end]; simp only [goes_go]; refine ⟨by ((first | refine ds_none' ?_ | refine dg_none ?_); intro e he; simp at he), ?_⟩)
  (refine Goes.step rfl (fun _ h₁_ => ?_); replace hF := (KE.off2 hc) hF h₁_; clear h₁_; rw [stepG_block]; simp only [goes_go]; refine ⟨by ((first | refine ds_none' ?_ | refine dg_none ?_); intro e he; simp at he), ?_⟩)
  (refine Goes.step rfl (fun _ h₁_ => ?_); replace hF := (KE.off2 hc) hF h₁_; clear h₁_; rw [stepG_loop]; simp only [goes_go]; refine ⟨by ((first | refine ds_none' ?_ | refine dg_none ?_); intro e he; simp at he), ?_⟩)
  exact Goes.stop (fun w₁ h₁ => ⟨⟨_, rfl, ⟨rfl, rfl, rfl, rfl, rfl, rfl⟩⟩, hF.off2 hc h₁⟩)

set_option maxRecDepth 100000 in
set_option maxHeartbeats 1000000 in
/-- to 'close' -/
theorem pre3 (hc : OkC c Shun) (hB : c.H + 8 + 2 * c.n ≤ B) {k : Nat} (hk : k < c.n) {a : Goroutine} {w : World} (ha : Head3 c cs k a) (hF : KE c 29 W w) :
    Goes Try.prog true (SR2 c) (DS c Shun B c.n) (fun a w => AtCl3 c cs k a ∧ KE c 29 W w) 17 a w := by
  have hlt : decide ((k : Int) < (c.n : Int)) = true := decide_eq_true (by omega)
  have hk0 : (0 : Int) ≤ (k : Int) := by omega
  have hk1 : (k : Int) < (c.n : Int) := by omega
  obtain ⟨T, rfl, hT⟩ := ha
  have hsz := hT.sz
  revert hT
  revert hsz
  revert T
  refine by93 ?_
  intro v0 v1 v2 v3 v4 v5 v6 v7 v8 v9 v10 v11 v12 v13 v14 v15 v16 v17 v18 v19 v20 v21 v22 v23 v24 v25 v26 v27 v28 v29 v30 v31 v32 v33 v34 v35 v36 v37 v38 v39 v40 v41 v42 v43 v44 v45 v46 v47 v48 v49 v50 v51 v52 v53 v54 v55 v56 v57 v58 v59 v60 v61 v62 v63 v64 v65 v66 v67 v68 v69 v70 v71 v72 v73 v74 v75 v76 v77 v78 v79 v80 v81 v82 v83 v84 v85 v86 v87 v88 v89 v90 v91 v92 hT
  obtain ⟨_, t12, t14, t83, t84, t85⟩ := hT
  simp only [List.getElem?_toArray, List.getElem?_cons_succ, List.getElem?_cons_zero, Option.some.injEq] at t12 t14 t83 t84 t85
  subst t12 t14 t83 t84 t85
  simp only [L3, C3, C2, C1, bodyR, Try.f10, Option.getD_some, pt]
  (refine Goes.step rfl (fun _ h₁_ => ?_); replace hF := (KE.off2 hc) hF h₁_; clear h₁_; rw [stepG_seq]; simp only [goes_go]; refine ⟨by ((first | refine ds_none' ?_ | refine dg_none ?_); intro e he; simp at he), ?_⟩)
  (refine Goes.step rfl (fun _ h₁_ => ?_); replace hF := (KE.off2 hc) hF h₁_; clear h₁_; rw [stepG_region]; simp only [goes_go, List.size_toArray, List.length_cons, List.length_nil, Nat.reduceAdd, Nat.zero_add, List.range, List.range.loop]; refine ⟨by ((first | refine ds_none' ?_ | refine dg_none ?_); intro e he; simp at he), ?_⟩)
  (refine Goes.step rfl (fun _ h₁_ => ?_); replace hF := (KE.off2 hc) hF h₁_; clear h₁_; refine goes_oper_k rfl rfl (by k_ne) (fun K_ hK_ => ?_); go_simp; refine hK_ _ _ ⟨?_, ?_⟩; (focus ((first | refine ds_none' ?_ | refine dg_none ?_); intro e he; have hm := mem_listed he; simp [go_sem, *] at hm)); clear hK_ K_; try w_num)
  (refine Goes.step rfl (fun _ h₁_ => ?_); replace hF := (KE.off2 hc) hF h₁_; clear h₁_; rw [stepG_region_end]; simp only [goes_go]; refine ⟨by ((first | refine ds_none' ?_ | refine dg_none ?_); intro e he; simp at he), ?_⟩)
  (refine Goes.step rfl (fun _ h₁_ => ?_); replace hF := (KE.off2 hc) hF h₁_; clear h₁_; rw [stepG_seq]; simp only [goes_go]; refine ⟨by ((first | refine ds_none' ?_ | refine dg_none ?_); intro e he; simp at he), ?_⟩)
  (refine Goes.step rfl (fun _ h₁_ => ?_); replace hF := (KE.off2 hc) hF h₁_; clear h₁_; rw [stepG_cond (t := true) rfl]; simp only [goes_go, if_true, if_false, Bool.false_eq_true, ↓reduceIte]; refine ⟨by ((first | refine ds_none' ?_ | refine dg_none ?_); intro e he; simp at he), ?_⟩)
  (refine Goes.step rfl (fun _ h₁_ => ?_); replace hF := (KE.off2 hc) hF h₁_; clear h₁_; rw [stepG_skip]; simp only [goes_go]; refine ⟨by ((first | refine ds_none' ?_ | refine dg_none ?_); intro e he; simp at he), ?_⟩)
  (refine Goes.step rfl (fun _ h₁_ => ?_); replace hF := (KE.off2 hc) hF h₁_; clear h₁_; rw [stepG_seq]; simp only [goes_go]; refine ⟨by ((first | refine ds_none' ?_ | refine dg_none ?_); intro e he; simp at he), ?_⟩)
  (refine Goes.step rfl (fun _ h₁_ => ?_); replace hF := (KE.off2 hc) hF h₁_; clear h₁_; rw [stepG_block]; simp only [goes_go]; refine ⟨by ((first | refine ds_none' ?_ | refine dg_none ?_); intro e he; simp at he), ?_⟩)
  (refine Goes.step rfl (fun _ h₁_ => ?_); replace hF := (KE.off2 hc) hF h₁_; clear h₁_; rw [stepG_seq]; simp only [goes_go]; refine ⟨by ((first | refine ds_none' ?_ | refine dg_none ?_); intro e he; simp at he), ?_⟩)
  (refine Goes.step rfl (fun _ h₁_ => ?_); replace hF := (KE.off2 hc) hF h₁_; clear h₁_; rw [stepG_region]; simp only [goes_go, List.size_toArray, List.length_cons, List.length_nil, Nat.reduceAdd, Nat.zero_add, List.range, List.range.loop]; refine ⟨by ((first | refine ds_none' ?_ | refine dg_none ?_); intro e he; simp at he), ?_⟩)
  (refine Goes.step rfl (fun _ h₁_ => ?_); replace hF := (KE.off2 hc) hF h₁_; clear h₁_; refine goes_oper_k rfl rfl (by k_ne) (fun K_ hK_ => ?_); go_simp; refine hK_ _ _ ⟨?_, ?_⟩; (focus ((first | refine ds_none' ?_ | refine dg_none ?_); intro e he; have hm := mem_listed he; simp [go_sem, *] at hm)); clear hK_ K_; try w_num)
  (refine Goes.step rfl (fun _ h₁_ => ?_); replace hF := (KE.off2 hc) hF h₁_; clear h₁_; refine goes_oper_k rfl rfl (by decide) (fun K_ hK_ => ?_); have hf0_ := (hF.kb.desk k hk); go_simp; refine hK_ _ _ ⟨ds_still (fun e he => ?_), ?_⟩; (focus (have hm := mem_listed he; simp [go_sem, storedEv, *] at hm; try (subst hm; exact (evs_hi hc _ _ (by simp) (by simp) (by have hz_ := hF.sz; simp; omega) (fun h => by cases h))))); clear hK_ K_ hf0_)
  (refine Goes.step rfl (fun _ h₁_ => ?_); replace hF := (KE.off2 hc) hF h₁_; clear h₁_; refine goes_oper_k rfl rfl (by k_ne) (fun K_ hK_ => ?_); go_simp; refine hK_ _ _ ⟨?_, ?_⟩; (focus ((first | refine ds_none' ?_ | refine dg_none ?_); intro e he; have hm := mem_listed he; simp [go_sem, *] at hm)); clear hK_ K_; try w_num)
  (refine Goes.step rfl (fun _ h₁_ => ?_); replace hF := (KE.off2 hc) hF h₁_; clear h₁_; rw [stepG_region_end]; simp only [goes_go]; refine ⟨by ((first | refine ds_none' ?_ | refine dg_none ?_); intro e he; simp at he), ?_⟩)
  (refine Goes.step rfl (fun _ h₁_ => ?_); replace hF := (KE.off2 hc) hF h₁_; clear h₁_; rw [stepG_region]; simp only [goes_go, List.size_toArray, List.length_cons, List.length_nil, Nat.reduceAdd, Nat.zero_add, List.range, List.range.loop]; refine ⟨by ((first | refine ds_none' ?_ | refine dg_none ?_); intro e he; simp at he), ?_⟩)
  (refine Goes.step rfl (fun _ h₁_ => ?_); replace hF := (KE.off2 hc) hF h₁_; clear h₁_; refine goes_oper_k rfl rfl (by k_ne) (fun K_ hK_ => ?_); go_simp; refine hK_ _ _ ⟨?_, ?_⟩; (focus ((first | refine ds_none' ?_ | refine dg_none ?_); intro e he; have hm := mem_listed he; simp [go_sem, *] at hm)); clear hK_ K_; try w_num)
  exact Goes.stop (fun w₁ h₁ => ⟨⟨_, rfl, ⟨rfl, rfl, rfl, rfl, rfl, rfl⟩, rfl⟩, hF.off2 hc h₁⟩)

set_option maxRecDepth 100000 in
set_option maxHeartbeats 1000000 in
theorem close3 {k : Nat} {a : Goroutine} (ha : AtCl3 c cs k a) : a.status = .running ∧ mayWake Try.prog a = true ∧ ∃ a', a'.status = .running ∧ Cl3 c cs k a' ∧ ∀ w q, w.heap[c.H + 8 + 2 * k]? = some (.chan 0 #[] false q q false) →
    stepG Try.prog true a w = .go a' (w.setChan (c.H + 8 + 2 * k) 0 #[] true q q false) (closeEvents (c.H + 8 + 2 * k)) := by
  obtain ⟨T, rfl, hT, h89⟩ := ha
  have hsz := hT.sz
  revert hT h89
  revert hsz
  revert T
  refine by93 ?_
  intro v0 v1 v2 v3 v4 v5 v6 v7 v8 v9 v10 v11 v12 v13 v14 v15 v16 v17 v18 v19 v20 v21 v22 v23 v24 v25 v26 v27 v28 v29 v30 v31 v32 v33 v34 v35 v36 v37 v38 v39 v40 v41 v42 v43 v44 v45 v46 v47 v48 v49 v50 v51 v52 v53 v54 v55 v56 v57 v58 v59 v60 v61 v62 v63 v64 v65 v66 v67 v68 v69 v70 v71 v72 v73 v74 v75 v76 v77 v78 v79 v80 v81 v82 v83 v84 v85 v86 v87 v88 v89 v90 v91 v92 hT h89
  obtain ⟨_, t12, t14, t83, t84, t85⟩ := hT
  simp only [List.getElem?_toArray, List.getElem?_cons_succ, List.getElem?_cons_zero, Option.some.injEq] at t12 t14 t83 t84 t85 h89
  subst t12 t14 t83 t84 t85 h89
  refine ⟨rfl, ?_, G ((base 10).at ⟨(v0 :: v1 :: v2 :: v3 :: v4 :: v5 :: v6 :: v7 :: v8 :: v9 :: v10 :: v11 :: (pt (c.H + 6)) :: v13 :: (.slice (some ⟨c.H + 7 + 2 * c.n, 0, none⟩) c.J c.J) :: v15 :: v16 :: v17 :: v18 :: v19 :: v20 :: v21 :: v22 :: v23 :: v24 :: v25 :: v26 :: v27 :: v28 :: v29 :: v30 :: v31 :: v32 :: v33 :: v34 :: v35 :: v36 :: v37 :: v38 :: v39 :: v40 :: v41 :: v42 :: v43 :: v44 :: v45 :: v46 :: v47 :: v48 :: v49 :: v50 :: v51 :: v52 :: v53 :: v54 :: v55 :: v56 :: v57 :: v58 :: v59 :: v60 :: v61 :: v62 :: v63 :: v64 :: v65 :: v66 :: v67 :: v68 :: v69 :: v70 :: v71 :: v72 :: v73 :: v74 :: v75 :: v76 :: v77 :: v78 :: v79 :: v80 :: v81 :: v82 :: (.slice (some ⟨c.H + 2, 0, none⟩) c.n c.n) :: (.int .i64 c.n) :: (.int .i64 k) :: v86 :: v87 :: v88 :: (.chan (some (c.H + 8 + 2 * k))) :: v90 :: v91 :: v92 :: []).toArray, []⟩ (.inRegion R30ops [] :: rest3)) cs, rfl, ⟨_, rfl, ⟨rfl, rfl, rfl, rfl, rfl, rfl⟩⟩, fun w q hw => ?_⟩
  · simp only [R30ops, L3, C3, C2, C1, bodyR, Try.f10, Option.getD_some]
    rfl
  · simp only [R30ops, L3, C3, C2, C1, bodyR, Try.f10, Option.getD_some]
    rw [stepG_close (x := .tmp 89) (ats := #[52]) (o := { dst := none, op := .call { callee := .builtin .close, args := #[.tmp 89], argTypes := #[52] }, type := 0, pos := "pool.go:50", after := #[{ on := 0, ground := .data }], guard := none }) (by rfl) (by rfl) (base_kind _) rfl (by rfl) hw (by kernel_rfl)]
    rfl

set_option maxRecDepth 100000 in
set_option maxHeartbeats 1000000 in
/-- to the loop's head -/
theorem next3 (hc : OkC c Shun) {k : Nat} (hk : k < c.n) {a : Goroutine} {w : World} (ha : Cl3 c cs k a) (hF : KE c 29 W w) :
    Goes Try.prog true (SR2 c) (DS c Shun B c.n) (fun a w => Head3 c cs (k + 1) a ∧ KE c 29 W w) 7 a w := by
  have hn := hc.nmax
  have hw : IntKind.wrap .i64 ((k : Int) + 1) = ((k + 1 : Nat) : Int) := by rw [IntKind.wrap_i64]; omega
  obtain ⟨T, rfl, hT⟩ := ha
  have hsz := hT.sz
  revert hT
  revert hsz
  revert T
  refine by93 ?_
  intro v0 v1 v2 v3 v4 v5 v6 v7 v8 v9 v10 v11 v12 v13 v14 v15 v16 v17 v18 v19 v20 v21 v22 v23 v24 v25 v26 v27 v28 v29 v30 v31 v32 v33 v34 v35 v36 v37 v38 v39 v40 v41 v42 v43 v44 v45 v46 v47 v48 v49 v50 v51 v52 v53 v54 v55 v56 v57 v58 v59 v60 v61 v62 v63 v64 v65 v66 v67 v68 v69 v70 v71 v72 v73 v74 v75 v76 v77 v78 v79 v80 v81 v82 v83 v84 v85 v86 v87 v88 v89 v90 v91 v92 hT
  obtain ⟨_, t12, t14, t83, t84, t85⟩ := hT
  simp only [List.getElem?_toArray, List.getElem?_cons_succ, List.getElem?_cons_zero, Option.some.injEq] at t12 t14 t83 t84 t85
  subst t12 t14 t83 t84 t85
  (refine Goes.step rfl (fun _ h₁_ => ?_); replace hF := (KE.off2 hc) hF h₁_; clear h₁_; rw [stepG_region_end]; simp only [goes_go]; refine ⟨by ((first | refine ds_none' ?_ | refine dg_none ?_); intro e he; simp at he), ?_⟩)
  simp only [rest3, R31c]
  (refine Goes.step rfl (fun _ h₁_ => ?_); replace hF := (KE.off2 hc) hF h₁_; clear h₁_; rw [stepG_inBlock]; simp only [goes_go]; refine ⟨by ((first | refine ds_none' ?_ | refine dg_none ?_); intro e he; simp at he), ?_⟩)
  simp only [L3, C3, C2, C1, bodyR, Try.f10, Option.getD_some, pt]
  (refine Goes.step rfl (fun _ h₁_ => ?_); replace hF := (KE.off2 hc) hF h₁_; clear h₁_; rw [stepG_region]; simp only [goes_go, List.size_toArray, List.length_cons, List.length_nil, Nat.reduceAdd, Nat.zero_add, List.range, List.range.loop]; refine ⟨by ((first | refine ds_none' ?_ | refine dg_none ?_); intro e he; simp at he), ?_⟩)
  (refine Goes.step rfl (fun _ h₁_ => ?_); replace hF := (KE.off2 hc) hF h₁_; clear h₁_; refine goes_oper_k rfl rfl (by k_ne) (fun K_ hK_ => ?_); go_simp; refine hK_ _ _ ⟨?_, ?_⟩; (focus ((first | refine ds_none' ?_ | refine dg_none ?_); intro e he; have hm := mem_listed he; simp [go_sem, *] at hm)); clear hK_ K_; try w_num)
  (refine Goes.step rfl (fun _ h₁_ => ?_); replace hF := (KE.off2 hc) hF h₁_; clear h₁_; refine goes_oper_k rfl rfl (by k_ne) (fun K_ hK_ => ?_); go_simp; refine hK_ _ _ ⟨?_, ?_⟩; (focus ((first | refine ds_none' ?_ | refine dg_none ?_); intro e he; have hm := mem_listed he; simp [go_sem, *] at hm)); clear hK_ K_; try w_num)
  (refine Goes.step rfl (fun _ h₁_ => ?_); replace hF := (KE.off2 hc) hF h₁_; clear h₁_; rw [stepG_region_end]; simp only [goes_go]; refine ⟨by ((first | refine ds_none' ?_ | refine dg_none ?_); intro e he; simp at he), ?_⟩)
  (refine Goes.step rfl (fun _ h₁_ => ?_); replace hF := (KE.off2 hc) hF h₁_; clear h₁_; rw [stepG_inLoop]; simp only [goes_go]; refine ⟨by ((first | refine ds_none' ?_ | refine dg_none ?_); intro e he; simp at he), ?_⟩)
  exact Goes.stop (fun w₁ h₁ => ⟨⟨_, rfl, ⟨rfl, rfl, rfl, rfl, rfl, rfl⟩⟩, hF.off2 hc h₁⟩)

set_option maxRecDepth 100000 in
set_option maxHeartbeats 1000000 in
/-- all are closed: into Wait -/
theorem wait3 (hc : OkC c Shun) (hB : c.H + 8 + 2 * c.n ≤ B) {a : Goroutine} {w : World} (ha : Head3 c cs c.n a) (hF : KE c 29 W w) :
    ∃ T, Back3 c T ∧ Goes Try.prog true (SR2 c) (DS c Shun B c.n) (XKd Try.prog (c.H + 6) (SR2 c) (AnchX link (c.H + 6) (KE c 29 W) ((base 10).at ⟨T, []⟩ (.inRegion R32ops (0 :: []) :: [.code C5])) cs)) (10 + 9) a w := by
  have hlt : decide ((c.n : Int) < (c.n : Int)) = false := decide_eq_false (by omega)
  obtain ⟨T, rfl, hT⟩ := ha
  have hsz := hT.sz
  revert hT
  revert hsz
  revert T
  refine by93 ?_
  intro v0 v1 v2 v3 v4 v5 v6 v7 v8 v9 v10 v11 v12 v13 v14 v15 v16 v17 v18 v19 v20 v21 v22 v23 v24 v25 v26 v27 v28 v29 v30 v31 v32 v33 v34 v35 v36 v37 v38 v39 v40 v41 v42 v43 v44 v45 v46 v47 v48 v49 v50 v51 v52 v53 v54 v55 v56 v57 v58 v59 v60 v61 v62 v63 v64 v65 v66 v67 v68 v69 v70 v71 v72 v73 v74 v75 v76 v77 v78 v79 v80 v81 v82 v83 v84 v85 v86 v87 v88 v89 v90 v91 v92 hT
  obtain ⟨_, t12, t14, t83, t84, t85⟩ := hT
  simp only [List.getElem?_toArray, List.getElem?_cons_succ, List.getElem?_cons_zero, Option.some.injEq] at t12 t14 t83 t84 t85
  subst t12 t14 t83 t84 t85
  refine ⟨(v0 :: v1 :: v2 :: v3 :: v4 :: v5 :: v6 :: v7 :: v8 :: v9 :: v10 :: v11 :: (pt (c.H + 6)) :: v13 :: (.slice (some ⟨c.H + 7 + 2 * c.n, 0, none⟩) c.J c.J) :: v15 :: v16 :: v17 :: v18 :: v19 :: v20 :: v21 :: v22 :: v23 :: v24 :: v25 :: v26 :: v27 :: v28 :: v29 :: v30 :: v31 :: v32 :: v33 :: v34 :: v35 :: v36 :: v37 :: v38 :: v39 :: v40 :: v41 :: v42 :: v43 :: v44 :: v45 :: v46 :: v47 :: v48 :: v49 :: v50 :: v51 :: v52 :: v53 :: v54 :: v55 :: v56 :: v57 :: v58 :: v59 :: v60 :: v61 :: v62 :: v63 :: v64 :: v65 :: v66 :: v67 :: v68 :: v69 :: v70 :: v71 :: v72 :: v73 :: v74 :: v75 :: v76 :: v77 :: v78 :: v79 :: v80 :: v81 :: v82 :: (.slice (some ⟨c.H + 2, 0, none⟩) c.n c.n) :: (.int .i64 c.n) :: (.int .i64 c.n) :: (.bool false) :: v87 :: v88 :: v89 :: v90 :: v91 :: v92 :: []).toArray, ⟨rfl, rfl⟩, ?_⟩
  have hA := @waitStartX Try.prog link (c.H + 6) (SR2 c) (KE c 29 W) (base 10) ⟨(v0 :: v1 :: v2 :: v3 :: v4 :: v5 :: v6 :: v7 :: v8 :: v9 :: v10 :: v11 :: (pt (c.H + 6)) :: v13 :: (.slice (some ⟨c.H + 7 + 2 * c.n, 0, none⟩) c.J c.J) :: v15 :: v16 :: v17 :: v18 :: v19 :: v20 :: v21 :: v22 :: v23 :: v24 :: v25 :: v26 :: v27 :: v28 :: v29 :: v30 :: v31 :: v32 :: v33 :: v34 :: v35 :: v36 :: v37 :: v38 :: v39 :: v40 :: v41 :: v42 :: v43 :: v44 :: v45 :: v46 :: v47 :: v48 :: v49 :: v50 :: v51 :: v52 :: v53 :: v54 :: v55 :: v56 :: v57 :: v58 :: v59 :: v60 :: v61 :: v62 :: v63 :: v64 :: v65 :: v66 :: v67 :: v68 :: v69 :: v70 :: v71 :: v72 :: v73 :: v74 :: v75 :: v76 :: v77 :: v78 :: v79 :: v80 :: v81 :: v82 :: (.slice (some ⟨c.H + 2, 0, none⟩) c.n c.n) :: (.int .i64 c.n) :: (.int .i64 c.n) :: (.bool false) :: v87 :: v88 :: v89 :: v90 :: v91 :: v92 :: []).toArray, []⟩ R32ops 0 [] [.code C5] cs wgLib (KE.stays hc)
  simp only [body_wait, waitFn, Option.getD_some] at hA
  simp only [L3, C3, C2, C1, bodyR, Try.f10, Option.getD_some, pt]
  (refine Goes.step rfl (fun _ h₁_ => ?_); replace hF := (KE.off2 hc) hF h₁_; clear h₁_; rw [stepG_seq]; simp only [goes_go]; refine ⟨by ((first | refine ds_none' ?_ | refine dg_none ?_); intro e he; simp at he), ?_⟩)
  (refine Goes.step rfl (fun _ h₁_ => ?_); replace hF := (KE.off2 hc) hF h₁_; clear h₁_; rw [stepG_region]; simp only [goes_go, List.size_toArray, List.length_cons, List.length_nil, Nat.reduceAdd, Nat.zero_add, List.range, List.range.loop]; refine ⟨by ((first | refine ds_none' ?_ | refine dg_none ?_); intro e he; simp at he), ?_⟩)
  (refine Goes.step rfl (fun _ h₁_ => ?_); replace hF := (KE.off2 hc) hF h₁_; clear h₁_; refine goes_oper_k rfl rfl (by k_ne) (fun K_ hK_ => ?_); go_simp; refine hK_ _ _ ⟨?_, ?_⟩; (focus ((first | refine ds_none' ?_ | refine dg_none ?_); intro e he; have hm := mem_listed he; simp [go_sem, *] at hm)); clear hK_ K_; try w_num)
  (refine Goes.step rfl (fun _ h₁_ => ?_); replace hF := (KE.off2 hc) hF h₁_; clear h₁_; rw [stepG_region_end]; simp only [goes_go]; refine ⟨by ((first | refine ds_none' ?_ | refine dg_none ?_); intro e he; simp at he), ?_⟩)
  (refine Goes.step rfl (fun _ h₁_ => ?_); replace hF := (KE.off2 hc) hF h₁_; clear h₁_; rw [stepG_seq]; simp only [goes_go]; refine ⟨by ((first | refine ds_none' ?_ | refine dg_none ?_); intro e he; simp at he), ?_⟩)
  (refine Goes.step rfl (fun _ h₁_ => ?_); replace hF := (KE.off2 hc) hF h₁_; clear h₁_; rw [stepG_cond (t := false) rfl]; simp only [goes_go, if_true, if_false, Bool.false_eq_true, ↓reduceIte]; refine ⟨by ((first | refine ds_none' ?_ | refine dg_none ?_); intro e he; simp at he), ?_⟩)
  (refine Goes.step rfl (fun _ h₁_ => ?_); replace hF := (KE.off2 hc) hF h₁_; clear h₁_; refine goes_exit rfl ?_; refine ⟨by ((first | refine ds_none' ?_ | refine dg_none ?_); intro e he; simp at he), ?_⟩)
  simp only [C4, C3, C2, C1, bodyR, Try.f10, Option.getD_some]
  (refine Goes.step rfl (fun _ h₁_ => ?_); replace hF := (KE.off2 hc) hF h₁_; clear h₁_; rw [stepG_seq]; simp only [goes_go]; refine ⟨by ((first | refine ds_none' ?_ | refine dg_none ?_); intro e he; simp at he), ?_⟩)
  (refine Goes.step rfl (fun _ h₁_ => ?_); replace hF := (KE.off2 hc) hF h₁_; clear h₁_; rw [stepG_region]; simp only [goes_go, List.size_toArray, List.length_cons, List.length_nil, Nat.reduceAdd, Nat.zero_add, List.range, List.range.loop]; refine ⟨by ((first | refine ds_none' ?_ | refine dg_none ?_); intro e he; simp at he), ?_⟩)
  (refine Goes.step rfl (fun _ h₁_ => ?_); replace hF := (KE.off2 hc) hF h₁_; clear h₁_)
  refine goes_call rfl rfl (by k_ne) rfl Try.func19 (nm_wait link) rfl ⟨by ((first | refine ds_none' ?_ | refine dg_none ?_); intro e he; simp at he), ?_⟩
  walk_nrmf Try.f19
  refine goes_D (fun _ _ _ => dg_ds) (hA (T := _) ?_ _ hF)
  simp only [pt, Array.replicate, List.replicate, List.append_toArray, List.cons_append, List.nil_append]

/-- Run's slots at its end; whoever called it gets its results -/
def Left3 (c : Ctx) (b₁ : Frame) (a₁ : Act) (ops₁ : Array Oper) (i₁ : Nat) (rest₁ : List Nat) (k₁ : List Item) (cs₁ : List Frame) (g : Goroutine) : Prop :=
  g = G (b₁.at (a₁.put ((ops₁[i₁]?).bind (·.dst)) (.tuple #[.slice (some ⟨c.H + 7 + 2 * c.n, 0, none⟩) c.J c.J, .int .i64 0])) (.inRegion ops₁ rest₁ :: k₁)) cs₁

set_option maxRecDepth 100000 in
set_option maxHeartbeats 1000000 in
/-- back from Wait: to whoever called Run -/
theorem ret3 (hc : OkC c Shun) {T : Array Value} (hT : Back3 c T) {b₁ : Frame} {a₁ : Act} {ops₁ : Array Oper} {i₁ : Nat} {rest₁ : List Nat} {k₁ : List Item} {cs₁ : List Frame} {w : World} (hF : KE c 29 W w) :
    Goes Try.prog true AtRel (DG (c.H + 6)) (fun g w => Left3 c b₁ a₁ ops₁ i₁ rest₁ k₁ cs₁ g ∧ KE c 29 W w) 10
      (G ((base 10).at ((⟨T, []⟩ : Act).put ((R32ops[0]?).bind (·.dst)) (.tuple #[])) (.inRegion R32ops [] :: [.code C5])) (b₁.at a₁ (.inRegion ops₁ (i₁ :: rest₁) :: k₁) :: cs₁)) w := by
  obtain ⟨hsz, t14⟩ := hT
  have hd : (R32ops[0]?).bind (·.dst) = some 91 := rfl
  rw [hd]
  clear hd
  revert t14
  revert hsz
  revert T
  refine @by93 _ ?_
  intro v0 v1 v2 v3 v4 v5 v6 v7 v8 v9 v10 v11 v12 v13 v14 v15 v16 v17 v18 v19 v20 v21 v22 v23 v24 v25 v26 v27 v28 v29 v30 v31 v32 v33 v34 v35 v36 v37 v38 v39 v40 v41 v42 v43 v44 v45 v46 v47 v48 v49 v50 v51 v52 v53 v54 v55 v56 v57 v58 v59 v60 v61 v62 v63 v64 v65 v66 v67 v68 v69 v70 v71 v72 v73 v74 v75 v76 v77 v78 v79 v80 v81 v82 v83 v84 v85 v86 v87 v88 v89 v90 v91 v92 t14
  simp only [List.getElem?_toArray, List.getElem?_cons_succ, List.getElem?_cons_zero, Option.some.injEq] at t14
  subst t14
  simp only [Act.put, List.setIfInBounds_toArray, List.set_cons_succ, List.set_cons_zero]
  (refine Goes.step rfl (fun _ h₁_ => ?_); replace hF := (KE.at_ hc) hF h₁_; clear h₁_; rw [stepG_region_end]; simp only [goes_go]; refine ⟨by ((first | refine ds_none' ?_ | refine dg_none ?_); intro e he; simp at he), ?_⟩)
  simp only [C5, C4, C3, C2, C1, bodyR, Try.f10, Option.getD_some]
  (refine Goes.step rfl (fun _ h₁_ => ?_); replace hF := (KE.at_ hc) hF h₁_; clear h₁_; rw [stepG_seq]; simp only [goes_go]; refine ⟨by ((first | refine ds_none' ?_ | refine dg_none ?_); intro e he; simp at he), ?_⟩)
  (refine Goes.step rfl (fun _ h₁_ => ?_); replace hF := (KE.at_ hc) hF h₁_; clear h₁_; rw [stepG_region]; simp only [goes_go, List.size_toArray, List.length_cons, List.length_nil, Nat.reduceAdd, Nat.zero_add, List.range, List.range.loop]; refine ⟨by ((first | refine ds_none' ?_ | refine dg_none ?_); intro e he; simp at he), ?_⟩)
  (refine Goes.step rfl (fun _ h₁_ => ?_); replace hF := (KE.at_ hc) hF h₁_; clear h₁_; refine goes_oper_k rfl rfl (by k_ne) (fun K_ hK_ => ?_); go_simp; refine hK_ _ _ ⟨?_, ?_⟩; (focus ((first | refine ds_none' ?_ | refine dg_none ?_); intro e he; have hm := mem_listed he; simp [go_sem, *] at hm)); clear hK_ K_; try w_num)
  (refine Goes.step rfl (fun _ h₁_ => ?_); replace hF := (KE.at_ hc) hF h₁_; clear h₁_; refine goes_oper_k rfl rfl (by k_ne) (fun K_ hK_ => ?_); go_simp; refine hK_ _ _ ⟨?_, ?_⟩; (focus ((first | refine ds_none' ?_ | refine dg_none ?_); intro e he; have hm := mem_listed he; simp [go_sem, *] at hm)); clear hK_ K_; try w_num)
  (refine Goes.step rfl (fun _ h₁_ => ?_); replace hF := (KE.at_ hc) hF h₁_; clear h₁_; refine goes_oper_k rfl rfl (by k_ne) (fun K_ hK_ => ?_); go_simp; refine hK_ _ _ ⟨?_, ?_⟩; (focus ((first | refine ds_none' ?_ | refine dg_none ?_); intro e he; have hm := mem_listed he; simp [go_sem, *] at hm)); clear hK_ K_; try w_num)
  (refine Goes.step rfl (fun _ h₁_ => ?_); replace hF := (KE.at_ hc) hF h₁_; clear h₁_; rw [stepG_region_end]; simp only [goes_go]; refine ⟨by ((first | refine ds_none' ?_ | refine dg_none ?_); intro e he; simp at he), ?_⟩)
  (refine Goes.step rfl (fun _ h₁_ => ?_); replace hF := (KE.at_ hc) hF h₁_; clear h₁_; rw [stepG_ret']; simp only [goes_go]; refine ⟨by ((first | refine ds_none' ?_ | refine dg_none ?_); intro e he; simp at he), ?_⟩)
  (refine Goes.step rfl (fun _ h₁_ => ?_); replace hF := (KE.at_ hc) hF h₁_; clear h₁_)
  refine goes_leave2 rfl rfl Try.func10 rfl ⟨by ((first | refine ds_none' ?_ | refine dg_none ?_); intro e he; simp at he), ?_⟩
  exact Goes.stop (fun w₁ h₁ => ⟨rfl, hF.at_ hc h₁⟩)
end
end Go.Proofs.Ytngnkdedfcnfkaa.R10

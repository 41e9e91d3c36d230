/-
  lantern/lanternlaw20.PoolOnce (function 5): its walks behind its call of Run. (Printed by tools/pqm_gen.py.)
-/
import Derived.Test.YtngnkdedfcnfkaaPqL
import Derived.Test.YtngnkdedfcnfkaaRAE
set_option linter.unusedSimpArgs false
set_option linter.unusedVariables false
namespace Go.Proofs.Ytngnkdedfcnfkaa
open Go Go.Conc Go.RowKit Go.Conc.Lib Go.ConcR.Gen Go.ConcN.Gen

/-- what the law leans on behind Run: each job has been counted once -/
structure F5 (W : World) (bb sb m : Nat) (w : World) : Prop where
  below : Below W.heap.size W w
  seen : Seen bb sb m m w
theorem F5.at_ {W : World} {bb sb m : Nat} {w w₁ : World} (h : F5 W bb sb m w) (r : AtRel w w₁) : F5 W bb sb m w₁ := ⟨Below.at_ h.below r, h.seen.at_ r⟩
theorem F5.one {W : World} {bb sb m : Nat} {w : World} (h : F5 W bb sb m w) {k : Nat} (hk : k < m) : w.cell? ⟨sb, k, none⟩ = some (.int .i64 1) := by
  have := h.seen.cell k hk
  rwa [if_pos hk] at this
noncomputable def L52 : Code := match C512 with | .seq (.seq _ (.block _ (.loop c))) _ => c | _ => .skip
noncomputable def C518 : Code := match C512 with | .seq _ c => c | _ => .skip

section
variable {Shun : Loc → Prop} {B : Nat} {W : World}
set_option maxRecDepth 100000 in
set_option maxHeartbeats 4000000 in
/-- each has been counted once -/
theorem loop5b {Post : Value → World → Prop} (hpost : ∀ w, Below W.heap.size W w → Post (.bool true) w) {bb sb m O : Nat} (hm : m ≤ 99) (hSb : ∀ a : Addr, a.block = bb → ¬ Shun (.cell a)) (hSs : ∀ a : Addr, a.block = sb → ¬ Shun (.cell a)) (hbB : bb < B) (hsB : sb < B) :
    ∀ (d k : Nat), k + d = m → ∀ {v1 v2 v3 v5 v6 v10 v11 v12 v13 v14 v15 v16 v17 v18 v19 v20 v21 v22 v23 v24 v25 v26 v27 v28 v29 v30 v31 v32 v33 v34 v35 v36 v37 v38 v39 v40 v43 v44 v45 v46 v47 v48 v49 v50 v51 v52 v53 v54 v55 v56 v57 v58 : Value} {w : World}, F5 W bb sb m w →
      Goes Try.prog true AtRel (DE (EvL Shun B)) (AtEnd Try.prog Shun B Post) (40 + d * 50) (G ((base 5).at ⟨((.int .i64 m) :: v1 :: v2 :: v3 :: (.bool false) :: v5 :: v6 :: (.pointer (some ⟨bb, 0, none⟩)) :: (.slice (some ⟨O, 0, none⟩) m m) :: (.int .i64 0) :: v10 :: v11 :: v12 :: v13 :: v14 :: v15 :: v16 :: v17 :: v18 :: v19 :: v20 :: v21 :: v22 :: v23 :: v24 :: v25 :: v26 :: v27 :: v28 :: v29 :: v30 :: v31 :: v32 :: v33 :: v34 :: v35 :: v36 :: v37 :: v38 :: v39 :: v40 :: (.int .i64 m) :: (.int .i64 k) :: v43 :: v44 :: v45 :: v46 :: v47 :: v48 :: v49 :: v50 :: v51 :: v52 :: v53 :: v54 :: v55 :: v56 :: v57 :: v58 :: []).toArray, []⟩ [.code L52, .inLoop L52, .inBlock 2, .code C518]) []) w := by
  intro d
  induction d with
  | zero =>
    intro k hk v1 v2 v3 v5 v6 v10 v11 v12 v13 v14 v15 v16 v17 v18 v19 v20 v21 v22 v23 v24 v25 v26 v27 v28 v29 v30 v31 v32 v33 v34 v35 v36 v37 v38 v39 v40 v43 v44 v45 v46 v47 v48 v49 v50 v51 v52 v53 v54 v55 v56 v57 v58 w hF
    have hd : decide ((k : Int) < (m : Int)) = false := decide_eq_false (by omega)
    have hd2 : decide (k < m) = false := decide_eq_false (by omega)
    have hd3 : ¬ k < m := by omega
    simp only [L52, C512, C511, C510, C54, C51, body5, Try.f5, Option.getD_some]
    (refine Goes.step rfl (fun _ h₁_ => ?_); replace hF := F5.at_ hF h₁_; clear h₁_; rw [stepG_seq]; simp only [goes_go]; refine ⟨by (refine de_none ?_; intro e he; simp at he), ?_⟩)
    (refine Goes.step rfl (fun _ h₁_ => ?_); replace hF := F5.at_ hF h₁_; clear h₁_; rw [stepG_region]; simp only [goes_go, List.size_toArray, List.length_cons, List.length_nil, Nat.reduceAdd, Nat.zero_add, List.range, List.range.loop]; refine ⟨by (refine de_none ?_; intro e he; simp at he), ?_⟩)
    (refine Goes.step rfl (fun _ h₁_ => ?_); replace hF := F5.at_ hF h₁_; clear h₁_; refine goes_oper_k rfl rfl (by k_ne) (fun K_ hK_ => ?_); go_simp; refine hK_ _ _ ⟨?_, ?_⟩; (focus (refine de_none ?_; intro e he; have hm := mem_listed he; simp [go_sem, *] at hm)); clear hK_ K_; try w_num)
    (refine Goes.step rfl (fun _ h₁_ => ?_); replace hF := F5.at_ hF h₁_; clear h₁_; rw [stepG_region_end]; simp only [goes_go]; refine ⟨by (refine de_none ?_; intro e he; simp at he), ?_⟩)
    (refine Goes.step rfl (fun _ h₁_ => ?_); replace hF := F5.at_ hF h₁_; clear h₁_; rw [stepG_seq]; simp only [goes_go]; refine ⟨by (refine de_none ?_; intro e he; simp at he), ?_⟩)
    (refine Goes.step rfl (fun _ h₁_ => ?_); replace hF := F5.at_ hF h₁_; clear h₁_; rw [stepG_cond (t := false) rfl]; simp only [goes_go, if_true, if_false, Bool.false_eq_true, ↓reduceIte]; refine ⟨by (refine de_none ?_; intro e he; simp at he), ?_⟩)
    (refine Goes.step rfl (fun _ h₁_ => ?_); replace hF := F5.at_ hF h₁_; clear h₁_; refine goes_exit rfl ?_; refine ⟨by (refine de_none ?_; intro e he; simp at he), ?_⟩)
    simp only [C518, C512, C511, C510, C54, C51, body5, Try.f5, Option.getD_some]
    (refine Goes.step rfl (fun _ h₁_ => ?_); replace hF := F5.at_ hF h₁_; clear h₁_; rw [stepG_seq]; simp only [goes_go]; refine ⟨by (refine de_none ?_; intro e he; simp at he), ?_⟩)
    (refine Goes.step rfl (fun _ h₁_ => ?_); replace hF := F5.at_ hF h₁_; clear h₁_; rw [stepG_region]; simp only [goes_go, List.size_toArray, List.length_cons, List.length_nil, Nat.reduceAdd, Nat.zero_add, List.range, List.range.loop]; refine ⟨by (refine de_none ?_; intro e he; simp at he), ?_⟩)
    (refine Goes.step rfl (fun _ h₁_ => ?_); replace hF := F5.at_ hF h₁_; clear h₁_; refine goes_oper_k rfl rfl (by k_ne) (fun K_ hK_ => ?_); go_simp; refine hK_ _ _ ⟨?_, ?_⟩; (focus (refine de_none ?_; intro e he; have hm := mem_listed he; simp [go_sem, *] at hm)); clear hK_ K_; try w_num)
    (refine Goes.step rfl (fun _ h₁_ => ?_); replace hF := F5.at_ hF h₁_; clear h₁_; refine goes_oper_k rfl rfl (by k_ne) (fun K_ hK_ => ?_); go_simp; refine hK_ _ _ ⟨?_, ?_⟩; (focus (refine de_none ?_; intro e he; have hm := mem_listed he; simp [go_sem, *] at hm)); clear hK_ K_; try w_num)
    (refine Goes.step rfl (fun _ h₁_ => ?_); replace hF := F5.at_ hF h₁_; clear h₁_; refine goes_oper_k rfl rfl (by k_ne) (fun K_ hK_ => ?_); go_simp; refine hK_ _ _ ⟨?_, ?_⟩; (focus (refine de_none ?_; intro e he; have hm := mem_listed he; simp [go_sem, *] at hm)); clear hK_ K_; try w_num)
    (refine Goes.step rfl (fun _ h₁_ => ?_); replace hF := F5.at_ hF h₁_; clear h₁_; refine goes_oper_k rfl rfl (by k_ne) (fun K_ hK_ => ?_); go_simp; refine hK_ _ _ ⟨?_, ?_⟩; (focus (refine de_none ?_; intro e he; have hm := mem_listed he; simp [go_sem, *] at hm)); clear hK_ K_; try w_num)
    (refine Goes.step rfl (fun _ h₁_ => ?_); replace hF := F5.at_ hF h₁_; clear h₁_; refine goes_oper_k rfl rfl (by k_ne) (fun K_ hK_ => ?_); go_simp; refine hK_ _ _ ⟨?_, ?_⟩; (focus (refine de_none ?_; intro e he; have hm := mem_listed he; simp [go_sem, *] at hm)); clear hK_ K_; try w_num)
    (refine Goes.step rfl (fun _ h₁_ => ?_); replace hF := F5.at_ hF h₁_; clear h₁_; refine goes_oper_k rfl rfl (by k_ne) (fun K_ hK_ => ?_); go_simp; refine hK_ _ _ ⟨?_, ?_⟩; (focus (refine de_none ?_; intro e he; have hm := mem_listed he; simp [go_sem, *] at hm)); clear hK_ K_; try w_num)
    (refine Goes.step rfl (fun _ h₁_ => ?_); replace hF := F5.at_ hF h₁_; clear h₁_; refine goes_oper_k rfl rfl (by k_ne) (fun K_ hK_ => ?_); go_simp; refine hK_ _ _ ⟨?_, ?_⟩; (focus (refine de_none ?_; intro e he; have hm := mem_listed he; simp [go_sem, *] at hm)); clear hK_ K_; try w_num)
    (refine Goes.step rfl (fun _ h₁_ => ?_); replace hF := F5.at_ hF h₁_; clear h₁_; refine goes_oper_k rfl rfl (by k_ne) (fun K_ hK_ => ?_); go_simp; refine hK_ _ _ ⟨?_, ?_⟩; (focus (refine de_none ?_; intro e he; have hm := mem_listed he; simp [go_sem, *] at hm)); clear hK_ K_; try w_num)
    (refine Goes.step rfl (fun _ h₁_ => ?_); replace hF := F5.at_ hF h₁_; clear h₁_; refine goes_oper_k rfl rfl (by k_ne) (fun K_ hK_ => ?_); go_simp; refine hK_ _ _ ⟨?_, ?_⟩; (focus (refine de_none ?_; intro e he; have hm := mem_listed he; simp [go_sem, *] at hm)); clear hK_ K_; try w_num)
    (refine Goes.step rfl (fun _ h₁_ => ?_); replace hF := F5.at_ hF h₁_; clear h₁_; rw [stepG_region_end]; simp only [goes_go]; refine ⟨by (refine de_none ?_; intro e he; simp at he), ?_⟩)
    (refine Goes.step rfl (fun _ h₁_ => ?_); replace hF := F5.at_ hF h₁_; clear h₁_; rw [stepG_ret']; simp only [goes_go]; refine ⟨by (refine de_none ?_; intro e he; simp at he), ?_⟩)
    refine Goes.mono (Goes.stop (n := 0) (fun w₂ r₂ => ⟨rfl, .bool true, #[], ?_, by simp, hpost _ (Below.at_ hF.below r₂)⟩)) (by omega)
    simp [G, stepG, unwind, doReturn, results, Frame.at, base, Try.func5, Try.f5, seen, GStep.after]
  | succ d ih =>
    intro k hk v1 v2 v3 v5 v6 v10 v11 v12 v13 v14 v15 v16 v17 v18 v19 v20 v21 v22 v23 v24 v25 v26 v27 v28 v29 v30 v31 v32 v33 v34 v35 v36 v37 v38 v39 v40 v43 v44 v45 v46 v47 v48 v49 v50 v51 v52 v53 v54 v55 v56 v57 v58 w hF
    have hkJ : k < m := by omega
    have hk0 : (0 : Int) ≤ (k : Int) := by omega
    have hk1 : (k : Int) < (m : Int) := by omega
    have hd : decide ((k : Int) < (m : Int)) = true := decide_eq_true (by omega)
    refine Goes.mono (n := 40 + d * 50 + 48) ?_ (by omega)
    simp only [L52, C512, C511, C510, C54, C51, body5, Try.f5, Option.getD_some]
    (refine Goes.step rfl (fun _ h₁_ => ?_); replace hF := F5.at_ hF h₁_; clear h₁_; rw [stepG_seq]; simp only [goes_go]; refine ⟨by (refine de_none ?_; intro e he; simp at he), ?_⟩)
    (refine Goes.step rfl (fun _ h₁_ => ?_); replace hF := F5.at_ hF h₁_; clear h₁_; rw [stepG_region]; simp only [goes_go, List.size_toArray, List.length_cons, List.length_nil, Nat.reduceAdd, Nat.zero_add, List.range, List.range.loop]; refine ⟨by (refine de_none ?_; intro e he; simp at he), ?_⟩)
    (refine Goes.step rfl (fun _ h₁_ => ?_); replace hF := F5.at_ hF h₁_; clear h₁_; refine goes_oper_k rfl rfl (by k_ne) (fun K_ hK_ => ?_); go_simp; refine hK_ _ _ ⟨?_, ?_⟩; (focus (refine de_none ?_; intro e he; have hm := mem_listed he; simp [go_sem, *] at hm)); clear hK_ K_; try w_num)
    (refine Goes.step rfl (fun _ h₁_ => ?_); replace hF := F5.at_ hF h₁_; clear h₁_; rw [stepG_region_end]; simp only [goes_go]; refine ⟨by (refine de_none ?_; intro e he; simp at he), ?_⟩)
    (refine Goes.step rfl (fun _ h₁_ => ?_); replace hF := F5.at_ hF h₁_; clear h₁_; rw [stepG_seq]; simp only [goes_go]; refine ⟨by (refine de_none ?_; intro e he; simp at he), ?_⟩)
    (refine Goes.step rfl (fun _ h₁_ => ?_); replace hF := F5.at_ hF h₁_; clear h₁_; rw [stepG_cond (t := true) rfl]; simp only [goes_go, if_true, if_false, Bool.false_eq_true, ↓reduceIte]; refine ⟨by (refine de_none ?_; intro e he; simp at he), ?_⟩)
    (refine Goes.step rfl (fun _ h₁_ => ?_); replace hF := F5.at_ hF h₁_; clear h₁_; rw [stepG_skip]; simp only [goes_go]; refine ⟨by (refine de_none ?_; intro e he; simp at he), ?_⟩)
    (refine Goes.step rfl (fun _ h₁_ => ?_); replace hF := F5.at_ hF h₁_; clear h₁_; rw [stepG_seq]; simp only [goes_go]; refine ⟨by (refine de_none ?_; intro e he; simp at he), ?_⟩)
    (refine Goes.step rfl (fun _ h₁_ => ?_); replace hF := F5.at_ hF h₁_; clear h₁_; rw [stepG_block]; simp only [goes_go]; refine ⟨by (refine de_none ?_; intro e he; simp at he), ?_⟩)
    (refine Goes.step rfl (fun _ h₁_ => ?_); replace hF := F5.at_ hF h₁_; clear h₁_; rw [stepG_seq]; simp only [goes_go]; refine ⟨by (refine de_none ?_; intro e he; simp at he), ?_⟩)
    (refine Goes.step rfl (fun _ h₁_ => ?_); replace hF := F5.at_ hF h₁_; clear h₁_; rw [stepG_region]; simp only [goes_go, List.size_toArray, List.length_cons, List.length_nil, Nat.reduceAdd, Nat.zero_add, List.range, List.range.loop]; refine ⟨by (refine de_none ?_; intro e he; simp at he), ?_⟩)
    (refine Goes.step rfl (fun _ h₁_ => ?_); replace hF := F5.at_ hF h₁_; clear h₁_; refine goes_oper_k rfl rfl (by k_ne) (fun K_ hK_ => ?_); go_simp; refine hK_ _ _ ⟨?_, ?_⟩; (focus (refine de_none ?_; intro e he; have hm := mem_listed he; simp [go_sem, *] at hm)); clear hK_ K_; try w_num)
    (refine Goes.step rfl (fun _ h₁_ => ?_); replace hF := F5.at_ hF h₁_; clear h₁_; refine goes_oper_k rfl rfl (by k_ne) (fun K_ hK_ => ?_); go_simp; refine hK_ _ _ ⟨?_, ?_⟩; (focus (refine de_none ?_; intro e he; have hm := mem_listed he; simp [go_sem, *] at hm)); clear hK_ K_; try w_num)
    (refine Goes.step rfl (fun _ h₁_ => ?_); replace hF := F5.at_ hF h₁_; clear h₁_; rw [stepG_region_end]; simp only [goes_go]; refine ⟨by (refine de_none ?_; intro e he; simp at he), ?_⟩)
    (refine Goes.step rfl (fun _ h₁_ => ?_); replace hF := F5.at_ hF h₁_; clear h₁_; rw [stepG_seq]; simp only [goes_go]; refine ⟨by (refine de_none ?_; intro e he; simp at he), ?_⟩)
    (refine Goes.step rfl (fun _ h₁_ => ?_); replace hF := F5.at_ hF h₁_; clear h₁_; rw [stepG_region]; simp only [goes_go, List.size_toArray, List.length_cons, List.length_nil, Nat.reduceAdd, Nat.zero_add, List.range, List.range.loop]; refine ⟨by (refine de_none ?_; intro e he; simp at he), ?_⟩)
    (refine Goes.step rfl (fun _ h₁_ => ?_); replace hF := F5.at_ hF h₁_; clear h₁_; refine goes_oper_k rfl rfl (by decide) (fun K_ hK_ => ?_); have hf0_ := (hF.seen.box); go_simp; refine hK_ _ _ ⟨de_of (fun e he => ?_), ?_⟩; (focus (have hm := mem_listed he; simp [go_sem, storedEv, *] at hm; try (subst hm; exact (evL_cell _ _ (hSb _ rfl) (by simp; omega))))); clear hK_ K_ hf0_)
    (refine Goes.step rfl (fun _ h₁_ => ?_); replace hF := F5.at_ hF h₁_; clear h₁_; refine goes_oper_k rfl rfl (by k_ne) (fun K_ hK_ => ?_); go_simp; refine hK_ _ _ ⟨?_, ?_⟩; (focus (refine de_none ?_; intro e he; have hm := mem_listed he; simp [go_sem, *] at hm)); clear hK_ K_; try w_num)
    (refine Goes.step rfl (fun _ h₁_ => ?_); replace hF := F5.at_ hF h₁_; clear h₁_; refine goes_oper_k rfl rfl (by k_ne) (fun K_ hK_ => ?_); go_simp; refine hK_ _ _ ⟨?_, ?_⟩; (focus (refine de_none ?_; intro e he; have hm := mem_listed he; simp [go_sem, *] at hm)); clear hK_ K_; try w_num)
    (refine Goes.step rfl (fun _ h₁_ => ?_); replace hF := F5.at_ hF h₁_; clear h₁_; refine goes_oper_k rfl rfl (by decide) (fun K_ hK_ => ?_); have hf0_ := (hF.one hkJ); go_simp; refine hK_ _ _ ⟨de_of (fun e he => ?_), ?_⟩; (focus (have hm := mem_listed he; simp [go_sem, storedEv, *] at hm; try (subst hm; exact (evL_cell _ _ (hSs _ rfl) (by simp; omega))))); clear hK_ K_ hf0_)
    (refine Goes.step rfl (fun _ h₁_ => ?_); replace hF := F5.at_ hF h₁_; clear h₁_; refine goes_oper_k rfl rfl (by k_ne) (fun K_ hK_ => ?_); go_simp; refine hK_ _ _ ⟨?_, ?_⟩; (focus (refine de_none ?_; intro e he; have hm := mem_listed he; simp [go_sem, *] at hm)); clear hK_ K_; try w_num)
    (refine Goes.step rfl (fun _ h₁_ => ?_); replace hF := F5.at_ hF h₁_; clear h₁_; rw [stepG_region_end]; simp only [goes_go]; refine ⟨by (refine de_none ?_; intro e he; simp at he), ?_⟩)
    (refine Goes.step rfl (fun _ h₁_ => ?_); replace hF := F5.at_ hF h₁_; clear h₁_; rw [stepG_cond (t := false) rfl]; simp only [goes_go, if_true, if_false, Bool.false_eq_true, ↓reduceIte]; refine ⟨by (refine de_none ?_; intro e he; simp at he), ?_⟩)
    (refine Goes.step rfl (fun _ h₁_ => ?_); replace hF := F5.at_ hF h₁_; clear h₁_; rw [stepG_skip]; simp only [goes_go]; refine ⟨by (refine de_none ?_; intro e he; simp at he), ?_⟩)
    (refine Goes.step rfl (fun _ h₁_ => ?_); replace hF := F5.at_ hF h₁_; clear h₁_; rw [stepG_inBlock]; simp only [goes_go]; refine ⟨by (refine de_none ?_; intro e he; simp at he), ?_⟩)
    (refine Goes.step rfl (fun _ h₁_ => ?_); replace hF := F5.at_ hF h₁_; clear h₁_; rw [stepG_region]; simp only [goes_go, List.size_toArray, List.length_cons, List.length_nil, Nat.reduceAdd, Nat.zero_add, List.range, List.range.loop]; refine ⟨by (refine de_none ?_; intro e he; simp at he), ?_⟩)
    (refine Goes.step rfl (fun _ h₁_ => ?_); replace hF := F5.at_ hF h₁_; clear h₁_; refine goes_oper_k rfl rfl (by k_ne) (fun K_ hK_ => ?_); go_simp; refine hK_ _ _ ⟨?_, ?_⟩; (focus (refine de_none ?_; intro e he; have hm := mem_listed he; simp [go_sem, *] at hm)); clear hK_ K_; try w_num)
    (refine Goes.step rfl (fun _ h₁_ => ?_); replace hF := F5.at_ hF h₁_; clear h₁_; refine goes_oper_k rfl rfl (by k_ne) (fun K_ hK_ => ?_); go_simp; refine hK_ _ _ ⟨?_, ?_⟩; (focus (refine de_none ?_; intro e he; have hm := mem_listed he; simp [go_sem, *] at hm)); clear hK_ K_; try w_num)
    (refine Goes.step rfl (fun _ h₁_ => ?_); replace hF := F5.at_ hF h₁_; clear h₁_; rw [stepG_region_end]; simp only [goes_go]; refine ⟨by (refine de_none ?_; intro e he; simp at he), ?_⟩)
    (refine Goes.step rfl (fun _ h₁_ => ?_); replace hF := F5.at_ hF h₁_; clear h₁_; rw [stepG_inLoop]; simp only [goes_go]; refine ⟨by (refine de_none ?_; intro e he; simp at he), ?_⟩)
    have hi : _ := fun {v1 v2 v3 v5 v6 v10 v11 v12 v13 v14 v15 v16 v17 v18 v19 v20 v21 v22 v23 v24 v25 v26 v27 v28 v29 v30 v31 v32 v33 v34 v35 v36 v37 v38 v39 v40 v43 v44 v45 v46 v47 v48 v49 v50 v51 v52 v53 v54 v55 v56 v57 v58 : Value} {w : World} => @ih (k + 1) (by omega) v1 v2 v3 v5 v6 v10 v11 v12 v13 v14 v15 v16 v17 v18 v19 v20 v21 v22 v23 v24 v25 v26 v27 v28 v29 v30 v31 v32 v33 v34 v35 v36 v37 v38 v39 v40 v43 v44 v45 v46 v47 v48 v49 v50 v51 v52 v53 v54 v55 v56 v57 v58 w
    have ec : (((k + 1 : Nat)) : Int) = (k : Int) + 1 := by omega
    simp only [L52, C512, C511, C510, C54, C51, body5, Try.f5, Option.getD_some, ec] at hi
    refine Goes.mono (n := 40 + d * 50) ?_ (by omega)
    have hw : IntKind.i64.wrap ((k : Int) + 1) = (k : Int) + 1 := by rw [IntKind.wrap_i64]; omega
    simp only [hw]
    exact hi hF

set_option maxRecDepth 100000 in
set_option maxHeartbeats 4000000 in
/-- Run has answered -/
theorem good5 {Post : Value → World → Prop} (hpost : ∀ w, Below W.heap.size W w → Post (.bool true) w) {N₁ bb sb m O tl tc : Nat} {ta : Option Addr} (hm : m ≤ 99) (hSb : ∀ a : Addr, a.block = bb → ¬ Shun (.cell a)) (hSs : ∀ a : Addr, a.block = sb → ¬ Shun (.cell a)) (hbB : bb < B) (hsB : sb < B) {T : Array Value} (hT : Sl5 N₁ m bb tl tc ta T) {w : World} (hF : F5 W bb sb m w) :
    Goes Try.prog true AtRel (DE (EvL Shun B)) (AtEnd Try.prog Shun B Post) (40 + m * 50 + 40) (G ((base 5).at ((⟨T, []⟩ : Act).put ((R11ops5[5]?).bind (·.dst)) (.tuple #[.slice (some ⟨O, 0, none⟩) m m, .int .i64 0])) (.inRegion R11ops5 [6, 7, 8, 9, 10] :: [.code C512])) []) w := by
  have e : (R11ops5[5]?).bind (·.dst) = some 37 := rfl
  rw [e]
  obtain ⟨hsz, t0, t4, t7⟩ := hT
  revert t0 t4 t7
  revert hsz
  revert T
  refine @by59 _ ?_
  intro v0 v1 v2 v3 v4 v5 v6 v7 v8 v9 v10 v11 v12 v13 v14 v15 v16 v17 v18 v19 v20 v21 v22 v23 v24 v25 v26 v27 v28 v29 v30 v31 v32 v33 v34 v35 v36 v37 v38 v39 v40 v41 v42 v43 v44 v45 v46 v47 v48 v49 v50 v51 v52 v53 v54 v55 v56 v57 v58 t0 t4 t7
  simp only [List.getElem?_toArray, List.getElem?_cons_succ, List.getElem?_cons_zero, Option.some.injEq] at t0 t4 t7
  subst t0 t4 t7
  simp only [R11ops5, C512, C511, C510, C54, C51, body5, Try.f5, Option.getD_some, Act.put, List.setIfInBounds_toArray, List.set_cons_succ, List.set_cons_zero]
  (refine Goes.step rfl (fun _ h₁_ => ?_); replace hF := F5.at_ hF h₁_; clear h₁_; refine goes_oper_k rfl rfl (by k_ne) (fun K_ hK_ => ?_); go_simp; refine hK_ _ _ ⟨?_, ?_⟩; (focus (refine de_none ?_; intro e he; have hm := mem_listed he; simp [go_sem, *] at hm)); clear hK_ K_; try w_num)
  (refine Goes.step rfl (fun _ h₁_ => ?_); replace hF := F5.at_ hF h₁_; clear h₁_; refine goes_oper_k rfl rfl (by k_ne) (fun K_ hK_ => ?_); go_simp; refine hK_ _ _ ⟨?_, ?_⟩; (focus (refine de_none ?_; intro e he; have hm := mem_listed he; simp [go_sem, *] at hm)); clear hK_ K_; try w_num)
  (refine Goes.step rfl (fun _ h₁_ => ?_); replace hF := F5.at_ hF h₁_; clear h₁_; refine goes_oper_k rfl rfl (by k_ne) (fun K_ hK_ => ?_); go_simp; refine hK_ _ _ ⟨?_, ?_⟩; (focus (refine de_none ?_; intro e he; have hm := mem_listed he; simp [go_sem, *] at hm)); clear hK_ K_; try w_num)
  (refine Goes.step rfl (fun _ h₁_ => ?_); replace hF := F5.at_ hF h₁_; clear h₁_; refine goes_oper_k rfl rfl (by k_ne) (fun K_ hK_ => ?_); go_simp; refine hK_ _ _ ⟨?_, ?_⟩; (focus (refine de_none ?_; intro e he; have hm := mem_listed he; simp [go_sem, *] at hm)); clear hK_ K_; try w_num)
  (refine Goes.step rfl (fun _ h₁_ => ?_); replace hF := F5.at_ hF h₁_; clear h₁_; refine goes_oper_k rfl rfl (by k_ne) (fun K_ hK_ => ?_); go_simp; refine hK_ _ _ ⟨?_, ?_⟩; (focus (refine de_none ?_; intro e he; have hm := mem_listed he; simp [go_sem, *] at hm)); clear hK_ K_; try w_num)
  (refine Goes.step rfl (fun _ h₁_ => ?_); replace hF := F5.at_ hF h₁_; clear h₁_; rw [stepG_region_end]; simp only [goes_go]; refine ⟨by (refine de_none ?_; intro e he; simp at he), ?_⟩)
  (refine Goes.step rfl (fun _ h₁_ => ?_); replace hF := F5.at_ hF h₁_; clear h₁_; rw [stepG_seq]; simp only [goes_go]; refine ⟨by (refine de_none ?_; intro e he; simp at he), ?_⟩)
  (refine Goes.step rfl (fun _ h₁_ => ?_); replace hF := F5.at_ hF h₁_; clear h₁_; rw [stepG_seq]; simp only [goes_go]; refine ⟨by (refine de_none ?_; intro e he; simp at he), ?_⟩)
  (refine Goes.step rfl (fun _ h₁_ => ?_); replace hF := F5.at_ hF h₁_; clear h₁_; rw [stepG_region]; simp only [goes_go, List.size_toArray, List.length_cons, List.length_nil, Nat.reduceAdd, Nat.zero_add, List.range, List.range.loop]; refine ⟨by (refine de_none ?_; intro e he; simp at he), ?_⟩)
  (refine Goes.step rfl (fun _ h₁_ => ?_); replace hF := F5.at_ hF h₁_; clear h₁_; refine goes_oper_k rfl rfl (by decide) (fun K_ hK_ => ?_); have hf0_ := (hF.seen.box); go_simp; refine hK_ _ _ ⟨de_of (fun e he => ?_), ?_⟩; (focus (have hm := mem_listed he; simp [go_sem, storedEv, *] at hm; try (subst hm; exact (evL_cell _ _ (hSb _ rfl) (by simp; omega))))); clear hK_ K_ hf0_)
  (refine Goes.step rfl (fun _ h₁_ => ?_); replace hF := F5.at_ hF h₁_; clear h₁_; refine goes_oper_k rfl rfl (by k_ne) (fun K_ hK_ => ?_); go_simp; refine hK_ _ _ ⟨?_, ?_⟩; (focus (refine de_none ?_; intro e he; have hm := mem_listed he; simp [go_sem, *] at hm)); clear hK_ K_; try w_num)
  (refine Goes.step rfl (fun _ h₁_ => ?_); replace hF := F5.at_ hF h₁_; clear h₁_; refine goes_oper_k rfl rfl (by k_ne) (fun K_ hK_ => ?_); go_simp; refine hK_ _ _ ⟨?_, ?_⟩; (focus (refine de_none ?_; intro e he; have hm := mem_listed he; simp [go_sem, *] at hm)); clear hK_ K_; try w_num)
  (refine Goes.step rfl (fun _ h₁_ => ?_); replace hF := F5.at_ hF h₁_; clear h₁_; rw [stepG_region_end]; simp only [goes_go]; refine ⟨by (refine de_none ?_; intro e he; simp at he), ?_⟩)
  (refine Goes.step rfl (fun _ h₁_ => ?_); replace hF := F5.at_ hF h₁_; clear h₁_; rw [stepG_block]; simp only [goes_go]; refine ⟨by (refine de_none ?_; intro e he; simp at he), ?_⟩)
  (refine Goes.step rfl (fun _ h₁_ => ?_); replace hF := F5.at_ hF h₁_; clear h₁_; rw [stepG_loop]; simp only [goes_go]; refine ⟨by (refine de_none ?_; intro e he; simp at he), ?_⟩)
  have hl : _ := fun {v1 v2 v3 v5 v6 v10 v11 v12 v13 v14 v15 v16 v17 v18 v19 v20 v21 v22 v23 v24 v25 v26 v27 v28 v29 v30 v31 v32 v33 v34 v35 v36 v37 v38 v39 v40 v43 v44 v45 v46 v47 v48 v49 v50 v51 v52 v53 v54 v55 v56 v57 v58 : Value} => @loop5b Shun B W Post hpost bb sb m O hm hSb hSs hbB hsB m 0 (by omega) v1 v2 v3 v5 v6 v10 v11 v12 v13 v14 v15 v16 v17 v18 v19 v20 v21 v22 v23 v24 v25 v26 v27 v28 v29 v30 v31 v32 v33 v34 v35 v36 v37 v38 v39 v40 v43 v44 v45 v46 v47 v48 v49 v50 v51 v52 v53 v54 v55 v56 v57 v58 _ hF
  simp only [L52, C518, C512, C511, C510, C54, C51, body5, Try.f5, Option.getD_some, Int.ofNat_zero, Int.cast_ofNat_Int, Int.natCast_zero] at hl
  exact Goes.mono (n := 40 + m * 50) hl (by omega)
end
end Go.Proofs.Ytngnkdedfcnfkaa

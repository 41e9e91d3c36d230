/-
  lantern/lanternlaw20.PoolOnce (function 5): its walks from its entry to its call of Run. (Printed by tools/pql_gen.py.)
-/
import Derived.Test.YtngnkdedfcnfkaaPqC
import Derived.Test.YtngnkdedfcnfkaaPqK
import Derived.Laws.MakeOwn
set_option linter.unusedSimpArgs false
set_option linter.unusedVariables false
namespace Go.Proofs.Ytngnkdedfcnfkaa
open Go Go.Conc Go.RowKit Go.Conc.Lib Go.ConcR.Gen Go.ConcN.Gen

/-- how many jobs the law makes -/
def mk5 (n : Int) : Nat := (Int.tmod (n % 18446744073709551616) 100).toNat
theorem mk5_eq (n : Int) : IntKind.i64.wrap (Int.tmod (n % 18446744073709551616) 100) = (mk5 n : Int) := by
  have h1 := Int.tmod_nonneg (100 : Int) (a := n % 18446744073709551616) (by omega)
  have h2 := Int.tmod_lt_of_pos (n % 18446744073709551616) (b := 100) (by omega)
  unfold mk5
  rw [IntKind.wrap_i64]
  omega
theorem mk5_hi (n : Int) : mk5 n ≤ 99 := by
  have h2 := Int.tmod_lt_of_pos (n % 18446744073709551616) (b := 100) (by omega)
  unfold mk5
  omega

/-- the jobs' row, k of its places laid -/
structure J5 (W : World) (N₁ m k : Nat) (ta : Option Addr) (tl : Nat) (ft : Nat → Value) (w : World) : Prop where
  below : Below W.heap.size W w
  src : SrcV w ta tl W.heap.size ft
  size : w.heap.size = N₁ + 1
  row : ∃ cur : Array Value, w.heap[N₁]? = some (.cells cur 3) ∧ cur.size = m ∧ ∀ i, i < k → cur[i]? = some (.int .i64 i)
section
variable {W w w' : World} {N₁ m k tl : Nat} {ta : Option Addr} {ft : Nat → Value}
theorem J5.at_ (h : J5 W N₁ m k ta tl ft w) (r : AtRel w w') : J5 W N₁ m k ta tl ft w' := by
  obtain ⟨d, rfl⟩ := r
  exact ⟨Below.at_ h.below ⟨d, rfl⟩, ⟨h.src.nil, h.src.blk, h.src.cell, h.src.one⟩, h.size, h.row⟩
theorem J5.cell (h : J5 W N₁ m k ta tl ft w) (hk : k < m) : ∃ v, w.cell? ⟨N₁, k, none⟩ = some v := by
  obtain ⟨cur, h1, h2, h3⟩ := h.row
  exact ⟨cur[k]'(by omega), by simp [World.cell?, h1, h2, hk]⟩
theorem J5.free (h : J5 W N₁ m k ta tl ft w) (i : Nat) : w.frozen? ⟨N₁, i, none⟩ = false := by
  obtain ⟨cur, h1, h2, h3⟩ := h.row
  simp [World.frozen?, h1]
theorem J5.lay (hN : W.heap.size ≤ N₁) (h : J5 W N₁ m k ta tl ft w) (hk : k < m) : J5 W N₁ m (k + 1) ta tl ft (w.setCell ⟨N₁, k, none⟩ (.int .i64 k)) := by
  obtain ⟨cur, h1, h2, h3⟩ := h.row
  have hb : Below W.heap.size W (w.setCell ⟨N₁, k, none⟩ (.int .i64 k)) := h.below.setCell hN (.int .i64 k)
  refine ⟨hb, ?_, by simp [h.size], cur.set! k (.int .i64 k), by simp [World.setCell, Array.getElem?_modify, h1], by simp [h2], fun i hi => ?_⟩
  · exact h.src.below (Below.setCell (Below.refl _ _) hN _)
  · by_cases e : i = k
    · subst e; simp [h2, hk]
    · rw [Array.set!_eq_setIfInBounds, Array.getElem?_setIfInBounds_ne (by omega)]
      exact h3 i (by omega)
end
noncomputable def body5 : Code := Try.f5.body.getD .skip
noncomputable def R1ops5 : Array Oper := match body5 with | .seq _ (.seq (.seq (.region _ ops _) _) _) => ops | _ => #[]
noncomputable def E51 : Code := match body5 with | .seq _ (.seq (.seq _ c) _) => c | _ => .skip
noncomputable def C51 : Code := match body5 with | .seq _ (.seq _ c) => c | _ => .skip
noncomputable def C54 : Code := match C51 with | .seq _ (.seq _ c) => c | _ => .skip
noncomputable def L51 : Code := match C54 with | .seq (.seq _ (.block _ (.loop c))) _ => c | _ => .skip
noncomputable def C510 : Code := match C54 with | .seq _ c => c | _ => .skip
noncomputable def C511 : Code := match C510 with | .seq _ c => c | _ => .skip
noncomputable def R11ops5 : Array Oper := match C511 with | .seq (.region _ ops _) _ => ops | _ => #[]
noncomputable def C512 : Code := match C511 with | .seq _ c => c | _ => .skip
/-- the frame while Awake is under way -/
noncomputable def a51 (nv tv : Value) : Act := ⟨(nv :: tv :: undef :: undef :: .bool false :: List.replicate 54 undef).toArray, []⟩
set_option maxRecDepth 100000 in
theorem by59 {P : Array Value → Prop} (h : ∀ v0 v1 v2 v3 v4 v5 v6 v7 v8 v9 v10 v11 v12 v13 v14 v15 v16 v17 v18 v19 v20 v21 v22 v23 v24 v25 v26 v27 v28 v29 v30 v31 v32 v33 v34 v35 v36 v37 v38 v39 v40 v41 v42 v43 v44 v45 v46 v47 v48 v49 v50 v51 v52 v53 v54 v55 v56 v57 v58 : Value, P (v0 :: v1 :: v2 :: v3 :: v4 :: v5 :: v6 :: v7 :: v8 :: v9 :: v10 :: v11 :: v12 :: v13 :: v14 :: v15 :: v16 :: v17 :: v18 :: v19 :: v20 :: v21 :: v22 :: v23 :: v24 :: v25 :: v26 :: v27 :: v28 :: v29 :: v30 :: v31 :: v32 :: v33 :: v34 :: v35 :: v36 :: v37 :: v38 :: v39 :: v40 :: v41 :: v42 :: v43 :: v44 :: v45 :: v46 :: v47 :: v48 :: v49 :: v50 :: v51 :: v52 :: v53 :: v54 :: v55 :: v56 :: v57 :: v58 :: []).toArray) : ∀ T : Array Value, T.size = 59 → P T := by
  rintro ⟨l⟩ hl
  simp only [List.size_toArray] at hl
  rcases l with _ | ⟨v0, l⟩
  · simp at hl
  rcases l with _ | ⟨v1, l⟩
  · simp at hl
  rcases l with _ | ⟨v2, l⟩
  · simp at hl
  rcases l with _ | ⟨v3, l⟩
  · simp at hl
  rcases l with _ | ⟨v4, l⟩
  · simp at hl
  rcases l with _ | ⟨v5, l⟩
  · simp at hl
  rcases l with _ | ⟨v6, l⟩
  · simp at hl
  rcases l with _ | ⟨v7, l⟩
  · simp at hl
  rcases l with _ | ⟨v8, l⟩
  · simp at hl
  rcases l with _ | ⟨v9, l⟩
  · simp at hl
  rcases l with _ | ⟨v10, l⟩
  · simp at hl
  rcases l with _ | ⟨v11, l⟩
  · simp at hl
  rcases l with _ | ⟨v12, l⟩
  · simp at hl
  rcases l with _ | ⟨v13, l⟩
  · simp at hl
  rcases l with _ | ⟨v14, l⟩
  · simp at hl
  rcases l with _ | ⟨v15, l⟩
  · simp at hl
  rcases l with _ | ⟨v16, l⟩
  · simp at hl
  rcases l with _ | ⟨v17, l⟩
  · simp at hl
  rcases l with _ | ⟨v18, l⟩
  · simp at hl
  rcases l with _ | ⟨v19, l⟩
  · simp at hl
  rcases l with _ | ⟨v20, l⟩
  · simp at hl
  rcases l with _ | ⟨v21, l⟩
  · simp at hl
  rcases l with _ | ⟨v22, l⟩
  · simp at hl
  rcases l with _ | ⟨v23, l⟩
  · simp at hl
  rcases l with _ | ⟨v24, l⟩
  · simp at hl
  rcases l with _ | ⟨v25, l⟩
  · simp at hl
  rcases l with _ | ⟨v26, l⟩
  · simp at hl
  rcases l with _ | ⟨v27, l⟩
  · simp at hl
  rcases l with _ | ⟨v28, l⟩
  · simp at hl
  rcases l with _ | ⟨v29, l⟩
  · simp at hl
  rcases l with _ | ⟨v30, l⟩
  · simp at hl
  rcases l with _ | ⟨v31, l⟩
  · simp at hl
  rcases l with _ | ⟨v32, l⟩
  · simp at hl
  rcases l with _ | ⟨v33, l⟩
  · simp at hl
  rcases l with _ | ⟨v34, l⟩
  · simp at hl
  rcases l with _ | ⟨v35, l⟩
  · simp at hl
  rcases l with _ | ⟨v36, l⟩
  · simp at hl
  rcases l with _ | ⟨v37, l⟩
  · simp at hl
  rcases l with _ | ⟨v38, l⟩
  · simp at hl
  rcases l with _ | ⟨v39, l⟩
  · simp at hl
  rcases l with _ | ⟨v40, l⟩
  · simp at hl
  rcases l with _ | ⟨v41, l⟩
  · simp at hl
  rcases l with _ | ⟨v42, l⟩
  · simp at hl
  rcases l with _ | ⟨v43, l⟩
  · simp at hl
  rcases l with _ | ⟨v44, l⟩
  · simp at hl
  rcases l with _ | ⟨v45, l⟩
  · simp at hl
  rcases l with _ | ⟨v46, l⟩
  · simp at hl
  rcases l with _ | ⟨v47, l⟩
  · simp at hl
  rcases l with _ | ⟨v48, l⟩
  · simp at hl
  rcases l with _ | ⟨v49, l⟩
  · simp at hl
  rcases l with _ | ⟨v50, l⟩
  · simp at hl
  rcases l with _ | ⟨v51, l⟩
  · simp at hl
  rcases l with _ | ⟨v52, l⟩
  · simp at hl
  rcases l with _ | ⟨v53, l⟩
  · simp at hl
  rcases l with _ | ⟨v54, l⟩
  · simp at hl
  rcases l with _ | ⟨v55, l⟩
  · simp at hl
  rcases l with _ | ⟨v56, l⟩
  · simp at hl
  rcases l with _ | ⟨v57, l⟩
  · simp at hl
  rcases l with _ | ⟨v58, l⟩
  · simp at hl
  rcases l with _ | ⟨x, l⟩
  · exact h v0 v1 v2 v3 v4 v5 v6 v7 v8 v9 v10 v11 v12 v13 v14 v15 v16 v17 v18 v19 v20 v21 v22 v23 v24 v25 v26 v27 v28 v29 v30 v31 v32 v33 v34 v35 v36 v37 v38 v39 v40 v41 v42 v43 v44 v45 v46 v47 v48 v49 v50 v51 v52 v53 v54 v55 v56 v57 v58
  · simp at hl

section
variable {Shun : Loc → Prop} {B : Nat} {W : World} {nv tv : Value}
set_option maxRecDepth 100000 in
theorem law5a : Goes Try.prog true AtRel (DE (EvL Shun B)) (fun g w => g = gAwake ((base 5).at (a51 nv tv) (.inRegion R1ops5 [0, 1] :: [.code E51, .code C51]) :: []) ∧ AtRel W w) 12
    (G ((base 5).at ⟨(nv :: tv :: List.replicate 57 undef).toArray, []⟩ [.code body5]) []) W := by
  have hF : AtRel W W := atRel_refl W
  simp only [body5, Try.f5, Option.getD_some, List.replicate]
  (refine Goes.step rfl (fun _ h₁_ => ?_); replace hF := at_rl hF h₁_; clear h₁_; rw [stepG_seq]; simp only [goes_go]; refine ⟨by (refine de_none ?_; intro e he; simp at he), ?_⟩)
  (refine Goes.step rfl (fun _ h₁_ => ?_); replace hF := at_rl hF h₁_; clear h₁_; rw [stepG_region]; simp only [goes_go, List.size_toArray, List.length_cons, List.length_nil, Nat.reduceAdd, Nat.zero_add, List.range, List.range.loop]; refine ⟨by (refine de_none ?_; intro e he; simp at he), ?_⟩)
  (refine Goes.step rfl (fun _ h₁_ => ?_); replace hF := at_rl hF h₁_; clear h₁_; refine goes_oper_k rfl rfl (by k_ne) (fun K_ hK_ => ?_); go_simp; refine hK_ _ _ ⟨?_, ?_⟩; (focus (refine de_none ?_; intro e he; have hm := mem_listed he; simp [go_sem, *] at hm)); clear hK_ K_; try w_num)
  (refine Goes.step rfl (fun _ h₁_ => ?_); replace hF := at_rl hF h₁_; clear h₁_; rw [stepG_region_end]; simp only [goes_go]; refine ⟨by (refine de_none ?_; intro e he; simp at he), ?_⟩)
  (refine Goes.step rfl (fun _ h₁_ => ?_); replace hF := at_rl hF h₁_; clear h₁_; rw [stepG_seq]; simp only [goes_go]; refine ⟨by (refine de_none ?_; intro e he; simp at he), ?_⟩)
  (refine Goes.step rfl (fun _ h₁_ => ?_); replace hF := at_rl hF h₁_; clear h₁_; rw [stepG_seq]; simp only [goes_go]; refine ⟨by (refine de_none ?_; intro e he; simp at he), ?_⟩)
  (refine Goes.step rfl (fun _ h₁_ => ?_); replace hF := at_rl hF h₁_; clear h₁_; rw [stepG_region]; simp only [goes_go, List.size_toArray, List.length_cons, List.length_nil, Nat.reduceAdd, Nat.zero_add, List.range, List.range.loop]; refine ⟨by (refine de_none ?_; intro e he; simp at he), ?_⟩)
  (refine Goes.step rfl (fun _ h₁_ => ?_); replace hF := at_rl hF h₁_; clear h₁_)
  refine goes_call rfl rfl (by k_ne) rfl Try.func7 nm7 rfl ⟨by (refine de_none ?_; intro e he; simp at he), ?_⟩
  refine Goes.stop (fun w₁ h₁ => ⟨?_, at_rl hF h₁⟩)
  simp only [gAwake, body7, a51, R1ops5, E51, C51, body5, Try.f5, Try.f7, Option.getD_some, List.replicate, Array.replicate, Act.eval, List.map_toArray, List.map_cons, List.map_nil, List.append_toArray, List.nil_append, List.size_toArray, List.length_nil, Nat.reduceSub, Nat.sub_zero]

set_option maxRecDepth 100000 in
set_option maxHeartbeats 4000000 in
/-- the jobs are laid -/
theorem loop5a {N₁ m tl tc mm : Nat} {ta : Option Addr} {ft : Nat → Value} {Stop : Goroutine → World → Prop} (hN : W.heap.size ≤ N₁) (hm : m ≤ 99) (hS : ∀ a : Addr, N₁ ≤ a.block → ¬ Shun (.cell a)) (hB : N₁ + 4 ≤ B)
    (next : ∀ {v2 v3 v6 v7 v8 v9 v10 v11 v12 v13 v14 v15 v16 v17 v18 v19 v20 v21 v22 v23 v24 v25 v26 v27 v28 v29 v30 v31 v32 v33 v34 v35 v36 v37 v38 v39 v40 v41 v42 v43 v44 v45 v46 v47 v48 v49 v50 v51 v52 v53 v54 v55 v56 v57 v58 : Value} {w : World}, J5 W N₁ m m ta tl ft w → Goes Try.prog true AtRel (DE (EvL Shun B)) Stop mm (G ((base 5).at ⟨((.int .i64 m) :: (.slice ta tl tc) :: v2 :: v3 :: (.bool false) :: (.slice (some ⟨N₁, 0, none⟩) m m) :: v6 :: v7 :: v8 :: v9 :: v10 :: v11 :: v12 :: v13 :: v14 :: v15 :: v16 :: v17 :: v18 :: v19 :: v20 :: v21 :: v22 :: v23 :: v24 :: v25 :: v26 :: v27 :: v28 :: v29 :: v30 :: v31 :: v32 :: v33 :: v34 :: v35 :: v36 :: v37 :: v38 :: v39 :: v40 :: v41 :: v42 :: v43 :: v44 :: v45 :: v46 :: v47 :: v48 :: v49 :: v50 :: v51 :: v52 :: v53 :: v54 :: v55 :: v56 :: v57 :: v58 :: []).toArray, []⟩ [.code C510]) []) w) :
    ∀ (d k : Nat), k + d = m → ∀ {v2 v3 v6 v7 v8 v9 v10 v11 v12 v13 v14 v15 v16 v17 v18 v19 v22 v23 v24 v25 v26 v27 v28 v29 v30 v31 v32 v33 v34 v35 v36 v37 v38 v39 v40 v41 v42 v43 v44 v45 v46 v47 v48 v49 v50 v51 v52 v53 v54 v55 v56 v57 v58 : Value} {w : World}, J5 W N₁ m k ta tl ft w →
      Goes Try.prog true AtRel (DE (EvL Shun B)) Stop (mm + 10 + d * 40) (G ((base 5).at ⟨((.int .i64 m) :: (.slice ta tl tc) :: v2 :: v3 :: (.bool false) :: (.slice (some ⟨N₁, 0, none⟩) m m) :: v6 :: v7 :: v8 :: v9 :: v10 :: v11 :: v12 :: v13 :: v14 :: v15 :: v16 :: v17 :: v18 :: v19 :: (.int .i64 m) :: (.int .i64 k) :: v22 :: v23 :: v24 :: v25 :: v26 :: v27 :: v28 :: v29 :: v30 :: v31 :: v32 :: v33 :: v34 :: v35 :: v36 :: v37 :: v38 :: v39 :: v40 :: v41 :: v42 :: v43 :: v44 :: v45 :: v46 :: v47 :: v48 :: v49 :: v50 :: v51 :: v52 :: v53 :: v54 :: v55 :: v56 :: v57 :: v58 :: []).toArray, []⟩ [.code L51, .inLoop L51, .inBlock 0, .code C510]) []) w := by
  intro d
  induction d with
  | zero =>
    intro k hk v2 v3 v6 v7 v8 v9 v10 v11 v12 v13 v14 v15 v16 v17 v18 v19 v22 v23 v24 v25 v26 v27 v28 v29 v30 v31 v32 v33 v34 v35 v36 v37 v38 v39 v40 v41 v42 v43 v44 v45 v46 v47 v48 v49 v50 v51 v52 v53 v54 v55 v56 v57 v58 w hF
    have hd : decide ((k : Int) < (m : Int)) = false := decide_eq_false (by omega)
    have hd2 : decide (k < m) = false := decide_eq_false (by omega)
    have hd3 : ¬ k < m := by omega
    obtain rfl : k = m := by omega
    simp only [L51, C510, C54, C51, body5, Try.f5, Option.getD_some]
    (refine Goes.step rfl (fun _ h₁_ => ?_); replace hF := J5.at_ hF h₁_; clear h₁_; rw [stepG_seq]; simp only [goes_go]; refine ⟨by (refine de_none ?_; intro e he; simp at he), ?_⟩)
    (refine Goes.step rfl (fun _ h₁_ => ?_); replace hF := J5.at_ hF h₁_; clear h₁_; rw [stepG_region]; simp only [goes_go, List.size_toArray, List.length_cons, List.length_nil, Nat.reduceAdd, Nat.zero_add, List.range, List.range.loop]; refine ⟨by (refine de_none ?_; intro e he; simp at he), ?_⟩)
    (refine Goes.step rfl (fun _ h₁_ => ?_); replace hF := J5.at_ hF h₁_; clear h₁_; refine goes_oper_k rfl rfl (by k_ne) (fun K_ hK_ => ?_); go_simp; refine hK_ _ _ ⟨?_, ?_⟩; (focus (refine de_none ?_; intro e he; have hm := mem_listed he; simp [go_sem, *] at hm)); clear hK_ K_; try w_num)
    (refine Goes.step rfl (fun _ h₁_ => ?_); replace hF := J5.at_ hF h₁_; clear h₁_; rw [stepG_region_end]; simp only [goes_go]; refine ⟨by (refine de_none ?_; intro e he; simp at he), ?_⟩)
    (refine Goes.step rfl (fun _ h₁_ => ?_); replace hF := J5.at_ hF h₁_; clear h₁_; rw [stepG_seq]; simp only [goes_go]; refine ⟨by (refine de_none ?_; intro e he; simp at he), ?_⟩)
    (refine Goes.step rfl (fun _ h₁_ => ?_); replace hF := J5.at_ hF h₁_; clear h₁_; rw [stepG_cond (t := false) rfl]; simp only [goes_go, if_true, if_false, Bool.false_eq_true, ↓reduceIte]; refine ⟨by (refine de_none ?_; intro e he; simp at he), ?_⟩)
    (refine Goes.step rfl (fun _ h₁_ => ?_); replace hF := J5.at_ hF h₁_; clear h₁_; refine goes_exit rfl ?_; refine ⟨by (refine de_none ?_; intro e he; simp at he), ?_⟩)
    have hn := @next
    simp only [C510, C54, C51, body5, Try.f5, Option.getD_some] at hn
    exact Goes.mono (n := mm) (hn hF) (by omega)
  | succ d ih =>
    intro k hk v2 v3 v6 v7 v8 v9 v10 v11 v12 v13 v14 v15 v16 v17 v18 v19 v22 v23 v24 v25 v26 v27 v28 v29 v30 v31 v32 v33 v34 v35 v36 v37 v38 v39 v40 v41 v42 v43 v44 v45 v46 v47 v48 v49 v50 v51 v52 v53 v54 v55 v56 v57 v58 w hF
    have hkJ : k < m := by omega
    have hk0 : (0 : Int) ≤ (k : Int) := by omega
    have hk1 : (k : Int) < (m : Int) := by omega
    have hd : decide ((k : Int) < (m : Int)) = true := decide_eq_true (by omega)
    refine Goes.mono (n := mm + 10 + d * 40 + 38) ?_ (by omega)
    simp only [L51, C510, C54, C51, body5, Try.f5, Option.getD_some]
    (refine Goes.step rfl (fun _ h₁_ => ?_); replace hF := J5.at_ hF h₁_; clear h₁_; rw [stepG_seq]; simp only [goes_go]; refine ⟨by (refine de_none ?_; intro e he; simp at he), ?_⟩)
    (refine Goes.step rfl (fun _ h₁_ => ?_); replace hF := J5.at_ hF h₁_; clear h₁_; rw [stepG_region]; simp only [goes_go, List.size_toArray, List.length_cons, List.length_nil, Nat.reduceAdd, Nat.zero_add, List.range, List.range.loop]; refine ⟨by (refine de_none ?_; intro e he; simp at he), ?_⟩)
    (refine Goes.step rfl (fun _ h₁_ => ?_); replace hF := J5.at_ hF h₁_; clear h₁_; refine goes_oper_k rfl rfl (by k_ne) (fun K_ hK_ => ?_); go_simp; refine hK_ _ _ ⟨?_, ?_⟩; (focus (refine de_none ?_; intro e he; have hm := mem_listed he; simp [go_sem, *] at hm)); clear hK_ K_; try w_num)
    (refine Goes.step rfl (fun _ h₁_ => ?_); replace hF := J5.at_ hF h₁_; clear h₁_; rw [stepG_region_end]; simp only [goes_go]; refine ⟨by (refine de_none ?_; intro e he; simp at he), ?_⟩)
    (refine Goes.step rfl (fun _ h₁_ => ?_); replace hF := J5.at_ hF h₁_; clear h₁_; rw [stepG_seq]; simp only [goes_go]; refine ⟨by (refine de_none ?_; intro e he; simp at he), ?_⟩)
    (refine Goes.step rfl (fun _ h₁_ => ?_); replace hF := J5.at_ hF h₁_; clear h₁_; rw [stepG_cond (t := true) rfl]; simp only [goes_go, if_true, if_false, Bool.false_eq_true, ↓reduceIte]; refine ⟨by (refine de_none ?_; intro e he; simp at he), ?_⟩)
    (refine Goes.step rfl (fun _ h₁_ => ?_); replace hF := J5.at_ hF h₁_; clear h₁_; rw [stepG_skip]; simp only [goes_go]; refine ⟨by (refine de_none ?_; intro e he; simp at he), ?_⟩)
    (refine Goes.step rfl (fun _ h₁_ => ?_); replace hF := J5.at_ hF h₁_; clear h₁_; rw [stepG_seq]; simp only [goes_go]; refine ⟨by (refine de_none ?_; intro e he; simp at he), ?_⟩)
    (refine Goes.step rfl (fun _ h₁_ => ?_); replace hF := J5.at_ hF h₁_; clear h₁_; rw [stepG_block]; simp only [goes_go]; refine ⟨by (refine de_none ?_; intro e he; simp at he), ?_⟩)
    (refine Goes.step rfl (fun _ h₁_ => ?_); replace hF := J5.at_ hF h₁_; clear h₁_; rw [stepG_seq]; simp only [goes_go]; refine ⟨by (refine de_none ?_; intro e he; simp at he), ?_⟩)
    (refine Goes.step rfl (fun _ h₁_ => ?_); replace hF := J5.at_ hF h₁_; clear h₁_; rw [stepG_region]; simp only [goes_go, List.size_toArray, List.length_cons, List.length_nil, Nat.reduceAdd, Nat.zero_add, List.range, List.range.loop]; refine ⟨by (refine de_none ?_; intro e he; simp at he), ?_⟩)
    (refine Goes.step rfl (fun _ h₁_ => ?_); replace hF := J5.at_ hF h₁_; clear h₁_; refine goes_oper_k rfl rfl (by k_ne) (fun K_ hK_ => ?_); go_simp; refine hK_ _ _ ⟨?_, ?_⟩; (focus (refine de_none ?_; intro e he; have hm := mem_listed he; simp [go_sem, *] at hm)); clear hK_ K_; try w_num)
    (refine Goes.step rfl (fun _ h₁_ => ?_); replace hF := J5.at_ hF h₁_; clear h₁_; refine goes_oper_k rfl rfl (by k_ne) (fun K_ hK_ => ?_); go_simp; refine hK_ _ _ ⟨?_, ?_⟩; (focus (refine de_none ?_; intro e he; have hm := mem_listed he; simp [go_sem, *] at hm)); clear hK_ K_; try w_num)
    (refine Goes.step rfl (fun _ h₁_ => ?_); replace hF := J5.at_ hF h₁_; clear h₁_; rw [stepG_region_end]; simp only [goes_go]; refine ⟨by (refine de_none ?_; intro e he; simp at he), ?_⟩)
    (refine Goes.step rfl (fun _ h₁_ => ?_); replace hF := J5.at_ hF h₁_; clear h₁_; rw [stepG_region]; simp only [goes_go, List.size_toArray, List.length_cons, List.length_nil, Nat.reduceAdd, Nat.zero_add, List.range, List.range.loop]; refine ⟨by (refine de_none ?_; intro e he; simp at he), ?_⟩)
    (refine Goes.step rfl (fun _ h₁_ => ?_); replace hF := J5.at_ hF h₁_; clear h₁_; refine goes_oper_k rfl rfl (by k_ne) (fun K_ hK_ => ?_); go_simp; refine hK_ _ _ ⟨?_, ?_⟩; (focus (refine de_none ?_; intro e he; have hm := mem_listed he; simp [go_sem, *] at hm)); clear hK_ K_; try w_num)
    (refine Goes.step rfl (fun _ h₁_ => ?_); replace hF := J5.at_ hF h₁_; clear h₁_; refine goes_oper_k rfl rfl (by k_ne) (fun K_ hK_ => ?_); go_simp; refine hK_ _ _ ⟨?_, ?_⟩; (focus (refine de_none ?_; intro e he; have hm := mem_listed he; simp [go_sem, *] at hm)); clear hK_ K_; try w_num)
    (refine Goes.step rfl (fun _ h₁_ => ?_); replace hF := J5.at_ hF h₁_; clear h₁_; refine goes_oper_k rfl rfl (by k_ne) (fun K_ hK_ => ?_); go_simp; refine hK_ _ _ ⟨?_, ?_⟩; (focus (refine de_none ?_; intro e he; have hm := mem_listed he; simp [go_sem, *] at hm)); clear hK_ K_; try w_num)
    (refine Goes.step rfl (fun _ h₁_ => ?_); replace hF := J5.at_ hF h₁_; clear h₁_; refine goes_oper_k rfl rfl (by k_ne) (fun K_ hK_ => ?_); go_simp; refine hK_ _ _ ⟨?_, ?_⟩; (focus (refine de_none ?_; intro e he; have hm := mem_listed he; simp [go_sem, *] at hm)); clear hK_ K_; try w_num)
    (refine Goes.step rfl (fun _ h₁_ => ?_); replace hF := J5.at_ hF h₁_; clear h₁_)
    obtain ⟨dv, hdv⟩ := hF.cell hkJ
    have hdf := hF.free k
    (refine goes_oper_k rfl rfl (by decide) (fun K_ hK_ => ?_); go_simp; refine hK_ _ _ ⟨de_of (fun e he => ?_), ?_⟩; (focus (have hm := mem_listed he; simp [go_sem, storedEv, *] at hm; try (subst hm; exact (evL_cell _ _ (hS _ (by simp)) (by simp; omega))))); clear hK_ K_ )
    replace hF := hF.lay hN hkJ
    clear hdv hdf dv
    (refine Goes.step rfl (fun _ h₁_ => ?_); replace hF := J5.at_ hF h₁_; clear h₁_; rw [stepG_region_end]; simp only [goes_go]; refine ⟨by (refine de_none ?_; intro e he; simp at he), ?_⟩)
    (refine Goes.step rfl (fun _ h₁_ => ?_); replace hF := J5.at_ hF h₁_; clear h₁_; rw [stepG_inBlock]; simp only [goes_go]; refine ⟨by (refine de_none ?_; intro e he; simp at he), ?_⟩)
    (refine Goes.step rfl (fun _ h₁_ => ?_); replace hF := J5.at_ hF h₁_; clear h₁_; rw [stepG_region]; simp only [goes_go, List.size_toArray, List.length_cons, List.length_nil, Nat.reduceAdd, Nat.zero_add, List.range, List.range.loop]; refine ⟨by (refine de_none ?_; intro e he; simp at he), ?_⟩)
    (refine Goes.step rfl (fun _ h₁_ => ?_); replace hF := J5.at_ hF h₁_; clear h₁_; refine goes_oper_k rfl rfl (by k_ne) (fun K_ hK_ => ?_); go_simp; refine hK_ _ _ ⟨?_, ?_⟩; (focus (refine de_none ?_; intro e he; have hm := mem_listed he; simp [go_sem, *] at hm)); clear hK_ K_; try w_num)
    (refine Goes.step rfl (fun _ h₁_ => ?_); replace hF := J5.at_ hF h₁_; clear h₁_; refine goes_oper_k rfl rfl (by k_ne) (fun K_ hK_ => ?_); go_simp; refine hK_ _ _ ⟨?_, ?_⟩; (focus (refine de_none ?_; intro e he; have hm := mem_listed he; simp [go_sem, *] at hm)); clear hK_ K_; try w_num)
    (refine Goes.step rfl (fun _ h₁_ => ?_); replace hF := J5.at_ hF h₁_; clear h₁_; rw [stepG_region_end]; simp only [goes_go]; refine ⟨by (refine de_none ?_; intro e he; simp at he), ?_⟩)
    (refine Goes.step rfl (fun _ h₁_ => ?_); replace hF := J5.at_ hF h₁_; clear h₁_; rw [stepG_inLoop]; simp only [goes_go]; refine ⟨by (refine de_none ?_; intro e he; simp at he), ?_⟩)
    have hi : _ := fun {v2 v3 v6 v7 v8 v9 v10 v11 v12 v13 v14 v15 v16 v17 v18 v19 v22 v23 v24 v25 v26 v27 v28 v29 v30 v31 v32 v33 v34 v35 v36 v37 v38 v39 v40 v41 v42 v43 v44 v45 v46 v47 v48 v49 v50 v51 v52 v53 v54 v55 v56 v57 v58 : Value} {w : World} => @ih (k + 1) (by omega) v2 v3 v6 v7 v8 v9 v10 v11 v12 v13 v14 v15 v16 v17 v18 v19 v22 v23 v24 v25 v26 v27 v28 v29 v30 v31 v32 v33 v34 v35 v36 v37 v38 v39 v40 v41 v42 v43 v44 v45 v46 v47 v48 v49 v50 v51 v52 v53 v54 v55 v56 v57 v58 w
    have ec : (((k + 1 : Nat)) : Int) = (k : Int) + 1 := by omega
    simp only [L51, C510, C54, C51, body5, Try.f5, Option.getD_some, ec] at hi
    refine Goes.mono (n := mm + 10 + d * 40) ?_ (by omega)
    have hw : IntKind.i64.wrap ((k : Int) + 1) = (k : Int) + 1 := by rw [IntKind.wrap_i64]; omega
    simp only [hw]
    exact hi hF

theorem Seen.below {bb sb J d N : Nat} {w w' : World} (h : Seen bb sb J d w) (r : Below N w w') (h1 : bb < N) (h2 : sb < N) : Seen bb sb J d w' :=
  h.same (fun a ha => by
    rcases ha with e | e <;> exact same_block (r.block _ (by rw [e]; omega)))
theorem Seen.at_ {bb sb J d : Nat} {w w' : World} (h : Seen bb sb J d w) (r : AtRel w w') : Seen bb sb J d w' := by
  obtain ⟨d', rfl⟩ := r
  exact ⟨h.box, h.cell, h.free⟩
theorem made5 {w : World} {N₁ m tl : Nat} {ta : Option Addr} {ft : Nat → Value} (hN : W.heap.size ≤ N₁) (hF : J5 W N₁ m m ta tl ft w) (d : Nat) :
    (G5 W N₁ [(N₁, m, fun i => .int .i64 i)] (N₁ + 3) ((((w.alloc (.cells (madeCells #[.int .i64 0] m) 3)).alloc (.cells #[.slice (some ⟨N₁ + 1, 0, none⟩) m m] 22)).alloc (.cells #[] 3)).at d) ∧ SrcV ((((w.alloc (.cells (madeCells #[.int .i64 0] m) 3)).alloc (.cells #[.slice (some ⟨N₁ + 1, 0, none⟩) m m] 22)).alloc (.cells #[] 3)).at d) ta tl W.heap.size ft) ∧
      Seen (N₁ + 2) (N₁ + 1) m 0 ((((w.alloc (.cells (madeCells #[.int .i64 0] m) 3)).alloc (.cells #[.slice (some ⟨N₁ + 1, 0, none⟩) m m] 22)).alloc (.cells #[] 3)).at d) := by
  have hs := hF.size
  have hh : ∀ b, ((((w.alloc (.cells (madeCells #[.int .i64 0] m) 3)).alloc (.cells #[.slice (some ⟨N₁ + 1, 0, none⟩) m m] 22)).alloc (.cells #[] 3)).at d).heap[b]? = if b = N₁ + 3 then some (.cells #[] 3) else if b = N₁ + 2 then some (.cells #[.slice (some ⟨N₁ + 1, 0, none⟩) m m] 22) else if b = N₁ + 1 then some (.cells (madeCells #[.int .i64 0] m) 3) else w.heap[b]? := by
    intro b
    show (((w.heap.push _).push _).push _)[b]? = _
    simp only [Array.getElem?_push, Array.size_push, hs]
    repeat' split
    all_goals first | rfl | (exfalso; omega)
  have hsz : ((((w.alloc (.cells (madeCells #[.int .i64 0] m) 3)).alloc (.cells #[.slice (some ⟨N₁ + 1, 0, none⟩) m m] 22)).alloc (.cells #[] 3)).at d).heap.size = N₁ + 4 := by
    show (((w.heap.push _).push _).push _).size = _
    simp [hs]
  have hb : Below (N₁ + 1) w ((((w.alloc (.cells (madeCells #[.int .i64 0] m) 3)).alloc (.cells #[.slice (some ⟨N₁ + 1, 0, none⟩) m m] 22)).alloc (.cells #[] 3)).at d) :=
    ⟨rfl, rfl, rfl, by rw [hsz]; omega, fun b hb => by rw [hh b, if_neg (by omega), if_neg (by omega), if_neg (by omega)]⟩
  have hcell : ∀ i, i < m → w.cell? ⟨N₁, i, none⟩ = some (.int .i64 (i : Int)) := by
    intro i hi
    obtain ⟨cur, h1, h2, h3⟩ := hF.row
    simp [World.cell?, h1, h3 i hi]
  have hz : ∀ i, i < m → (madeCells #[Value.int .i64 0] m)[i]? = some (.int .i64 0) := by
    intro i hi
    simp [madeCells, hi, Nat.mod_one]
  refine ⟨⟨⟨⟨hF.below.trans (hb.mono (by omega)), by rw [hsz]; omega, fun r hr => ?_⟩, fun r hr => ?_, by omega, ⟨by simp, .inr ⟨N₁ + 3, 0, #[], rfl, Nat.le_refl _, ?_, Nat.le_refl _, Nat.zero_le _, rfl, by simp⟩⟩⟩, hF.src.below (hb.mono (by omega))⟩, ?_, fun i hi => ?_, fun i => ?_⟩
  · obtain rfl := List.mem_singleton.1 hr
    exact ⟨Nat.le_refl _, by rw [hsz]; simp, fun i hi => (hb.cell (by simp)).trans (hcell i hi)⟩
  · obtain rfl := List.mem_singleton.1 hr
    simp
  · rw [hh, if_pos rfl]
  · have e2 := hh (N₁ + 2)
    rw [if_neg (by omega), if_pos rfl] at e2
    simp [World.cell?, e2]
  · have e2 := hh (N₁ + 1)
    rw [if_neg (by omega), if_neg (by omega), if_pos rfl] at e2
    simp [World.cell?, e2, hz i hi]
  · have e2 := hh (N₁ + 1)
    rw [if_neg (by omega), if_neg (by omega), if_pos rfl] at e2
    simp [World.frozen?, e2]
/-- the frame while Run is under way -/
structure Sl5 (N₁ m s tl tc : Nat) (ta : Option Addr) (T : Array Value) : Prop where
  sz : T.size = 59
  s0 : T[0]? = some (.int .i64 m)
  s4 : T[4]? = some (.bool false)
  s7 : T[7]? = some (.pointer (some ⟨s, 0, none⟩))
set_option maxRecDepth 100000 in
set_option maxHeartbeats 4000000 in
/-- behind that loop: the list that counts, the script, into Run -/
theorem law5c {N₁ m tl tc : Nat} {ta : Option Addr} {ft : Nat → Value} (hN : W.heap.size ≤ N₁) (hm : m ≤ 99) (htl : tl * 8 ≤ 140737488355328) (hS1 : ∀ a : Addr, a.block < W.heap.size → ¬ Shun (.cell a)) (hS : ∀ a : Addr, N₁ ≤ a.block → ¬ Shun (.cell a)) (hB : N₁ + 4 ≤ B)
    {v2 v3 v6 v7 v8 v9 v10 v11 v12 v13 v14 v15 v16 v17 v18 v19 v20 v21 v22 v23 v24 v25 v26 v27 v28 v29 v30 v31 v32 v33 v34 v35 v36 v37 v38 v39 v40 v41 v42 v43 v44 v45 v46 v47 v48 v49 v50 v51 v52 v53 v54 v55 v56 v57 v58 : Value} {w : World} (hF : J5 W N₁ m m ta tl ft w) :
    Goes Try.prog true AtRel (DE (EvL Shun B)) (fun g w' => ∃ t1 c2 T, g = R8.gRun (.slice (some ⟨N₁, 0, none⟩) m m) (.int .i64 1) (.slice (some ⟨t1, 0, none⟩) tl c2) (.func (.func 12) #[] #[.pointer (some ⟨N₁ + 2, 0, none⟩)]) ((base 5).at ⟨T, []⟩ (.inRegion R11ops5 (5 :: [6, 7, 8, 9, 10]) :: [.code C512]) :: []) ∧ Sl5 N₁ m (N₁ + 2) tl tc ta T ∧ G4 W N₁ [(t1, tl, ft), (N₁, m, fun i => .int .i64 i)] w' ∧ Seen (N₁ + 2) (N₁ + 1) m 0 w' ∧ N₁ + 3 ≤ t1) 40
      (G ((base 5).at ⟨((.int .i64 m) :: (.slice ta tl tc) :: v2 :: v3 :: (.bool false) :: (.slice (some ⟨N₁, 0, none⟩) m m) :: v6 :: v7 :: v8 :: v9 :: v10 :: v11 :: v12 :: v13 :: v14 :: v15 :: v16 :: v17 :: v18 :: v19 :: v20 :: v21 :: v22 :: v23 :: v24 :: v25 :: v26 :: v27 :: v28 :: v29 :: v30 :: v31 :: v32 :: v33 :: v34 :: v35 :: v36 :: v37 :: v38 :: v39 :: v40 :: v41 :: v42 :: v43 :: v44 :: v45 :: v46 :: v47 :: v48 :: v49 :: v50 :: v51 :: v52 :: v53 :: v54 :: v55 :: v56 :: v57 :: v58 :: []).toArray, []⟩ [.code C510]) []) w := by
  obtain ⟨i0, hi, hz0, hz1, hz2⟩ := info_parts info22
  have hmk := fun w => run_make (P := Try.prog) w 22 3 i0 (.int .i64 0) Try.underlying22 hi hz0 .i64 .i64 m m (by omega) (by omega) (by rw [hz2]; omega) (by omega)
  have hme := fun w es => events_make (P := Try.prog) w 22 3 i0 (.int .i64 0) Try.underlying22 hi hz0 .i64 .i64 m m (by omega) (by omega) (by rw [hz2]; omega) (by omega) (by rw [hz2]; simp; omega) es
  simp only [Int.toNat_natCast, hz1, Nat.mul_one, Value.cells] at hmk
  have hsz := hF.size
  have hca : ∀ (w : World) (d : Nat) (a : Addr), (w.at d).cell? a = w.cell? a := fun _ _ _ => rfl
  have hfa : ∀ (w : World) (d : Nat) (a : Addr), (w.at d).frozen? a = w.frozen? a := fun _ _ _ => rfl
  simp only [C510, C54, C51, body5, Try.f5, Option.getD_some]
  (refine Goes.step rfl (fun w₁_ h₁_ => ?_); obtain ⟨dd_, hdd_⟩ := h₁_; subst hdd_; (try simp only [at_alloc, at_setCell, at_at', at_size, World.size_alloc, World.size_setCell]); rw [stepG_seq]; simp only [goes_go]; refine ⟨by (refine de_none ?_; intro e he; simp at he), ?_⟩)
  (refine Goes.step rfl (fun w₁_ h₁_ => ?_); obtain ⟨dd_, hdd_⟩ := h₁_; subst hdd_; (try simp only [at_alloc, at_setCell, at_at', at_size, World.size_alloc, World.size_setCell]); rw [stepG_region]; simp only [goes_go, List.size_toArray, List.length_cons, List.length_nil, Nat.reduceAdd, Nat.zero_add, List.range, List.range.loop]; refine ⟨by (refine de_none ?_; intro e he; simp at he), ?_⟩)
  (refine Goes.step rfl (fun w₁_ h₁_ => ?_); obtain ⟨dd_, hdd_⟩ := h₁_; subst hdd_; (try simp only [at_alloc, at_setCell, at_at', at_size, World.size_alloc, World.size_setCell]); refine goes_oper_k rfl rfl (by decide) (fun K_ hK_ => ?_); go_simp; refine hK_ _ _ ⟨fun e he => ?_, ?_⟩; (focus (have hm := mem_listed he; simp [go_sem, storedEv, *] at hm; try (subst hm; exact (evL_cell _ _ (hS _ (by simp; omega)) (by simp; omega))))); clear hK_ K_ ; try w_num)
  (refine Goes.step rfl (fun w₁_ h₁_ => ?_); obtain ⟨dd_, hdd_⟩ := h₁_; subst hdd_; (try simp only [at_alloc, at_setCell, at_at', at_size, World.size_alloc, World.size_setCell]); refine goes_oper_k rfl rfl (by decide) (fun K_ hK_ => ?_); go_simp; refine hK_ _ _ ⟨fun e he => ?_, ?_⟩; (focus (have hm := mem_listed he; simp [go_sem, storedEv, *] at hm; try (subst hm; exact (evL_cell _ _ (hS _ (by simp; omega)) (by simp; omega))))); clear hK_ K_ ; try w_num)
  (refine Goes.step rfl (fun w₁_ h₁_ => ?_); obtain ⟨dd_, hdd_⟩ := h₁_; subst hdd_; (try simp only [at_alloc, at_setCell, at_at', at_size, World.size_alloc, World.size_setCell]); refine goes_oper_k rfl rfl (by decide) (fun K_ hK_ => ?_); go_simp; refine hK_ _ _ ⟨fun e he => ?_, ?_⟩; (focus (have hm := mem_listed he; simp [go_sem, storedEv, *] at hm; try (subst hm; exact (evL_cell _ _ (hS _ (by simp; omega)) (by simp; omega))))); clear hK_ K_ ; try w_num)
  (refine Goes.step rfl (fun w₁_ h₁_ => ?_); obtain ⟨dd_, hdd_⟩ := h₁_; subst hdd_; (try simp only [at_alloc, at_setCell, at_at', at_size, World.size_alloc, World.size_setCell]); refine goes_oper_k rfl rfl (by decide) (fun K_ hK_ => ?_); go_simp; refine hK_ _ _ ⟨fun e he => ?_, ?_⟩; (focus (have hm := mem_listed he; simp [go_sem, storedEv, *] at hm; try (subst hm; exact (evL_cell _ _ (hS _ (by simp; omega)) (by simp; omega))))); clear hK_ K_ ; try w_num)
  (refine Goes.step rfl (fun w₁_ h₁_ => ?_); obtain ⟨dd_, hdd_⟩ := h₁_; subst hdd_; (try simp only [at_alloc, at_setCell, at_at', at_size, World.size_alloc, World.size_setCell]); rw [stepG_region_end]; simp only [goes_go]; refine ⟨by (refine de_none ?_; intro e he; simp at he), ?_⟩)
  (refine Goes.step rfl (fun w₁_ h₁_ => ?_); obtain ⟨dd_, hdd_⟩ := h₁_; subst hdd_; (try simp only [at_alloc, at_setCell, at_at', at_size, World.size_alloc, World.size_setCell]); rw [stepG_seq]; simp only [goes_go]; refine ⟨by (refine de_none ?_; intro e he; simp at he), ?_⟩)
  (refine Goes.step rfl (fun w₁_ h₁_ => ?_); obtain ⟨dd_, hdd_⟩ := h₁_; subst hdd_; (try simp only [at_alloc, at_setCell, at_at', at_size, World.size_alloc, World.size_setCell]); rw [stepG_region]; simp only [goes_go, List.size_toArray, List.length_cons, List.length_nil, Nat.reduceAdd, Nat.zero_add, List.range, List.range.loop]; refine ⟨by (refine de_none ?_; intro e he; simp at he), ?_⟩)
  (refine Goes.step rfl (fun w₁_ h₁_ => ?_); obtain ⟨dd_, hdd_⟩ := h₁_; subst hdd_; (try simp only [at_alloc, at_setCell, at_at', at_size, World.size_alloc, World.size_setCell]); refine goes_oper_k rfl rfl (by decide) (fun K_ hK_ => ?_); go_simp; refine hK_ _ _ ⟨fun e he => ?_, ?_⟩; (focus (have hm := mem_listed he; simp [go_sem, storedEv, *] at hm; try (subst hm; exact (evL_cell _ _ (hS _ (by simp; omega)) (by simp; omega))))); clear hK_ K_ ; try w_num)
  (refine Goes.step rfl (fun w₁_ h₁_ => ?_); obtain ⟨dd_, hdd_⟩ := h₁_; subst hdd_; (try simp only [at_alloc, at_setCell, at_at', at_size, World.size_alloc, World.size_setCell]); refine goes_oper_k rfl rfl (by decide) (fun K_ hK_ => ?_); go_simp; refine hK_ _ _ ⟨fun e he => ?_, ?_⟩; (focus (have hm := mem_listed he; simp [go_sem, storedEv, *] at hm; try (subst hm; exact (evL_cell _ _ (hS _ (by simp; omega)) (by simp; omega))))); clear hK_ K_ ; try w_num)
  (refine Goes.step rfl (fun w₁_ h₁_ => ?_); obtain ⟨dd_, hdd_⟩ := h₁_; subst hdd_; (try simp only [at_alloc, at_setCell, at_at', at_size, World.size_alloc, World.size_setCell]); refine goes_oper_k rfl rfl (by decide) (fun K_ hK_ => ?_); go_simp; refine hK_ _ _ ⟨fun e he => ?_, ?_⟩; (focus (have hm := mem_listed he; simp [go_sem, storedEv, *] at hm; try (subst hm; exact (evL_cell _ _ (hS _ (by simp; omega)) (by simp; omega))))); clear hK_ K_ ; try w_num)
  (refine Goes.step rfl (fun w₁_ h₁_ => ?_); obtain ⟨dd_, hdd_⟩ := h₁_; subst hdd_; (try simp only [at_alloc, at_setCell, at_at', at_size, World.size_alloc, World.size_setCell]))
  simp only [Nat.add_assoc, Nat.reduceAdd]
  have h5 := made5 hN hF dd_
  revert h5
  generalize ((((w.alloc (.cells (madeCells #[.int .i64 0] m) 3)).alloc (.cells #[.slice (some ⟨N₁ + 1, 0, none⟩) m m] 22)).alloc (.cells #[] 3)).at dd_) = w₃
  rintro ⟨⟨h5, hs5⟩, hn5⟩
  have hg := (h5.own.lt (N₁ + 3) rfl)
  obtain ⟨t1, c2, w₄, hr, hj1, hj2, hcells, hbelow, hev⟩ := append_src (tb := 22) (mc := tc) Try.underlying22 hi hz0 hz1 hz2 rfl (base := N₁ + 3) (by omega) h5.own hs5 (by simp only [maxLen]; omega) (by omega)
  refine goes_oper_k rfl rfl (by decide) (fun K_ hK_ => ?_)
  refine uponK_append (.tmp 33) (.tmp 34) 22 rfl rfl rfl hr (hK_ _ _ ⟨append_ev (N := W.heap.size) (g := N₁ + 3) hS1 (fun a h => hS a (by omega)) (by omega) (by omega) (fun e he => ?_), ?_⟩)
  · have hm := mem_listed he
    rw [events_append_op (.tmp 33) (.tmp 34) 22 rfl rfl rfl] at hm
    exact hev e hm
  clear hK_ K_
  have hG := h5.grow hN hbelow hj1 hj2 hcells
  have hSn := hn5.below hbelow (by omega) (by omega)
  have hF2 := And.intro hG hSn
  clear hF hG hSn hr hev hbelow hcells h5 hn5 hs5
  have hF := hF2
  clear hF2
  have fa : ∀ {w w' : World}, (G4 W N₁ [(t1, tl, ft), (N₁, m, fun i => .int .i64 i)] w ∧ Seen (N₁ + 2) (N₁ + 1) m 0 w) → AtRel w w' → (G4 W N₁ [(t1, tl, ft), (N₁, m, fun i => .int .i64 i)] w' ∧ Seen (N₁ + 2) (N₁ + 1) m 0 w') := fun h r => ⟨h.1.at_ r, h.2.at_ r⟩
  simp only [List.getElem_toArray, List.getElem_cons_succ, List.getElem_cons_zero, List.getElem?_toArray, List.getElem?_cons_succ, List.getElem?_cons_zero, Act.put, List.setIfInBounds_toArray, List.set_cons_succ, List.set_cons_zero]
  (refine Goes.step rfl (fun _ h₁_ => ?_); replace hF := fa hF h₁_; clear h₁_; refine goes_oper_k rfl rfl (by k_ne) (fun K_ hK_ => ?_); go_simp; refine hK_ _ _ ⟨?_, ?_⟩; (focus (refine de_none ?_; intro e he; have hm := mem_listed he; simp [go_sem, *] at hm)); clear hK_ K_; try w_num)
  (refine Goes.step rfl (fun _ h₁_ => ?_); replace hF := fa hF h₁_; clear h₁_)
  refine goes_call rfl rfl (by k_ne) rfl Try.func8 nm8 rfl ⟨by (refine de_none ?_; intro e he; simp at he), ?_⟩
  refine Goes.mono (n := 0) (Goes.stop (fun w₁ h₁ => ?_)) (by omega)
  refine ⟨t1, c2, ?T, ?main, ?sl, (fa hF h₁).1, (fa hF h₁).2, hj1⟩
  case main =>
   simp only [R8.gRun, R8.bodyR, R11ops5, C512, C511, C510, C54, C51, body5, Try.f5, Try.f8, Option.getD_some, List.replicate, Act.eval, List.map_toArray, List.map_cons, List.map_nil, Array.getD_eq_getD_getElem?, List.getElem?_toArray, List.getElem?_cons_succ, List.getElem?_cons_zero, List.size_toArray, List.length_cons, List.length_nil, Nat.reduceAdd, Nat.reduceSub]
   rfl
  case sl => exact ⟨rfl, rfl, rfl, rfl⟩

set_option maxRecDepth 100000 in
set_option maxHeartbeats 4000000 in
/-- from Awake's return into Run -/
theorem law5b {N₁ tl tc : Nat} {n : Int} {ta : Option Addr} {ft : Nat → Value} (hN : W.heap.size ≤ N₁) (htl : tl * 8 ≤ 140737488355328) (hS1 : ∀ a : Addr, a.block < W.heap.size → ¬ Shun (.cell a)) (hS : ∀ a : Addr, N₁ ≤ a.block → ¬ Shun (.cell a)) (hB : N₁ + 4 ≤ B)
    {w : World} (hF : Below W.heap.size W w ∧ SrcV w ta tl W.heap.size ft ∧ w.heap.size = N₁) :
    Goes Try.prog true AtRel (DE (EvL Shun B)) (fun g w' => ∃ t1 c2 T, g = R8.gRun (.slice (some ⟨N₁, 0, none⟩) (mk5 n) (mk5 n)) (.int .i64 1) (.slice (some ⟨t1, 0, none⟩) tl c2) (.func (.func 12) #[] #[.pointer (some ⟨N₁ + 2, 0, none⟩)]) ((base 5).at ⟨T, []⟩ (.inRegion R11ops5 (5 :: [6, 7, 8, 9, 10]) :: [.code C512]) :: []) ∧ Sl5 N₁ (mk5 n) (N₁ + 2) tl tc ta T ∧ G4 W N₁ [(t1, tl, ft), (N₁, mk5 n, fun i => .int .i64 i)] w' ∧ Seen (N₁ + 2) (N₁ + 1) (mk5 n) 0 w' ∧ N₁ + 3 ≤ t1) (40 + 10 + mk5 n * 40 + 40)
      (G ((base 5).at ((a51 (.int .i64 n) (.slice ta tl tc)).put ((R1ops5[0]?).bind (·.dst)) (.bool true)) (.inRegion R1ops5 [1] :: [.code E51, .code C51])) []) w := by
  have fa : ∀ {w w' : World}, (Below W.heap.size W w ∧ SrcV w ta tl W.heap.size ft ∧ w.heap.size = N₁) → AtRel w w' → (Below W.heap.size W w' ∧ SrcV w' ta tl W.heap.size ft ∧ w'.heap.size = N₁) := fun h r => by
    obtain ⟨d, rfl⟩ := r
    exact ⟨Below.at_ h.1 ⟨d, rfl⟩, ⟨h.2.1.nil, h.2.1.blk, h.2.1.cell, h.2.1.one⟩, h.2.2⟩
  have e : (R1ops5[0]?).bind (·.dst) = some 11 := rfl
  rw [e]
  have hm := mk5_hi n
  obtain ⟨i0, hi, hz0, hz1, hz2⟩ := info_parts info22
  have hmk := fun w => run_make (P := Try.prog) w 22 3 i0 (.int .i64 0) Try.underlying22 hi hz0 .i64 .i64 (mk5 n) (mk5 n) (by omega) (by omega) (by rw [hz2]; omega) (by omega)
  have hme := fun w es => events_make (P := Try.prog) w 22 3 i0 (.int .i64 0) Try.underlying22 hi hz0 .i64 .i64 (mk5 n) (mk5 n) (by omega) (by omega) (by rw [hz2]; omega) (by omega) (by rw [hz2]; simp; omega) es
  simp only [Int.toNat_natCast, hz1, Nat.mul_one, Value.cells] at hmk
  simp only [a51, R1ops5, E51, C51, body5, Try.f5, Option.getD_some, List.replicate, Act.put, List.setIfInBounds_toArray, List.set_cons_succ, List.set_cons_zero]
  refine Goes.mono (n := 40 + 10 + mk5 n * 40 + 30) ?_ (by omega)
  (refine Goes.step rfl (fun _ h₁_ => ?_); replace hF := fa hF h₁_; clear h₁_; refine goes_oper_k rfl rfl (by k_ne) (fun K_ hK_ => ?_); go_simp; refine hK_ _ _ ⟨?_, ?_⟩; (focus (refine de_none ?_; intro e he; have hm := mem_listed he; simp [go_sem, *] at hm)); clear hK_ K_; try w_num)
  (refine Goes.step rfl (fun _ h₁_ => ?_); replace hF := fa hF h₁_; clear h₁_; rw [stepG_region_end]; simp only [goes_go]; refine ⟨by (refine de_none ?_; intro e he; simp at he), ?_⟩)
  (refine Goes.step rfl (fun _ h₁_ => ?_); replace hF := fa hF h₁_; clear h₁_; rw [stepG_cond (t := false) rfl]; simp only [goes_go, if_true, if_false, Bool.false_eq_true, ↓reduceIte]; refine ⟨by (refine de_none ?_; intro e he; simp at he), ?_⟩)
  (refine Goes.step rfl (fun _ h₁_ => ?_); replace hF := fa hF h₁_; clear h₁_; rw [stepG_skip]; simp only [goes_go]; refine ⟨by (refine de_none ?_; intro e he; simp at he), ?_⟩)
  (refine Goes.step rfl (fun _ h₁_ => ?_); replace hF := fa hF h₁_; clear h₁_; rw [stepG_seq]; simp only [goes_go]; refine ⟨by (refine de_none ?_; intro e he; simp at he), ?_⟩)
  (refine Goes.step rfl (fun _ h₁_ => ?_); replace hF := fa hF h₁_; clear h₁_; rw [stepG_region]; simp only [goes_go, List.size_toArray, List.length_cons, List.length_nil, Nat.reduceAdd, Nat.zero_add, List.range, List.range.loop]; refine ⟨by (refine de_none ?_; intro e he; simp at he), ?_⟩)
  (refine Goes.step rfl (fun _ h₁_ => ?_); replace hF := fa hF h₁_; clear h₁_; refine goes_oper_k rfl rfl (by k_ne) (fun K_ hK_ => ?_); go_simp; refine hK_ _ _ ⟨?_, ?_⟩; (focus (refine de_none ?_; intro e he; have hm := mem_listed he; simp [go_sem, *] at hm)); clear hK_ K_; try w_num)
  (refine Goes.step rfl (fun _ h₁_ => ?_); replace hF := fa hF h₁_; clear h₁_; refine goes_oper_k rfl rfl (by k_ne) (fun K_ hK_ => ?_); have hf0_ := Try.underlying3; have hf1_ := Try.underlying30; go_simp; refine hK_ _ _ ⟨?_, ?_⟩; (focus (refine de_none ?_; intro e he; have hm := mem_listed he; simp [go_sem, *] at hm)); clear hK_ K_ hf0_ hf1_; try w_num)
  (refine Goes.step rfl (fun _ h₁_ => ?_); replace hF := fa hF h₁_; clear h₁_; refine goes_oper_k rfl rfl (by k_ne) (fun K_ hK_ => ?_); go_simp; refine hK_ _ _ ⟨?_, ?_⟩; (focus (refine de_none ?_; intro e he; have hm := mem_listed he; simp [go_sem, *] at hm)); clear hK_ K_; try w_num)
  (refine Goes.step rfl (fun _ h₁_ => ?_); replace hF := fa hF h₁_; clear h₁_; refine goes_oper_k rfl rfl (by k_ne) (fun K_ hK_ => ?_); have hf0_ := Try.underlying3; have hf1_ := Try.underlying30; go_simp; refine hK_ _ _ ⟨?_, ?_⟩; (focus (refine de_none ?_; intro e he; have hm := mem_listed he; simp [go_sem, *] at hm)); clear hK_ K_ hf0_ hf1_; try w_num)
  rw [mk5_eq]
  (refine Goes.step rfl (fun _ h₁_ => ?_); replace hF := fa hF h₁_; clear h₁_; refine goes_oper_k rfl rfl (by k_ne) (fun K_ hK_ => ?_); go_simp; refine hK_ _ _ ⟨?_, ?_⟩; (focus (refine de_none ?_; intro e he; have hm := mem_listed he; simp [go_sem, *] at hm)); clear hK_ K_; try w_num)
  (refine Goes.step rfl (fun _ h₁_ => ?_); replace hF := fa hF h₁_; clear h₁_; rw [stepG_region_end]; simp only [goes_go]; refine ⟨by (refine de_none ?_; intro e he; simp at he), ?_⟩)
  (refine Goes.step rfl (fun _ h₁_ => ?_); replace hF := fa hF h₁_; clear h₁_; rw [stepG_seq]; simp only [goes_go]; refine ⟨by (refine de_none ?_; intro e he; simp at he), ?_⟩)
  (refine Goes.step rfl (fun _ h₁_ => ?_); replace hF := fa hF h₁_; clear h₁_; rw [stepG_region]; simp only [goes_go, List.size_toArray, List.length_cons, List.length_nil, Nat.reduceAdd, Nat.zero_add, List.range, List.range.loop]; refine ⟨by (refine de_none ?_; intro e he; simp at he), ?_⟩)
  (refine Goes.step rfl (fun _ h₁_ => ?_); replace hF := fa hF h₁_; clear h₁_; refine goes_oper_k rfl rfl (by k_ne) (fun K_ hK_ => ?_); go_simp; refine hK_ _ _ ⟨?_, ?_⟩; (focus (refine de_none ?_; intro e he; have hm := mem_listed he; simp [go_sem, *] at hm)); clear hK_ K_; try w_num)
  (refine Goes.step rfl (fun _ h₁_ => ?_); replace hF := fa hF h₁_; clear h₁_)
  rename_i w₁
  refine goes_oper_k rfl rfl (by decide) (fun K_ hK_ => ?_)
  go_simp
  refine hK_ _ _ ⟨fun e he => ?_, ?_⟩
  · have hm := mem_listed he
    simp [go_sem, hme] at hm
  clear hK_ K_
  obtain ⟨hb, hs, hw⟩ := hF
  have hF : J5 W N₁ (mk5 n) 0 ta tl ft (w₁.alloc (.cells (madeCells #[.int .i64 0] (mk5 n)) 3)) :=
    ⟨hb.alloc (by omega) _, hs.below ((Below.refl _ _).alloc (by omega) _), by simp [hw], ⟨_, by rw [← hw]; exact heap_alloc_new w₁ _, size_madeCells _ _, fun i hi => absurd hi (by omega)⟩⟩
  clear hb hs hw
  (refine Goes.step rfl (fun _ h₁_ => ?_); replace hF := J5.at_ hF h₁_; clear h₁_; refine goes_oper_k rfl rfl (by k_ne) (fun K_ hK_ => ?_); go_simp; refine hK_ _ _ ⟨?_, ?_⟩; (focus (refine de_none ?_; intro e he; have hm := mem_listed he; simp [go_sem, *] at hm)); clear hK_ K_; try w_num)
  (refine Goes.step rfl (fun _ h₁_ => ?_); replace hF := J5.at_ hF h₁_; clear h₁_; rw [stepG_region_end]; simp only [goes_go]; refine ⟨by (refine de_none ?_; intro e he; simp at he), ?_⟩)
  (refine Goes.step rfl (fun _ h₁_ => ?_); replace hF := J5.at_ hF h₁_; clear h₁_; rw [stepG_seq]; simp only [goes_go]; refine ⟨by (refine de_none ?_; intro e he; simp at he), ?_⟩)
  (refine Goes.step rfl (fun _ h₁_ => ?_); replace hF := J5.at_ hF h₁_; clear h₁_; rw [stepG_seq]; simp only [goes_go]; refine ⟨by (refine de_none ?_; intro e he; simp at he), ?_⟩)
  (refine Goes.step rfl (fun _ h₁_ => ?_); replace hF := J5.at_ hF h₁_; clear h₁_; rw [stepG_region]; simp only [goes_go, List.size_toArray, List.length_cons, List.length_nil, Nat.reduceAdd, Nat.zero_add, List.range, List.range.loop]; refine ⟨by (refine de_none ?_; intro e he; simp at he), ?_⟩)
  (refine Goes.step rfl (fun _ h₁_ => ?_); replace hF := J5.at_ hF h₁_; clear h₁_; refine goes_oper_k rfl rfl (by k_ne) (fun K_ hK_ => ?_); go_simp; refine hK_ _ _ ⟨?_, ?_⟩; (focus (refine de_none ?_; intro e he; have hm := mem_listed he; simp [go_sem, *] at hm)); clear hK_ K_; try w_num)
  (refine Goes.step rfl (fun _ h₁_ => ?_); replace hF := J5.at_ hF h₁_; clear h₁_; refine goes_oper_k rfl rfl (by k_ne) (fun K_ hK_ => ?_); go_simp; refine hK_ _ _ ⟨?_, ?_⟩; (focus (refine de_none ?_; intro e he; have hm := mem_listed he; simp [go_sem, *] at hm)); clear hK_ K_; try w_num)
  (refine Goes.step rfl (fun _ h₁_ => ?_); replace hF := J5.at_ hF h₁_; clear h₁_; refine goes_oper_k rfl rfl (by k_ne) (fun K_ hK_ => ?_); go_simp; refine hK_ _ _ ⟨?_, ?_⟩; (focus (refine de_none ?_; intro e he; have hm := mem_listed he; simp [go_sem, *] at hm)); clear hK_ K_; try w_num)
  (refine Goes.step rfl (fun _ h₁_ => ?_); replace hF := J5.at_ hF h₁_; clear h₁_; rw [stepG_region_end]; simp only [goes_go]; refine ⟨by (refine de_none ?_; intro e he; simp at he), ?_⟩)
  (refine Goes.step rfl (fun _ h₁_ => ?_); replace hF := J5.at_ hF h₁_; clear h₁_; rw [stepG_block]; simp only [goes_go]; refine ⟨by (refine de_none ?_; intro e he; simp at he), ?_⟩)
  (refine Goes.step rfl (fun _ h₁_ => ?_); replace hF := J5.at_ hF h₁_; clear h₁_; rw [stepG_loop]; simp only [goes_go]; refine ⟨by (refine de_none ?_; intro e he; simp at he), ?_⟩)
  have hl : _ := fun {v2 v3 v6 v7 v8 v9 v10 v11 v12 v13 v14 v15 v16 v17 v18 v19 v22 v23 v24 v25 v26 v27 v28 v29 v30 v31 v32 v33 v34 v35 v36 v37 v38 v39 v40 v41 v42 v43 v44 v45 v46 v47 v48 v49 v50 v51 v52 v53 v54 v55 v56 v57 v58 : Value} => @loop5a Shun B W N₁ (mk5 n) tl tc 40 ta ft _ hN hm hS hB (fun hF => law5c hN hm htl hS1 hS hB hF) (mk5 n) 0 (by omega) v2 v3 v6 v7 v8 v9 v10 v11 v12 v13 v14 v15 v16 v17 v18 v19 v22 v23 v24 v25 v26 v27 v28 v29 v30 v31 v32 v33 v34 v35 v36 v37 v38 v39 v40 v41 v42 v43 v44 v45 v46 v47 v48 v49 v50 v51 v52 v53 v54 v55 v56 v57 v58 _ hF
  simp only [L51, C510, C54, C51, body5, Try.f5, Option.getD_some, Int.ofNat_zero, Int.cast_ofNat_Int, Int.natCast_zero] at hl
  exact Goes.mono (n := 40 + 10 + mk5 n * 40) hl (by omega)
end
end Go.Proofs.Ytngnkdedfcnfkaa

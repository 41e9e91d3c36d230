/-
  lantern/pool.Run (function 10): the second loop: ahead of the select, and behind it.
-/
import Derived.Test.YtngnkdedfcnfkaaRBV
set_option linter.unusedSimpArgs false
set_option linter.unusedVariables false
namespace Go.Proofs.Ytngnkdedfcnfkaa.R10
open Go Go.Conc Go.RowKit Go.Conc.Lib Go.ConcR.Gen Go.ConcN.Gen
open Go.ConcN (WgLive Has RW ShN upd upd_same upd_ne goes_mono)
open Go.ConcR (KK WgAt stA smA)
section
variable {c : Ctx} {Shun : Loc → Prop} {B : Nat} {cs : List Frame} {W : World} {tv : Value}
set_option maxRecDepth 100000 in
set_option maxHeartbeats 1000000 in
/-- from the loop's head to the select -/
theorem pre2 (hc : OkC c Shun) (hB : c.H + 8 + 2 * c.n ≤ B) {ta : Option Addr} {tl tc tb : Nat} {tz : Nat → Int} (hT : OkT c Shun W ta tl tb tz) {g t : Nat} {don : Nat → Prop} (hg : g ≤ c.J) (ht : t < c.J) {a : Goroutine} {w : World} (ha : Head2 c (.slice ta tl tc) cs g t a) (hF : KD c 29 W t don w) :
    Goes Try.prog true (SR1 c) (DS c Shun B c.n) (fun a w => AtSel2 c (.slice ta tl tc) cs g t (chOf c tl tz g) a ∧ KD c 29 W t don w) (13 + (40 + 8 * 61)) a w := by
  have hJ := hc.Jmax
  have hlt : decide ((t : Int) < (c.J : Int)) = true := decide_eq_true (by omega)
  obtain ⟨T, rfl, hT⟩ := ha
  have hsz := hT.sz
  revert hT
  revert hsz
  revert T
  refine by93 ?_
  intro v0 v1 v2 v3 v4 v5 v6 v7 v8 v9 v10 v11 v12 v13 v14 v15 v16 v17 v18 v19 v20 v21 v22 v23 v24 v25 v26 v27 v28 v29 v30 v31 v32 v33 v34 v35 v36 v37 v38 v39 v40 v41 v42 v43 v44 v45 v46 v47 v48 v49 v50 v51 v52 v53 v54 v55 v56 v57 v58 v59 v60 v61 v62 v63 v64 v65 v66 v67 v68 v69 v70 v71 v72 v73 v74 v75 v76 v77 v78 v79 v80 v81 v82 v83 v84 v85 v86 v87 v88 v89 v90 v91 v92 hT
  obtain ⟨_, t1, t2, t4, t10, t11, t12, t14, t15, t16⟩ := hT
  simp only [List.getElem?_toArray, List.getElem?_cons_succ, List.getElem?_cons_zero, Option.some.injEq] at t1 t2 t4 t10 t11 t12 t14 t15 t16
  subst t1 t2 t4 t10 t11 t12 t14 t15 t16
  simp only [L2, C2, C1, bodyR, Try.f10, Option.getD_some, pt]
  (refine Goes.step rfl (fun _ h₁_ => ?_); replace hF := (KD.grow hc) hF h₁_; clear h₁_; rw [stepG_seq]; simp only [goes_go]; refine ⟨by (refine ds_none' ?_; intro e he; simp at he), ?_⟩)
  (refine Goes.step rfl (fun _ h₁_ => ?_); replace hF := (KD.grow hc) hF h₁_; clear h₁_; rw [stepG_seq]; simp only [goes_go]; refine ⟨by (refine ds_none' ?_; intro e he; simp at he), ?_⟩)
  (refine Goes.step rfl (fun _ h₁_ => ?_); replace hF := (KD.grow hc) hF h₁_; clear h₁_; rw [stepG_region]; simp only [goes_go, List.size_toArray, List.length_cons, List.length_nil, Nat.reduceAdd, Nat.zero_add, List.range, List.range.loop]; refine ⟨by (refine ds_none' ?_; intro e he; simp at he), ?_⟩)
  (refine Goes.step rfl (fun _ h₁_ => ?_); replace hF := (KD.grow hc) hF h₁_; clear h₁_; refine goes_oper_k rfl rfl (by k_ne) (fun K_ hK_ => ?_); go_simp; refine hK_ _ _ ⟨?_, ?_⟩; (focus (refine ds_none' ?_; intro e he; have hm := mem_listed he; simp [go_sem, *] at hm)); clear hK_ K_; try w_num)
  (refine Goes.step rfl (fun _ h₁_ => ?_); replace hF := (KD.grow hc) hF h₁_; clear h₁_; refine goes_oper_k rfl rfl (by decide) (fun K_ hK_ => ?_); have hf0_ := (hF.kb.jobsv); go_simp; refine hK_ _ _ ⟨ds_still (fun e he => ?_), ?_⟩; (focus (have hm := mem_listed he; simp [go_sem, storedEv, *] at hm; try (subst hm; exact (evs_hi hc _ _ (by simp) (by simp) (by have hz_ := hF.sz; simp; omega) (fun h => by cases h))))); clear hK_ K_ hf0_)
  (refine Goes.step rfl (fun _ h₁_ => ?_); replace hF := (KD.grow hc) hF h₁_; clear h₁_; refine goes_oper_k rfl rfl (by k_ne) (fun K_ hK_ => ?_); go_simp; refine hK_ _ _ ⟨?_, ?_⟩; (focus (refine ds_none' ?_; intro e he; have hm := mem_listed he; simp [go_sem, *] at hm)); clear hK_ K_; try w_num)
  (refine Goes.step rfl (fun _ h₁_ => ?_); replace hF := (KD.grow hc) hF h₁_; clear h₁_; refine goes_oper_k rfl rfl (by k_ne) (fun K_ hK_ => ?_); go_simp; refine hK_ _ _ ⟨?_, ?_⟩; (focus (refine ds_none' ?_; intro e he; have hm := mem_listed he; simp [go_sem, *] at hm)); clear hK_ K_; try w_num)
  (refine Goes.step rfl (fun _ h₁_ => ?_); replace hF := (KD.grow hc) hF h₁_; clear h₁_; rw [stepG_region_end]; simp only [goes_go]; refine ⟨by (refine ds_none' ?_; intro e he; simp at he), ?_⟩)
  (refine Goes.step rfl (fun _ h₁_ => ?_); replace hF := (KD.grow hc) hF h₁_; clear h₁_; rw [stepG_cond (t := true) rfl]; simp only [goes_go, if_true, if_false, Bool.false_eq_true, ↓reduceIte]; refine ⟨by (refine ds_none' ?_; intro e he; simp at he), ?_⟩)
  (refine Goes.step rfl (fun _ h₁_ => ?_); replace hF := (KD.grow hc) hF h₁_; clear h₁_; rw [stepG_skip]; simp only [goes_go]; refine ⟨by (refine ds_none' ?_; intro e he; simp at he), ?_⟩)
  (refine Goes.step rfl (fun _ h₁_ => ?_); replace hF := (KD.grow hc) hF h₁_; clear h₁_; rw [stepG_block]; simp only [goes_go]; refine ⟨by (refine ds_none' ?_; intro e he; simp at he), ?_⟩)
  (refine Goes.step rfl (fun _ h₁_ => ?_); replace hF := (KD.grow hc) hF h₁_; clear h₁_; rw [stepG_seq]; simp only [goes_go]; refine ⟨by (refine ds_none' ?_; intro e he; simp at he), ?_⟩)
  (refine Goes.step rfl (fun _ h₁_ => ?_); replace hF := (KD.grow hc) hF h₁_; clear h₁_)
  rename_i w₁
  rw [stepG_region_draw]
  refine ⟨ds_draw, ?_⟩
  have hok := okl_schedule mixed R16ops (w₁.tape w₁.drawn (.order ((base 10).fn) 16))
  have hlen := okl_len0 hok
  have hsz9 : R16ops.size = 8 := rfl
  rw [hsz9] at hlen
  refine Goes.mono (drawn16 hc hB hT (by omega) (m0 := 40) (fun w hF => mid2 hc hB hg _ ⟨rfl, rfl, rfl, rfl, rfl, rfl, rfl, rfl, rfl, rfl⟩ rfl w hF) _ false false false false false false false _ _ _ _ _ _ _ hok (by simp) (by simp) (by simp) (by simp) (by simp) (by simp) (by simp) _ (hF.grow hc (OffG.of_at ⟨_, rfl⟩))) (Nat.add_le_add_left (Nat.mul_le_mul_right 61 hlen) 40)

/-- the send that is offered -/
def sndOf (c : Ctx) (tl : Nat) (tz : Nat → Int) (g : Nat) : CommCase := if g = c.J then scaseNil (.int .i64 g) (.int .i64 0) else scase (c.H + 8 + 2 * turnOf tl tz c.n g) (.int .i64 g) (.int .i64 0)
/-- an answer's zero on the common channel -/
def zbOf : Value := .agg #[.int .i64 0, .slice none 0 0]
/-- behind the select -/
def Behind2 (c : Ctx) (tv : Value) (cs : List Frame) (g t : Nat) (v : Value) (a : Goroutine) : Prop :=
  ∃ T : Array Value, a = G ((base 10).at ⟨T, []⟩ (.inRegion R22ops [1, 2, 3] :: .code G2 :: rest2)) cs ∧ Sl2 c tv g t T ∧ T[68]? = some v

theorem res0 (c : Ctx) (tl : Nat) (tz : Nat → Int) (g : Nat) : commResult #[sndOf c tl tz g, rcase (c.H + 4) zbOf] .select 0 undef false = .tuple #[.int .i64 0, .bool false, zbOf] := by
  unfold sndOf
  split <;> simp [commResult, scase, scaseNil, rcase, List.zipIdx_cons, goInt]
theorem res1 (c : Ctx) (tl : Nat) (tz : Nat → Int) (g : Nat) (v : Value) : commResult #[sndOf c tl tz g, rcase (c.H + 4) zbOf] .select 1 v true = .tuple #[.int .i64 1, .bool true, v] := by
  unfold sndOf
  split <;> simp [commResult, scase, scaseNil, rcase, List.zipIdx_cons, goInt]

set_option maxRecDepth 100000 in
set_option maxHeartbeats 1000000 in
/-- the select is a communication -/
theorem comm2 {tl : Nat} {tz : Nat → Int} {g t : Nat} {a : Goroutine} (ha : AtSel2 c tv cs g t (chOf c tl tz g) a) : a.status = .running ∧ (∀ w, stepG Try.prog true a w = .comm a #[sndOf c tl tz g, rcase (c.H + 4) zbOf] true .select w #[]) ∧
    (∀ v : Value, Behind2 c tv cs g t (.tuple #[.int .i64 0, .bool false, zbOf]) (a.finishComm Try.prog #[sndOf c tl tz g, rcase (c.H + 4) zbOf] .select 0 undef false) ∧
      Behind2 c tv cs g t (.tuple #[.int .i64 1, .bool true, v]) (a.finishComm Try.prog #[sndOf c tl tz g, rcase (c.H + 4) zbOf] .select 1 v true)) := by
  obtain ⟨T, rfl, hT, h65, h66, h67⟩ := ha
  have hsz := hT.sz
  revert hT h65 h66 h67
  revert hsz
  revert T
  refine by93 ?_
  intro v0 v1 v2 v3 v4 v5 v6 v7 v8 v9 v10 v11 v12 v13 v14 v15 v16 v17 v18 v19 v20 v21 v22 v23 v24 v25 v26 v27 v28 v29 v30 v31 v32 v33 v34 v35 v36 v37 v38 v39 v40 v41 v42 v43 v44 v45 v46 v47 v48 v49 v50 v51 v52 v53 v54 v55 v56 v57 v58 v59 v60 v61 v62 v63 v64 v65 v66 v67 v68 v69 v70 v71 v72 v73 v74 v75 v76 v77 v78 v79 v80 v81 v82 v83 v84 v85 v86 v87 v88 v89 v90 v91 v92 hT h65 h66 h67
  obtain ⟨_, t1, t2, t4, t10, t11, t12, t14, t15, t16⟩ := hT
  simp only [List.getElem?_toArray, List.getElem?_cons_succ, List.getElem?_cons_zero, Option.some.injEq] at t1 t2 t4 t10 t11 t12 t14 t15 t16 h65 h66 h67
  subst t1 t2 t4 t10 t11 t12 t14 t15 t16 h65 h66 h67
  refine ⟨rfl, fun w => ?_, fun v => ⟨?_, ?_⟩⟩
  · simp only [R22ops, F2, D2, B2, L2, C2, C1, bodyR, Try.f10, Option.getD_some]
    unfold chOf sndOf
    split
    · rw [stepG_comm (cases := #[scaseNil (.int .i64 g) (.int .i64 0), rcase (c.H + 4) zbOf]) (blocking := true) (shape := .select) (w' := w) rfl rfl (by decide) (by simp [go_sem, execOp, scaseNil, scase, rcase, zbOf, Act.eval]), listed_none (by simp [go_sem, execOp, Act.eval])]
    · rw [stepG_comm (cases := #[scase (c.H + 8 + 2 * turnOf tl tz c.n g) (.int .i64 g) (.int .i64 0), rcase (c.H + 4) zbOf]) (blocking := true) (shape := .select) (w' := w) rfl rfl (by decide) (by simp [go_sem, execOp, scaseNil, scase, rcase, zbOf, Act.eval]), listed_none (by simp [go_sem, execOp, Act.eval])]
  · have e := res0 c tl tz g
    refine ⟨(v0 :: (.int .i64 c.n) :: v2 :: v3 :: (pt c.H) :: v5 :: v6 :: v7 :: v8 :: v9 :: (pt (c.H + 3)) :: (pt (c.H + 5)) :: (pt (c.H + 6)) :: v13 :: (.slice (some ⟨c.H + 7 + 2 * c.n, 0, none⟩) c.J c.J) :: (.int .i64 g) :: (.int .i64 t) :: v17 :: v18 :: v19 :: v20 :: v21 :: v22 :: v23 :: v24 :: v25 :: v26 :: v27 :: v28 :: v29 :: v30 :: v31 :: v32 :: v33 :: v34 :: v35 :: v36 :: v37 :: v38 :: v39 :: v40 :: v41 :: v42 :: v43 :: v44 :: v45 :: v46 :: v47 :: v48 :: v49 :: v50 :: v51 :: v52 :: v53 :: v54 :: v55 :: v56 :: v57 :: v58 :: v59 :: v60 :: v61 :: v62 :: v63 :: v64 :: (chOf c tl tz g) :: (.int .i64 g) :: (.chan (some (c.H + 4))) :: (.tuple #[.int .i64 0, .bool false, zbOf]) :: v69 :: v70 :: v71 :: v72 :: v73 :: v74 :: v75 :: v76 :: v77 :: v78 :: v79 :: v80 :: v81 :: v82 :: v83 :: v84 :: v85 :: v86 :: v87 :: v88 :: v89 :: v90 :: v91 :: v92 :: []).toArray, ?_, ⟨rfl, rfl, rfl, rfl, rfl, rfl, rfl, rfl, rfl, rfl⟩, rfl⟩
    · unfold Goroutine.finishComm G
      rw [e]
      simp only []
      rw [Frame.finish_at]
      rfl
  · have e := res1 c tl tz g v
    refine ⟨(v0 :: (.int .i64 c.n) :: v2 :: v3 :: (pt c.H) :: v5 :: v6 :: v7 :: v8 :: v9 :: (pt (c.H + 3)) :: (pt (c.H + 5)) :: (pt (c.H + 6)) :: v13 :: (.slice (some ⟨c.H + 7 + 2 * c.n, 0, none⟩) c.J c.J) :: (.int .i64 g) :: (.int .i64 t) :: v17 :: v18 :: v19 :: v20 :: v21 :: v22 :: v23 :: v24 :: v25 :: v26 :: v27 :: v28 :: v29 :: v30 :: v31 :: v32 :: v33 :: v34 :: v35 :: v36 :: v37 :: v38 :: v39 :: v40 :: v41 :: v42 :: v43 :: v44 :: v45 :: v46 :: v47 :: v48 :: v49 :: v50 :: v51 :: v52 :: v53 :: v54 :: v55 :: v56 :: v57 :: v58 :: v59 :: v60 :: v61 :: v62 :: v63 :: v64 :: (chOf c tl tz g) :: (.int .i64 g) :: (.chan (some (c.H + 4))) :: (.tuple #[.int .i64 1, .bool true, v]) :: v69 :: v70 :: v71 :: v72 :: v73 :: v74 :: v75 :: v76 :: v77 :: v78 :: v79 :: v80 :: v81 :: v82 :: v83 :: v84 :: v85 :: v86 :: v87 :: v88 :: v89 :: v90 :: v91 :: v92 :: []).toArray, ?_, ⟨rfl, rfl, rfl, rfl, rfl, rfl, rfl, rfl, rfl, rfl⟩, rfl⟩
    · unfold Goroutine.finishComm G
      rw [e]
      simp only []
      rw [Frame.finish_at]
      rfl

set_option maxRecDepth 100000 in
set_option maxHeartbeats 1000000 in
/-- a job was given -/
theorem sent2 (hc : OkC c Shun) {g t : Nat} {don : Nat → Prop} (hg : g ≤ c.J) {z : Value} {a : Goroutine} {w : World} (ha : Behind2 c tv cs g t (.tuple #[.int .i64 0, .bool false, z]) a) (hF : KD c 29 W t don w) :
    Goes Try.prog true (SR1 c) (DS c Shun B c.n) (fun a w => Head2 c tv cs (g + 1) t a ∧ KD c 29 W t don w) 15 a w := by
  have hJ := hc.Jmax
  have hw : IntKind.wrap .i64 ((g : Int) + 1) = ((g + 1 : Nat) : Int) := by rw [IntKind.wrap_i64]; omega
  obtain ⟨T, rfl, hT, h68⟩ := ha
  have hsz := hT.sz
  revert hT h68
  revert hsz
  revert T
  refine by93 ?_
  intro v0 v1 v2 v3 v4 v5 v6 v7 v8 v9 v10 v11 v12 v13 v14 v15 v16 v17 v18 v19 v20 v21 v22 v23 v24 v25 v26 v27 v28 v29 v30 v31 v32 v33 v34 v35 v36 v37 v38 v39 v40 v41 v42 v43 v44 v45 v46 v47 v48 v49 v50 v51 v52 v53 v54 v55 v56 v57 v58 v59 v60 v61 v62 v63 v64 v65 v66 v67 v68 v69 v70 v71 v72 v73 v74 v75 v76 v77 v78 v79 v80 v81 v82 v83 v84 v85 v86 v87 v88 v89 v90 v91 v92 hT h68
  obtain ⟨_, t1, t2, t4, t10, t11, t12, t14, t15, t16⟩ := hT
  simp only [List.getElem?_toArray, List.getElem?_cons_succ, List.getElem?_cons_zero, Option.some.injEq] at t1 t2 t4 t10 t11 t12 t14 t15 t16 h68
  subst t1 t2 t4 t10 t11 t12 t14 t15 t16 h68
  simp only [R22ops, G2, F2, D2, B2, L2, C2, C1, bodyR, Try.f10, Option.getD_some, pt, rest2]
  (refine Goes.step rfl (fun _ h₁_ => ?_); replace hF := (KD.grow hc) hF h₁_; clear h₁_; refine goes_oper_k rfl rfl (by k_ne) (fun K_ hK_ => ?_); go_simp; refine hK_ _ _ ⟨?_, ?_⟩; (focus (refine ds_none' ?_; intro e he; have hm := mem_listed he; simp [go_sem, *] at hm)); clear hK_ K_; try w_num)
  (refine Goes.step rfl (fun _ h₁_ => ?_); replace hF := (KD.grow hc) hF h₁_; clear h₁_; refine goes_oper_k rfl rfl (by k_ne) (fun K_ hK_ => ?_); go_simp; refine hK_ _ _ ⟨?_, ?_⟩; (focus (refine ds_none' ?_; intro e he; have hm := mem_listed he; simp [go_sem, *] at hm)); clear hK_ K_; try w_num)
  (refine Goes.step rfl (fun _ h₁_ => ?_); replace hF := (KD.grow hc) hF h₁_; clear h₁_; refine goes_oper_k rfl rfl (by k_ne) (fun K_ hK_ => ?_); go_simp; refine hK_ _ _ ⟨?_, ?_⟩; (focus (refine ds_none' ?_; intro e he; have hm := mem_listed he; simp [go_sem, *] at hm)); clear hK_ K_; try w_num)
  (refine Goes.step rfl (fun _ h₁_ => ?_); replace hF := (KD.grow hc) hF h₁_; clear h₁_; rw [stepG_region_end]; simp only [goes_go]; refine ⟨by (refine ds_none' ?_; intro e he; simp at he), ?_⟩)
  (refine Goes.step rfl (fun _ h₁_ => ?_); replace hF := (KD.grow hc) hF h₁_; clear h₁_; rw [stepG_block]; simp only [goes_go]; refine ⟨by (refine ds_none' ?_; intro e he; simp at he), ?_⟩)
  (refine Goes.step rfl (fun _ h₁_ => ?_); replace hF := (KD.grow hc) hF h₁_; clear h₁_; rw [stepG_cond (t := true) rfl]; simp only [goes_go, if_true, if_false, Bool.false_eq_true, ↓reduceIte]; refine ⟨by (refine ds_none' ?_; intro e he; simp at he), ?_⟩)
  (refine Goes.step rfl (fun _ h₁_ => ?_); replace hF := (KD.grow hc) hF h₁_; clear h₁_; rw [stepG_region]; simp only [goes_go, List.size_toArray, List.length_cons, List.length_nil, Nat.reduceAdd, Nat.zero_add, List.range, List.range.loop]; refine ⟨by (refine ds_none' ?_; intro e he; simp at he), ?_⟩)
  (refine Goes.step rfl (fun _ h₁_ => ?_); replace hF := (KD.grow hc) hF h₁_; clear h₁_; refine goes_oper_k rfl rfl (by k_ne) (fun K_ hK_ => ?_); go_simp; refine hK_ _ _ ⟨?_, ?_⟩; (focus (refine ds_none' ?_; intro e he; have hm := mem_listed he; simp [go_sem, *] at hm)); clear hK_ K_; try w_num)
  (refine Goes.step rfl (fun _ h₁_ => ?_); replace hF := (KD.grow hc) hF h₁_; clear h₁_; refine goes_oper_k rfl rfl (by k_ne) (fun K_ hK_ => ?_); go_simp; refine hK_ _ _ ⟨?_, ?_⟩; (focus (refine ds_none' ?_; intro e he; have hm := mem_listed he; simp [go_sem, *] at hm)); clear hK_ K_; try w_num)
  (refine Goes.step rfl (fun _ h₁_ => ?_); replace hF := (KD.grow hc) hF h₁_; clear h₁_; refine goes_oper_k rfl rfl (by k_ne) (fun K_ hK_ => ?_); go_simp; refine hK_ _ _ ⟨?_, ?_⟩; (focus (refine ds_none' ?_; intro e he; have hm := mem_listed he; simp [go_sem, *] at hm)); clear hK_ K_; try w_num)
  (refine Goes.step rfl (fun _ h₁_ => ?_); replace hF := (KD.grow hc) hF h₁_; clear h₁_; rw [stepG_region_end]; simp only [goes_go]; refine ⟨by (refine ds_none' ?_; intro e he; simp at he), ?_⟩)
  (refine Goes.step rfl (fun _ h₁_ => ?_); replace hF := (KD.grow hc) hF h₁_; clear h₁_; rw [stepG_inBlock]; simp only [goes_go]; refine ⟨by (refine ds_none' ?_; intro e he; simp at he), ?_⟩)
  (refine Goes.step rfl (fun _ h₁_ => ?_); replace hF := (KD.grow hc) hF h₁_; clear h₁_; rw [stepG_inBlock]; simp only [goes_go]; refine ⟨by (refine ds_none' ?_; intro e he; simp at he), ?_⟩)
  (refine Goes.step rfl (fun _ h₁_ => ?_); replace hF := (KD.grow hc) hF h₁_; clear h₁_; rw [stepG_inLoop]; simp only [goes_go]; refine ⟨by (refine ds_none' ?_; intro e he; simp at he), ?_⟩)
  exact Goes.stop (fun w₁ h₁ => ⟨⟨_, rfl, ⟨rfl, rfl, rfl, rfl, rfl, rfl, rfl, rfl, rfl, rfl⟩⟩, hF.grow hc h₁⟩)

set_option maxRecDepth 100000 in
set_option maxHeartbeats 1000000 in
/-- an answer was taken -/
theorem got2 (hc : OkC c Shun) (hB : c.H + 8 + 2 * c.n ≤ B) {g t x : Nat} {v : Value} {don : Nat → Prop} (ht : t < c.J) (hx : x < c.J) {a : Goroutine} {w : World} (ha : Behind2 c tv cs g t (.tuple #[.int .i64 1, .bool true, .agg #[.int .i64 x, v]]) a) (hF : KDA c 29 W t don x v w) :
    Goes Try.prog true (SR1 c) (DS c Shun B c.n) (fun a w => Head2 c tv cs g (t + 1) a ∧ KD c 29 W (t + 1) (fun y => don y ∨ y = x) w) 40 a w := by
  have hJ := hc.Jmax
  have hw : IntKind.wrap .i64 ((t : Int) + 1) = ((t + 1 : Nat) : Int) := by rw [IntKind.wrap_i64]; omega
  obtain ⟨T, rfl, hT, h68⟩ := ha
  have hsz := hT.sz
  revert hT h68
  revert hsz
  revert T
  refine by93 ?_
  intro v0 v1 v2 v3 v4 v5 v6 v7 v8 v9 v10 v11 v12 v13 v14 v15 v16 v17 v18 v19 v20 v21 v22 v23 v24 v25 v26 v27 v28 v29 v30 v31 v32 v33 v34 v35 v36 v37 v38 v39 v40 v41 v42 v43 v44 v45 v46 v47 v48 v49 v50 v51 v52 v53 v54 v55 v56 v57 v58 v59 v60 v61 v62 v63 v64 v65 v66 v67 v68 v69 v70 v71 v72 v73 v74 v75 v76 v77 v78 v79 v80 v81 v82 v83 v84 v85 v86 v87 v88 v89 v90 v91 v92 hT h68
  obtain ⟨_, t1, t2, t4, t10, t11, t12, t14, t15, t16⟩ := hT
  simp only [List.getElem?_toArray, List.getElem?_cons_succ, List.getElem?_cons_zero, Option.some.injEq] at t1 t2 t4 t10 t11 t12 t14 t15 t16 h68
  subst t1 t2 t4 t10 t11 t12 t14 t15 t16 h68
  simp only [R22ops, G2, F2, D2, B2, L2, C2, C1, bodyR, Try.f10, Option.getD_some, pt, rest2]
  (refine Goes.step rfl (fun _ h₁_ => ?_); replace hF := (KDA.grow hc) hF h₁_; clear h₁_; refine goes_oper_k rfl rfl (by k_ne) (fun K_ hK_ => ?_); go_simp; refine hK_ _ _ ⟨?_, ?_⟩; (focus (refine ds_none' ?_; intro e he; have hm := mem_listed he; simp [go_sem, *] at hm)); clear hK_ K_; try w_num)
  (refine Goes.step rfl (fun _ h₁_ => ?_); replace hF := (KDA.grow hc) hF h₁_; clear h₁_; refine goes_oper_k rfl rfl (by k_ne) (fun K_ hK_ => ?_); go_simp; refine hK_ _ _ ⟨?_, ?_⟩; (focus (refine ds_none' ?_; intro e he; have hm := mem_listed he; simp [go_sem, *] at hm)); clear hK_ K_; try w_num)
  (refine Goes.step rfl (fun _ h₁_ => ?_); replace hF := (KDA.grow hc) hF h₁_; clear h₁_; refine goes_oper_k rfl rfl (by k_ne) (fun K_ hK_ => ?_); go_simp; refine hK_ _ _ ⟨?_, ?_⟩; (focus (refine ds_none' ?_; intro e he; have hm := mem_listed he; simp [go_sem, *] at hm)); clear hK_ K_; try w_num)
  (refine Goes.step rfl (fun _ h₁_ => ?_); replace hF := (KDA.grow hc) hF h₁_; clear h₁_; rw [stepG_region_end]; simp only [goes_go]; refine ⟨by (refine ds_none' ?_; intro e he; simp at he), ?_⟩)
  (refine Goes.step rfl (fun _ h₁_ => ?_); replace hF := (KDA.grow hc) hF h₁_; clear h₁_; rw [stepG_block]; simp only [goes_go]; refine ⟨by (refine ds_none' ?_; intro e he; simp at he), ?_⟩)
  (refine Goes.step rfl (fun _ h₁_ => ?_); replace hF := (KDA.grow hc) hF h₁_; clear h₁_; rw [stepG_cond (t := false) rfl]; simp only [goes_go, if_true, if_false, Bool.false_eq_true, ↓reduceIte]; refine ⟨by (refine ds_none' ?_; intro e he; simp at he), ?_⟩)
  (refine Goes.step rfl (fun _ h₁_ => ?_); replace hF := (KDA.grow hc) hF h₁_; clear h₁_; rw [stepG_cond (t := true) rfl]; simp only [goes_go, if_true, if_false, Bool.false_eq_true, ↓reduceIte]; refine ⟨by (refine ds_none' ?_; intro e he; simp at he), ?_⟩)
  (refine Goes.step rfl (fun _ h₁_ => ?_); replace hF := (KDA.grow hc) hF h₁_; clear h₁_; rw [stepG_seq]; simp only [goes_go]; refine ⟨by (refine ds_none' ?_; intro e he; simp at he), ?_⟩)
  (refine Goes.step rfl (fun _ h₁_ => ?_); replace hF := (KDA.grow hc) hF h₁_; clear h₁_; rw [stepG_region]; simp only [goes_go, List.size_toArray, List.length_cons, List.length_nil, Nat.reduceAdd, Nat.zero_add, List.range, List.range.loop]; refine ⟨by (refine ds_none' ?_; intro e he; simp at he), ?_⟩)
  (refine Goes.step rfl (fun _ h₁_ => ?_); replace hF := (KDA.grow hc) hF h₁_; clear h₁_; refine goes_oper_k rfl rfl (by k_ne) (fun K_ hK_ => ?_); go_simp; refine hK_ _ _ ⟨?_, ?_⟩; (focus (refine ds_none' ?_; intro e he; have hm := mem_listed he; simp [go_sem, *] at hm)); clear hK_ K_; try w_num)
  (refine Goes.step rfl (fun _ h₁_ => ?_); replace hF := (KDA.grow hc) hF h₁_; clear h₁_; refine goes_oper_k rfl rfl (by decide) (fun K_ hK_ => ?_); go_simp; refine hK_ _ _ ⟨(ds_alloc (by have hz_ := hF.1.sz; omega)) (fun e he => ?_), ?_⟩; (focus (have hm := mem_listed he; simp [go_sem, storedEv, *] at hm; try (subst hm; exact (evs_hi hc _ _ (by simp; omega) (by simp; omega) (by simp; omega) (fun _ => dep_hi hc (by simp; omega)))))); clear hK_ K_ )
  have hX := hF.box (de := 59) hc (.int .i64 0) (.slice none 0 0)
  clear hF
  rename_i w₀
  generalize w₀.heap.size = x0 at hX ⊢
  have hi0 := hX.1.hi
  generalize w₀.alloc (.cells #[.int .i64 0, .slice none 0 0] 59) = w₂ at hX ⊢
  (refine Goes.step rfl (fun _ h₁_ => ?_); replace hX := (KXA.grow hc) hX h₁_; clear h₁_)
  have hc0 := hX.1.c0
  have hc1 := hX.1.c1
  have hf0 := hX.1.f 0
  have hf1 := hX.1.f 1
  have hxl := hX.1.lt
  have hv2 := hc.f2 _ _ _ hX.2
  have hrs : ∀ w a m, (store a v m).run Try.prog w = stored Try.prog w a v m := fun w a m => run_store _ _ _ _ _ hv2
  have hes : ∀ w es a m, (store a v m).events Try.prog w es = storedEv Try.prog w es a v m := fun w es a m => events_store _ _ _ a v m hv2
  refine goes_oper_k rfl rfl (by decide) (fun K_ hK_ => ?_)
  go_simp
  refine hK_ _ _ ⟨ds_below (((Below.refl _ _).setCell (by simp only; omega) _).setCell (by simp only; omega) _) (hX.put hc (by decide) _ _).2 (fun e he => ?_), ?_⟩
  · have hm := mem_listed he
    simp [go_sem, storedEv, *] at hm
    rcases hm with rfl | rfl
    · exact evs_hi hc _ _ (by simp; omega) (by simp; omega) (by simpa using hxl) (fun _ => dep_hi hc (by simp; omega))
    · exact evs_hi hc _ _ (by simp; omega) (by simp; omega) (by simpa using hxl) (fun _ => dep_hi hc (by simp; omega))
  clear hK_ K_ hc0 hc1 hf0 hf1 hxl
  replace hX := (hX.put hc (by decide) (.int .i64 x) v).1
  (refine Goes.step rfl (fun _ h₁_ => ?_); replace hX := (KXA.grow hc) hX h₁_; clear h₁_; rw [stepG_region_end]; simp only [goes_go]; refine ⟨by (refine ds_none' ?_; intro e he; simp at he), ?_⟩)
  (refine Goes.step rfl (fun _ h₁_ => ?_); replace hX := (KXA.grow hc) hX h₁_; clear h₁_; rw [stepG_seq]; simp only [goes_go]; refine ⟨by (refine ds_none' ?_; intro e he; simp at he), ?_⟩)
  (refine Goes.step rfl (fun _ h₁_ => ?_); replace hX := (KXA.grow hc) hX h₁_; clear h₁_; rw [stepG_region]; simp only [goes_go, List.size_toArray, List.length_cons, List.length_nil, Nat.reduceAdd, Nat.zero_add, List.range, List.range.loop]; refine ⟨by (refine ds_none' ?_; intro e he; simp at he), ?_⟩)
  (refine Goes.step rfl (fun _ h₁_ => ?_); replace hX := (KXA.grow hc) hX h₁_; clear h₁_; refine goes_oper_k rfl rfl (by k_ne) (fun K_ hK_ => ?_); go_simp; refine hK_ _ _ ⟨?_, ?_⟩; (focus (refine ds_none' ?_; intro e he; have hm := mem_listed he; simp [go_sem, *] at hm)); clear hK_ K_; try w_num)
  (refine Goes.step rfl (fun _ h₁_ => ?_); replace hX := (KXA.grow hc) hX h₁_; clear h₁_; refine goes_oper_k rfl rfl (by k_ne) (fun K_ hK_ => ?_); go_simp; refine hK_ _ _ ⟨?_, ?_⟩; (focus (refine ds_none' ?_; intro e he; have hm := mem_listed he; simp [go_sem, *] at hm)); clear hK_ K_; try w_num)
  (refine Goes.step rfl (fun _ h₁_ => ?_); replace hX := (KXA.grow hc) hX h₁_; clear h₁_; refine goes_oper_k rfl rfl (by decide) (fun K_ hK_ => ?_); have hf0_ := (hX.1.c0); go_simp; refine hK_ _ _ ⟨ds_still (fun e he => ?_), ?_⟩; (focus (have hm := mem_listed he; simp [go_sem, storedEv, *] at hm; try (subst hm; exact (evs_hi hc _ _ (by simp; omega) (by simp; omega) (by simpa using hX.1.lt) (fun h => by cases h))))); clear hK_ K_ hf0_)
  (refine Goes.step rfl (fun _ h₁_ => ?_); replace hX := (KXA.grow hc) hX h₁_; clear h₁_; refine goes_oper_k rfl rfl (by k_ne) (fun K_ hK_ => ?_); go_simp; refine hK_ _ _ ⟨?_, ?_⟩; (focus (refine ds_none' ?_; intro e he; have hm := mem_listed he; simp [go_sem, *] at hm)); clear hK_ K_; try w_num)
  (refine Goes.step rfl (fun _ h₁_ => ?_); replace hX := (KXA.grow hc) hX h₁_; clear h₁_; refine goes_oper_k rfl rfl (by decide) (fun K_ hK_ => ?_); have hf0_ := (hX.1.c1); go_simp; refine hK_ _ _ ⟨ds_still (fun e he => ?_), ?_⟩; (focus (have hm := mem_listed he; simp [go_sem, storedEv, *] at hm; try (subst hm; exact (evs_hi hc _ _ (by simp; omega) (by simp; omega) (by simpa using hX.1.lt) (fun h => by cases h))))); clear hK_ K_ hf0_)
  have hx0 : (0 : Int) ≤ (x : Int) := by omega
  have hx1 : (x : Int) < (c.J : Int) := by omega
  (refine Goes.step rfl (fun _ h₁_ => ?_); replace hX := (KXA.grow hc) hX h₁_; clear h₁_; refine goes_oper_k rfl rfl (by k_ne) (fun K_ hK_ => ?_); go_simp; refine hK_ _ _ ⟨?_, ?_⟩; (focus (refine ds_none' ?_; intro e he; have hm := mem_listed he; simp [go_sem, *] at hm)); clear hK_ K_; try w_num)
  (refine Goes.step rfl (fun _ h₁_ => ?_); replace hX := (KXA.grow hc) hX h₁_; clear h₁_)
  have hF := hX.1.kd
  have hAn := hX.2
  clear hX
  obtain ⟨dv, hdv⟩ := hF.ocell hx
  have hdf := hF.ofree x
  have hfc := hc.f1 _ _ _ hAn
  simp only [Value.cells] at hfc
  (refine goes_oper_k rfl rfl (by decide) (fun K_ hK_ => ?_); go_simp; refine hK_ _ _ ⟨(ds_set (by simp) (fun arr e => by obtain ⟨ar, e2, _⟩ := hF.outb; simp only at e; rw [e2] at e; cases e)) (fun e he => ?_), ?_⟩; (focus (have hm := mem_listed he; simp [go_sem, storedEv, *] at hm; try (subst hm; exact (evs_hi hc _ _ (by simp; omega) (by simp; omega) (by have hz_ := hF.sz; simp; omega) (fun _ => dep_hi hc (by simp)))))); clear hK_ K_ )
  clear hdv hdf hrs hes hx0 hx1 hfc
  replace hF := hF.put hc (by decide) hx hAn
  clear hAn
  (refine Goes.step rfl (fun _ h₁_ => ?_); replace hF := (KD.grow hc) hF h₁_; clear h₁_; rw [stepG_region_end]; simp only [goes_go]; refine ⟨by (refine ds_none' ?_; intro e he; simp at he), ?_⟩)
  (refine Goes.step rfl (fun _ h₁_ => ?_); replace hF := (KD.grow hc) hF h₁_; clear h₁_; rw [stepG_region]; simp only [goes_go, List.size_toArray, List.length_cons, List.length_nil, Nat.reduceAdd, Nat.zero_add, List.range, List.range.loop]; refine ⟨by (refine ds_none' ?_; intro e he; simp at he), ?_⟩)
  (refine Goes.step rfl (fun _ h₁_ => ?_); replace hF := (KD.grow hc) hF h₁_; clear h₁_; refine goes_oper_k rfl rfl (by k_ne) (fun K_ hK_ => ?_); go_simp; refine hK_ _ _ ⟨?_, ?_⟩; (focus (refine ds_none' ?_; intro e he; have hm := mem_listed he; simp [go_sem, *] at hm)); clear hK_ K_; try w_num)
  (refine Goes.step rfl (fun _ h₁_ => ?_); replace hF := (KD.grow hc) hF h₁_; clear h₁_; refine goes_oper_k rfl rfl (by k_ne) (fun K_ hK_ => ?_); go_simp; refine hK_ _ _ ⟨?_, ?_⟩; (focus (refine ds_none' ?_; intro e he; have hm := mem_listed he; simp [go_sem, *] at hm)); clear hK_ K_; try w_num)
  (refine Goes.step rfl (fun _ h₁_ => ?_); replace hF := (KD.grow hc) hF h₁_; clear h₁_; refine goes_oper_k rfl rfl (by k_ne) (fun K_ hK_ => ?_); go_simp; refine hK_ _ _ ⟨?_, ?_⟩; (focus (refine ds_none' ?_; intro e he; have hm := mem_listed he; simp [go_sem, *] at hm)); clear hK_ K_; try w_num)
  (refine Goes.step rfl (fun _ h₁_ => ?_); replace hF := (KD.grow hc) hF h₁_; clear h₁_; rw [stepG_region_end]; simp only [goes_go]; refine ⟨by (refine ds_none' ?_; intro e he; simp at he), ?_⟩)
  (refine Goes.step rfl (fun _ h₁_ => ?_); replace hF := (KD.grow hc) hF h₁_; clear h₁_; rw [stepG_inBlock]; simp only [goes_go]; refine ⟨by (refine ds_none' ?_; intro e he; simp at he), ?_⟩)
  (refine Goes.step rfl (fun _ h₁_ => ?_); replace hF := (KD.grow hc) hF h₁_; clear h₁_; rw [stepG_inBlock]; simp only [goes_go]; refine ⟨by (refine ds_none' ?_; intro e he; simp at he), ?_⟩)
  (refine Goes.step rfl (fun _ h₁_ => ?_); replace hF := (KD.grow hc) hF h₁_; clear h₁_; rw [stepG_inLoop]; simp only [goes_go]; refine ⟨by (refine ds_none' ?_; intro e he; simp at he), ?_⟩)
  exact Goes.stop (fun w₁ h₁ => ⟨⟨_, rfl, ⟨rfl, rfl, rfl, rfl, rfl, rfl, rfl, rfl, rfl, rfl⟩⟩, hF.grow hc h₁⟩)
end
end Go.Proofs.Ytngnkdedfcnfkaa.R10

/-
  lantern/pool.Run (function 8): the starter's second loop: jobs are handed out, answers are taken.
-/
import Derived.Test.YtngnkdedfcnfkaaRAU
import Derived.Test.YtngnkdedfcnfkaaPrT
set_option linter.unusedSimpArgs false
set_option linter.unusedVariables false
namespace Go.Proofs.Ytngnkdedfcnfkaa.R8
open Go Go.Conc Go.RowKit Go.Conc.Lib Go.ConcR.Gen Go.ConcN.Gen
open Go.ConcN (WgLive Has RW ShN upd upd_same upd_ne goes_mono)
open Go.ConcR (KK WgAt stA smA)

noncomputable def L2 : Code := match C2 with | .seq _ (.seq _ (.seq (.block _ (.loop c)) _)) => c | _ => .skip
noncomputable def C3 : Code := match C2 with | .seq _ (.seq _ (.seq _ c)) => c | _ => .skip
noncomputable def B2 : Code := match L2 with | .seq _ (.block _ c) => c | _ => .skip
noncomputable def R16ops : Array Oper := match B2 with | .seq (.region _ ops _) _ => ops | _ => #[]
noncomputable def D2 : Code := match B2 with | .seq _ c => c | _ => .skip
noncomputable def F2 : Code := match D2 with | .seq _ (.seq _ c) => c | _ => .skip
noncomputable def R22ops : Array Oper := match F2 with | .seq (.region _ ops _) _ => ops | _ => #[]
noncomputable def G2 : Code := match F2 with | .seq _ c => c | _ => .skip
noncomputable def rest2 : List Item := [.inBlock 3, .inLoop L2, .inBlock 2, .code C3]
structure Sl2 (c : Ctx) (tv : Value) (g t : Nat) (T : Array Value) : Prop where
  sz : T.size = 93
  s1 : T[1]? = some (.int .i64 c.n)
  s2 : T[2]? = some tv
  s4 : T[4]? = some (pt c.H)
  s10 : T[10]? = some (pt (c.H + 3))
  s11 : T[11]? = some (pt (c.H + 5))
  s12 : T[12]? = some (pt (c.H + 6))
  s14 : T[14]? = some (.slice (some ⟨c.H + 7 + 2 * c.n, 0, none⟩) c.J c.J)
  s15 : T[15]? = some (.int .i64 g)
  s16 : T[16]? = some (.int .i64 t)
/-- at the head of the loop: g given, t taken -/
def Head2 (c : Ctx) (tv : Value) (cs : List Frame) (g t : Nat) (a : Goroutine) : Prop :=
  ∃ T : Array Value, a = G ((base 8).at ⟨T, []⟩ [.code L2, .inLoop L2, .inBlock 2, .code C3]) cs ∧ Sl2 c tv g t T
theorem infoR : (Try.prog.info? 3).map (fun i => (i.zero, i.size, i.bytes)) = some (some (.int .i64 0), 1, 8) := by kernel_rfl

section
variable {c : Ctx} {Shun : Loc → Prop} {B : Nat} {cs : List Frame} {W : World} {tv : Value}
set_option maxRecDepth 100000 in
/-- from the first loop's end to the second's head -/
theorem out2 (hc : OkC c Shun) (hB : c.H + 8 + 2 * c.n ≤ B) {g : Goroutine} {w : World} (hg : Head1 c tv cs c.n g) (hF : KS c W c.n w) :
    Goes Try.prog true SR0 (DS c Shun B c.n) (fun g w => Head2 c tv cs 0 0 g ∧ KD c 3 W 0 (fun _ => False) w) 30 g w := by
  have hlt : decide ((c.n : Int) < (c.n : Int)) = false := decide_eq_false (by omega)
  obtain ⟨i0, hi, hz0, hz1, hz2⟩ := info_parts infoR
  have hJ2 := hc.Jmax
  have hmk := fun w => run_make (P := Try.prog) w 22 3 i0 (.int .i64 0) Try.underlying22 hi hz0 .i64 .i64 c.J c.J (by omega) (by omega) (by rw [hz2]; omega) (by omega)
  have hme := fun w es => events_make (P := Try.prog) w 22 3 i0 (.int .i64 0) Try.underlying22 hi hz0 .i64 .i64 c.J c.J (by omega) (by omega) (by rw [hz2]; omega) (by omega) (by rw [hz2]; simp; omega) es
  obtain ⟨T, rfl, hT⟩ := hg
  have hsz := hT.sz
  revert hT
  revert hsz
  revert T
  refine by93 ?_
  intro v0 v1 v2 v3 v4 v5 v6 v7 v8 v9 v10 v11 v12 v13 v14 v15 v16 v17 v18 v19 v20 v21 v22 v23 v24 v25 v26 v27 v28 v29 v30 v31 v32 v33 v34 v35 v36 v37 v38 v39 v40 v41 v42 v43 v44 v45 v46 v47 v48 v49 v50 v51 v52 v53 v54 v55 v56 v57 v58 v59 v60 v61 v62 v63 v64 v65 v66 v67 v68 v69 v70 v71 v72 v73 v74 v75 v76 v77 v78 v79 v80 v81 v82 v83 v84 v85 v86 v87 v88 v89 v90 v91 v92 hT
  obtain ⟨_, t1, t2, t4, t7, t10, t11, t12, t36, t37⟩ := hT
  simp only [List.getElem?_toArray, List.getElem?_cons_succ, List.getElem?_cons_zero, Option.some.injEq] at t1 t2 t4 t7 t10 t11 t12 t36 t37
  subst t1 t2 t4 t7 t10 t11 t12 t36 t37
  simp only [L1, C1, bodyR, Try.f8, Option.getD_some, pt]
  (refine Goes.step rfl (fun _ h₁_ => ?_); replace hF := KS.off hF h₁_; clear h₁_; rw [stepG_seq]; simp only [goes_go]; refine ⟨by (refine ds_none' ?_; intro e he; simp at he), ?_⟩)
  (refine Goes.step rfl (fun _ h₁_ => ?_); replace hF := KS.off hF h₁_; clear h₁_; rw [stepG_region]; simp only [goes_go, List.size_toArray, List.length_cons, List.length_nil, Nat.reduceAdd, Nat.zero_add, List.range, List.range.loop]; refine ⟨by (refine ds_none' ?_; intro e he; simp at he), ?_⟩)
  (refine Goes.step rfl (fun _ h₁_ => ?_); replace hF := KS.off hF h₁_; clear h₁_; refine goes_oper_k rfl rfl (by k_ne) (fun K_ hK_ => ?_); go_simp; refine hK_ _ _ ⟨?_, ?_⟩; (focus (refine ds_none' ?_; intro e he; have hm := mem_listed he; simp [go_sem, *] at hm)); clear hK_ K_; try w_num)
  (refine Goes.step rfl (fun _ h₁_ => ?_); replace hF := KS.off hF h₁_; clear h₁_; rw [stepG_region_end]; simp only [goes_go]; refine ⟨by (refine ds_none' ?_; intro e he; simp at he), ?_⟩)
  (refine Goes.step rfl (fun _ h₁_ => ?_); replace hF := KS.off hF h₁_; clear h₁_; rw [stepG_seq]; simp only [goes_go]; refine ⟨by (refine ds_none' ?_; intro e he; simp at he), ?_⟩)
  (refine Goes.step rfl (fun _ h₁_ => ?_); replace hF := KS.off hF h₁_; clear h₁_; rw [stepG_cond (t := false) rfl]; simp only [goes_go, if_true, if_false, Bool.false_eq_true, ↓reduceIte]; refine ⟨by (refine ds_none' ?_; intro e he; simp at he), ?_⟩)
  (refine Goes.step rfl (fun _ h₁_ => ?_); replace hF := KS.off hF h₁_; clear h₁_; refine goes_exit rfl ?_; refine ⟨by (refine ds_none' ?_; intro e he; simp at he), ?_⟩)
  simp only [C2, C1, bodyR, Try.f8, Option.getD_some]
  (refine Goes.step rfl (fun _ h₁_ => ?_); replace hF := KS.off hF h₁_; clear h₁_; rw [stepG_seq]; simp only [goes_go]; refine ⟨by (refine ds_none' ?_; intro e he; simp at he), ?_⟩)
  (refine Goes.step rfl (fun _ h₁_ => ?_); replace hF := KS.off hF h₁_; clear h₁_; rw [stepG_region]; simp only [goes_go, List.size_toArray, List.length_cons, List.length_nil, Nat.reduceAdd, Nat.zero_add, List.range, List.range.loop]; refine ⟨by (refine ds_none' ?_; intro e he; simp at he), ?_⟩)
  (refine Goes.step rfl (fun _ h₁_ => ?_); replace hF := KS.off hF h₁_; clear h₁_; refine goes_oper_k rfl rfl (by decide) (fun K_ hK_ => ?_); have hf0_ := (hF.jobsv); go_simp; refine hK_ _ _ ⟨ds_still (fun e he => ?_), ?_⟩; (focus (have hm := mem_listed he; simp [go_sem, storedEv, *] at hm; try (subst hm; exact (evs_hi hc _ _ (by simp) (by simp) (by have hz_ := hF.sz; simp; omega) (fun h => by cases h))))); clear hK_ K_ hf0_)
  (refine Goes.step rfl (fun _ h₁_ => ?_); replace hF := KS.off hF h₁_; clear h₁_; refine goes_oper_k rfl rfl (by k_ne) (fun K_ hK_ => ?_); go_simp; refine hK_ _ _ ⟨?_, ?_⟩; (focus (refine ds_none' ?_; intro e he; have hm := mem_listed he; simp [go_sem, *] at hm)); clear hK_ K_; try w_num)
  (refine Goes.step rfl (fun _ h₁_ => ?_); replace hF := KS.off hF h₁_; clear h₁_; refine goes_oper_k rfl rfl (by decide) (fun K_ hK_ => ?_); have hf0_ := (hF.sz); go_simp; refine hK_ _ _ ⟨(ds_alloc (Nat.le_of_eq hF.sz.symm)) (fun e he => ?_), ?_⟩; (focus (have hm := mem_listed he; simp [go_sem, storedEv, *] at hm; try (subst hm; exact (evs_hi hc _ _ (by simp) (by simp) (by simp; omega) (fun h => by cases h))))); clear hK_ K_ hf0_)
  have hD := hF.out (re := 3) hc (arr := madeCells #[.int .i64 0] c.J) (size_madeCells _ _)
  clear hF hmk hme
  have hF := hD
  clear hD
  (refine Goes.step rfl (fun _ h₁_ => ?_); replace hF := (KD.off0 hc) hF h₁_; clear h₁_; refine goes_oper_k rfl rfl (by k_ne) (fun K_ hK_ => ?_); go_simp; refine hK_ _ _ ⟨?_, ?_⟩; (focus (refine ds_none' ?_; intro e he; have hm := mem_listed he; simp [go_sem, *] at hm)); clear hK_ K_; try w_num)
  (refine Goes.step rfl (fun _ h₁_ => ?_); replace hF := (KD.off0 hc) hF h₁_; clear h₁_; rw [stepG_region_end]; simp only [goes_go]; refine ⟨by (refine ds_none' ?_; intro e he; simp at he), ?_⟩)
  (refine Goes.step rfl (fun _ h₁_ => ?_); replace hF := (KD.off0 hc) hF h₁_; clear h₁_; rw [stepG_seq]; simp only [goes_go]; refine ⟨by (refine ds_none' ?_; intro e he; simp at he), ?_⟩)
  (refine Goes.step rfl (fun _ h₁_ => ?_); replace hF := (KD.off0 hc) hF h₁_; clear h₁_; rw [stepG_region]; simp only [goes_go, List.size_toArray, List.length_cons, List.length_nil, Nat.reduceAdd, Nat.zero_add, List.range, List.range.loop]; refine ⟨by (refine ds_none' ?_; intro e he; simp at he), ?_⟩)
  (refine Goes.step rfl (fun _ h₁_ => ?_); replace hF := (KD.off0 hc) hF h₁_; clear h₁_; refine goes_oper_k rfl rfl (by k_ne) (fun K_ hK_ => ?_); go_simp; refine hK_ _ _ ⟨?_, ?_⟩; (focus (refine ds_none' ?_; intro e he; have hm := mem_listed he; simp [go_sem, *] at hm)); clear hK_ K_; try w_num)
  (refine Goes.step rfl (fun _ h₁_ => ?_); replace hF := (KD.off0 hc) hF h₁_; clear h₁_; refine goes_oper_k rfl rfl (by k_ne) (fun K_ hK_ => ?_); go_simp; refine hK_ _ _ ⟨?_, ?_⟩; (focus (refine ds_none' ?_; intro e he; have hm := mem_listed he; simp [go_sem, *] at hm)); clear hK_ K_; try w_num)
  (refine Goes.step rfl (fun _ h₁_ => ?_); replace hF := (KD.off0 hc) hF h₁_; clear h₁_; rw [stepG_region_end]; simp only [goes_go]; refine ⟨by (refine ds_none' ?_; intro e he; simp at he), ?_⟩)
  (refine Goes.step rfl (fun _ h₁_ => ?_); replace hF := (KD.off0 hc) hF h₁_; clear h₁_; rw [stepG_seq]; simp only [goes_go]; refine ⟨by (refine ds_none' ?_; intro e he; simp at he), ?_⟩)
  (refine Goes.step rfl (fun _ h₁_ => ?_); replace hF := (KD.off0 hc) hF h₁_; clear h₁_; rw [stepG_block]; simp only [goes_go]; refine ⟨by (refine ds_none' ?_; intro e he; simp at he), ?_⟩)
  (refine Goes.step rfl (fun _ h₁_ => ?_); replace hF := (KD.off0 hc) hF h₁_; clear h₁_; rw [stepG_loop]; simp only [goes_go]; refine ⟨by (refine ds_none' ?_; intro e he; simp at he), ?_⟩)
  exact Goes.stop (fun w₁ h₁ => ⟨⟨_, rfl, ⟨rfl, rfl, rfl, rfl, rfl, rfl, rfl, rfl, rfl, rfl⟩⟩, KD.off0 hc hF h₁⟩)
set_option maxRecDepth 100000 in
set_option maxHeartbeats 4000000 in
/-- the drawn region 'desk := desks[turn(..)]': whatever of it has come up -/
theorem drawn16 (hc : OkC c Shun) (hB : c.H + 8 + 2 * c.n ≤ B) {ta : Option Addr} {tl tc tb : Nat} {tz : Nat → Int} (hT : OkT c Shun W ta tl tb tz) {g t : Nat} {don : Nat → Prop} (hg : g ≤ 8192) {v0 v3 v4 v5 v6 v7 v8 v9 v11 v12 v13 v14 v16 v17 v18 v19 v20 v21 v22 v23 v24 v25 v26 v27 v28 v29 v30 v31 v32 v33 v34 v35 v36 v37 v38 v39 v40 v41 v42 v43 v44 v45 v46 v47 v48 v49 v50 v51 v52 v53 v61 v62 v63 v64 v65 v66 v67 v68 v69 v70 v71 v72 v73 v74 v75 v76 v77 v78 v79 v80 v81 v82 v83 v84 v85 v86 v87 v88 v89 v90 v91 v92 : Value} {K : List Item} {Stop : Goroutine → World → Prop} {m0 : Nat}
    (hend : ∀ w, KD c 3 W t don w → Goes Try.prog true (SR1 c) (DS c Shun B c.n) Stop m0 (G ((base 8).at ⟨(v0 :: (.int .i64 c.n) :: (.slice ta tl tc) :: v3 :: v4 :: v5 :: v6 :: v7 :: v8 :: v9 :: (pt (c.H + 3)) :: v11 :: v12 :: v13 :: v14 :: (.int .i64 g) :: v16 :: (.chan (some (c.H + 8 + 2 * turnOf tl tz c.n g))) :: v18 :: v19 :: v20 :: v21 :: v22 :: v23 :: v24 :: v25 :: v26 :: v27 :: v28 :: v29 :: v30 :: v31 :: v32 :: v33 :: v34 :: v35 :: v36 :: v37 :: v38 :: v39 :: v40 :: v41 :: v42 :: v43 :: v44 :: v45 :: v46 :: v47 :: v48 :: v49 :: v50 :: v51 :: v52 :: v53 :: (.slice (some ⟨c.H + 2, 0, none⟩) c.n c.n) :: (.slice ta tl tc) :: (.int .i64 g) :: (.int .i64 c.n) :: (.int .i64 (turnOf tl tz c.n g)) :: (.pointer (some ⟨c.H + 2, turnOf tl tz c.n g, none⟩)) :: (.chan (some (c.H + 8 + 2 * turnOf tl tz c.n g))) :: v61 :: v62 :: v63 :: v64 :: v65 :: v66 :: v67 :: v68 :: v69 :: v70 :: v71 :: v72 :: v73 :: v74 :: v75 :: v76 :: v77 :: v78 :: v79 :: v80 :: v81 :: v82 :: v83 :: v84 :: v85 :: v86 :: v87 :: v88 :: v89 :: v90 :: v91 :: v92 :: []).toArray, []⟩ (.inRegion R16ops [] :: K)) cs) w) :
    ∀ (l : List Nat) (l0 l1 l2 l3 l4 l5 l6 : Bool) (t54 t55 t56 t57 t58 t59 t60 : Value), Okl .any R16ops #[l0, l1, l2, l3, l4, l5, l6, false] l →
    (l0 = true → t54 = (.slice (some ⟨c.H + 2, 0, none⟩) c.n c.n)) → (l1 = true → t55 = (.slice ta tl tc)) → (l2 = true → t56 = (.int .i64 g)) → (l3 = true → t57 = (.int .i64 c.n)) → (l4 = true → t58 = (.int .i64 (turnOf tl tz c.n g)) ∧ l1 = true ∧ l2 = true ∧ l3 = true) → (l5 = true → t59 = (.pointer (some ⟨c.H + 2, turnOf tl tz c.n g, none⟩)) ∧ l0 = true ∧ l4 = true) → (l6 = true → t60 = (.chan (some (c.H + 8 + 2 * turnOf tl tz c.n g))) ∧ l5 = true) →
    ∀ w, KD c 3 W t don w → Goes Try.prog true (SR1 c) (DS c Shun B c.n) Stop (m0 + l.length * 61) (G ((base 8).at ⟨(v0 :: (.int .i64 c.n) :: (.slice ta tl tc) :: v3 :: v4 :: v5 :: v6 :: v7 :: v8 :: v9 :: (pt (c.H + 3)) :: v11 :: v12 :: v13 :: v14 :: (.int .i64 g) :: v16 :: v17 :: v18 :: v19 :: v20 :: v21 :: v22 :: v23 :: v24 :: v25 :: v26 :: v27 :: v28 :: v29 :: v30 :: v31 :: v32 :: v33 :: v34 :: v35 :: v36 :: v37 :: v38 :: v39 :: v40 :: v41 :: v42 :: v43 :: v44 :: v45 :: v46 :: v47 :: v48 :: v49 :: v50 :: v51 :: v52 :: v53 :: t54 :: t55 :: t56 :: t57 :: t58 :: t59 :: t60 :: v61 :: v62 :: v63 :: v64 :: v65 :: v66 :: v67 :: v68 :: v69 :: v70 :: v71 :: v72 :: v73 :: v74 :: v75 :: v76 :: v77 :: v78 :: v79 :: v80 :: v81 :: v82 :: v83 :: v84 :: v85 :: v86 :: v87 :: v88 :: v89 :: v90 :: v91 :: v92 :: []).toArray, []⟩ (.inRegion R16ops l :: K)) cs) w := by
  have hn0 := hc.npos
  have hrn : turnOf tl tz c.n g < c.n := turnOf_lt hn0
  have hr0 : (0 : Int) ≤ (turnOf tl tz c.n g : Int) := by omega
  have hr1 : (turnOf tl tz c.n g : Int) < (c.n : Int) := by omega
  intro l
  induction l with
  | nil =>
    intro l0 l1 l2 l3 l4 l5 l6 t54 t55 t56 t57 t58 t59 t60 hl
    exfalso
    have no : ∀ i, i ∉ Region.ready .any R16ops #[l0, l1, l2, l3, l4, l5, l6, false] := fun i hi => by
      have : Region.ready .any R16ops #[l0, l1, l2, l3, l4, l5, l6, false] = [] := hl
      rw [this] at hi; cases hi
    have h0 := no 0; have h1 := no 1; have h2 := no 2; have h3 := no 3; have h4 := no 4; have h5 := no 5; have h6 := no 6; have h7 := no 7
    clear no hl
    simp only [mem_ready] at h0 h1 h2 h3 h4 h5 h6 h7
    simp [R16ops, B2, L2, C2, C1, bodyR, Try.f8, Region.binds] at h0 h1 h2 h3
    subst h0 h1 h2 h3
    simp [R16ops, B2, L2, C2, C1, bodyR, Try.f8, Region.binds] at h4
    subst h4
    simp [R16ops, B2, L2, C2, C1, bodyR, Try.f8, Region.binds] at h5
    subst h5
    simp [R16ops, B2, L2, C2, C1, bodyR, Try.f8, Region.binds] at h6
    subst h6
    simp [R16ops, B2, L2, C2, C1, bodyR, Try.f8, Region.binds] at h7
  | cons i l ih =>
    intro l0 l1 l2 l3 l4 l5 l6 t54 t55 t56 t57 t58 t59 t60 hl g0 g1 g2 g3 g4 g5 g6 w hF
    obtain ⟨hi, hl⟩ := hl
    rw [mem_ready] at hi
    match i, hi, hl with
    | 0, hi, hl =>
      simp [R16ops, B2, L2, C2, C1, bodyR, Try.f8, Region.binds] at hi
      subst hi
      have hm := ih true l1 l2 l3 l4 l5 l6 (.slice (some ⟨c.H + 2, 0, none⟩) c.n c.n) t55 t56 t57 t58 t59 t60 (by simpa using hl) (fun _ => rfl) g1 g2 g3 g4 (fun h => ⟨(g5 h).1, rfl, (g5 h).2.2⟩) g6
      refine Goes.mono (n := m0 + l.length * 61 + 1) ?_ (by simp only [List.length_cons]; omega)
      simp only [R16ops, B2, L2, C2, C1, bodyR, Try.f8, Option.getD_some, pt]
      (refine Goes.step rfl (fun _ h₁_ => ?_); replace hF := (KD.grow hc) hF h₁_; clear h₁_; refine goes_oper_k rfl rfl (by decide) (fun K_ hK_ => ?_); have hf0_ := (hF.kb.desksv); go_simp; refine hK_ _ _ ⟨ds_still (fun e he => ?_), ?_⟩; (focus (have hm := mem_listed he; simp [go_sem, storedEv, *] at hm; try (subst hm; exact (evs_hi hc _ _ (by simp) (by simp) (by have hz_ := hF.sz; simp; omega) (fun h => by cases h))))); clear hK_ K_ hf0_)
      exact hm _ hF
    | 1, hi, hl =>
      simp [R16ops, B2, L2, C2, C1, bodyR, Try.f8, Region.binds] at hi
      subst hi
      have hm := ih l0 true l2 l3 l4 l5 l6 t54 (.slice ta tl tc) t56 t57 t58 t59 t60 (by simpa using hl) g0 (fun _ => rfl) g2 g3 (fun h => ⟨(g4 h).1, rfl, (g4 h).2.2.1, (g4 h).2.2.2⟩) g5 g6
      refine Goes.mono (n := m0 + l.length * 61 + 1) ?_ (by simp only [List.length_cons]; omega)
      simp only [R16ops, B2, L2, C2, C1, bodyR, Try.f8, Option.getD_some, pt]
      (refine Goes.step rfl (fun _ h₁_ => ?_); replace hF := (KD.grow hc) hF h₁_; clear h₁_; refine goes_oper_k rfl rfl (by k_ne) (fun K_ hK_ => ?_); go_simp; refine hK_ _ _ ⟨?_, ?_⟩; (focus (refine ds_none' ?_; intro e he; have hm := mem_listed he; simp [go_sem, *] at hm)); clear hK_ K_; try w_num)
      exact hm _ hF
    | 2, hi, hl =>
      simp [R16ops, B2, L2, C2, C1, bodyR, Try.f8, Region.binds] at hi
      subst hi
      have hm := ih l0 l1 true l3 l4 l5 l6 t54 t55 (.int .i64 g) t57 t58 t59 t60 (by simpa using hl) g0 g1 (fun _ => rfl) g3 (fun h => ⟨(g4 h).1, (g4 h).2.1, rfl, (g4 h).2.2.2⟩) g5 g6
      refine Goes.mono (n := m0 + l.length * 61 + 1) ?_ (by simp only [List.length_cons]; omega)
      simp only [R16ops, B2, L2, C2, C1, bodyR, Try.f8, Option.getD_some, pt]
      (refine Goes.step rfl (fun _ h₁_ => ?_); replace hF := (KD.grow hc) hF h₁_; clear h₁_; refine goes_oper_k rfl rfl (by k_ne) (fun K_ hK_ => ?_); go_simp; refine hK_ _ _ ⟨?_, ?_⟩; (focus (refine ds_none' ?_; intro e he; have hm := mem_listed he; simp [go_sem, *] at hm)); clear hK_ K_; try w_num)
      exact hm _ hF
    | 3, hi, hl =>
      simp [R16ops, B2, L2, C2, C1, bodyR, Try.f8, Region.binds] at hi
      subst hi
      have hm := ih l0 l1 l2 true l4 l5 l6 t54 t55 t56 (.int .i64 c.n) t58 t59 t60 (by simpa using hl) g0 g1 g2 (fun _ => rfl) (fun h => ⟨(g4 h).1, (g4 h).2.1, (g4 h).2.2.1, rfl⟩) g5 g6
      refine Goes.mono (n := m0 + l.length * 61 + 1) ?_ (by simp only [List.length_cons]; omega)
      simp only [R16ops, B2, L2, C2, C1, bodyR, Try.f8, Option.getD_some, pt]
      (refine Goes.step rfl (fun _ h₁_ => ?_); replace hF := (KD.grow hc) hF h₁_; clear h₁_; refine goes_oper_k rfl rfl (by k_ne) (fun K_ hK_ => ?_); go_simp; refine hK_ _ _ ⟨?_, ?_⟩; (focus (refine ds_none' ?_; intro e he; have hm := mem_listed he; simp [go_sem, *] at hm)); clear hK_ K_; try w_num)
      exact hm _ hF
    | 4, hi, hl =>
      simp [R16ops, B2, L2, C2, C1, bodyR, Try.f8, Region.binds] at hi
      obtain ⟨rfl, hd⟩ := hi
      have k1 : l1 = true := by cases e : l1 with | true => rfl | false => rw [e] at hd; simp at hd
      have k2 : l2 = true := by cases e : l2 with | true => rfl | false => rw [e] at hd; simp at hd
      have k3 : l3 = true := by cases e : l3 with | true => rfl | false => rw [e] at hd; simp at hd
      have hm := ih l0 l1 l2 l3 true l5 l6 t54 t55 t56 t57 (.int .i64 (turnOf tl tz c.n g)) t59 t60 (by simpa using hl) g0 g1 g2 g3 (fun _ => ⟨rfl, k1, k2, k3⟩) (fun h => ⟨(g5 h).1, (g5 h).2.1, rfl⟩) g6
      obtain rfl := g1 k1
      obtain rfl := g2 k2
      obtain rfl := g3 k3
      refine Goes.mono (n := m0 + l.length * 61 + 60) ?_ (by simp only [List.length_cons]; omega)
      exact turnLaw (ta := ta) (tl := tl) (tc := tc) (tb := tb) (tz := tz) hc hB hT hg (o := R16ops[4]) rfl rfl (by decide) rfl rfl rfl rfl _ hF (fun w' hF' => hm _ hF')
    | 5, hi, hl =>
      simp [R16ops, B2, L2, C2, C1, bodyR, Try.f8, Region.binds] at hi
      obtain ⟨rfl, hd⟩ := hi
      have k0 : l0 = true := by cases e : l0 with | true => rfl | false => rw [e] at hd; simp at hd
      have k4 : l4 = true := by cases e : l4 with | true => rfl | false => rw [e] at hd; simp at hd
      have hm := ih l0 l1 l2 l3 l4 true l6 t54 t55 t56 t57 t58 (.pointer (some ⟨c.H + 2, turnOf tl tz c.n g, none⟩)) t60 (by simpa using hl) g0 g1 g2 g3 g4 (fun _ => ⟨rfl, k0, k4⟩) (fun h => ⟨(g6 h).1, rfl⟩)
      obtain rfl := g0 k0
      obtain ⟨rfl, k1, k2, k3⟩ := g4 k4
      obtain rfl := g1 k1
      obtain rfl := g2 k2
      obtain rfl := g3 k3
      refine Goes.mono (n := m0 + l.length * 61 + 1) ?_ (by simp only [List.length_cons]; omega)
      simp only [R16ops, B2, L2, C2, C1, bodyR, Try.f8, Option.getD_some, pt]
      (refine Goes.step rfl (fun _ h₁_ => ?_); replace hF := (KD.grow hc) hF h₁_; clear h₁_; refine goes_oper_k rfl rfl (by k_ne) (fun K_ hK_ => ?_); go_simp; refine hK_ _ _ ⟨?_, ?_⟩; (focus (refine ds_none' ?_; intro e he; have hm := mem_listed he; simp [go_sem, *] at hm)); clear hK_ K_; try w_num)
      exact hm _ hF
    | 6, hi, hl =>
      simp [R16ops, B2, L2, C2, C1, bodyR, Try.f8, Region.binds] at hi
      obtain ⟨rfl, hd⟩ := hi
      have k5 : l5 = true := by cases e : l5 with | true => rfl | false => rw [e] at hd; simp at hd
      have hm := ih l0 l1 l2 l3 l4 l5 true t54 t55 t56 t57 t58 t59 (.chan (some (c.H + 8 + 2 * turnOf tl tz c.n g))) (by simpa using hl) g0 g1 g2 g3 g4 g5 (fun _ => ⟨rfl, k5⟩)
      obtain ⟨rfl, k0, k4⟩ := g5 k5
      obtain rfl := g0 k0
      obtain ⟨rfl, k1, k2, k3⟩ := g4 k4
      obtain rfl := g1 k1
      obtain rfl := g2 k2
      obtain rfl := g3 k3
      refine Goes.mono (n := m0 + l.length * 61 + 1) ?_ (by simp only [List.length_cons]; omega)
      simp only [R16ops, B2, L2, C2, C1, bodyR, Try.f8, Option.getD_some, pt]
      (refine Goes.step rfl (fun _ h₁_ => ?_); replace hF := (KD.grow hc) hF h₁_; clear h₁_; refine goes_oper_k rfl rfl (by decide) (fun K_ hK_ => ?_); have hf0_ := (hF.kb.desk _ hrn); go_simp; refine hK_ _ _ ⟨ds_still (fun e he => ?_), ?_⟩; (focus (have hm := mem_listed he; simp [go_sem, storedEv, *] at hm; try (subst hm; exact (evs_hi hc _ _ (by simp) (by simp) (by have hz_ := hF.sz; simp; omega) (fun h => by cases h))))); clear hK_ K_ hf0_)
      exact hm _ hF
    | 7, hi, hl =>
      simp [R16ops, B2, L2, C2, C1, bodyR, Try.f8, Region.binds] at hi
      have k6 : l6 = true := by cases e : l6 with | true => rfl | false => rw [e] at hi; simp at hi
      obtain ⟨rfl, k5⟩ := g6 k6
      obtain ⟨rfl, k0, k4⟩ := g5 k5
      obtain rfl := g0 k0
      obtain ⟨rfl, k1, k2, k3⟩ := g4 k4
      obtain rfl := g1 k1
      obtain rfl := g2 k2
      obtain rfl := g3 k3
      subst k0 k1 k2 k3 k4 k5 k6
      have hnil : l = [] := by
        cases l with
        | nil => rfl
        | cons i l =>
          have := hl.1
          rw [mem_ready] at this
          obtain ⟨h1, o, ho, _⟩ := this
          have hlt : i < 8 := (Array.getElem?_eq_some_iff.1 ho).1
          exfalso
          revert h1
          match i, hlt with
          | 0, _ | 1, _ | 2, _ | 3, _ | 4, _ | 5, _ | 6, _ | 7, _ => simp
      subst hnil
      refine Goes.mono (n := m0 + 1) ?_ (by simp only [List.length_cons]; omega)
      simp only [R16ops, B2, L2, C2, C1, bodyR, Try.f8, Option.getD_some, pt]
      (refine Goes.step rfl (fun _ h₁_ => ?_); replace hF := (KD.grow hc) hF h₁_; clear h₁_; refine goes_oper_k rfl rfl (by k_ne) (fun K_ hK_ => ?_); go_simp; refine hK_ _ _ ⟨?_, ?_⟩; (focus (refine ds_none' ?_; intro e he; have hm := mem_listed he; simp [go_sem, *] at hm)); clear hK_ K_; try w_num)
      exact hend _ hF
    | n + 8, hi, hl => simp [R16ops, B2, L2, C2, C1, bodyR, Try.f8] at hi

/-- the channel that is offered the next job -/
def chOf (c : Ctx) (tl : Nat) (tz : Nat → Int) (g : Nat) : Value := if g = c.J then .chan none else .chan (some (c.H + 8 + 2 * turnOf tl tz c.n g))
/-- at the select -/
def AtSel2 (c : Ctx) (tv : Value) (cs : List Frame) (g t : Nat) (ch : Value) (a : Goroutine) : Prop :=
  ∃ T : Array Value, a = G ((base 8).at ⟨T, []⟩ (.inRegion R22ops [0, 1, 2, 3] :: .code G2 :: rest2)) cs ∧ Sl2 c tv g t T ∧ T[65]? = some ch ∧ T[66]? = some (.int .i64 g) ∧ T[67]? = some (.chan (some (c.H + 4)))

set_option maxRecDepth 100000 in
set_option maxHeartbeats 1000000 in
/-- the desk is chosen: to the select -/
theorem mid2 (hc : OkC c Shun) (hB : c.H + 8 + 2 * c.n ≤ B) {tl : Nat} {tz : Nat → Int} {g t : Nat} {don : Nat → Prop} (hg : g ≤ c.J) (T : Array Value) (hT : Sl2 c tv g t T) (h17 : T[17]? = some (.chan (some (c.H + 8 + 2 * turnOf tl tz c.n g)))) (w : World) (hF : KD c 3 W t don w) :
    Goes Try.prog true (SR1 c) (DS c Shun B c.n) (fun a w => AtSel2 c tv cs g t (chOf c tl tz g) a ∧ KD c 3 W t don w) 40 (G ((base 8).at ⟨T, []⟩ (.inRegion R16ops [] :: .code D2 :: rest2)) cs) w := by
  have hsz := hT.sz
  revert hT h17
  revert hsz
  revert T
  refine by93 ?_
  intro v0 v1 v2 v3 v4 v5 v6 v7 v8 v9 v10 v11 v12 v13 v14 v15 v16 v17 v18 v19 v20 v21 v22 v23 v24 v25 v26 v27 v28 v29 v30 v31 v32 v33 v34 v35 v36 v37 v38 v39 v40 v41 v42 v43 v44 v45 v46 v47 v48 v49 v50 v51 v52 v53 v54 v55 v56 v57 v58 v59 v60 v61 v62 v63 v64 v65 v66 v67 v68 v69 v70 v71 v72 v73 v74 v75 v76 v77 v78 v79 v80 v81 v82 v83 v84 v85 v86 v87 v88 v89 v90 v91 v92 hT h17
  obtain ⟨_, t1, t2, t4, t10, t11, t12, t14, t15, t16⟩ := hT
  simp only [List.getElem?_toArray, List.getElem?_cons_succ, List.getElem?_cons_zero, Option.some.injEq] at t1 t2 t4 t10 t11 t12 t14 t15 t16 h17
  subst t1 t2 t4 t10 t11 t12 t14 t15 t16 h17
  (refine Goes.step rfl (fun _ h₁_ => ?_); replace hF := (KD.grow hc) hF h₁_; clear h₁_; rw [stepG_region_end]; simp only [goes_go]; refine ⟨by (refine ds_none' ?_; intro e he; simp at he), ?_⟩)
  simp only [D2, B2, L2, C2, C1, bodyR, Try.f8, Option.getD_some, pt]
  (refine Goes.step rfl (fun _ h₁_ => ?_); replace hF := (KD.grow hc) hF h₁_; clear h₁_; rw [stepG_seq]; simp only [goes_go]; refine ⟨by (refine ds_none' ?_; intro e he; simp at he), ?_⟩)
  (refine Goes.step rfl (fun _ h₁_ => ?_); replace hF := (KD.grow hc) hF h₁_; clear h₁_; rw [stepG_seq]; simp only [goes_go]; refine ⟨by (refine ds_none' ?_; intro e he; simp at he), ?_⟩)
  (refine Goes.step rfl (fun _ h₁_ => ?_); replace hF := (KD.grow hc) hF h₁_; clear h₁_; rw [stepG_region]; simp only [goes_go, List.size_toArray, List.length_cons, List.length_nil, Nat.reduceAdd, Nat.zero_add, List.range, List.range.loop]; refine ⟨by (refine ds_none' ?_; intro e he; simp at he), ?_⟩)
  (refine Goes.step rfl (fun _ h₁_ => ?_); replace hF := (KD.grow hc) hF h₁_; clear h₁_; refine goes_oper_k rfl rfl (by k_ne) (fun K_ hK_ => ?_); go_simp; refine hK_ _ _ ⟨?_, ?_⟩; (focus (refine ds_none' ?_; intro e he; have hm := mem_listed he; simp [go_sem, *] at hm)); clear hK_ K_; try w_num)
  (refine Goes.step rfl (fun _ h₁_ => ?_); replace hF := (KD.grow hc) hF h₁_; clear h₁_; refine goes_oper_k rfl rfl (by decide) (fun K_ hK_ => ?_); have hf0_ := (hF.kb.jobsv); go_simp; refine hK_ _ _ ⟨ds_still (fun e he => ?_), ?_⟩; (focus (have hm := mem_listed he; simp [go_sem, storedEv, *] at hm; try (subst hm; exact (evs_hi hc _ _ (by simp) (by simp) (by have hz_ := hF.sz; simp; omega) (fun h => by cases h))))); clear hK_ K_ hf0_)
  unfold chOf
  by_cases he : g = c.J
  · subst he
    rw [if_pos rfl]
    (refine Goes.step rfl (fun _ h₁_ => ?_); replace hF := (KD.grow hc) hF h₁_; clear h₁_; refine goes_oper_k rfl rfl (by k_ne) (fun K_ hK_ => ?_); go_simp; refine hK_ _ _ ⟨?_, ?_⟩; (focus (refine ds_none' ?_; intro e he; have hm := mem_listed he; simp [go_sem, *] at hm)); clear hK_ K_; try w_num)
    (refine Goes.step rfl (fun _ h₁_ => ?_); replace hF := (KD.grow hc) hF h₁_; clear h₁_; refine goes_oper_k rfl rfl (by k_ne) (fun K_ hK_ => ?_); go_simp; refine hK_ _ _ ⟨?_, ?_⟩; (focus (refine ds_none' ?_; intro e he; have hm := mem_listed he; simp [go_sem, *] at hm)); clear hK_ K_; try w_num)
    (refine Goes.step rfl (fun _ h₁_ => ?_); replace hF := (KD.grow hc) hF h₁_; clear h₁_; rw [stepG_region_end]; simp only [goes_go]; refine ⟨by (refine ds_none' ?_; intro e he; simp at he), ?_⟩)
    (refine Goes.step rfl (fun _ h₁_ => ?_); replace hF := (KD.grow hc) hF h₁_; clear h₁_; rw [stepG_cond (t := true) rfl]; simp only [goes_go, if_true, if_false, Bool.false_eq_true, ↓reduceIte]; refine ⟨by (refine ds_none' ?_; intro e he; simp at he), ?_⟩)
    (refine Goes.step rfl (fun _ h₁_ => ?_); replace hF := (KD.grow hc) hF h₁_; clear h₁_; rw [stepG_region]; simp only [goes_go, List.size_toArray, List.length_cons, List.length_nil, Nat.reduceAdd, Nat.zero_add, List.range, List.range.loop]; refine ⟨by (refine ds_none' ?_; intro e he; simp at he), ?_⟩)
    (refine Goes.step rfl (fun _ h₁_ => ?_); replace hF := (KD.grow hc) hF h₁_; clear h₁_; refine goes_oper_k rfl rfl (by k_ne) (fun K_ hK_ => ?_); go_simp; refine hK_ _ _ ⟨?_, ?_⟩; (focus (refine ds_none' ?_; intro e he; have hm := mem_listed he; simp [go_sem, *] at hm)); clear hK_ K_; try w_num)
    (refine Goes.step rfl (fun _ h₁_ => ?_); replace hF := (KD.grow hc) hF h₁_; clear h₁_; rw [stepG_region_end]; simp only [goes_go]; refine ⟨by (refine ds_none' ?_; intro e he; simp at he), ?_⟩)
    (refine Goes.step rfl (fun _ h₁_ => ?_); replace hF := (KD.grow hc) hF h₁_; clear h₁_; rw [stepG_seq]; simp only [goes_go]; refine ⟨by (refine ds_none' ?_; intro e he; simp at he), ?_⟩)
    (refine Goes.step rfl (fun _ h₁_ => ?_); replace hF := (KD.grow hc) hF h₁_; clear h₁_; rw [stepG_seq]; simp only [goes_go]; refine ⟨by (refine ds_none' ?_; intro e he; simp at he), ?_⟩)
    (refine Goes.step rfl (fun _ h₁_ => ?_); replace hF := (KD.grow hc) hF h₁_; clear h₁_; rw [stepG_seq]; simp only [goes_go]; refine ⟨by (refine ds_none' ?_; intro e he; simp at he), ?_⟩)
    (refine Goes.step rfl (fun _ h₁_ => ?_); replace hF := (KD.grow hc) hF h₁_; clear h₁_; rw [stepG_region]; simp only [goes_go, List.size_toArray, List.length_cons, List.length_nil, Nat.reduceAdd, Nat.zero_add, List.range, List.range.loop]; refine ⟨by (refine ds_none' ?_; intro e he; simp at he), ?_⟩)
    (refine Goes.step rfl (fun _ h₁_ => ?_); replace hF := (KD.grow hc) hF h₁_; clear h₁_; refine goes_oper_k rfl rfl (by k_ne) (fun K_ hK_ => ?_); go_simp; refine hK_ _ _ ⟨?_, ?_⟩; (focus (refine ds_none' ?_; intro e he; have hm := mem_listed he; simp [go_sem, *] at hm)); clear hK_ K_; try w_num)
    (refine Goes.step rfl (fun _ h₁_ => ?_); replace hF := (KD.grow hc) hF h₁_; clear h₁_; rw [stepG_region_end]; simp only [goes_go]; refine ⟨by (refine ds_none' ?_; intro e he; simp at he), ?_⟩)
    (refine Goes.step rfl (fun _ h₁_ => ?_); replace hF := (KD.grow hc) hF h₁_; clear h₁_; rw [stepG_region]; simp only [goes_go, List.size_toArray, List.length_cons, List.length_nil, Nat.reduceAdd, Nat.zero_add, List.range, List.range.loop]; refine ⟨by (refine ds_none' ?_; intro e he; simp at he), ?_⟩)
    (refine Goes.step rfl (fun _ h₁_ => ?_); replace hF := (KD.grow hc) hF h₁_; clear h₁_; refine goes_oper_k rfl rfl (by k_ne) (fun K_ hK_ => ?_); go_simp; refine hK_ _ _ ⟨?_, ?_⟩; (focus (refine ds_none' ?_; intro e he; have hm := mem_listed he; simp [go_sem, *] at hm)); clear hK_ K_; try w_num)
    (refine Goes.step rfl (fun _ h₁_ => ?_); replace hF := (KD.grow hc) hF h₁_; clear h₁_; rw [stepG_region_end]; simp only [goes_go]; refine ⟨by (refine ds_none' ?_; intro e he; simp at he), ?_⟩)
    (refine Goes.step rfl (fun _ h₁_ => ?_); replace hF := (KD.grow hc) hF h₁_; clear h₁_; rw [stepG_region]; simp only [goes_go, List.size_toArray, List.length_cons, List.length_nil, Nat.reduceAdd, Nat.zero_add, List.range, List.range.loop]; refine ⟨by (refine ds_none' ?_; intro e he; simp at he), ?_⟩)
    (refine Goes.step rfl (fun _ h₁_ => ?_); replace hF := (KD.grow hc) hF h₁_; clear h₁_; refine goes_oper_k rfl rfl (by decide) (fun K_ hK_ => ?_); have hf0_ := (hF.kb.backv); go_simp; refine hK_ _ _ ⟨ds_still (fun e he => ?_), ?_⟩; (focus (have hm := mem_listed he; simp [go_sem, storedEv, *] at hm; try (subst hm; exact (evs_hi hc _ _ (by simp) (by simp) (by have hz_ := hF.sz; simp; omega) (fun h => by cases h))))); clear hK_ K_ hf0_)
    (refine Goes.step rfl (fun _ h₁_ => ?_); replace hF := (KD.grow hc) hF h₁_; clear h₁_; rw [stepG_region_end]; simp only [goes_go]; refine ⟨by (refine ds_none' ?_; intro e he; simp at he), ?_⟩)
    (refine Goes.step rfl (fun _ h₁_ => ?_); replace hF := (KD.grow hc) hF h₁_; clear h₁_; rw [stepG_seq]; simp only [goes_go]; refine ⟨by (refine ds_none' ?_; intro e he; simp at he), ?_⟩)
    (refine Goes.step rfl (fun _ h₁_ => ?_); replace hF := (KD.grow hc) hF h₁_; clear h₁_; rw [stepG_region]; simp only [goes_go, List.size_toArray, List.length_cons, List.length_nil, Nat.reduceAdd, Nat.zero_add, List.range, List.range.loop]; refine ⟨by (refine ds_none' ?_; intro e he; simp at he), ?_⟩)
    exact Goes.stop (fun w₁ h₁ => ⟨⟨_, rfl, ⟨rfl, rfl, rfl, rfl, rfl, rfl, rfl, rfl, rfl, rfl⟩, rfl, rfl, rfl⟩, hF.grow hc h₁⟩)
  · have hbe : ((g : Int) == (c.J : Int)) = false := by simp; omega
    rw [if_neg he]
    refine Goes.mono (n := 22) ?_ (by omega)
    (refine Goes.step rfl (fun _ h₁_ => ?_); replace hF := (KD.grow hc) hF h₁_; clear h₁_; refine goes_oper_k rfl rfl (by k_ne) (fun K_ hK_ => ?_); go_simp; refine hK_ _ _ ⟨?_, ?_⟩; (focus (refine ds_none' ?_; intro e he; have hm := mem_listed he; simp [go_sem, *] at hm)); clear hK_ K_; try w_num)
    (refine Goes.step rfl (fun _ h₁_ => ?_); replace hF := (KD.grow hc) hF h₁_; clear h₁_; refine goes_oper_k rfl rfl (by k_ne) (fun K_ hK_ => ?_); go_simp; refine hK_ _ _ ⟨?_, ?_⟩; (focus (refine ds_none' ?_; intro e he; have hm := mem_listed he; simp [go_sem, *] at hm)); clear hK_ K_; try w_num)
    (refine Goes.step rfl (fun _ h₁_ => ?_); replace hF := (KD.grow hc) hF h₁_; clear h₁_; rw [stepG_region_end]; simp only [goes_go]; refine ⟨by (refine ds_none' ?_; intro e he; simp at he), ?_⟩)
    (refine Goes.step rfl (fun _ h₁_ => ?_); replace hF := (KD.grow hc) hF h₁_; clear h₁_; rw [stepG_cond (t := false) rfl]; simp only [goes_go, if_true, if_false, Bool.false_eq_true, ↓reduceIte]; refine ⟨by (refine ds_none' ?_; intro e he; simp at he), ?_⟩)
    (refine Goes.step rfl (fun _ h₁_ => ?_); replace hF := (KD.grow hc) hF h₁_; clear h₁_; rw [stepG_skip]; simp only [goes_go]; refine ⟨by (refine ds_none' ?_; intro e he; simp at he), ?_⟩)
    (refine Goes.step rfl (fun _ h₁_ => ?_); replace hF := (KD.grow hc) hF h₁_; clear h₁_; rw [stepG_seq]; simp only [goes_go]; refine ⟨by (refine ds_none' ?_; intro e he; simp at he), ?_⟩)
    (refine Goes.step rfl (fun _ h₁_ => ?_); replace hF := (KD.grow hc) hF h₁_; clear h₁_; rw [stepG_seq]; simp only [goes_go]; refine ⟨by (refine ds_none' ?_; intro e he; simp at he), ?_⟩)
    (refine Goes.step rfl (fun _ h₁_ => ?_); replace hF := (KD.grow hc) hF h₁_; clear h₁_; rw [stepG_seq]; simp only [goes_go]; refine ⟨by (refine ds_none' ?_; intro e he; simp at he), ?_⟩)
    (refine Goes.step rfl (fun _ h₁_ => ?_); replace hF := (KD.grow hc) hF h₁_; clear h₁_; rw [stepG_region]; simp only [goes_go, List.size_toArray, List.length_cons, List.length_nil, Nat.reduceAdd, Nat.zero_add, List.range, List.range.loop]; refine ⟨by (refine ds_none' ?_; intro e he; simp at he), ?_⟩)
    (refine Goes.step rfl (fun _ h₁_ => ?_); replace hF := (KD.grow hc) hF h₁_; clear h₁_; refine goes_oper_k rfl rfl (by k_ne) (fun K_ hK_ => ?_); go_simp; refine hK_ _ _ ⟨?_, ?_⟩; (focus (refine ds_none' ?_; intro e he; have hm := mem_listed he; simp [go_sem, *] at hm)); clear hK_ K_; try w_num)
    (refine Goes.step rfl (fun _ h₁_ => ?_); replace hF := (KD.grow hc) hF h₁_; clear h₁_; rw [stepG_region_end]; simp only [goes_go]; refine ⟨by (refine ds_none' ?_; intro e he; simp at he), ?_⟩)
    (refine Goes.step rfl (fun _ h₁_ => ?_); replace hF := (KD.grow hc) hF h₁_; clear h₁_; rw [stepG_region]; simp only [goes_go, List.size_toArray, List.length_cons, List.length_nil, Nat.reduceAdd, Nat.zero_add, List.range, List.range.loop]; refine ⟨by (refine ds_none' ?_; intro e he; simp at he), ?_⟩)
    (refine Goes.step rfl (fun _ h₁_ => ?_); replace hF := (KD.grow hc) hF h₁_; clear h₁_; refine goes_oper_k rfl rfl (by k_ne) (fun K_ hK_ => ?_); go_simp; refine hK_ _ _ ⟨?_, ?_⟩; (focus (refine ds_none' ?_; intro e he; have hm := mem_listed he; simp [go_sem, *] at hm)); clear hK_ K_; try w_num)
    (refine Goes.step rfl (fun _ h₁_ => ?_); replace hF := (KD.grow hc) hF h₁_; clear h₁_; rw [stepG_region_end]; simp only [goes_go]; refine ⟨by (refine ds_none' ?_; intro e he; simp at he), ?_⟩)
    (refine Goes.step rfl (fun _ h₁_ => ?_); replace hF := (KD.grow hc) hF h₁_; clear h₁_; rw [stepG_region]; simp only [goes_go, List.size_toArray, List.length_cons, List.length_nil, Nat.reduceAdd, Nat.zero_add, List.range, List.range.loop]; refine ⟨by (refine ds_none' ?_; intro e he; simp at he), ?_⟩)
    (refine Goes.step rfl (fun _ h₁_ => ?_); replace hF := (KD.grow hc) hF h₁_; clear h₁_; refine goes_oper_k rfl rfl (by decide) (fun K_ hK_ => ?_); have hf0_ := (hF.kb.backv); go_simp; refine hK_ _ _ ⟨ds_still (fun e he => ?_), ?_⟩; (focus (have hm := mem_listed he; simp [go_sem, storedEv, *] at hm; try (subst hm; exact (evs_hi hc _ _ (by simp) (by simp) (by have hz_ := hF.sz; simp; omega) (fun h => by cases h))))); clear hK_ K_ hf0_)
    (refine Goes.step rfl (fun _ h₁_ => ?_); replace hF := (KD.grow hc) hF h₁_; clear h₁_; rw [stepG_region_end]; simp only [goes_go]; refine ⟨by (refine ds_none' ?_; intro e he; simp at he), ?_⟩)
    (refine Goes.step rfl (fun _ h₁_ => ?_); replace hF := (KD.grow hc) hF h₁_; clear h₁_; rw [stepG_seq]; simp only [goes_go]; refine ⟨by (refine ds_none' ?_; intro e he; simp at he), ?_⟩)
    (refine Goes.step rfl (fun _ h₁_ => ?_); replace hF := (KD.grow hc) hF h₁_; clear h₁_; rw [stepG_region]; simp only [goes_go, List.size_toArray, List.length_cons, List.length_nil, Nat.reduceAdd, Nat.zero_add, List.range, List.range.loop]; refine ⟨by (refine ds_none' ?_; intro e he; simp at he), ?_⟩)
    exact Goes.stop (fun w₁ h₁ => ⟨⟨_, rfl, ⟨rfl, rfl, rfl, rfl, rfl, rfl, rfl, rfl, rfl, rfl⟩, rfl, rfl, rfl⟩, hF.grow hc h₁⟩)
end
end Go.Proofs.Ytngnkdedfcnfkaa.R8

/-
  lantern/pool.Run (function 10): the starter's first loop: a worker is hired.
-/
import Derived.Test.YtngnkdedfcnfkaaRBS
import Derived.Test.YtngnkdedfcnfkaaPrF
set_option linter.unusedSimpArgs false
set_option linter.unusedVariables false
namespace Go.Proofs.Ytngnkdedfcnfkaa.R10
open Go Go.Conc Go.RowKit Go.Conc.Lib Go.ConcR.Gen Go.ConcN.Gen
open Go.ConcN (WgLive Has RW ShN upd upd_same upd_ne goes_mono)
open Go.ConcR (KK WgAt stA smA)

noncomputable def R9ops : Array Oper := match L1 with | .seq _ (.seq _ (.seq (.block _ (.seq _ (.seq (.region _ ops _) _))) _)) => ops | _ => #[]
noncomputable def R10ops : Array Oper := match L1 with | .seq _ (.seq _ (.seq (.block _ (.seq _ (.seq _ (.seq (.region _ ops _) _)))) _)) => ops | _ => #[]
noncomputable def R10c : Code := match L1 with | .seq _ (.seq _ (.seq (.block _ (.seq _ (.seq _ c))) _)) => c | _ => .skip
noncomputable def R11c : Code := match L1 with | .seq _ (.seq _ (.seq (.block _ (.seq _ (.seq _ (.seq _ c)))) _)) => c | _ => .skip
noncomputable def R11ops : Array Oper := match R11c with | .region _ ops _ => ops | _ => #[]
noncomputable def R12c : Code := match L1 with | .seq _ (.seq _ (.seq _ c)) => c | _ => .skip
noncomputable def rest1 : List Item := [.inBlock 1, .code R12c, .inLoop L1, .inBlock 0, .code C2]
/-- Add has come back -/
def After1 (c : Ctx) (tv : Value) (cs : List Frame) (k : Nat) (g : Goroutine) : Prop :=
  ∃ T : Array Value, g = G ((base 10).at ⟨T, []⟩ (.inRegion R10ops [] :: .code R11c :: rest1)) cs ∧ Sl1 c tv k T ∧ T[13]? = some (pt (c.H + 7 + 2 * k))
/-- at the go statement -/
def AtGo1 (c : Ctx) (tv : Value) (cs : List Frame) (k : Nat) (g : Goroutine) : Prop :=
  ∃ T : Array Value, g = G ((base 10).at ⟨T, []⟩ (.inRegion R11ops [1] :: rest1)) cs ∧ Sl1 c tv k T ∧ T[45]? = some (.func (.func 20) #[] #[pt (c.H + 6), pt (c.H + 3), pt (c.H + 7 + 2 * k), pt (c.H + 5), pt (c.H + 1), pt c.H])
/-- behind it -/
def Gone1 (c : Ctx) (tv : Value) (cs : List Frame) (k : Nat) (g : Goroutine) : Prop :=
  ∃ T : Array Value, g = G ((base 10).at ⟨T, []⟩ (.inRegion R11ops [] :: rest1)) cs ∧ Sl1 c tv k T

section
variable {c : Ctx} {Shun : Loc → Prop} {B : Nat} {cs : List Frame} {W : World}
set_option maxRecDepth 100000 in
set_option maxHeartbeats 4000000 in
/-- the drawn region 'desks[k] = make(chan int)': whatever of it has come up -/
theorem drawn9 (hc : OkC c Shun) (hB : c.H + 8 + 2 * c.n ≤ B) {k : Nat} (hk : k < c.n) {v0 v1 v2 v3 v4 v5 v6 v7 v8 v9 v11 v12 v14 v15 v16 v17 v18 v19 v20 v21 v22 v23 v24 v25 v26 v27 v28 v29 v30 v31 v32 v33 v34 v35 v36 v37 v38 v39 v44 v45 v46 v47 v48 v49 v50 v51 v52 v53 v54 v55 v56 v57 v58 v59 v60 v61 v62 v63 v64 v65 v66 v67 v68 v69 v70 v71 v72 v73 v74 v75 v76 v77 v78 v79 v80 v81 v82 v83 v84 v85 v86 v87 v88 v89 v90 v91 v92 : Value} {K : List Item} {Stop : Goroutine → World → Prop} {m0 : Nat}
    (hend : ∀ w, KS c W (k + 1) w → Goes Try.prog true SR0 (DS c Shun B k) Stop m0 (G ((base 10).at ⟨(v0 :: v1 :: v2 :: v3 :: v4 :: v5 :: v6 :: v7 :: v8 :: v9 :: (pt (c.H + 3)) :: v11 :: v12 :: (pt (c.H + 7 + 2 * k)) :: v14 :: v15 :: v16 :: v17 :: v18 :: v19 :: v20 :: v21 :: v22 :: v23 :: v24 :: v25 :: v26 :: v27 :: v28 :: v29 :: v30 :: v31 :: v32 :: v33 :: v34 :: v35 :: v36 :: v37 :: v38 :: v39 :: (.slice (some ⟨c.H + 2, 0, none⟩) c.n c.n) :: (.int .i64 k) :: (.chan (some (c.H + 8 + 2 * k))) :: (.pointer (some ⟨c.H + 2, k, none⟩)) :: v44 :: v45 :: v46 :: v47 :: v48 :: v49 :: v50 :: v51 :: v52 :: v53 :: v54 :: v55 :: v56 :: v57 :: v58 :: v59 :: v60 :: v61 :: v62 :: v63 :: v64 :: v65 :: v66 :: v67 :: v68 :: v69 :: v70 :: v71 :: v72 :: v73 :: v74 :: v75 :: v76 :: v77 :: v78 :: v79 :: v80 :: v81 :: v82 :: v83 :: v84 :: v85 :: v86 :: v87 :: v88 :: v89 :: v90 :: v91 :: v92 :: []).toArray, []⟩ (.inRegion R9ops [] :: K)) cs) w) :
    ∀ (l : List Nat) (l0 l1 l2 l3 : Bool) (t40 t41 t42 t43 : Value), Okl .any R9ops #[l0, l1, l2, l3, false] l →
    (l0 = true → t40 = (.slice (some ⟨c.H + 2, 0, none⟩) c.n c.n)) → (l1 = true → t41 = (.int .i64 k)) → (l2 = true → t42 = (.chan (some (c.H + 8 + 2 * k)))) → (l3 = true → t43 = (.pointer (some ⟨c.H + 2, k, none⟩)) ∧ l0 = true ∧ l1 = true) →
    ∀ w, K1 c W k (.int .i64 k) l2 w → Goes Try.prog true SR0 (DS c Shun B k) Stop (m0 + l.length) (G ((base 10).at ⟨(v0 :: v1 :: v2 :: v3 :: v4 :: v5 :: v6 :: v7 :: v8 :: v9 :: (pt (c.H + 3)) :: v11 :: v12 :: (pt (c.H + 7 + 2 * k)) :: v14 :: v15 :: v16 :: v17 :: v18 :: v19 :: v20 :: v21 :: v22 :: v23 :: v24 :: v25 :: v26 :: v27 :: v28 :: v29 :: v30 :: v31 :: v32 :: v33 :: v34 :: v35 :: v36 :: v37 :: v38 :: v39 :: t40 :: t41 :: t42 :: t43 :: v44 :: v45 :: v46 :: v47 :: v48 :: v49 :: v50 :: v51 :: v52 :: v53 :: v54 :: v55 :: v56 :: v57 :: v58 :: v59 :: v60 :: v61 :: v62 :: v63 :: v64 :: v65 :: v66 :: v67 :: v68 :: v69 :: v70 :: v71 :: v72 :: v73 :: v74 :: v75 :: v76 :: v77 :: v78 :: v79 :: v80 :: v81 :: v82 :: v83 :: v84 :: v85 :: v86 :: v87 :: v88 :: v89 :: v90 :: v91 :: v92 :: []).toArray, []⟩ (.inRegion R9ops l :: K)) cs) w := by
  have hk0 : (0 : Int) ≤ (k : Int) := by omega
  have hk1 : (k : Int) < (c.n : Int) := by omega
  intro l
  induction l with
  | nil =>
    intro l0 l1 l2 l3 t40 t41 t42 t43 hl
    exfalso
    have no : ∀ i, i ∉ Region.ready .any R9ops #[l0, l1, l2, l3, false] := fun i hi => by
      have : Region.ready .any R9ops #[l0, l1, l2, l3, false] = [] := hl
      rw [this] at hi; cases hi
    have h0 := no 0; have h1 := no 1; have h2 := no 2; have h3 := no 3; have h4 := no 4
    clear no hl
    simp only [mem_ready] at h0 h1 h2 h3 h4
    simp [R9ops, L1, C1, bodyR, Try.f10, Region.binds] at h0 h1 h2
    subst h0 h1 h2
    simp [R9ops, L1, C1, bodyR, Try.f10, Region.binds] at h3
    subst h3
    simp [R9ops, L1, C1, bodyR, Try.f10, Region.binds] at h4
  | cons i l ih =>
    intro l0 l1 l2 l3 t40 t41 t42 t43 hl g0 g1 g2 g3 w hF
    obtain ⟨hi, hl⟩ := hl
    rw [mem_ready] at hi
    show Goes _ _ _ _ _ (m0 + l.length + 1) _ _
    match i, hi, hl with
    | 0, hi, hl =>
      simp [R9ops, L1, C1, bodyR, Try.f10, Region.binds] at hi
      subst hi
      have hm := ih true l1 l2 l3 (.slice (some ⟨c.H + 2, 0, none⟩) c.n c.n) t41 t42 t43 (by simpa using hl) (fun _ => rfl) g1 g2 (fun h => ⟨(g3 h).1, rfl, (g3 h).2.2⟩)
      simp only [R9ops, L1, C1, bodyR, Try.f10, Option.getD_some, pt]
      (refine Goes.step rfl (fun _ h₁_ => ?_); replace hF := (K1.off hc) hF h₁_; clear h₁_; refine goes_oper_k rfl rfl (by decide) (fun K_ hK_ => ?_); have hf0_ := (hF.kb.desksv); go_simp; refine hK_ _ _ ⟨ds_still (fun e he => ?_), ?_⟩; (focus (have hm := mem_listed he; simp [go_sem, storedEv, *] at hm; try (subst hm; exact (evs_hi hc _ _ (by simp) (by simp) (by have hz_ := hF.sz; simp; omega) (fun h => by cases h))))); clear hK_ K_ hf0_)
      exact hm _ hF
    | 1, hi, hl =>
      simp [R9ops, L1, C1, bodyR, Try.f10, Region.binds] at hi
      subst hi
      have hm := ih l0 true l2 l3 t40 (.int .i64 k) t42 t43 (by simpa using hl) g0 (fun _ => rfl) g2 (fun h => ⟨(g3 h).1, (g3 h).2.1, rfl⟩)
      simp only [R9ops, L1, C1, bodyR, Try.f10, Option.getD_some, pt]
      (refine Goes.step rfl (fun _ h₁_ => ?_); replace hF := (K1.off hc) hF h₁_; clear h₁_; refine goes_oper_k rfl rfl (by decide) (fun K_ hK_ => ?_); have hf0_ := (hF.bcell); go_simp; refine hK_ _ _ ⟨ds_still (fun e he => ?_), ?_⟩; (focus (have hm := mem_listed he; simp [go_sem, storedEv, *] at hm; try (subst hm; exact (evs_hi hc _ _ (by simp; omega) (by simp; omega) (by have hz_ := hF.sz; simp; omega) (fun h => by cases h))))); clear hK_ K_ hf0_)
      exact hm _ hF
    | 2, hi, hl =>
      simp [R9ops, L1, C1, bodyR, Try.f10, Region.binds] at hi
      subst hi
      have hm := ih l0 l1 true l3 t40 t41 (.chan (some (c.H + 8 + 2 * k))) t43 (by simpa using hl) g0 g1 (fun _ => rfl) g3
      simp only [R9ops, L1, C1, bodyR, Try.f10, Option.getD_some, pt]
      (refine Goes.step rfl (fun _ h₁_ => ?_); replace hF := (K1.off hc) hF h₁_; clear h₁_; refine goes_oper_k rfl rfl (by decide) (fun K_ hK_ => ?_); have hf0_ := mkI; have hf1_ := mkIe; have hf2_ := (hF.sz0); go_simp; refine hK_ _ _ ⟨(ds_alloc (by rw [hF.sz0]; omega)) (fun e he => ?_), ?_⟩; (focus (have hm := mem_listed he; simp [go_sem, storedEv, *] at hm; try (subst hm; exact (evs_hi hc _ _ (by simp) (by simp) (by simp; omega) (fun h => by cases h))))); clear hK_ K_ hf0_ hf1_ hf2_)
      exact hm _ (hF.chan hc)
    | 3, hi, hl =>
      simp [R9ops, L1, C1, bodyR, Try.f10, Region.binds] at hi
      obtain ⟨rfl, h0, h1, h2⟩ := hi
      have hm := ih l0 l1 l2 true t40 t41 t42 (.pointer (some ⟨c.H + 2, k, none⟩)) (by simpa using hl) g0 g1 g2 (fun _ => ⟨rfl, h0, h1⟩)
      obtain rfl := g0 h0
      obtain rfl := g1 h1
      obtain rfl := g2 h2.2.2
      simp only [R9ops, L1, C1, bodyR, Try.f10, Option.getD_some, pt]
      (refine Goes.step rfl (fun _ h₁_ => ?_); replace hF := (K1.off hc) hF h₁_; clear h₁_; refine goes_oper_k rfl rfl (by k_ne) (fun K_ hK_ => ?_); go_simp; refine hK_ _ _ ⟨?_, ?_⟩; (focus (refine ds_none' ?_; intro e he; have hm := mem_listed he; simp [go_sem, *] at hm)); clear hK_ K_; try w_num)
      exact hm _ hF
    | 4, hi, hl =>
      simp [R9ops, L1, C1, bodyR, Try.f10, Region.binds] at hi
      obtain ⟨h3, h2, _⟩ := hi
      obtain ⟨rfl, h0, h1⟩ := g3 h3
      obtain rfl := g0 h0
      obtain rfl := g1 h1
      obtain rfl := g2 h2
      subst h0 h1 h2 h3
      have hnil : l = [] := by
        cases l with
        | nil => rfl
        | cons i l =>
          have := hl.1
          rw [mem_ready] at this
          obtain ⟨h1, o, ho, _⟩ := this
          have hlt : i < 5 := (Array.getElem?_eq_some_iff.1 ho).1
          exfalso
          revert h1
          match i, hlt with
          | 0, _ | 1, _ | 2, _ | 3, _ | 4, _ => simp
      subst hnil
      simp only [R9ops, L1, C1, bodyR, Try.f10, Option.getD_some, pt]
      (refine Goes.step rfl (fun _ h₁_ => ?_); replace hF := (K1.off hc) hF h₁_; clear h₁_)
      obtain ⟨dv, hdv⟩ := hF.kb.dcell hk
      have hdf := hF.kb.dfree k
      (refine goes_oper_k rfl rfl (by decide) (fun K_ hK_ => ?_); go_simp; refine hK_ _ _ ⟨(ds_desk (Nat.le_refl k) (let ⟨arr, h, _⟩ := hF.kb.desks; ⟨arr, h⟩)) (fun e he => ?_), ?_⟩; (focus (have hm := mem_listed he; simp [go_sem, storedEv, *] at hm; try (subst hm; exact (evs_hi hc _ _ (by simp) (by simp) (by have hz_ := hF.sz; simp only [World.size_setCell]; omega) (fun _ => dep_desk hc (Nat.le_refl k)))))); clear hK_ K_ )
      exact hend _ (hF.lay hc hk)
    | n + 5, hi, hl => simp [R9ops, L1, C1, bodyR, Try.f10] at hi

set_option maxRecDepth 100000 in
set_option maxHeartbeats 400000 in
/-- into Add, and back -/
theorem add1 (hc : OkC c Shun) {k : Nat} {tv : Value} (T : Array Value) (hT : Sl1 c tv k T) (h13 : T[13]? = some (pt (c.H + 7 + 2 * k))) (w : World) (hF : KS c W (k + 1) w) :
    Goes Try.prog true SR0 (DS c Shun B k) (YKd Try.prog 51 (c.H + 6) SR0 (fun g w => After1 c tv cs k g ∧ KS c W (k + 1) w)) 44 (G ((base 10).at ⟨T, []⟩ (.inRegion R9ops [] :: .code R10c :: rest1)) cs) w := by
  have hsz := hT.sz
  revert hT h13
  revert hsz
  revert T
  refine by93 ?_
  intro v0 v1 v2 v3 v4 v5 v6 v7 v8 v9 v10 v11 v12 v13 v14 v15 v16 v17 v18 v19 v20 v21 v22 v23 v24 v25 v26 v27 v28 v29 v30 v31 v32 v33 v34 v35 v36 v37 v38 v39 v40 v41 v42 v43 v44 v45 v46 v47 v48 v49 v50 v51 v52 v53 v54 v55 v56 v57 v58 v59 v60 v61 v62 v63 v64 v65 v66 v67 v68 v69 v70 v71 v72 v73 v74 v75 v76 v77 v78 v79 v80 v81 v82 v83 v84 v85 v86 v87 v88 v89 v90 v91 v92 hT h13
  obtain ⟨_, t1, t2, t4, t7, t10, t11, t12, t36, t37⟩ := hT
  simp only [List.getElem?_toArray, List.getElem?_cons_succ, List.getElem?_cons_zero, Option.some.injEq] at t1 t2 t4 t7 t10 t11 t12 t36 t37 h13
  subst t1 t2 t4 t7 t10 t11 t12 t36 t37 h13
  have hA := @addOne Try.prog link wgLib (c.H + 6) SR0 (KS c W (k + 1)) (KS.stays hc) (base 10) ⟨(v0 :: (.int .i64 c.n) :: v2 :: v3 :: (pt c.H) :: v5 :: v6 :: (pt (c.H + 1)) :: v8 :: v9 :: (pt (c.H + 3)) :: (pt (c.H + 5)) :: (pt (c.H + 6)) :: (pt (c.H + 7 + 2 * k)) :: v14 :: v15 :: v16 :: v17 :: v18 :: v19 :: v20 :: v21 :: v22 :: v23 :: v24 :: v25 :: v26 :: v27 :: v28 :: v29 :: v30 :: v31 :: v32 :: v33 :: v34 :: v35 :: (.int .i64 c.n) :: (.int .i64 k) :: v38 :: v39 :: v40 :: v41 :: v42 :: v43 :: v44 :: v45 :: v46 :: v47 :: v48 :: v49 :: v50 :: v51 :: v52 :: v53 :: v54 :: v55 :: v56 :: v57 :: v58 :: v59 :: v60 :: v61 :: v62 :: v63 :: v64 :: v65 :: v66 :: v67 :: v68 :: v69 :: v70 :: v71 :: v72 :: v73 :: v74 :: v75 :: v76 :: v77 :: v78 :: v79 :: v80 :: v81 :: v82 :: v83 :: v84 :: v85 :: v86 :: v87 :: v88 :: v89 :: v90 :: v91 :: v92 :: []).toArray, []⟩ R10ops 0 [] (.code R11c :: rest1) cs
  simp only [body_add, addFn, Option.getD_some] at hA
  have hR9 : R9ops = R9ops := rfl
  (refine Goes.step rfl (fun _ h₁_ => ?_); replace hF := KS.off hF h₁_; clear h₁_; rw [stepG_region_end]; simp only [goes_go]; refine ⟨by (refine ds_none' ?_; intro e he; simp at he), ?_⟩)
  simp only [R10c, L1, C1, bodyR, Try.f10, Option.getD_some]
  (refine Goes.step rfl (fun _ h₁_ => ?_); replace hF := KS.off hF h₁_; clear h₁_; rw [stepG_seq]; simp only [goes_go]; refine ⟨by (refine ds_none' ?_; intro e he; simp at he), ?_⟩)
  (refine Goes.step rfl (fun _ h₁_ => ?_); replace hF := KS.off hF h₁_; clear h₁_; rw [stepG_region]; simp only [goes_go, List.size_toArray, List.length_cons, List.length_nil, Nat.reduceAdd, Nat.zero_add, List.range, List.range.loop]; refine ⟨by (refine ds_none' ?_; intro e he; simp at he), ?_⟩)
  (refine Goes.step rfl (fun _ h₁_ => ?_); replace hF := KS.off hF h₁_; clear h₁_)
  refine goes_call rfl rfl (by k_ne) rfl Try.func15 (nm_add link) rfl ⟨by (refine ds_none' ?_; intro e he; simp at he), ?_⟩
  walk_nrmf Try.f15
  refine goes_mono (fun g w x => YKd.mono ?_ x) (goes_D (fun _ _ _ => dg_ds) (hA (T := _) ?_ _ hF))
  rotate_left
  · simp only [pt, Array.replicate, List.replicate, List.append_toArray, List.cons_append, List.nil_append]
  · rintro g w ⟨hg, h⟩
    have hd : (R10ops[0]?).bind (·.dst) = some 44 := rfl
    rw [hd] at hg
    simp only [Act.put, List.setIfInBounds_toArray, List.set_cons_succ, List.set_cons_zero] at hg
    exact ⟨⟨_, hg, ⟨rfl, rfl, rfl, rfl, rfl, rfl, rfl, rfl, rfl, rfl⟩, rfl⟩, h⟩

set_option maxRecDepth 100000 in
set_option maxHeartbeats 4000000 in
/-- from the loop's head into Add -/
theorem hire1 (hc : OkC c Shun) (hB : c.H + 8 + 2 * c.n ≤ B) {k : Nat} (hk : k < c.n) {tv : Value} {g : Goroutine} {w : World} (hg : Head1 c tv cs k g) (hF : KS c W k w) :
    Goes Try.prog true SR0 (DS c Shun B k) (YKd Try.prog 51 (c.H + 6) SR0 (fun g w => After1 c tv cs k g ∧ KS c W (k + 1) w)) (17 + 49) g w := by
  obtain ⟨T, rfl, hT⟩ := hg
  have hsz := hT.sz
  revert hT
  revert hsz
  revert T
  refine by93 ?_
  intro v0 v1 v2 v3 v4 v5 v6 v7 v8 v9 v10 v11 v12 v13 v14 v15 v16 v17 v18 v19 v20 v21 v22 v23 v24 v25 v26 v27 v28 v29 v30 v31 v32 v33 v34 v35 v36 v37 v38 v39 v40 v41 v42 v43 v44 v45 v46 v47 v48 v49 v50 v51 v52 v53 v54 v55 v56 v57 v58 v59 v60 v61 v62 v63 v64 v65 v66 v67 v68 v69 v70 v71 v72 v73 v74 v75 v76 v77 v78 v79 v80 v81 v82 v83 v84 v85 v86 v87 v88 v89 v90 v91 v92 hT
  obtain ⟨_, t1, t2, t4, t7, t10, t11, t12, t36, t37⟩ := hT
  simp only [List.getElem?_toArray, List.getElem?_cons_succ, List.getElem?_cons_zero, Option.some.injEq] at t1 t2 t4 t7 t10 t11 t12 t36 t37
  subst t1 t2 t4 t7 t10 t11 t12 t36 t37
  have hlt : decide ((k : Int) < (c.n : Int)) = true := decide_eq_true (by omega)
  simp only [L1, C1, bodyR, Try.f10, Option.getD_some, pt]
  (refine Goes.step rfl (fun _ h₁_ => ?_); replace hF := KS.off hF h₁_; clear h₁_; rw [stepG_seq]; simp only [goes_go]; refine ⟨by (refine ds_none' ?_; intro e he; simp at he), ?_⟩)
  (refine Goes.step rfl (fun _ h₁_ => ?_); replace hF := KS.off hF h₁_; clear h₁_; rw [stepG_region]; simp only [goes_go, List.size_toArray, List.length_cons, List.length_nil, Nat.reduceAdd, Nat.zero_add, List.range, List.range.loop]; refine ⟨by (refine ds_none' ?_; intro e he; simp at he), ?_⟩)
  (refine Goes.step rfl (fun _ h₁_ => ?_); replace hF := KS.off hF h₁_; clear h₁_; refine goes_oper_k rfl rfl (by k_ne) (fun K_ hK_ => ?_); go_simp; refine hK_ _ _ ⟨?_, ?_⟩; (focus (refine ds_none' ?_; intro e he; have hm := mem_listed he; simp [go_sem, *] at hm)); clear hK_ K_; try w_num)
  (refine Goes.step rfl (fun _ h₁_ => ?_); replace hF := KS.off hF h₁_; clear h₁_; rw [stepG_region_end]; simp only [goes_go]; refine ⟨by (refine ds_none' ?_; intro e he; simp at he), ?_⟩)
  (refine Goes.step rfl (fun _ h₁_ => ?_); replace hF := KS.off hF h₁_; clear h₁_; rw [stepG_seq]; simp only [goes_go]; refine ⟨by (refine ds_none' ?_; intro e he; simp at he), ?_⟩)
  (refine Goes.step rfl (fun _ h₁_ => ?_); replace hF := KS.off hF h₁_; clear h₁_; rw [stepG_cond (t := true) rfl]; simp only [goes_go, if_true, if_false, Bool.false_eq_true, ↓reduceIte]; refine ⟨by (refine ds_none' ?_; intro e he; simp at he), ?_⟩)
  (refine Goes.step rfl (fun _ h₁_ => ?_); replace hF := KS.off hF h₁_; clear h₁_; rw [stepG_skip]; simp only [goes_go]; refine ⟨by (refine ds_none' ?_; intro e he; simp at he), ?_⟩)
  (refine Goes.step rfl (fun _ h₁_ => ?_); replace hF := KS.off hF h₁_; clear h₁_; rw [stepG_seq]; simp only [goes_go]; refine ⟨by (refine ds_none' ?_; intro e he; simp at he), ?_⟩)
  (refine Goes.step rfl (fun _ h₁_ => ?_); replace hF := KS.off hF h₁_; clear h₁_; rw [stepG_block]; simp only [goes_go]; refine ⟨by (refine ds_none' ?_; intro e he; simp at he), ?_⟩)
  (refine Goes.step rfl (fun _ h₁_ => ?_); replace hF := KS.off hF h₁_; clear h₁_; rw [stepG_seq]; simp only [goes_go]; refine ⟨by (refine ds_none' ?_; intro e he; simp at he), ?_⟩)
  (refine Goes.step rfl (fun _ h₁_ => ?_); replace hF := KS.off hF h₁_; clear h₁_; rw [stepG_region]; simp only [goes_go, List.size_toArray, List.length_cons, List.length_nil, Nat.reduceAdd, Nat.zero_add, List.range, List.range.loop]; refine ⟨by (refine ds_none' ?_; intro e he; simp at he), ?_⟩)
  (refine Goes.step rfl (fun _ h₁_ => ?_); replace hF := KS.off hF h₁_; clear h₁_; refine goes_oper_k rfl rfl (by k_ne) (fun K_ hK_ => ?_); go_simp; refine hK_ _ _ ⟨?_, ?_⟩; (focus (refine ds_none' ?_; intro e he; have hm := mem_listed he; simp [go_sem, *] at hm)); clear hK_ K_; try w_num)
  (refine Goes.step rfl (fun _ h₁_ => ?_); replace hF := KS.off hF h₁_; clear h₁_; refine goes_oper_k rfl rfl (by decide) (fun K_ hK_ => ?_); have hf0_ := (hF.sz); go_simp; refine hK_ _ _ ⟨(ds_alloc (Nat.le_of_eq hF.sz.symm)) (fun e he => ?_), ?_⟩; (focus (have hm := mem_listed he; simp [go_sem, storedEv, *] at hm; try (subst hm; exact (evs_hi hc _ _ (by simp; omega) (by simp; omega) (by have hz_ := hF.sz; simp at hz_ ⊢; omega) (fun _ => dep_hi hc (by simp)))))); clear hK_ K_ hf0_)
  replace hF := hF.box hc (.int .i64 0)
  (refine Goes.step rfl (fun _ h₁_ => ?_); replace hF := (K1.off hc) hF h₁_; clear h₁_; refine goes_oper_k rfl rfl (by decide) (fun K_ hK_ => ?_); have hf0_ := (hF.bcell); have hf1_ := (hF.bfree); go_simp; refine hK_ _ _ ⟨(ds_set (by simp) (fun arr e => by have e2 := hF.box; simp only at e; rw [e2] at e; cases e)) (fun e he => ?_), ?_⟩; (focus (have hm := mem_listed he; simp [go_sem, storedEv, *] at hm; try (subst hm; exact (evs_hi hc _ _ (by simp; omega) (by simp; omega) (by have hz_ := hF.sz0; simp only [World.size_setCell]; omega) (fun _ => dep_hi hc (by simp)))))); clear hK_ K_ hf0_ hf1_)
  replace hF := hF.put hc (.int .i64 k)
  (refine Goes.step rfl (fun _ h₁_ => ?_); replace hF := (K1.off hc) hF h₁_; clear h₁_; rw [stepG_region_end]; simp only [goes_go]; refine ⟨by (refine ds_none' ?_; intro e he; simp at he), ?_⟩)
  (refine Goes.step rfl (fun _ h₁_ => ?_); replace hF := (K1.off hc) hF h₁_; clear h₁_; rw [stepG_seq]; simp only [goes_go]; refine ⟨by (refine ds_none' ?_; intro e he; simp at he), ?_⟩)
  (refine Goes.step rfl (fun _ h₁_ => ?_); replace hF := (K1.off hc) hF h₁_; clear h₁_)
  rename_i w₁
  rw [stepG_region_draw]
  refine ⟨ds_draw, ?_⟩
  have hok := okl_schedule mixed R9ops (w₁.tape w₁.drawn (.order ((base 10).fn) 9))
  have hlen := okl_len0 hok
  have hsz9 : R9ops.size = 5 := rfl
  rw [hsz9] at hlen
  refine Goes.mono (drawn9 hc hB hk (m0 := 44) (fun w hF => add1 hc _ ⟨rfl, rfl, rfl, rfl, rfl, rfl, rfl, rfl, rfl, rfl⟩ rfl w hF) _ false false false false _ _ _ _ hok (by simp) (by simp) (by simp) (by simp) _ (hF.off hc (Off.of_at ⟨_, rfl⟩))) (Nat.add_le_add_left hlen 44)

set_option maxRecDepth 100000 in
/-- from behind Add to the go statement -/
theorem go1 (hc : OkC c Shun) {k : Nat} {tv : Value} {g : Goroutine} {w : World} (hg : After1 c tv cs k g) (hF : KS c W (k + 1) w) :
    Goes Try.prog true SR0 (DS c Shun B k) (fun g w => AtGo1 c tv cs k g ∧ KS c W (k + 1) w) 3 g w := by
  obtain ⟨T, rfl, hT, h13⟩ := hg
  have hsz := hT.sz
  revert hT h13
  revert hsz
  revert T
  refine by93 ?_
  intro v0 v1 v2 v3 v4 v5 v6 v7 v8 v9 v10 v11 v12 v13 v14 v15 v16 v17 v18 v19 v20 v21 v22 v23 v24 v25 v26 v27 v28 v29 v30 v31 v32 v33 v34 v35 v36 v37 v38 v39 v40 v41 v42 v43 v44 v45 v46 v47 v48 v49 v50 v51 v52 v53 v54 v55 v56 v57 v58 v59 v60 v61 v62 v63 v64 v65 v66 v67 v68 v69 v70 v71 v72 v73 v74 v75 v76 v77 v78 v79 v80 v81 v82 v83 v84 v85 v86 v87 v88 v89 v90 v91 v92 hT h13
  obtain ⟨_, t1, t2, t4, t7, t10, t11, t12, t36, t37⟩ := hT
  simp only [List.getElem?_toArray, List.getElem?_cons_succ, List.getElem?_cons_zero, Option.some.injEq] at t1 t2 t4 t7 t10 t11 t12 t36 t37 h13
  subst t1 t2 t4 t7 t10 t11 t12 t36 t37 h13
  (refine Goes.step rfl (fun _ h₁_ => ?_); replace hF := KS.off hF h₁_; clear h₁_; rw [stepG_region_end]; simp only [goes_go]; refine ⟨by (refine ds_none' ?_; intro e he; simp at he), ?_⟩)
  simp only [R11c, L1, C1, bodyR, Try.f10, Option.getD_some, pt]
  (refine Goes.step rfl (fun _ h₁_ => ?_); replace hF := KS.off hF h₁_; clear h₁_; rw [stepG_region]; simp only [goes_go, List.size_toArray, List.length_cons, List.length_nil, Nat.reduceAdd, Nat.zero_add, List.range, List.range.loop]; refine ⟨by (refine ds_none' ?_; intro e he; simp at he), ?_⟩)
  (refine Goes.step rfl (fun _ h₁_ => ?_); replace hF := KS.off hF h₁_; clear h₁_; refine goes_oper_k rfl rfl (by k_ne) (fun K_ hK_ => ?_); go_simp; refine hK_ _ _ ⟨?_, ?_⟩; (focus (refine ds_none' ?_; intro e he; have hm := mem_listed he; simp [go_sem, *] at hm)); clear hK_ K_; try w_num)
  exact Goes.stop (fun w₁ h₁ => ⟨⟨_, rfl, ⟨rfl, rfl, rfl, rfl, rfl, rfl, rfl, rfl, rfl, rfl⟩, rfl⟩, hF.off h₁⟩)

set_option maxRecDepth 100000 in
/-- the go statement -/
theorem spawn1 {k : Nat} {tv : Value} {g : Goroutine} (hg : AtGo1 c tv cs k g) : g.status = .running ∧ ∃ g', Gone1 c tv cs k g' ∧ ∀ w, stepG Try.prog true g w = .spawn g' (born Try.prog (callW c k)) w #[] := by
  obtain ⟨T, rfl, hT, h45⟩ := hg
  have hsz := hT.sz
  revert hT h45
  revert hsz
  revert T
  refine by93 ?_
  intro v0 v1 v2 v3 v4 v5 v6 v7 v8 v9 v10 v11 v12 v13 v14 v15 v16 v17 v18 v19 v20 v21 v22 v23 v24 v25 v26 v27 v28 v29 v30 v31 v32 v33 v34 v35 v36 v37 v38 v39 v40 v41 v42 v43 v44 v45 v46 v47 v48 v49 v50 v51 v52 v53 v54 v55 v56 v57 v58 v59 v60 v61 v62 v63 v64 v65 v66 v67 v68 v69 v70 v71 v72 v73 v74 v75 v76 v77 v78 v79 v80 v81 v82 v83 v84 v85 v86 v87 v88 v89 v90 v91 v92 hT h45
  obtain ⟨_, t1, t2, t4, t7, t10, t11, t12, t36, t37⟩ := hT
  simp only [List.getElem?_toArray, List.getElem?_cons_succ, List.getElem?_cons_zero, Option.some.injEq] at t1 t2 t4 t7 t10 t11 t12 t36 t37 h45
  subst t1 t2 t4 t7 t10 t11 t12 t36 t37 h45
  refine ⟨rfl, G ((base 10).at ⟨(v0 :: (.int .i64 c.n) :: v2 :: v3 :: (pt c.H) :: v5 :: v6 :: (pt (c.H + 1)) :: v8 :: v9 :: (pt (c.H + 3)) :: (pt (c.H + 5)) :: (pt (c.H + 6)) :: v13 :: v14 :: v15 :: v16 :: v17 :: v18 :: v19 :: v20 :: v21 :: v22 :: v23 :: v24 :: v25 :: v26 :: v27 :: v28 :: v29 :: v30 :: v31 :: v32 :: v33 :: v34 :: v35 :: (.int .i64 c.n) :: (.int .i64 k) :: v38 :: v39 :: v40 :: v41 :: v42 :: v43 :: v44 :: (.func (.func 20) #[] #[pt (c.H + 6), pt (c.H + 3), pt (c.H + 7 + 2 * k), pt (c.H + 5), pt (c.H + 1), pt c.H]) :: v46 :: v47 :: v48 :: v49 :: v50 :: v51 :: v52 :: v53 :: v54 :: v55 :: v56 :: v57 :: v58 :: v59 :: v60 :: v61 :: v62 :: v63 :: v64 :: v65 :: v66 :: v67 :: v68 :: v69 :: v70 :: v71 :: v72 :: v73 :: v74 :: v75 :: v76 :: v77 :: v78 :: v79 :: v80 :: v81 :: v82 :: v83 :: v84 :: v85 :: v86 :: v87 :: v88 :: v89 :: v90 :: v91 :: v92 :: []).toArray, []⟩ (.inRegion R11ops [] :: rest1)) cs, ⟨_, rfl, ?_⟩, fun w => ?_⟩
  rotate_left
  · simp only [R11ops, R11c, L1, C1, bodyR, Try.f10, Option.getD_some]
    rw [stepG_spawn (d := callW c k) (w' := w) (f := .func 20) (c := #[pt (c.H + 6), pt (c.H + 3), pt (c.H + 7 + 2 * k), pt (c.H + 5), pt (c.H + 1), pt c.H]) rfl rfl (by decide) (by simp [go_sem, callW, Deferred.ofValue, Act.eval]) rfl]
    simp [listed, go_sem, seen, Deferred.ofValue, Act.eval]
    rfl
  · exact ⟨rfl, rfl, rfl, rfl, rfl, rfl, rfl, rfl, rfl, rfl⟩

set_option maxRecDepth 100000 in
/-- to the loop's head -/
theorem next1 (hc : OkC c Shun) {k k' : Nat} (hk : k < c.n) {tv : Value} {g : Goroutine} {w : World} (hg : Gone1 c tv cs k g) (hF : KS c W (k + 1) w) :
    Goes Try.prog true SR0 (DS c Shun B k') (fun g w => Head1 c tv cs (k + 1) g ∧ KS c W (k + 1) w) 7 g w := by
  have hn := hc.nmax
  have hw : IntKind.wrap .i64 ((k : Int) + 1) = ((k + 1 : Nat) : Int) := by rw [IntKind.wrap_i64]; omega
  obtain ⟨T, rfl, hT⟩ := hg
  have hsz := hT.sz
  revert hT
  revert hsz
  revert T
  refine by93 ?_
  intro v0 v1 v2 v3 v4 v5 v6 v7 v8 v9 v10 v11 v12 v13 v14 v15 v16 v17 v18 v19 v20 v21 v22 v23 v24 v25 v26 v27 v28 v29 v30 v31 v32 v33 v34 v35 v36 v37 v38 v39 v40 v41 v42 v43 v44 v45 v46 v47 v48 v49 v50 v51 v52 v53 v54 v55 v56 v57 v58 v59 v60 v61 v62 v63 v64 v65 v66 v67 v68 v69 v70 v71 v72 v73 v74 v75 v76 v77 v78 v79 v80 v81 v82 v83 v84 v85 v86 v87 v88 v89 v90 v91 v92 hT
  obtain ⟨_, t1, t2, t4, t7, t10, t11, t12, t36, t37⟩ := hT
  simp only [List.getElem?_toArray, List.getElem?_cons_succ, List.getElem?_cons_zero, Option.some.injEq] at t1 t2 t4 t7 t10 t11 t12 t36 t37
  subst t1 t2 t4 t7 t10 t11 t12 t36 t37
  (refine Goes.step rfl (fun _ h₁_ => ?_); replace hF := KS.off hF h₁_; clear h₁_; rw [stepG_region_end]; simp only [goes_go]; refine ⟨by (refine ds_none' ?_; intro e he; simp at he), ?_⟩)
  simp only [rest1, R12c]
  (refine Goes.step rfl (fun _ h₁_ => ?_); replace hF := KS.off hF h₁_; clear h₁_; rw [stepG_inBlock]; simp only [goes_go]; refine ⟨by (refine ds_none' ?_; intro e he; simp at he), ?_⟩)
  simp only [L1, C1, bodyR, Try.f10, Option.getD_some, pt]
  (refine Goes.step rfl (fun _ h₁_ => ?_); replace hF := KS.off hF h₁_; clear h₁_; rw [stepG_region]; simp only [goes_go, List.size_toArray, List.length_cons, List.length_nil, Nat.reduceAdd, Nat.zero_add, List.range, List.range.loop]; refine ⟨by (refine ds_none' ?_; intro e he; simp at he), ?_⟩)
  (refine Goes.step rfl (fun _ h₁_ => ?_); replace hF := KS.off hF h₁_; clear h₁_; refine goes_oper_k rfl rfl (by k_ne) (fun K_ hK_ => ?_); go_simp; refine hK_ _ _ ⟨?_, ?_⟩; (focus (refine ds_none' ?_; intro e he; have hm := mem_listed he; simp [go_sem, *] at hm)); clear hK_ K_; try w_num)
  (refine Goes.step rfl (fun _ h₁_ => ?_); replace hF := KS.off hF h₁_; clear h₁_; refine goes_oper_k rfl rfl (by k_ne) (fun K_ hK_ => ?_); go_simp; refine hK_ _ _ ⟨?_, ?_⟩; (focus (refine ds_none' ?_; intro e he; have hm := mem_listed he; simp [go_sem, *] at hm)); clear hK_ K_; try w_num)
  (refine Goes.step rfl (fun _ h₁_ => ?_); replace hF := KS.off hF h₁_; clear h₁_; rw [stepG_region_end]; simp only [goes_go]; refine ⟨by (refine ds_none' ?_; intro e he; simp at he), ?_⟩)
  (refine Goes.step rfl (fun _ h₁_ => ?_); replace hF := KS.off hF h₁_; clear h₁_; rw [stepG_inLoop]; simp only [goes_go]; refine ⟨by (refine ds_none' ?_; intro e he; simp at he), ?_⟩)
  exact Goes.stop (fun w₁ h₁ => ⟨⟨_, rfl, ⟨rfl, rfl, rfl, rfl, rfl, rfl, rfl, rfl, rfl, rfl⟩⟩, hF.off h₁⟩)
end
end Go.Proofs.Ytngnkdedfcnfkaa.R10

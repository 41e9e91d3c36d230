/-
  lantern/lanternlaw20.PoolRuns (function 3): its walks behind its call of Run. (Printed by tools/pqd_gen.py.)
-/
import Derived.Test.YtngnkdedfcnfkaaPqC
set_option linter.unusedSimpArgs false
set_option linter.unusedVariables false
namespace Go.Proofs.Ytngnkdedfcnfkaa
open Go Go.Conc Go.RowKit Go.Conc.Lib Go.ConcR.Gen Go.ConcN.Gen

/-- what the law leans on behind Run: its argument and the answers -/
structure FL (W : World) (ja : Option Addr) (J O : Nat) (z : Nat → Int) (w : World) : Prop where
  below : Below W.heap.size W w
  src : SrcV w ja J W.heap.size (fun i => .int .i64 (z i))
  out : ∀ i, i < J → w.cell? ⟨O, i, none⟩ = some (.int .i64 (IntKind.wrap .i64 (z i * z i)))
theorem FL.at_ {W : World} {ja : Option Addr} {J O : Nat} {z : Nat → Int} {w w₁ : World} (h : FL W ja J O z w) (r : AtRel w w₁) : FL W ja J O z w₁ := by
  obtain ⟨d, rfl⟩ := r
  exact ⟨Below.at_ h.below ⟨d, rfl⟩, ⟨h.src.nil, h.src.blk, h.src.cell, h.src.one⟩, h.out⟩
noncomputable def C36 : Code := match C35 with | .seq _ c => c | _ => .skip
noncomputable def C38 : Code := match C36 with | .seq _ c => c | _ => .skip
noncomputable def L3l : Code := match C38 with | .seq (.seq _ (.block _ (.loop c))) _ => c | _ => .skip
noncomputable def C316 : Code := match C38 with | .seq _ c => c | _ => .skip
noncomputable def B3l : Code := match L3l with | .seq _ (.seq _ (.seq (.block _ c) _)) => c | _ => .skip
noncomputable def R13ops3 : Array Oper := match B3l with | .seq _ (.seq (.region _ ops _) _) => ops | _ => #[]
noncomputable def K13 : Code := match B3l with | .seq _ (.seq _ c) => c | _ => .skip
noncomputable def R15c3 : Code := match L3l with | .seq _ (.seq _ (.seq _ c)) => c | _ => .skip
section
variable {Shun : Loc → Prop} {B : Nat} {W : World}
set_option maxRecDepth 100000 in
set_option maxHeartbeats 4000000 in
/-- the drawn region 'l[i] != jobs[i]*jobs[i]' -/
theorem drawn13 {a : Addr} {J cap O k : Nat} {z : Nat → Int} {v1 v2 v3 v4 v5 v6 v8 v10 v11 v12 v13 v14 v15 v16 v17 v18 v19 v20 v21 v22 v23 v24 v25 v26 v27 v28 v29 v30 v31 v32 v33 v34 v35 v36 v37 v38 v39 v40 v41 v42 v43 v44 v45 v46 v47 v48 v49 v50 v51 v52 v53 v54 v55 v56 v57 v72 : Value} {K : List Item} {cs : List Frame} {Stop : Goroutine → World → Prop} {m0 : Nat} {tE : Value} (hk : k < J) (hS : ∀ a : Addr, a.block < W.heap.size → ¬ Shun (.cell a)) (hO : ∀ a : Addr, a.block = O → ¬ Shun (.cell a)) (hN : W.heap.size ≤ B) (hOB : O < B) (hbl : ∀ b : Addr, b.block = a.block → b.block < W.heap.size)
    (hend : ∀ w, FL W (some a) J O z w → Goes Try.prog true AtRel (DE (EvL Shun B)) Stop m0 (G ((base 3).at ⟨((.slice (some a) J cap) :: v1 :: v2 :: v3 :: v4 :: v5 :: v6 :: (.slice (some ⟨O, 0, none⟩) J J) :: v8 :: (.int .i64 k) :: v10 :: v11 :: v12 :: v13 :: v14 :: v15 :: v16 :: v17 :: v18 :: v19 :: v20 :: v21 :: v22 :: v23 :: v24 :: v25 :: v26 :: v27 :: v28 :: v29 :: v30 :: v31 :: v32 :: v33 :: v34 :: v35 :: v36 :: v37 :: v38 :: v39 :: v40 :: v41 :: v42 :: v43 :: v44 :: v45 :: v46 :: v47 :: v48 :: v49 :: v50 :: v51 :: v52 :: v53 :: v54 :: v55 :: v56 :: v57 :: (.slice (some ⟨O, 0, none⟩) J J) :: (.int .i64 k) :: (.pointer (some ⟨O, k, none⟩)) :: (.int .i64 (IntKind.wrap .i64 (z k * z k))) :: (.slice (some a) J cap) :: (.int .i64 k) :: (.pointer (some (a.add k))) :: (.int .i64 (z k)) :: (.slice (some a) J cap) :: (.int .i64 k) :: (.pointer (some (a.add k))) :: (.int .i64 (z k)) :: (.int .i64 (IntKind.wrap .i64 (z k * z k))) :: (.bool false) :: v72 :: []).toArray, []⟩ (.inRegion R13ops3 [] :: K)) cs) w) :
    ∀ (l : List Nat) (l0 l1 l2 l3 l4 l5 l6 l7 l8 l9 l10 l11 l12 : Bool) (t58 t59 t60 t61 t62 t63 t64 t65 t66 t67 t68 t69 t70 : Value), Okl .any R13ops3 #[l0, l1, l2, l3, l4, l5, l6, l7, l8, l9, l10, l11, l12, false] l →
    (l0 = true → t58 = (.slice (some ⟨O, 0, none⟩) J J)) → (l1 = true → t59 = (.int .i64 k)) → (l2 = true → t60 = (.pointer (some ⟨O, k, none⟩)) ∧ l0 = true ∧ l1 = true) → (l3 = true → t61 = (.int .i64 (IntKind.wrap .i64 (z k * z k))) ∧ l2 = true) → (l4 = true → t62 = (.slice (some a) J cap)) → (l5 = true → t63 = (.int .i64 k)) → (l6 = true → t64 = (.pointer (some (a.add k))) ∧ l4 = true ∧ l5 = true) → (l7 = true → t65 = (.int .i64 (z k)) ∧ l6 = true) → (l8 = true → t66 = (.slice (some a) J cap)) → (l9 = true → t67 = (.int .i64 k)) → (l10 = true → t68 = (.pointer (some (a.add k))) ∧ l8 = true ∧ l9 = true) → (l11 = true → t69 = (.int .i64 (z k)) ∧ l10 = true) → (l12 = true → t70 = (.int .i64 (IntKind.wrap .i64 (z k * z k))) ∧ l7 = true ∧ l11 = true) →
    ∀ w, FL W (some a) J O z w → Goes Try.prog true AtRel (DE (EvL Shun B)) Stop (m0 + l.length * 1) (G ((base 3).at ⟨((.slice (some a) J cap) :: v1 :: v2 :: v3 :: v4 :: v5 :: v6 :: (.slice (some ⟨O, 0, none⟩) J J) :: v8 :: (.int .i64 k) :: v10 :: v11 :: v12 :: v13 :: v14 :: v15 :: v16 :: v17 :: v18 :: v19 :: v20 :: v21 :: v22 :: v23 :: v24 :: v25 :: v26 :: v27 :: v28 :: v29 :: v30 :: v31 :: v32 :: v33 :: v34 :: v35 :: v36 :: v37 :: v38 :: v39 :: v40 :: v41 :: v42 :: v43 :: v44 :: v45 :: v46 :: v47 :: v48 :: v49 :: v50 :: v51 :: v52 :: v53 :: v54 :: v55 :: v56 :: v57 :: t58 :: t59 :: t60 :: t61 :: t62 :: t63 :: t64 :: t65 :: t66 :: t67 :: t68 :: t69 :: t70 :: tE :: v72 :: []).toArray, []⟩ (.inRegion R13ops3 l :: K)) cs) w := by
  have hk0 : (0 : Int) ≤ (k : Int) := by omega
  have hk1 : (k : Int) < (J : Int) := by omega
  intro l
  induction l with
  | nil =>
    intro l0 l1 l2 l3 l4 l5 l6 l7 l8 l9 l10 l11 l12 t58 t59 t60 t61 t62 t63 t64 t65 t66 t67 t68 t69 t70 hl
    exfalso
    have no : ∀ i, i ∉ Region.ready .any R13ops3 #[l0, l1, l2, l3, l4, l5, l6, l7, l8, l9, l10, l11, l12, false] := fun i hi => by
      have : Region.ready .any R13ops3 #[l0, l1, l2, l3, l4, l5, l6, l7, l8, l9, l10, l11, l12, false] = [] := hl
      rw [this] at hi; cases hi
    have h0 := no 0; have h1 := no 1; have h2 := no 2; have h3 := no 3; have h4 := no 4; have h5 := no 5; have h6 := no 6; have h7 := no 7; have h8 := no 8; have h9 := no 9; have h10 := no 10; have h11 := no 11; have h12 := no 12; have h13 := no 13
    clear no hl
    simp only [mem_ready] at h0 h1 h2 h3 h4 h5 h6 h7 h8 h9 h10 h11 h12 h13
    simp [R13ops3, B3l, L3l, C38, C36, C35, C31, body3, Try.f3, Region.binds] at h0 h1 h4 h5 h8 h9
    subst h0 h1 h4 h5 h8 h9
    simp [R13ops3, B3l, L3l, C38, C36, C35, C31, body3, Try.f3, Region.binds] at h2 h6 h10
    subst h2 h6 h10
    simp [R13ops3, B3l, L3l, C38, C36, C35, C31, body3, Try.f3, Region.binds] at h3 h7 h11
    subst h3 h7 h11
    simp [R13ops3, B3l, L3l, C38, C36, C35, C31, body3, Try.f3, Region.binds] at h12
    subst h12
    simp [R13ops3, B3l, L3l, C38, C36, C35, C31, body3, Try.f3, Region.binds] at h13
  | cons i l ih =>
    intro l0 l1 l2 l3 l4 l5 l6 l7 l8 l9 l10 l11 l12 t58 t59 t60 t61 t62 t63 t64 t65 t66 t67 t68 t69 t70 hl g0 g1 g2 g3 g4 g5 g6 g7 g8 g9 g10 g11 g12 w hF
    obtain ⟨hi, hl⟩ := hl
    rw [mem_ready] at hi
    match i, hi, hl with
    | 0, hi, hl =>
      simp [R13ops3, B3l, L3l, C38, C36, C35, C31, body3, Try.f3, Region.binds] at hi
      subst hi
      have hm := ih true l1 l2 l3 l4 l5 l6 l7 l8 l9 l10 l11 l12 (.slice (some ⟨O, 0, none⟩) J J) t59 t60 t61 t62 t63 t64 t65 t66 t67 t68 t69 t70 (by simpa using hl) (fun _ => rfl) g1 (fun h => ⟨(g2 h).1, rfl, (g2 h).2.2⟩) g3 g4 g5 g6 g7 g8 g9 g10 g11 g12
      refine Goes.mono (n := m0 + l.length * 1 + 1) ?_ (by simp only [List.length_cons]; omega)
      simp only [R13ops3, B3l, L3l, C38, C36, C35, C31, body3, Try.f3, Option.getD_some]
      (refine Goes.step rfl (fun _ h₁_ => ?_); replace hF := FL.at_ hF h₁_; clear h₁_; refine goes_oper_k rfl rfl (by k_ne) (fun K_ hK_ => ?_); go_simp; refine hK_ _ _ ⟨?_, ?_⟩; (focus (refine de_none ?_; intro e he; have hm := mem_listed he; simp [go_sem, *] at hm)); clear hK_ K_; try w_num)
      exact hm _ hF
    | 1, hi, hl =>
      simp [R13ops3, B3l, L3l, C38, C36, C35, C31, body3, Try.f3, Region.binds] at hi
      subst hi
      have hm := ih l0 true l2 l3 l4 l5 l6 l7 l8 l9 l10 l11 l12 t58 (.int .i64 k) t60 t61 t62 t63 t64 t65 t66 t67 t68 t69 t70 (by simpa using hl) g0 (fun _ => rfl) (fun h => ⟨(g2 h).1, (g2 h).2.1, rfl⟩) g3 g4 g5 g6 g7 g8 g9 g10 g11 g12
      refine Goes.mono (n := m0 + l.length * 1 + 1) ?_ (by simp only [List.length_cons]; omega)
      simp only [R13ops3, B3l, L3l, C38, C36, C35, C31, body3, Try.f3, Option.getD_some]
      (refine Goes.step rfl (fun _ h₁_ => ?_); replace hF := FL.at_ hF h₁_; clear h₁_; refine goes_oper_k rfl rfl (by k_ne) (fun K_ hK_ => ?_); go_simp; refine hK_ _ _ ⟨?_, ?_⟩; (focus (refine de_none ?_; intro e he; have hm := mem_listed he; simp [go_sem, *] at hm)); clear hK_ K_; try w_num)
      exact hm _ hF
    | 2, hi, hl =>
      simp [R13ops3, B3l, L3l, C38, C36, C35, C31, body3, Try.f3, Region.binds] at hi
      obtain ⟨rfl, hd⟩ := hi
      have k0 : l0 = true := by cases e : l0 with | true => rfl | false => rw [e] at hd; simp at hd
      have k1 : l1 = true := by cases e : l1 with | true => rfl | false => rw [e] at hd; simp at hd
      have hm := ih l0 l1 true l3 l4 l5 l6 l7 l8 l9 l10 l11 l12 t58 t59 (.pointer (some ⟨O, k, none⟩)) t61 t62 t63 t64 t65 t66 t67 t68 t69 t70 (by simpa using hl) g0 g1 (fun _ => ⟨rfl, k0, k1⟩) (fun h => ⟨(g3 h).1, rfl⟩) g4 g5 g6 g7 g8 g9 g10 g11 g12
      obtain rfl := g0 k0
      obtain rfl := g1 k1
      refine Goes.mono (n := m0 + l.length * 1 + 1) ?_ (by simp only [List.length_cons]; omega)
      simp only [R13ops3, B3l, L3l, C38, C36, C35, C31, body3, Try.f3, Option.getD_some]
      (refine Goes.step rfl (fun _ h₁_ => ?_); replace hF := FL.at_ hF h₁_; clear h₁_; refine goes_oper_k rfl rfl (by k_ne) (fun K_ hK_ => ?_); go_simp; refine hK_ _ _ ⟨?_, ?_⟩; (focus (refine de_none ?_; intro e he; have hm := mem_listed he; simp [go_sem, *] at hm)); clear hK_ K_; try w_num)
      exact hm _ hF
    | 3, hi, hl =>
      simp [R13ops3, B3l, L3l, C38, C36, C35, C31, body3, Try.f3, Region.binds] at hi
      obtain ⟨rfl, hd⟩ := hi
      have k2 : l2 = true := by cases e : l2 with | true => rfl | false => rw [e] at hd; simp at hd
      have hm := ih l0 l1 l2 true l4 l5 l6 l7 l8 l9 l10 l11 l12 t58 t59 t60 (.int .i64 (IntKind.wrap .i64 (z k * z k))) t62 t63 t64 t65 t66 t67 t68 t69 t70 (by simpa using hl) g0 g1 g2 (fun _ => ⟨rfl, k2⟩) g4 g5 g6 g7 g8 g9 g10 g11 g12
      obtain ⟨rfl, k0, k1⟩ := g2 k2
      obtain rfl := g0 k0
      obtain rfl := g1 k1
      refine Goes.mono (n := m0 + l.length * 1 + 1) ?_ (by simp only [List.length_cons]; omega)
      simp only [R13ops3, B3l, L3l, C38, C36, C35, C31, body3, Try.f3, Option.getD_some]
      (refine Goes.step rfl (fun _ h₁_ => ?_); replace hF := FL.at_ hF h₁_; clear h₁_; refine goes_oper_k rfl rfl (by decide) (fun K_ hK_ => ?_); have hf0_ := (hF.out k hk); go_simp; refine hK_ _ _ ⟨de_of (fun e he => ?_), ?_⟩; (focus (have hm := mem_listed he; simp [go_sem, storedEv, *] at hm; try (subst hm; exact (evL_cell _ _ (hO _ rfl) (by simp; omega))))); clear hK_ K_ hf0_)
      exact hm _ hF
    | 4, hi, hl =>
      simp [R13ops3, B3l, L3l, C38, C36, C35, C31, body3, Try.f3, Region.binds] at hi
      subst hi
      have hm := ih l0 l1 l2 l3 true l5 l6 l7 l8 l9 l10 l11 l12 t58 t59 t60 t61 (.slice (some a) J cap) t63 t64 t65 t66 t67 t68 t69 t70 (by simpa using hl) g0 g1 g2 g3 (fun _ => rfl) g5 (fun h => ⟨(g6 h).1, rfl, (g6 h).2.2⟩) g7 g8 g9 g10 g11 g12
      refine Goes.mono (n := m0 + l.length * 1 + 1) ?_ (by simp only [List.length_cons]; omega)
      simp only [R13ops3, B3l, L3l, C38, C36, C35, C31, body3, Try.f3, Option.getD_some]
      (refine Goes.step rfl (fun _ h₁_ => ?_); replace hF := FL.at_ hF h₁_; clear h₁_; refine goes_oper_k rfl rfl (by k_ne) (fun K_ hK_ => ?_); go_simp; refine hK_ _ _ ⟨?_, ?_⟩; (focus (refine de_none ?_; intro e he; have hm := mem_listed he; simp [go_sem, *] at hm)); clear hK_ K_; try w_num)
      exact hm _ hF
    | 5, hi, hl =>
      simp [R13ops3, B3l, L3l, C38, C36, C35, C31, body3, Try.f3, Region.binds] at hi
      subst hi
      have hm := ih l0 l1 l2 l3 l4 true l6 l7 l8 l9 l10 l11 l12 t58 t59 t60 t61 t62 (.int .i64 k) t64 t65 t66 t67 t68 t69 t70 (by simpa using hl) g0 g1 g2 g3 g4 (fun _ => rfl) (fun h => ⟨(g6 h).1, (g6 h).2.1, rfl⟩) g7 g8 g9 g10 g11 g12
      refine Goes.mono (n := m0 + l.length * 1 + 1) ?_ (by simp only [List.length_cons]; omega)
      simp only [R13ops3, B3l, L3l, C38, C36, C35, C31, body3, Try.f3, Option.getD_some]
      (refine Goes.step rfl (fun _ h₁_ => ?_); replace hF := FL.at_ hF h₁_; clear h₁_; refine goes_oper_k rfl rfl (by k_ne) (fun K_ hK_ => ?_); go_simp; refine hK_ _ _ ⟨?_, ?_⟩; (focus (refine de_none ?_; intro e he; have hm := mem_listed he; simp [go_sem, *] at hm)); clear hK_ K_; try w_num)
      exact hm _ hF
    | 6, hi, hl =>
      simp [R13ops3, B3l, L3l, C38, C36, C35, C31, body3, Try.f3, Region.binds] at hi
      obtain ⟨rfl, hd⟩ := hi
      have k4 : l4 = true := by cases e : l4 with | true => rfl | false => rw [e] at hd; simp at hd
      have k5 : l5 = true := by cases e : l5 with | true => rfl | false => rw [e] at hd; simp at hd
      have hm := ih l0 l1 l2 l3 l4 l5 true l7 l8 l9 l10 l11 l12 t58 t59 t60 t61 t62 t63 (.pointer (some (a.add k))) t65 t66 t67 t68 t69 t70 (by simpa using hl) g0 g1 g2 g3 g4 g5 (fun _ => ⟨rfl, k4, k5⟩) (fun h => ⟨(g7 h).1, rfl⟩) g8 g9 g10 g11 g12
      obtain rfl := g4 k4
      obtain rfl := g5 k5
      refine Goes.mono (n := m0 + l.length * 1 + 1) ?_ (by simp only [List.length_cons]; omega)
      simp only [R13ops3, B3l, L3l, C38, C36, C35, C31, body3, Try.f3, Option.getD_some]
      (refine Goes.step rfl (fun _ h₁_ => ?_); replace hF := FL.at_ hF h₁_; clear h₁_; refine goes_oper_k rfl rfl (by k_ne) (fun K_ hK_ => ?_); go_simp; refine hK_ _ _ ⟨?_, ?_⟩; (focus (refine de_none ?_; intro e he; have hm := mem_listed he; simp [go_sem, *] at hm)); clear hK_ K_; try w_num)
      exact hm _ hF
    | 7, hi, hl =>
      simp [R13ops3, B3l, L3l, C38, C36, C35, C31, body3, Try.f3, Region.binds] at hi
      obtain ⟨rfl, hd⟩ := hi
      have k6 : l6 = true := by cases e : l6 with | true => rfl | false => rw [e] at hd; simp at hd
      have hm := ih l0 l1 l2 l3 l4 l5 l6 true l8 l9 l10 l11 l12 t58 t59 t60 t61 t62 t63 t64 (.int .i64 (z k)) t66 t67 t68 t69 t70 (by simpa using hl) g0 g1 g2 g3 g4 g5 g6 (fun _ => ⟨rfl, k6⟩) g8 g9 g10 g11 (fun h => ⟨(g12 h).1, rfl, (g12 h).2.2⟩)
      obtain ⟨rfl, k4, k5⟩ := g6 k6
      obtain rfl := g4 k4
      obtain rfl := g5 k5
      refine Goes.mono (n := m0 + l.length * 1 + 1) ?_ (by simp only [List.length_cons]; omega)
      simp only [R13ops3, B3l, L3l, C38, C36, C35, C31, body3, Try.f3, Option.getD_some]
      (refine Goes.step rfl (fun _ h₁_ => ?_); replace hF := FL.at_ hF h₁_; clear h₁_; refine goes_oper_k rfl rfl (by decide) (fun K_ hK_ => ?_); have hf0_ := (hF.src.cell a rfl k hk); go_simp; refine hK_ _ _ ⟨de_of (fun e he => ?_), ?_⟩; (focus (have hm := mem_listed he; simp [go_sem, storedEv, *] at hm; try (subst hm; exact (evL_cell _ _ (hS _ (hbl _ (addBlock _ _))) (by have := hbl (a.add k) (addBlock _ _); omega))))); clear hK_ K_ hf0_)
      exact hm _ hF
    | 8, hi, hl =>
      simp [R13ops3, B3l, L3l, C38, C36, C35, C31, body3, Try.f3, Region.binds] at hi
      subst hi
      have hm := ih l0 l1 l2 l3 l4 l5 l6 l7 true l9 l10 l11 l12 t58 t59 t60 t61 t62 t63 t64 t65 (.slice (some a) J cap) t67 t68 t69 t70 (by simpa using hl) g0 g1 g2 g3 g4 g5 g6 g7 (fun _ => rfl) g9 (fun h => ⟨(g10 h).1, rfl, (g10 h).2.2⟩) g11 g12
      refine Goes.mono (n := m0 + l.length * 1 + 1) ?_ (by simp only [List.length_cons]; omega)
      simp only [R13ops3, B3l, L3l, C38, C36, C35, C31, body3, Try.f3, Option.getD_some]
      (refine Goes.step rfl (fun _ h₁_ => ?_); replace hF := FL.at_ hF h₁_; clear h₁_; refine goes_oper_k rfl rfl (by k_ne) (fun K_ hK_ => ?_); go_simp; refine hK_ _ _ ⟨?_, ?_⟩; (focus (refine de_none ?_; intro e he; have hm := mem_listed he; simp [go_sem, *] at hm)); clear hK_ K_; try w_num)
      exact hm _ hF
    | 9, hi, hl =>
      simp [R13ops3, B3l, L3l, C38, C36, C35, C31, body3, Try.f3, Region.binds] at hi
      subst hi
      have hm := ih l0 l1 l2 l3 l4 l5 l6 l7 l8 true l10 l11 l12 t58 t59 t60 t61 t62 t63 t64 t65 t66 (.int .i64 k) t68 t69 t70 (by simpa using hl) g0 g1 g2 g3 g4 g5 g6 g7 g8 (fun _ => rfl) (fun h => ⟨(g10 h).1, (g10 h).2.1, rfl⟩) g11 g12
      refine Goes.mono (n := m0 + l.length * 1 + 1) ?_ (by simp only [List.length_cons]; omega)
      simp only [R13ops3, B3l, L3l, C38, C36, C35, C31, body3, Try.f3, Option.getD_some]
      (refine Goes.step rfl (fun _ h₁_ => ?_); replace hF := FL.at_ hF h₁_; clear h₁_; refine goes_oper_k rfl rfl (by k_ne) (fun K_ hK_ => ?_); go_simp; refine hK_ _ _ ⟨?_, ?_⟩; (focus (refine de_none ?_; intro e he; have hm := mem_listed he; simp [go_sem, *] at hm)); clear hK_ K_; try w_num)
      exact hm _ hF
    | 10, hi, hl =>
      simp [R13ops3, B3l, L3l, C38, C36, C35, C31, body3, Try.f3, Region.binds] at hi
      obtain ⟨rfl, hd⟩ := hi
      have k8 : l8 = true := by cases e : l8 with | true => rfl | false => rw [e] at hd; simp at hd
      have k9 : l9 = true := by cases e : l9 with | true => rfl | false => rw [e] at hd; simp at hd
      have hm := ih l0 l1 l2 l3 l4 l5 l6 l7 l8 l9 true l11 l12 t58 t59 t60 t61 t62 t63 t64 t65 t66 t67 (.pointer (some (a.add k))) t69 t70 (by simpa using hl) g0 g1 g2 g3 g4 g5 g6 g7 g8 g9 (fun _ => ⟨rfl, k8, k9⟩) (fun h => ⟨(g11 h).1, rfl⟩) g12
      obtain rfl := g8 k8
      obtain rfl := g9 k9
      refine Goes.mono (n := m0 + l.length * 1 + 1) ?_ (by simp only [List.length_cons]; omega)
      simp only [R13ops3, B3l, L3l, C38, C36, C35, C31, body3, Try.f3, Option.getD_some]
      (refine Goes.step rfl (fun _ h₁_ => ?_); replace hF := FL.at_ hF h₁_; clear h₁_; refine goes_oper_k rfl rfl (by k_ne) (fun K_ hK_ => ?_); go_simp; refine hK_ _ _ ⟨?_, ?_⟩; (focus (refine de_none ?_; intro e he; have hm := mem_listed he; simp [go_sem, *] at hm)); clear hK_ K_; try w_num)
      exact hm _ hF
    | 11, hi, hl =>
      simp [R13ops3, B3l, L3l, C38, C36, C35, C31, body3, Try.f3, Region.binds] at hi
      obtain ⟨rfl, hd⟩ := hi
      have k10 : l10 = true := by cases e : l10 with | true => rfl | false => rw [e] at hd; simp at hd
      have hm := ih l0 l1 l2 l3 l4 l5 l6 l7 l8 l9 l10 true l12 t58 t59 t60 t61 t62 t63 t64 t65 t66 t67 t68 (.int .i64 (z k)) t70 (by simpa using hl) g0 g1 g2 g3 g4 g5 g6 g7 g8 g9 g10 (fun _ => ⟨rfl, k10⟩) (fun h => ⟨(g12 h).1, (g12 h).2.1, rfl⟩)
      obtain ⟨rfl, k8, k9⟩ := g10 k10
      obtain rfl := g8 k8
      obtain rfl := g9 k9
      refine Goes.mono (n := m0 + l.length * 1 + 1) ?_ (by simp only [List.length_cons]; omega)
      simp only [R13ops3, B3l, L3l, C38, C36, C35, C31, body3, Try.f3, Option.getD_some]
      (refine Goes.step rfl (fun _ h₁_ => ?_); replace hF := FL.at_ hF h₁_; clear h₁_; refine goes_oper_k rfl rfl (by decide) (fun K_ hK_ => ?_); have hf0_ := (hF.src.cell a rfl k hk); go_simp; refine hK_ _ _ ⟨de_of (fun e he => ?_), ?_⟩; (focus (have hm := mem_listed he; simp [go_sem, storedEv, *] at hm; try (subst hm; exact (evL_cell _ _ (hS _ (hbl _ (addBlock _ _))) (by have := hbl (a.add k) (addBlock _ _); omega))))); clear hK_ K_ hf0_)
      exact hm _ hF
    | 12, hi, hl =>
      simp [R13ops3, B3l, L3l, C38, C36, C35, C31, body3, Try.f3, Region.binds] at hi
      obtain ⟨rfl, hd⟩ := hi
      have k7 : l7 = true := by cases e : l7 with | true => rfl | false => rw [e] at hd; simp at hd
      have k11 : l11 = true := by cases e : l11 with | true => rfl | false => rw [e] at hd; simp at hd
      have hm := ih l0 l1 l2 l3 l4 l5 l6 l7 l8 l9 l10 l11 true t58 t59 t60 t61 t62 t63 t64 t65 t66 t67 t68 t69 (.int .i64 (IntKind.wrap .i64 (z k * z k))) (by simpa using hl) g0 g1 g2 g3 g4 g5 g6 g7 g8 g9 g10 g11 (fun _ => ⟨rfl, k7, k11⟩)
      obtain ⟨rfl, k6⟩ := g7 k7
      obtain ⟨rfl, k4, k5⟩ := g6 k6
      obtain rfl := g4 k4
      obtain rfl := g5 k5
      obtain ⟨rfl, k10⟩ := g11 k11
      obtain ⟨rfl, k8, k9⟩ := g10 k10
      obtain rfl := g8 k8
      obtain rfl := g9 k9
      refine Goes.mono (n := m0 + l.length * 1 + 1) ?_ (by simp only [List.length_cons]; omega)
      simp only [R13ops3, B3l, L3l, C38, C36, C35, C31, body3, Try.f3, Option.getD_some]
      (refine Goes.step rfl (fun _ h₁_ => ?_); replace hF := FL.at_ hF h₁_; clear h₁_; refine goes_oper_k rfl rfl (by k_ne) (fun K_ hK_ => ?_); go_simp; refine hK_ _ _ ⟨?_, ?_⟩; (focus (refine de_none ?_; intro e he; have hm := mem_listed he; simp [go_sem, *] at hm)); clear hK_ K_; try w_num)
      exact hm _ hF
    | 13, hi, hl =>
      simp [R13ops3, B3l, L3l, C38, C36, C35, C31, body3, Try.f3, Region.binds] at hi
      have k3 : l3 = true := by cases e : l3 with | true => rfl | false => rw [e] at hi; simp at hi
      have k12 : l12 = true := by cases e : l12 with | true => rfl | false => rw [e] at hi; simp at hi
      obtain ⟨rfl, k2⟩ := g3 k3
      obtain ⟨rfl, k0, k1⟩ := g2 k2
      obtain rfl := g0 k0
      obtain rfl := g1 k1
      obtain ⟨rfl, k7, k11⟩ := g12 k12
      obtain ⟨rfl, k6⟩ := g7 k7
      obtain ⟨rfl, k4, k5⟩ := g6 k6
      obtain rfl := g4 k4
      obtain rfl := g5 k5
      obtain ⟨rfl, k10⟩ := g11 k11
      obtain ⟨rfl, k8, k9⟩ := g10 k10
      obtain rfl := g8 k8
      obtain rfl := g9 k9
      subst k0 k1 k2 k3 k4 k5 k6 k7 k8 k9 k10 k11 k12
      have hnil : l = [] := by
        cases l with
        | nil => rfl
        | cons i l =>
          have := hl.1
          rw [mem_ready] at this
          obtain ⟨h1, o, ho, _⟩ := this
          have hlt : i < 14 := (Array.getElem?_eq_some_iff.1 ho).1
          exfalso
          revert h1
          match i, hlt with
          | 0, _ | 1, _ | 2, _ | 3, _ | 4, _ | 5, _ | 6, _ | 7, _ | 8, _ | 9, _ | 10, _ | 11, _ | 12, _ | 13, _ => simp
      subst hnil
      refine Goes.mono (n := m0 + 1) ?_ (by simp only [List.length_cons]; omega)
      simp only [R13ops3, B3l, L3l, C38, C36, C35, C31, body3, Try.f3, Option.getD_some]
      (refine Goes.step rfl (fun _ h₁_ => ?_); replace hF := FL.at_ hF h₁_; clear h₁_; refine goes_oper_k rfl rfl (by k_ne) (fun K_ hK_ => ?_); go_simp; refine hK_ _ _ ⟨?_, ?_⟩; (focus (refine de_none ?_; intro e he; have hm := mem_listed he; simp [go_sem, *] at hm)); clear hK_ K_; try w_num)
      exact hend _ hF
    | n + 14, hi, hl => simp [R13ops3, B3l, L3l, C38, C36, C35, C31, body3, Try.f3] at hi

set_option maxRecDepth 100000 in
set_option maxHeartbeats 4000000 in
/-- behind the test of one answer -/
theorem mid13 {Post : Value → World → Prop} {a : Addr} {J cap O k m : Nat} {z : Nat → Int} (hJ : J ≤ 8192) (hk : k < J) {v1 v2 v3 v4 v5 v6 v8 v9 v10 v11 v12 v13 v14 v15 v16 v17 v18 v19 v20 v21 v22 v23 v24 v25 v26 v27 v28 v29 v30 v31 v32 v33 v34 v35 v36 v37 v38 v39 v40 v41 v42 v43 v44 v45 v46 v47 v48 v49 v50 v51 v52 v53 v56 v57 v58 v59 v60 v61 v62 v63 v64 v65 v66 v67 v68 v69 v70 v71 v72 : Value} {w : World} (hF : FL W (some a) J O z w)
    (next : ∀ {v1 v2 v3 v4 v5 v6 v8 v9 v10 v11 v12 v13 v14 v15 v16 v17 v18 v19 v20 v21 v22 v23 v24 v25 v26 v27 v28 v29 v30 v31 v32 v33 v34 v35 v36 v37 v38 v39 v40 v41 v42 v43 v44 v45 v46 v47 v48 v49 v50 v51 v52 v53 v56 v57 v58 v59 v60 v61 v62 v63 v64 v65 v66 v67 v68 v69 v70 v71 v72 : Value} {w : World}, FL W (some a) J O z w → Goes Try.prog true AtRel (DE (EvL Shun B)) (AtEnd Try.prog Shun B Post) m (G ((base 3).at ⟨((.slice (some a) J cap) :: v1 :: v2 :: v3 :: v4 :: v5 :: v6 :: (.slice (some ⟨O, 0, none⟩) J J) :: v8 :: v9 :: v10 :: v11 :: v12 :: v13 :: v14 :: v15 :: v16 :: v17 :: v18 :: v19 :: v20 :: v21 :: v22 :: v23 :: v24 :: v25 :: v26 :: v27 :: v28 :: v29 :: v30 :: v31 :: v32 :: v33 :: v34 :: v35 :: v36 :: v37 :: v38 :: v39 :: v40 :: v41 :: v42 :: v43 :: v44 :: v45 :: v46 :: v47 :: v48 :: v49 :: v50 :: v51 :: v52 :: v53 :: (.int .i64 J) :: (.int .i64 ((k : Int) + 1)) :: v56 :: v57 :: v58 :: v59 :: v60 :: v61 :: v62 :: v63 :: v64 :: v65 :: v66 :: v67 :: v68 :: v69 :: v70 :: v71 :: v72 :: []).toArray, []⟩ [.code L3l, .inLoop L3l, .inBlock 0, .code C316]) []) w) :
    Goes Try.prog true AtRel (DE (EvL Shun B)) (AtEnd Try.prog Shun B Post) (m + 20) (G ((base 3).at ⟨((.slice (some a) J cap) :: v1 :: v2 :: v3 :: v4 :: v5 :: v6 :: (.slice (some ⟨O, 0, none⟩) J J) :: v8 :: v9 :: v10 :: v11 :: v12 :: v13 :: v14 :: v15 :: v16 :: v17 :: v18 :: v19 :: v20 :: v21 :: v22 :: v23 :: v24 :: v25 :: v26 :: v27 :: v28 :: v29 :: v30 :: v31 :: v32 :: v33 :: v34 :: v35 :: v36 :: v37 :: v38 :: v39 :: v40 :: v41 :: v42 :: v43 :: v44 :: v45 :: v46 :: v47 :: v48 :: v49 :: v50 :: v51 :: v52 :: v53 :: (.int .i64 J) :: (.int .i64 k) :: v56 :: v57 :: v58 :: v59 :: v60 :: v61 :: v62 :: v63 :: v64 :: v65 :: v66 :: v67 :: v68 :: v69 :: v70 :: (.bool false) :: v72 :: []).toArray, []⟩ (.inRegion R13ops3 [] :: [.code K13, .inBlock 1, .code R15c3, .inLoop L3l, .inBlock 0, .code C316])) []) w := by
  have hk1 : ((k : Int) + 1) < 9223372036854775808 := by omega
  (refine Goes.step rfl (fun _ h₁_ => ?_); replace hF := FL.at_ hF h₁_; clear h₁_; rw [stepG_region_end]; simp only [goes_go]; refine ⟨by (refine de_none ?_; intro e he; simp at he), ?_⟩)
  simp only [K13, B3l, R15c3, L3l, C38, C36, C35, C31, body3, Try.f3, Option.getD_some]
  (refine Goes.step rfl (fun _ h₁_ => ?_); replace hF := FL.at_ hF h₁_; clear h₁_; rw [stepG_cond (t := false) rfl]; simp only [goes_go, if_true, if_false, Bool.false_eq_true, ↓reduceIte]; refine ⟨by (refine de_none ?_; intro e he; simp at he), ?_⟩)
  (refine Goes.step rfl (fun _ h₁_ => ?_); replace hF := FL.at_ hF h₁_; clear h₁_; rw [stepG_skip]; simp only [goes_go]; refine ⟨by (refine de_none ?_; intro e he; simp at he), ?_⟩)
  (refine Goes.step rfl (fun _ h₁_ => ?_); replace hF := FL.at_ hF h₁_; clear h₁_; rw [stepG_inBlock]; simp only [goes_go]; refine ⟨by (refine de_none ?_; intro e he; simp at he), ?_⟩)
  (refine Goes.step rfl (fun _ h₁_ => ?_); replace hF := FL.at_ hF h₁_; clear h₁_; rw [stepG_region]; simp only [goes_go, List.size_toArray, List.length_cons, List.length_nil, Nat.reduceAdd, Nat.zero_add, List.range, List.range.loop]; refine ⟨by (refine de_none ?_; intro e he; simp at he), ?_⟩)
  (refine Goes.step rfl (fun _ h₁_ => ?_); replace hF := FL.at_ hF h₁_; clear h₁_; refine goes_oper_k rfl rfl (by k_ne) (fun K_ hK_ => ?_); go_simp; refine hK_ _ _ ⟨?_, ?_⟩; (focus (refine de_none ?_; intro e he; have hm := mem_listed he; simp [go_sem, *] at hm)); clear hK_ K_; try w_num)
  (refine Goes.step rfl (fun _ h₁_ => ?_); replace hF := FL.at_ hF h₁_; clear h₁_; refine goes_oper_k rfl rfl (by k_ne) (fun K_ hK_ => ?_); go_simp; refine hK_ _ _ ⟨?_, ?_⟩; (focus (refine de_none ?_; intro e he; have hm := mem_listed he; simp [go_sem, *] at hm)); clear hK_ K_; try w_num)
  (refine Goes.step rfl (fun _ h₁_ => ?_); replace hF := FL.at_ hF h₁_; clear h₁_; rw [stepG_region_end]; simp only [goes_go]; refine ⟨by (refine de_none ?_; intro e he; simp at he), ?_⟩)
  (refine Goes.step rfl (fun _ h₁_ => ?_); replace hF := FL.at_ hF h₁_; clear h₁_; rw [stepG_inLoop]; simp only [goes_go]; refine ⟨by (refine de_none ?_; intro e he; simp at he), ?_⟩)
  have hn := @next
  simp only [L3l, C38, C36, C35, C31, body3, Try.f3, Option.getD_some] at hn
  refine Goes.mono (n := m) ?_ (by omega)
  have hw : IntKind.i64.wrap ((k : Int) + 1) = (k : Int) + 1 := by rw [IntKind.wrap_i64]; omega
  simp only [hw]
  exact hn hF

set_option maxRecDepth 100000 in
set_option maxHeartbeats 4000000 in
/-- all answers are what they should be -/
theorem loop3 {Post : Value → World → Prop} (hpost : ∀ w, Below W.heap.size W w → Post (.bool true) w) {ja : Option Addr} {J cap O : Nat} {z : Nat → Int} (hJ : J ≤ 8192) (hS : ∀ a : Addr, a.block < W.heap.size → ¬ Shun (.cell a)) (hO : ∀ a : Addr, a.block = O → ¬ Shun (.cell a)) (hN : W.heap.size ≤ B) (hOB : O < B) :
    ∀ (d k : Nat), k + d = J → ∀ {v1 v2 v3 v4 v5 v6 v8 v9 v10 v11 v12 v13 v14 v15 v16 v17 v18 v19 v20 v21 v22 v23 v24 v25 v26 v27 v28 v29 v30 v31 v32 v33 v34 v35 v36 v37 v38 v39 v40 v41 v42 v43 v44 v45 v46 v47 v48 v49 v50 v51 v52 v53 v56 v57 v58 v59 v60 v61 v62 v63 v64 v65 v66 v67 v68 v69 v70 v71 v72 : Value} {w : World}, FL W ja J O z w →
      Goes Try.prog true AtRel (DE (EvL Shun B)) (AtEnd Try.prog Shun B Post) (20 + d * 80) (G ((base 3).at ⟨((.slice ja J cap) :: v1 :: v2 :: v3 :: v4 :: v5 :: v6 :: (.slice (some ⟨O, 0, none⟩) J J) :: v8 :: v9 :: v10 :: v11 :: v12 :: v13 :: v14 :: v15 :: v16 :: v17 :: v18 :: v19 :: v20 :: v21 :: v22 :: v23 :: v24 :: v25 :: v26 :: v27 :: v28 :: v29 :: v30 :: v31 :: v32 :: v33 :: v34 :: v35 :: v36 :: v37 :: v38 :: v39 :: v40 :: v41 :: v42 :: v43 :: v44 :: v45 :: v46 :: v47 :: v48 :: v49 :: v50 :: v51 :: v52 :: v53 :: (.int .i64 J) :: (.int .i64 k) :: v56 :: v57 :: v58 :: v59 :: v60 :: v61 :: v62 :: v63 :: v64 :: v65 :: v66 :: v67 :: v68 :: v69 :: v70 :: v71 :: v72 :: []).toArray, []⟩ [.code L3l, .inLoop L3l, .inBlock 0, .code C316]) []) w := by
  intro d
  induction d with
  | zero =>
    intro k hk v1 v2 v3 v4 v5 v6 v8 v9 v10 v11 v12 v13 v14 v15 v16 v17 v18 v19 v20 v21 v22 v23 v24 v25 v26 v27 v28 v29 v30 v31 v32 v33 v34 v35 v36 v37 v38 v39 v40 v41 v42 v43 v44 v45 v46 v47 v48 v49 v50 v51 v52 v53 v56 v57 v58 v59 v60 v61 v62 v63 v64 v65 v66 v67 v68 v69 v70 v71 v72 w hF
    have hd : decide ((k : Int) < (J : Int)) = false := decide_eq_false (by omega)
    have hd2 : decide (k < J) = false := decide_eq_false (by omega)
    have hd3 : ¬ k < J := by omega
    simp only [L3l, C38, C36, C35, C31, body3, Try.f3, Option.getD_some]
    (refine Goes.step rfl (fun _ h₁_ => ?_); replace hF := FL.at_ hF h₁_; clear h₁_; rw [stepG_seq]; simp only [goes_go]; refine ⟨by (refine de_none ?_; intro e he; simp at he), ?_⟩)
    (refine Goes.step rfl (fun _ h₁_ => ?_); replace hF := FL.at_ hF h₁_; clear h₁_; rw [stepG_region]; simp only [goes_go, List.size_toArray, List.length_cons, List.length_nil, Nat.reduceAdd, Nat.zero_add, List.range, List.range.loop]; refine ⟨by (refine de_none ?_; intro e he; simp at he), ?_⟩)
    (refine Goes.step rfl (fun _ h₁_ => ?_); replace hF := FL.at_ hF h₁_; clear h₁_; refine goes_oper_k rfl rfl (by k_ne) (fun K_ hK_ => ?_); go_simp; refine hK_ _ _ ⟨?_, ?_⟩; (focus (refine de_none ?_; intro e he; have hm := mem_listed he; simp [go_sem, *] at hm)); clear hK_ K_; try w_num)
    (refine Goes.step rfl (fun _ h₁_ => ?_); replace hF := FL.at_ hF h₁_; clear h₁_; rw [stepG_region_end]; simp only [goes_go]; refine ⟨by (refine de_none ?_; intro e he; simp at he), ?_⟩)
    (refine Goes.step rfl (fun _ h₁_ => ?_); replace hF := FL.at_ hF h₁_; clear h₁_; rw [stepG_seq]; simp only [goes_go]; refine ⟨by (refine de_none ?_; intro e he; simp at he), ?_⟩)
    (refine Goes.step rfl (fun _ h₁_ => ?_); replace hF := FL.at_ hF h₁_; clear h₁_; rw [stepG_cond (t := false) rfl]; simp only [goes_go, if_true, if_false, Bool.false_eq_true, ↓reduceIte]; refine ⟨by (refine de_none ?_; intro e he; simp at he), ?_⟩)
    (refine Goes.step rfl (fun _ h₁_ => ?_); replace hF := FL.at_ hF h₁_; clear h₁_; refine goes_exit rfl ?_; refine ⟨by (refine de_none ?_; intro e he; simp at he), ?_⟩)
    simp only [C316, C38, C36, C35, C31, body3, Try.f3, Option.getD_some]
    (refine Goes.step rfl (fun _ h₁_ => ?_); replace hF := FL.at_ hF h₁_; clear h₁_; rw [stepG_seq]; simp only [goes_go]; refine ⟨by (refine de_none ?_; intro e he; simp at he), ?_⟩)
    (refine Goes.step rfl (fun _ h₁_ => ?_); replace hF := FL.at_ hF h₁_; clear h₁_; rw [stepG_region]; simp only [goes_go, List.size_toArray, List.length_cons, List.length_nil, Nat.reduceAdd, Nat.zero_add, List.range, List.range.loop]; refine ⟨by (refine de_none ?_; intro e he; simp at he), ?_⟩)
    (refine Goes.step rfl (fun _ h₁_ => ?_); replace hF := FL.at_ hF h₁_; clear h₁_; refine goes_oper_k rfl rfl (by k_ne) (fun K_ hK_ => ?_); go_simp; refine hK_ _ _ ⟨?_, ?_⟩; (focus (refine de_none ?_; intro e he; have hm := mem_listed he; simp [go_sem, *] at hm)); clear hK_ K_; try w_num)
    (refine Goes.step rfl (fun _ h₁_ => ?_); replace hF := FL.at_ hF h₁_; clear h₁_; rw [stepG_region_end]; simp only [goes_go]; refine ⟨by (refine de_none ?_; intro e he; simp at he), ?_⟩)
    (refine Goes.step rfl (fun _ h₁_ => ?_); replace hF := FL.at_ hF h₁_; clear h₁_; rw [stepG_ret']; simp only [goes_go]; refine ⟨by (refine de_none ?_; intro e he; simp at he), ?_⟩)
    refine Goes.mono (Goes.stop (n := 0) (fun w₂ r₂ => ⟨rfl, .bool true, #[], ?_, by simp, hpost _ (Below.at_ hF.below r₂)⟩)) (by omega)
    simp [G, stepG, unwind, doReturn, results, Frame.at, base, Try.func3, Try.f3, seen, GStep.after]
  | succ d ih =>
    intro k hk v1 v2 v3 v4 v5 v6 v8 v9 v10 v11 v12 v13 v14 v15 v16 v17 v18 v19 v20 v21 v22 v23 v24 v25 v26 v27 v28 v29 v30 v31 v32 v33 v34 v35 v36 v37 v38 v39 v40 v41 v42 v43 v44 v45 v46 v47 v48 v49 v50 v51 v52 v53 v56 v57 v58 v59 v60 v61 v62 v63 v64 v65 v66 v67 v68 v69 v70 v71 v72 w hF
    have hkJ : k < J := by omega
    have hd : decide ((k : Int) < (J : Int)) = true := decide_eq_true (by omega)
    obtain ⟨a, rfl⟩ : ∃ a, ja = some a := by
      cases ja with
      | none => exact absurd (hF.src.nil rfl) (by omega)
      | some a => exact ⟨a, rfl⟩
    have hbl : ∀ b : Addr, b.block = a.block → b.block < W.heap.size := fun b e => by rw [e]; exact hF.src.blk a rfl (by omega)
    refine Goes.mono (n := 20 + d * 80 + 20 + 14 + 24) ?_ (by omega)
    simp only [L3l, C38, C36, C35, C31, body3, Try.f3, Option.getD_some]
    (refine Goes.step rfl (fun _ h₁_ => ?_); replace hF := FL.at_ hF h₁_; clear h₁_; rw [stepG_seq]; simp only [goes_go]; refine ⟨by (refine de_none ?_; intro e he; simp at he), ?_⟩)
    (refine Goes.step rfl (fun _ h₁_ => ?_); replace hF := FL.at_ hF h₁_; clear h₁_; rw [stepG_region]; simp only [goes_go, List.size_toArray, List.length_cons, List.length_nil, Nat.reduceAdd, Nat.zero_add, List.range, List.range.loop]; refine ⟨by (refine de_none ?_; intro e he; simp at he), ?_⟩)
    (refine Goes.step rfl (fun _ h₁_ => ?_); replace hF := FL.at_ hF h₁_; clear h₁_; refine goes_oper_k rfl rfl (by k_ne) (fun K_ hK_ => ?_); go_simp; refine hK_ _ _ ⟨?_, ?_⟩; (focus (refine de_none ?_; intro e he; have hm := mem_listed he; simp [go_sem, *] at hm)); clear hK_ K_; try w_num)
    (refine Goes.step rfl (fun _ h₁_ => ?_); replace hF := FL.at_ hF h₁_; clear h₁_; rw [stepG_region_end]; simp only [goes_go]; refine ⟨by (refine de_none ?_; intro e he; simp at he), ?_⟩)
    (refine Goes.step rfl (fun _ h₁_ => ?_); replace hF := FL.at_ hF h₁_; clear h₁_; rw [stepG_seq]; simp only [goes_go]; refine ⟨by (refine de_none ?_; intro e he; simp at he), ?_⟩)
    (refine Goes.step rfl (fun _ h₁_ => ?_); replace hF := FL.at_ hF h₁_; clear h₁_; rw [stepG_cond (t := true) rfl]; simp only [goes_go, if_true, if_false, Bool.false_eq_true, ↓reduceIte]; refine ⟨by (refine de_none ?_; intro e he; simp at he), ?_⟩)
    (refine Goes.step rfl (fun _ h₁_ => ?_); replace hF := FL.at_ hF h₁_; clear h₁_; rw [stepG_skip]; simp only [goes_go]; refine ⟨by (refine de_none ?_; intro e he; simp at he), ?_⟩)
    (refine Goes.step rfl (fun _ h₁_ => ?_); replace hF := FL.at_ hF h₁_; clear h₁_; rw [stepG_seq]; simp only [goes_go]; refine ⟨by (refine de_none ?_; intro e he; simp at he), ?_⟩)
    (refine Goes.step rfl (fun _ h₁_ => ?_); replace hF := FL.at_ hF h₁_; clear h₁_; rw [stepG_block]; simp only [goes_go]; refine ⟨by (refine de_none ?_; intro e he; simp at he), ?_⟩)
    (refine Goes.step rfl (fun _ h₁_ => ?_); replace hF := FL.at_ hF h₁_; clear h₁_; rw [stepG_seq]; simp only [goes_go]; refine ⟨by (refine de_none ?_; intro e he; simp at he), ?_⟩)
    (refine Goes.step rfl (fun _ h₁_ => ?_); replace hF := FL.at_ hF h₁_; clear h₁_; rw [stepG_region]; simp only [goes_go, List.size_toArray, List.length_cons, List.length_nil, Nat.reduceAdd, Nat.zero_add, List.range, List.range.loop]; refine ⟨by (refine de_none ?_; intro e he; simp at he), ?_⟩)
    (refine Goes.step rfl (fun _ h₁_ => ?_); replace hF := FL.at_ hF h₁_; clear h₁_; refine goes_oper_k rfl rfl (by k_ne) (fun K_ hK_ => ?_); go_simp; refine hK_ _ _ ⟨?_, ?_⟩; (focus (refine de_none ?_; intro e he; have hm := mem_listed he; simp [go_sem, *] at hm)); clear hK_ K_; try w_num)
    (refine Goes.step rfl (fun _ h₁_ => ?_); replace hF := FL.at_ hF h₁_; clear h₁_; refine goes_oper_k rfl rfl (by k_ne) (fun K_ hK_ => ?_); go_simp; refine hK_ _ _ ⟨?_, ?_⟩; (focus (refine de_none ?_; intro e he; have hm := mem_listed he; simp [go_sem, *] at hm)); clear hK_ K_; try w_num)
    (refine Goes.step rfl (fun _ h₁_ => ?_); replace hF := FL.at_ hF h₁_; clear h₁_; rw [stepG_region_end]; simp only [goes_go]; refine ⟨by (refine de_none ?_; intro e he; simp at he), ?_⟩)
    (refine Goes.step rfl (fun _ h₁_ => ?_); replace hF := FL.at_ hF h₁_; clear h₁_; rw [stepG_seq]; simp only [goes_go]; refine ⟨by (refine de_none ?_; intro e he; simp at he), ?_⟩)
    (refine Goes.step rfl (fun _ h₁_ => ?_); replace hF := FL.at_ hF h₁_; clear h₁_)
    rename_i w₁
    rw [stepG_region_draw]
    refine ⟨fun e he => by simp at he, ?_⟩
    have hok := okl_schedule mixed R13ops3 (w₁.tape w₁.drawn (.order ((base 3).fn) 13))
    have hlen := okl_len0 hok
    have hsz : R13ops3.size = 14 := rfl
    rw [hsz] at hlen
    have hi : _ := fun {v1 v2 v3 v4 v5 v6 v8 v9 v10 v11 v12 v13 v14 v15 v16 v17 v18 v19 v20 v21 v22 v23 v24 v25 v26 v27 v28 v29 v30 v31 v32 v33 v34 v35 v36 v37 v38 v39 v40 v41 v42 v43 v44 v45 v46 v47 v48 v49 v50 v51 v52 v53 v56 v57 v58 v59 v60 v61 v62 v63 v64 v65 v66 v67 v68 v69 v70 v71 v72 : Value} {w : World} => @ih (k + 1) (by omega) v1 v2 v3 v4 v5 v6 v8 v9 v10 v11 v12 v13 v14 v15 v16 v17 v18 v19 v20 v21 v22 v23 v24 v25 v26 v27 v28 v29 v30 v31 v32 v33 v34 v35 v36 v37 v38 v39 v40 v41 v42 v43 v44 v45 v46 v47 v48 v49 v50 v51 v52 v53 v56 v57 v58 v59 v60 v61 v62 v63 v64 v65 v66 v67 v68 v69 v70 v71 v72 w
    have ec : (((k + 1 : Nat)) : Int) = (k : Int) + 1 := by omega
    simp only [ec] at hi
    refine Goes.mono (drawn13 (tE := v71) (m0 := 20 + d * 80 + 20) hkJ hS hO hN hOB hbl (fun w hF => mid13 (v71 := undef) hJ hkJ hF hi) _ false false false false false false false false false false false false false _ _ _ _ _ _ _ _ _ _ _ _ _ hok (by simp) (by simp) (by simp) (by simp) (by simp) (by simp) (by simp) (by simp) (by simp) (by simp) (by simp) (by simp) (by simp) _ (hF.at_ ⟨_, rfl⟩)) (by omega)

set_option maxRecDepth 100000 in
set_option maxHeartbeats 4000000 in
/-- Run has answered -/
theorem good3 {Post : Value → World → Prop} (hpost : ∀ w, Below W.heap.size W w → Post (.bool true) w) {n : Int} {ja ta : Option Addr} {J cap tl tc : Nat} {j1 t1 v12 v14 v16 v20 : Value} {O : Nat} {z : Nat → Int} (h1 : 1 ≤ n) (h2 : n ≤ 64) (hJ : J ≤ 8192) (hS : ∀ a : Addr, a.block < W.heap.size → ¬ Shun (.cell a)) (hO : ∀ a : Addr, a.block = O → ¬ Shun (.cell a)) (hN : W.heap.size ≤ B) (hOB : O < B) {w : World} (hF : FL W ja J O z w) :
    Goes Try.prog true AtRel (DE (EvL Shun B)) (AtEnd Try.prog Shun B Post) (20 + J * 80 + 60) (G ((base 3).at ((a35 (.slice ja J cap) (.int .i64 n) (.slice ta tl tc) j1 t1 v12 v14 v16 v20 J).put ((R5ops3[7]?).bind (·.dst)) (.tuple #[.slice (some ⟨O, 0, none⟩) J J, .int .i64 0])) (.inRegion R5ops3 [8, 9, 10, 11, 12] :: [.code C35])) []) w := by
  have hn3 : decide (n < 1) = false := decide_eq_false (by omega)
  have hn4 : decide (64 < n) = false := decide_eq_false (by omega)
  have hn5 : decide ((8192 : Int) < (J : Int)) = false := decide_eq_false (by omega)
  have e : (R5ops3[7]?).bind (·.dst) = some 23 := rfl
  rw [e]
  simp only [a35, R5ops3, C35, C31, body3, Try.f3, Option.getD_some, List.replicate, Act.put, List.setIfInBounds_toArray, List.set_cons_succ, List.set_cons_zero]
  (refine Goes.step rfl (fun _ h₁_ => ?_); replace hF := FL.at_ hF h₁_; clear h₁_; refine goes_oper_k rfl rfl (by k_ne) (fun K_ hK_ => ?_); go_simp; refine hK_ _ _ ⟨?_, ?_⟩; (focus (refine de_none ?_; intro e he; have hm := mem_listed he; simp [go_sem, *] at hm)); clear hK_ K_; try w_num)
  (refine Goes.step rfl (fun _ h₁_ => ?_); replace hF := FL.at_ hF h₁_; clear h₁_; refine goes_oper_k rfl rfl (by k_ne) (fun K_ hK_ => ?_); go_simp; refine hK_ _ _ ⟨?_, ?_⟩; (focus (refine de_none ?_; intro e he; have hm := mem_listed he; simp [go_sem, *] at hm)); clear hK_ K_; try w_num)
  (refine Goes.step rfl (fun _ h₁_ => ?_); replace hF := FL.at_ hF h₁_; clear h₁_; refine goes_oper_k rfl rfl (by k_ne) (fun K_ hK_ => ?_); go_simp; refine hK_ _ _ ⟨?_, ?_⟩; (focus (refine de_none ?_; intro e he; have hm := mem_listed he; simp [go_sem, *] at hm)); clear hK_ K_; try w_num)
  (refine Goes.step rfl (fun _ h₁_ => ?_); replace hF := FL.at_ hF h₁_; clear h₁_; refine goes_oper_k rfl rfl (by k_ne) (fun K_ hK_ => ?_); go_simp; refine hK_ _ _ ⟨?_, ?_⟩; (focus (refine de_none ?_; intro e he; have hm := mem_listed he; simp [go_sem, *] at hm)); clear hK_ K_; try w_num)
  (refine Goes.step rfl (fun _ h₁_ => ?_); replace hF := FL.at_ hF h₁_; clear h₁_; refine goes_oper_k rfl rfl (by k_ne) (fun K_ hK_ => ?_); go_simp; refine hK_ _ _ ⟨?_, ?_⟩; (focus (refine de_none ?_; intro e he; have hm := mem_listed he; simp [go_sem, *] at hm)); clear hK_ K_; try w_num)
  (refine Goes.step rfl (fun _ h₁_ => ?_); replace hF := FL.at_ hF h₁_; clear h₁_; rw [stepG_region_end]; simp only [goes_go]; refine ⟨by (refine de_none ?_; intro e he; simp at he), ?_⟩)
  (refine Goes.step rfl (fun _ h₁_ => ?_); replace hF := FL.at_ hF h₁_; clear h₁_; rw [stepG_seq]; simp only [goes_go]; refine ⟨by (refine de_none ?_; intro e he; simp at he), ?_⟩)
  (refine Goes.step rfl (fun _ h₁_ => ?_); replace hF := FL.at_ hF h₁_; clear h₁_; rw [stepG_seq]; simp only [goes_go]; refine ⟨by (refine de_none ?_; intro e he; simp at he), ?_⟩)
  (refine Goes.step rfl (fun _ h₁_ => ?_); replace hF := FL.at_ hF h₁_; clear h₁_; rw [stepG_region]; simp only [goes_go, List.size_toArray, List.length_cons, List.length_nil, Nat.reduceAdd, Nat.zero_add, List.range, List.range.loop]; refine ⟨by (refine de_none ?_; intro e he; simp at he), ?_⟩)
  (refine Goes.step rfl (fun _ h₁_ => ?_); replace hF := FL.at_ hF h₁_; clear h₁_; refine goes_oper_k rfl rfl (by k_ne) (fun K_ hK_ => ?_); go_simp; refine hK_ _ _ ⟨?_, ?_⟩; (focus (refine de_none ?_; intro e he; have hm := mem_listed he; simp [go_sem, *] at hm)); clear hK_ K_; try w_num)
  (refine Goes.step rfl (fun _ h₁_ => ?_); replace hF := FL.at_ hF h₁_; clear h₁_; refine goes_oper_k rfl rfl (by k_ne) (fun K_ hK_ => ?_); go_simp; refine hK_ _ _ ⟨?_, ?_⟩; (focus (refine de_none ?_; intro e he; have hm := mem_listed he; simp [go_sem, *] at hm)); clear hK_ K_; try w_num)
  (refine Goes.step rfl (fun _ h₁_ => ?_); replace hF := FL.at_ hF h₁_; clear h₁_; refine goes_oper_k rfl rfl (by k_ne) (fun K_ hK_ => ?_); go_simp; refine hK_ _ _ ⟨?_, ?_⟩; (focus (refine de_none ?_; intro e he; have hm := mem_listed he; simp [go_sem, *] at hm)); clear hK_ K_; try w_num)
  (refine Goes.step rfl (fun _ h₁_ => ?_); replace hF := FL.at_ hF h₁_; clear h₁_; refine goes_oper_k rfl rfl (by k_ne) (fun K_ hK_ => ?_); go_simp; refine hK_ _ _ ⟨?_, ?_⟩; (focus (refine de_none ?_; intro e he; have hm := mem_listed he; simp [go_sem, *] at hm)); clear hK_ K_; try w_num)
  (refine Goes.step rfl (fun _ h₁_ => ?_); replace hF := FL.at_ hF h₁_; clear h₁_; refine goes_oper_k rfl rfl (by k_ne) (fun K_ hK_ => ?_); go_simp; refine hK_ _ _ ⟨?_, ?_⟩; (focus (refine de_none ?_; intro e he; have hm := mem_listed he; simp [go_sem, *] at hm)); clear hK_ K_; try w_num)
  (refine Goes.step rfl (fun _ h₁_ => ?_); replace hF := FL.at_ hF h₁_; clear h₁_; refine goes_oper_k rfl rfl (by k_ne) (fun K_ hK_ => ?_); go_simp; refine hK_ _ _ ⟨?_, ?_⟩; (focus (refine de_none ?_; intro e he; have hm := mem_listed he; simp [go_sem, *] at hm)); clear hK_ K_; try w_num)
  (refine Goes.step rfl (fun _ h₁_ => ?_); replace hF := FL.at_ hF h₁_; clear h₁_; refine goes_oper_k rfl rfl (by k_ne) (fun K_ hK_ => ?_); go_simp; refine hK_ _ _ ⟨?_, ?_⟩; (focus (refine de_none ?_; intro e he; have hm := mem_listed he; simp [go_sem, *] at hm)); clear hK_ K_; try w_num)
  (refine Goes.step rfl (fun _ h₁_ => ?_); replace hF := FL.at_ hF h₁_; clear h₁_; refine goes_oper_k rfl rfl (by k_ne) (fun K_ hK_ => ?_); go_simp; refine hK_ _ _ ⟨?_, ?_⟩; (focus (refine de_none ?_; intro e he; have hm := mem_listed he; simp [go_sem, *] at hm)); clear hK_ K_; try w_num)
  (refine Goes.step rfl (fun _ h₁_ => ?_); replace hF := FL.at_ hF h₁_; clear h₁_; refine goes_oper_k rfl rfl (by k_ne) (fun K_ hK_ => ?_); go_simp; refine hK_ _ _ ⟨?_, ?_⟩; (focus (refine de_none ?_; intro e he; have hm := mem_listed he; simp [go_sem, *] at hm)); clear hK_ K_; try w_num)
  (refine Goes.step rfl (fun _ h₁_ => ?_); replace hF := FL.at_ hF h₁_; clear h₁_; refine goes_oper_k rfl rfl (by k_ne) (fun K_ hK_ => ?_); go_simp; refine hK_ _ _ ⟨?_, ?_⟩; (focus (refine de_none ?_; intro e he; have hm := mem_listed he; simp [go_sem, *] at hm)); clear hK_ K_; try w_num)
  (refine Goes.step rfl (fun _ h₁_ => ?_); replace hF := FL.at_ hF h₁_; clear h₁_; refine goes_oper_k rfl rfl (by k_ne) (fun K_ hK_ => ?_); go_simp; refine hK_ _ _ ⟨?_, ?_⟩; (focus (refine de_none ?_; intro e he; have hm := mem_listed he; simp [go_sem, *] at hm)); clear hK_ K_; try w_num)
  (refine Goes.step rfl (fun _ h₁_ => ?_); replace hF := FL.at_ hF h₁_; clear h₁_; rw [stepG_region_end]; simp only [goes_go]; refine ⟨by (refine de_none ?_; intro e he; simp at he), ?_⟩)
  (refine Goes.step rfl (fun _ h₁_ => ?_); replace hF := FL.at_ hF h₁_; clear h₁_; rw [stepG_cond (t := false) rfl]; simp only [goes_go, if_true, if_false, Bool.false_eq_true, ↓reduceIte]; refine ⟨by (refine de_none ?_; intro e he; simp at he), ?_⟩)
  (refine Goes.step rfl (fun _ h₁_ => ?_); replace hF := FL.at_ hF h₁_; clear h₁_; rw [stepG_skip]; simp only [goes_go]; refine ⟨by (refine de_none ?_; intro e he; simp at he), ?_⟩)
  (refine Goes.step rfl (fun _ h₁_ => ?_); replace hF := FL.at_ hF h₁_; clear h₁_; rw [stepG_seq]; simp only [goes_go]; refine ⟨by (refine de_none ?_; intro e he; simp at he), ?_⟩)
  (refine Goes.step rfl (fun _ h₁_ => ?_); replace hF := FL.at_ hF h₁_; clear h₁_; rw [stepG_seq]; simp only [goes_go]; refine ⟨by (refine de_none ?_; intro e he; simp at he), ?_⟩)
  (refine Goes.step rfl (fun _ h₁_ => ?_); replace hF := FL.at_ hF h₁_; clear h₁_; rw [stepG_region]; simp only [goes_go, List.size_toArray, List.length_cons, List.length_nil, Nat.reduceAdd, Nat.zero_add, List.range, List.range.loop]; refine ⟨by (refine de_none ?_; intro e he; simp at he), ?_⟩)
  (refine Goes.step rfl (fun _ h₁_ => ?_); replace hF := FL.at_ hF h₁_; clear h₁_; refine goes_oper_k rfl rfl (by k_ne) (fun K_ hK_ => ?_); go_simp; refine hK_ _ _ ⟨?_, ?_⟩; (focus (refine de_none ?_; intro e he; have hm := mem_listed he; simp [go_sem, *] at hm)); clear hK_ K_; try w_num)
  (refine Goes.step rfl (fun _ h₁_ => ?_); replace hF := FL.at_ hF h₁_; clear h₁_; refine goes_oper_k rfl rfl (by k_ne) (fun K_ hK_ => ?_); go_simp; refine hK_ _ _ ⟨?_, ?_⟩; (focus (refine de_none ?_; intro e he; have hm := mem_listed he; simp [go_sem, *] at hm)); clear hK_ K_; try w_num)
  (refine Goes.step rfl (fun _ h₁_ => ?_); replace hF := FL.at_ hF h₁_; clear h₁_; refine goes_oper_k rfl rfl (by k_ne) (fun K_ hK_ => ?_); go_simp; refine hK_ _ _ ⟨?_, ?_⟩; (focus (refine de_none ?_; intro e he; have hm := mem_listed he; simp [go_sem, *] at hm)); clear hK_ K_; try w_num)
  (refine Goes.step rfl (fun _ h₁_ => ?_); replace hF := FL.at_ hF h₁_; clear h₁_; refine goes_oper_k rfl rfl (by k_ne) (fun K_ hK_ => ?_); go_simp; refine hK_ _ _ ⟨?_, ?_⟩; (focus (refine de_none ?_; intro e he; have hm := mem_listed he; simp [go_sem, *] at hm)); clear hK_ K_; try w_num)
  (refine Goes.step rfl (fun _ h₁_ => ?_); replace hF := FL.at_ hF h₁_; clear h₁_; refine goes_oper_k rfl rfl (by k_ne) (fun K_ hK_ => ?_); go_simp; refine hK_ _ _ ⟨?_, ?_⟩; (focus (refine de_none ?_; intro e he; have hm := mem_listed he; simp [go_sem, *] at hm)); clear hK_ K_; try w_num)
  (refine Goes.step rfl (fun _ h₁_ => ?_); replace hF := FL.at_ hF h₁_; clear h₁_; refine goes_oper_k rfl rfl (by k_ne) (fun K_ hK_ => ?_); go_simp; refine hK_ _ _ ⟨?_, ?_⟩; (focus (refine de_none ?_; intro e he; have hm := mem_listed he; simp [go_sem, *] at hm)); clear hK_ K_; try w_num)
  (refine Goes.step rfl (fun _ h₁_ => ?_); replace hF := FL.at_ hF h₁_; clear h₁_; refine goes_oper_k rfl rfl (by k_ne) (fun K_ hK_ => ?_); go_simp; refine hK_ _ _ ⟨?_, ?_⟩; (focus (refine de_none ?_; intro e he; have hm := mem_listed he; simp [go_sem, *] at hm)); clear hK_ K_; try w_num)
  (refine Goes.step rfl (fun _ h₁_ => ?_); replace hF := FL.at_ hF h₁_; clear h₁_; refine goes_oper_k rfl rfl (by k_ne) (fun K_ hK_ => ?_); go_simp; refine hK_ _ _ ⟨?_, ?_⟩; (focus (refine de_none ?_; intro e he; have hm := mem_listed he; simp [go_sem, *] at hm)); clear hK_ K_; try w_num)
  (refine Goes.step rfl (fun _ h₁_ => ?_); replace hF := FL.at_ hF h₁_; clear h₁_; refine goes_oper_k rfl rfl (by k_ne) (fun K_ hK_ => ?_); go_simp; refine hK_ _ _ ⟨?_, ?_⟩; (focus (refine de_none ?_; intro e he; have hm := mem_listed he; simp [go_sem, *] at hm)); clear hK_ K_; try w_num)
  (refine Goes.step rfl (fun _ h₁_ => ?_); replace hF := FL.at_ hF h₁_; clear h₁_; rw [stepG_region_end]; simp only [goes_go]; refine ⟨by (refine de_none ?_; intro e he; simp at he), ?_⟩)
  (refine Goes.step rfl (fun _ h₁_ => ?_); replace hF := FL.at_ hF h₁_; clear h₁_; rw [stepG_cond (t := false) rfl]; simp only [goes_go, if_true, if_false, Bool.false_eq_true, ↓reduceIte]; refine ⟨by (refine de_none ?_; intro e he; simp at he), ?_⟩)
  (refine Goes.step rfl (fun _ h₁_ => ?_); replace hF := FL.at_ hF h₁_; clear h₁_; rw [stepG_skip]; simp only [goes_go]; refine ⟨by (refine de_none ?_; intro e he; simp at he), ?_⟩)
  (refine Goes.step rfl (fun _ h₁_ => ?_); replace hF := FL.at_ hF h₁_; clear h₁_; rw [stepG_seq]; simp only [goes_go]; refine ⟨by (refine de_none ?_; intro e he; simp at he), ?_⟩)
  (refine Goes.step rfl (fun _ h₁_ => ?_); replace hF := FL.at_ hF h₁_; clear h₁_; rw [stepG_seq]; simp only [goes_go]; refine ⟨by (refine de_none ?_; intro e he; simp at he), ?_⟩)
  (refine Goes.step rfl (fun _ h₁_ => ?_); replace hF := FL.at_ hF h₁_; clear h₁_; rw [stepG_region]; simp only [goes_go, List.size_toArray, List.length_cons, List.length_nil, Nat.reduceAdd, Nat.zero_add, List.range, List.range.loop]; refine ⟨by (refine de_none ?_; intro e he; simp at he), ?_⟩)
  (refine Goes.step rfl (fun _ h₁_ => ?_); replace hF := FL.at_ hF h₁_; clear h₁_; refine goes_oper_k rfl rfl (by k_ne) (fun K_ hK_ => ?_); go_simp; refine hK_ _ _ ⟨?_, ?_⟩; (focus (refine de_none ?_; intro e he; have hm := mem_listed he; simp [go_sem, *] at hm)); clear hK_ K_; try w_num)
  (refine Goes.step rfl (fun _ h₁_ => ?_); replace hF := FL.at_ hF h₁_; clear h₁_; refine goes_oper_k rfl rfl (by k_ne) (fun K_ hK_ => ?_); go_simp; refine hK_ _ _ ⟨?_, ?_⟩; (focus (refine de_none ?_; intro e he; have hm := mem_listed he; simp [go_sem, *] at hm)); clear hK_ K_; try w_num)
  (refine Goes.step rfl (fun _ h₁_ => ?_); replace hF := FL.at_ hF h₁_; clear h₁_; refine goes_oper_k rfl rfl (by k_ne) (fun K_ hK_ => ?_); go_simp; refine hK_ _ _ ⟨?_, ?_⟩; (focus (refine de_none ?_; intro e he; have hm := mem_listed he; simp [go_sem, *] at hm)); clear hK_ K_; try w_num)
  (refine Goes.step rfl (fun _ h₁_ => ?_); replace hF := FL.at_ hF h₁_; clear h₁_; rw [stepG_region_end]; simp only [goes_go]; refine ⟨by (refine de_none ?_; intro e he; simp at he), ?_⟩)
  (refine Goes.step rfl (fun _ h₁_ => ?_); replace hF := FL.at_ hF h₁_; clear h₁_; rw [stepG_block]; simp only [goes_go]; refine ⟨by (refine de_none ?_; intro e he; simp at he), ?_⟩)
  (refine Goes.step rfl (fun _ h₁_ => ?_); replace hF := FL.at_ hF h₁_; clear h₁_; rw [stepG_loop]; simp only [goes_go]; refine ⟨by (refine de_none ?_; intro e he; simp at he), ?_⟩)
  refine Goes.mono (n := 20 + J * 80) ?_ (by omega)
  have hl : _ := fun {v1 v2 v3 v4 v5 v6 v8 v9 v10 v11 v12 v13 v14 v15 v16 v17 v18 v19 v20 v21 v22 v23 v24 v25 v26 v27 v28 v29 v30 v31 v32 v33 v34 v35 v36 v37 v38 v39 v40 v41 v42 v43 v44 v45 v46 v47 v48 v49 v50 v51 v52 v53 v56 v57 v58 v59 v60 v61 v62 v63 v64 v65 v66 v67 v68 v69 v70 v71 v72 : Value} => @loop3 Shun B W Post hpost ja J cap O z hJ hS hO hN hOB J 0 (by omega) v1 v2 v3 v4 v5 v6 v8 v9 v10 v11 v12 v13 v14 v15 v16 v17 v18 v19 v20 v21 v22 v23 v24 v25 v26 v27 v28 v29 v30 v31 v32 v33 v34 v35 v36 v37 v38 v39 v40 v41 v42 v43 v44 v45 v46 v47 v48 v49 v50 v51 v52 v53 v56 v57 v58 v59 v60 v61 v62 v63 v64 v65 v66 v67 v68 v69 v70 v71 v72 _ hF
  simp only [L3l, C38, C36, C35, C31, body3, Try.f3, Option.getD_some, C316, Int.ofNat_zero, Int.cast_ofNat_Int, Int.natCast_zero] at hl
  exact hl

set_option maxRecDepth 100000 in
set_option maxHeartbeats 4000000 in
theorem bad3_lo {Post : Value → World → Prop} (hpost : ∀ w, Below W.heap.size W w → Post (.bool true) w) {n : Int} {ja ta : Option Addr} {J cap tl tc : Nat} {j1 t1 v12 v14 v16 v20 : Value} (h : n < 1) {w : World} (hF : Below W.heap.size W w) :
    Goes Try.prog true AtRel (DE (EvL Shun B)) (AtEnd Try.prog Shun B Post) 60 (G ((base 3).at ((a35 (.slice ja J cap) (.int .i64 n) (.slice ta tl tc) j1 t1 v12 v14 v16 v20 J).put ((R5ops3[7]?).bind (·.dst)) (.tuple #[.slice none 0 0, .int .i64 2])) (.inRegion R5ops3 [8, 9, 10, 11, 12] :: [.code C35])) []) w := by
  have hn3 : decide (n < 1) = true := decide_eq_true h
  have e : (R5ops3[7]?).bind (·.dst) = some 23 := rfl
  rw [e]
  simp only [a35, R5ops3, C35, C31, body3, Try.f3, Option.getD_some, List.replicate, Act.put, List.setIfInBounds_toArray, List.set_cons_succ, List.set_cons_zero]
  (refine Goes.step rfl (fun _ h₁_ => ?_); replace hF := Below.at_ hF h₁_; clear h₁_; refine goes_oper_k rfl rfl (by k_ne) (fun K_ hK_ => ?_); go_simp; refine hK_ _ _ ⟨?_, ?_⟩; (focus (refine de_none ?_; intro e he; have hm := mem_listed he; simp [go_sem, *] at hm)); clear hK_ K_; try w_num)
  (refine Goes.step rfl (fun _ h₁_ => ?_); replace hF := Below.at_ hF h₁_; clear h₁_; refine goes_oper_k rfl rfl (by k_ne) (fun K_ hK_ => ?_); go_simp; refine hK_ _ _ ⟨?_, ?_⟩; (focus (refine de_none ?_; intro e he; have hm := mem_listed he; simp [go_sem, *] at hm)); clear hK_ K_; try w_num)
  (refine Goes.step rfl (fun _ h₁_ => ?_); replace hF := Below.at_ hF h₁_; clear h₁_; refine goes_oper_k rfl rfl (by k_ne) (fun K_ hK_ => ?_); go_simp; refine hK_ _ _ ⟨?_, ?_⟩; (focus (refine de_none ?_; intro e he; have hm := mem_listed he; simp [go_sem, *] at hm)); clear hK_ K_; try w_num)
  (refine Goes.step rfl (fun _ h₁_ => ?_); replace hF := Below.at_ hF h₁_; clear h₁_; refine goes_oper_k rfl rfl (by k_ne) (fun K_ hK_ => ?_); go_simp; refine hK_ _ _ ⟨?_, ?_⟩; (focus (refine de_none ?_; intro e he; have hm := mem_listed he; simp [go_sem, *] at hm)); clear hK_ K_; try w_num)
  (refine Goes.step rfl (fun _ h₁_ => ?_); replace hF := Below.at_ hF h₁_; clear h₁_; refine goes_oper_k rfl rfl (by k_ne) (fun K_ hK_ => ?_); go_simp; refine hK_ _ _ ⟨?_, ?_⟩; (focus (refine de_none ?_; intro e he; have hm := mem_listed he; simp [go_sem, *] at hm)); clear hK_ K_; try w_num)
  (refine Goes.step rfl (fun _ h₁_ => ?_); replace hF := Below.at_ hF h₁_; clear h₁_; rw [stepG_region_end]; simp only [goes_go]; refine ⟨by (refine de_none ?_; intro e he; simp at he), ?_⟩)
  (refine Goes.step rfl (fun _ h₁_ => ?_); replace hF := Below.at_ hF h₁_; clear h₁_; rw [stepG_seq]; simp only [goes_go]; refine ⟨by (refine de_none ?_; intro e he; simp at he), ?_⟩)
  (refine Goes.step rfl (fun _ h₁_ => ?_); replace hF := Below.at_ hF h₁_; clear h₁_; rw [stepG_seq]; simp only [goes_go]; refine ⟨by (refine de_none ?_; intro e he; simp at he), ?_⟩)
  (refine Goes.step rfl (fun _ h₁_ => ?_); replace hF := Below.at_ hF h₁_; clear h₁_; rw [stepG_region]; simp only [goes_go, List.size_toArray, List.length_cons, List.length_nil, Nat.reduceAdd, Nat.zero_add, List.range, List.range.loop]; refine ⟨by (refine de_none ?_; intro e he; simp at he), ?_⟩)
  (refine Goes.step rfl (fun _ h₁_ => ?_); replace hF := Below.at_ hF h₁_; clear h₁_; refine goes_oper_k rfl rfl (by k_ne) (fun K_ hK_ => ?_); go_simp; refine hK_ _ _ ⟨?_, ?_⟩; (focus (refine de_none ?_; intro e he; have hm := mem_listed he; simp [go_sem, *] at hm)); clear hK_ K_; try w_num)
  (refine Goes.step rfl (fun _ h₁_ => ?_); replace hF := Below.at_ hF h₁_; clear h₁_; refine goes_oper_k rfl rfl (by k_ne) (fun K_ hK_ => ?_); go_simp; refine hK_ _ _ ⟨?_, ?_⟩; (focus (refine de_none ?_; intro e he; have hm := mem_listed he; simp [go_sem, *] at hm)); clear hK_ K_; try w_num)
  (refine Goes.step rfl (fun _ h₁_ => ?_); replace hF := Below.at_ hF h₁_; clear h₁_; refine goes_oper_k rfl rfl (by k_ne) (fun K_ hK_ => ?_); go_simp; refine hK_ _ _ ⟨?_, ?_⟩; (focus (refine de_none ?_; intro e he; have hm := mem_listed he; simp [go_sem, *] at hm)); clear hK_ K_; try w_num)
  (refine Goes.step rfl (fun _ h₁_ => ?_); replace hF := Below.at_ hF h₁_; clear h₁_; rw [stepG_unwanted rfl rfl]; simp only [goes_go]; refine ⟨by (refine de_none ?_; intro e he; simp at he), ?_⟩; walk_nrm)
  (refine Goes.step rfl (fun _ h₁_ => ?_); replace hF := Below.at_ hF h₁_; clear h₁_; rw [stepG_unwanted rfl rfl]; simp only [goes_go]; refine ⟨by (refine de_none ?_; intro e he; simp at he), ?_⟩; walk_nrm)
  (refine Goes.step rfl (fun _ h₁_ => ?_); replace hF := Below.at_ hF h₁_; clear h₁_; refine goes_oper_k rfl rfl (by k_ne) (fun K_ hK_ => ?_); go_simp; refine hK_ _ _ ⟨?_, ?_⟩; (focus (refine de_none ?_; intro e he; have hm := mem_listed he; simp [go_sem, *] at hm)); clear hK_ K_; try w_num)
  (refine Goes.step rfl (fun _ h₁_ => ?_); replace hF := Below.at_ hF h₁_; clear h₁_; refine goes_oper_k rfl rfl (by k_ne) (fun K_ hK_ => ?_); go_simp; refine hK_ _ _ ⟨?_, ?_⟩; (focus (refine de_none ?_; intro e he; have hm := mem_listed he; simp [go_sem, *] at hm)); clear hK_ K_; try w_num)
  (refine Goes.step rfl (fun _ h₁_ => ?_); replace hF := Below.at_ hF h₁_; clear h₁_; rw [stepG_unwanted rfl rfl]; simp only [goes_go]; refine ⟨by (refine de_none ?_; intro e he; simp at he), ?_⟩; walk_nrm)
  (refine Goes.step rfl (fun _ h₁_ => ?_); replace hF := Below.at_ hF h₁_; clear h₁_; rw [stepG_unwanted rfl rfl]; simp only [goes_go]; refine ⟨by (refine de_none ?_; intro e he; simp at he), ?_⟩; walk_nrm)
  (refine Goes.step rfl (fun _ h₁_ => ?_); replace hF := Below.at_ hF h₁_; clear h₁_; rw [stepG_unwanted rfl rfl]; simp only [goes_go]; refine ⟨by (refine de_none ?_; intro e he; simp at he), ?_⟩; walk_nrm)
  (refine Goes.step rfl (fun _ h₁_ => ?_); replace hF := Below.at_ hF h₁_; clear h₁_; refine goes_oper_k rfl rfl (by k_ne) (fun K_ hK_ => ?_); go_simp; refine hK_ _ _ ⟨?_, ?_⟩; (focus (refine de_none ?_; intro e he; have hm := mem_listed he; simp [go_sem, *] at hm)); clear hK_ K_; try w_num)
  (refine Goes.step rfl (fun _ h₁_ => ?_); replace hF := Below.at_ hF h₁_; clear h₁_; rw [stepG_region_end]; simp only [goes_go]; refine ⟨by (refine de_none ?_; intro e he; simp at he), ?_⟩)
  (refine Goes.step rfl (fun _ h₁_ => ?_); replace hF := Below.at_ hF h₁_; clear h₁_; rw [stepG_cond (t := true) rfl]; simp only [goes_go, if_true, if_false, Bool.false_eq_true, ↓reduceIte]; refine ⟨by (refine de_none ?_; intro e he; simp at he), ?_⟩)
  (refine Goes.step rfl (fun _ h₁_ => ?_); replace hF := Below.at_ hF h₁_; clear h₁_; rw [stepG_seq]; simp only [goes_go]; refine ⟨by (refine de_none ?_; intro e he; simp at he), ?_⟩)
  (refine Goes.step rfl (fun _ h₁_ => ?_); replace hF := Below.at_ hF h₁_; clear h₁_; rw [stepG_region]; simp only [goes_go, List.size_toArray, List.length_cons, List.length_nil, Nat.reduceAdd, Nat.zero_add, List.range, List.range.loop]; refine ⟨by (refine de_none ?_; intro e he; simp at he), ?_⟩)
  (refine Goes.step rfl (fun _ h₁_ => ?_); replace hF := Below.at_ hF h₁_; clear h₁_; refine goes_oper_k rfl rfl (by k_ne) (fun K_ hK_ => ?_); go_simp; refine hK_ _ _ ⟨?_, ?_⟩; (focus (refine de_none ?_; intro e he; have hm := mem_listed he; simp [go_sem, *] at hm)); clear hK_ K_; try w_num)
  (refine Goes.step rfl (fun _ h₁_ => ?_); replace hF := Below.at_ hF h₁_; clear h₁_; refine goes_oper_k rfl rfl (by k_ne) (fun K_ hK_ => ?_); go_simp; refine hK_ _ _ ⟨?_, ?_⟩; (focus (refine de_none ?_; intro e he; have hm := mem_listed he; simp [go_sem, *] at hm)); clear hK_ K_; try w_num)
  (refine Goes.step rfl (fun _ h₁_ => ?_); replace hF := Below.at_ hF h₁_; clear h₁_; refine goes_oper_k rfl rfl (by k_ne) (fun K_ hK_ => ?_); go_simp; refine hK_ _ _ ⟨?_, ?_⟩; (focus (refine de_none ?_; intro e he; have hm := mem_listed he; simp [go_sem, *] at hm)); clear hK_ K_; try w_num)
  (refine Goes.step rfl (fun _ h₁_ => ?_); replace hF := Below.at_ hF h₁_; clear h₁_; refine goes_oper_k rfl rfl (by k_ne) (fun K_ hK_ => ?_); go_simp; refine hK_ _ _ ⟨?_, ?_⟩; (focus (refine de_none ?_; intro e he; have hm := mem_listed he; simp [go_sem, *] at hm)); clear hK_ K_; try w_num)
  (refine Goes.step rfl (fun _ h₁_ => ?_); replace hF := Below.at_ hF h₁_; clear h₁_; refine goes_oper_k rfl rfl (by k_ne) (fun K_ hK_ => ?_); go_simp; refine hK_ _ _ ⟨?_, ?_⟩; (focus (refine de_none ?_; intro e he; have hm := mem_listed he; simp [go_sem, *] at hm)); clear hK_ K_; try w_num)
  (refine Goes.step rfl (fun _ h₁_ => ?_); replace hF := Below.at_ hF h₁_; clear h₁_; refine goes_oper_k rfl rfl (by k_ne) (fun K_ hK_ => ?_); go_simp; refine hK_ _ _ ⟨?_, ?_⟩; (focus (refine de_none ?_; intro e he; have hm := mem_listed he; simp [go_sem, *] at hm)); clear hK_ K_; try w_num)
  (refine Goes.step rfl (fun _ h₁_ => ?_); replace hF := Below.at_ hF h₁_; clear h₁_; refine goes_oper_k rfl rfl (by k_ne) (fun K_ hK_ => ?_); go_simp; refine hK_ _ _ ⟨?_, ?_⟩; (focus (refine de_none ?_; intro e he; have hm := mem_listed he; simp [go_sem, *] at hm)); clear hK_ K_; try w_num)
  (refine Goes.step rfl (fun _ h₁_ => ?_); replace hF := Below.at_ hF h₁_; clear h₁_; refine goes_oper_k rfl rfl (by k_ne) (fun K_ hK_ => ?_); go_simp; refine hK_ _ _ ⟨?_, ?_⟩; (focus (refine de_none ?_; intro e he; have hm := mem_listed he; simp [go_sem, *] at hm)); clear hK_ K_; try w_num)
  (refine Goes.step rfl (fun _ h₁_ => ?_); replace hF := Below.at_ hF h₁_; clear h₁_; rw [stepG_region_end]; simp only [goes_go]; refine ⟨by (refine de_none ?_; intro e he; simp at he), ?_⟩)
  (refine Goes.step rfl (fun _ h₁_ => ?_); replace hF := Below.at_ hF h₁_; clear h₁_; rw [stepG_ret']; simp only [goes_go]; refine ⟨by (refine de_none ?_; intro e he; simp at he), ?_⟩)
  refine Goes.mono (Goes.stop (n := 0) (fun w₂ r₂ => ⟨rfl, .bool true, #[], ?_, by simp, hpost _ (Below.at_ hF r₂)⟩)) (by omega)
  simp [G, stepG, unwind, doReturn, results, Frame.at, base, Try.func3, Try.f3, seen, GStep.after]

set_option maxRecDepth 100000 in
set_option maxHeartbeats 4000000 in
theorem bad3_hi {Post : Value → World → Prop} (hpost : ∀ w, Below W.heap.size W w → Post (.bool true) w) {n : Int} {ja ta : Option Addr} {J cap tl tc : Nat} {j1 t1 v12 v14 v16 v20 : Value} (h : 64 < n) {w : World} (hF : Below W.heap.size W w) :
    Goes Try.prog true AtRel (DE (EvL Shun B)) (AtEnd Try.prog Shun B Post) 60 (G ((base 3).at ((a35 (.slice ja J cap) (.int .i64 n) (.slice ta tl tc) j1 t1 v12 v14 v16 v20 J).put ((R5ops3[7]?).bind (·.dst)) (.tuple #[.slice none 0 0, .int .i64 2])) (.inRegion R5ops3 [8, 9, 10, 11, 12] :: [.code C35])) []) w := by
  have hn3 : decide (n < 1) = false := decide_eq_false (by omega)
  have hn4 : decide (64 < n) = true := decide_eq_true h
  have e : (R5ops3[7]?).bind (·.dst) = some 23 := rfl
  rw [e]
  simp only [a35, R5ops3, C35, C31, body3, Try.f3, Option.getD_some, List.replicate, Act.put, List.setIfInBounds_toArray, List.set_cons_succ, List.set_cons_zero]
  (refine Goes.step rfl (fun _ h₁_ => ?_); replace hF := Below.at_ hF h₁_; clear h₁_; refine goes_oper_k rfl rfl (by k_ne) (fun K_ hK_ => ?_); go_simp; refine hK_ _ _ ⟨?_, ?_⟩; (focus (refine de_none ?_; intro e he; have hm := mem_listed he; simp [go_sem, *] at hm)); clear hK_ K_; try w_num)
  (refine Goes.step rfl (fun _ h₁_ => ?_); replace hF := Below.at_ hF h₁_; clear h₁_; refine goes_oper_k rfl rfl (by k_ne) (fun K_ hK_ => ?_); go_simp; refine hK_ _ _ ⟨?_, ?_⟩; (focus (refine de_none ?_; intro e he; have hm := mem_listed he; simp [go_sem, *] at hm)); clear hK_ K_; try w_num)
  (refine Goes.step rfl (fun _ h₁_ => ?_); replace hF := Below.at_ hF h₁_; clear h₁_; refine goes_oper_k rfl rfl (by k_ne) (fun K_ hK_ => ?_); go_simp; refine hK_ _ _ ⟨?_, ?_⟩; (focus (refine de_none ?_; intro e he; have hm := mem_listed he; simp [go_sem, *] at hm)); clear hK_ K_; try w_num)
  (refine Goes.step rfl (fun _ h₁_ => ?_); replace hF := Below.at_ hF h₁_; clear h₁_; refine goes_oper_k rfl rfl (by k_ne) (fun K_ hK_ => ?_); go_simp; refine hK_ _ _ ⟨?_, ?_⟩; (focus (refine de_none ?_; intro e he; have hm := mem_listed he; simp [go_sem, *] at hm)); clear hK_ K_; try w_num)
  (refine Goes.step rfl (fun _ h₁_ => ?_); replace hF := Below.at_ hF h₁_; clear h₁_; refine goes_oper_k rfl rfl (by k_ne) (fun K_ hK_ => ?_); go_simp; refine hK_ _ _ ⟨?_, ?_⟩; (focus (refine de_none ?_; intro e he; have hm := mem_listed he; simp [go_sem, *] at hm)); clear hK_ K_; try w_num)
  (refine Goes.step rfl (fun _ h₁_ => ?_); replace hF := Below.at_ hF h₁_; clear h₁_; rw [stepG_region_end]; simp only [goes_go]; refine ⟨by (refine de_none ?_; intro e he; simp at he), ?_⟩)
  (refine Goes.step rfl (fun _ h₁_ => ?_); replace hF := Below.at_ hF h₁_; clear h₁_; rw [stepG_seq]; simp only [goes_go]; refine ⟨by (refine de_none ?_; intro e he; simp at he), ?_⟩)
  (refine Goes.step rfl (fun _ h₁_ => ?_); replace hF := Below.at_ hF h₁_; clear h₁_; rw [stepG_seq]; simp only [goes_go]; refine ⟨by (refine de_none ?_; intro e he; simp at he), ?_⟩)
  (refine Goes.step rfl (fun _ h₁_ => ?_); replace hF := Below.at_ hF h₁_; clear h₁_; rw [stepG_region]; simp only [goes_go, List.size_toArray, List.length_cons, List.length_nil, Nat.reduceAdd, Nat.zero_add, List.range, List.range.loop]; refine ⟨by (refine de_none ?_; intro e he; simp at he), ?_⟩)
  (refine Goes.step rfl (fun _ h₁_ => ?_); replace hF := Below.at_ hF h₁_; clear h₁_; refine goes_oper_k rfl rfl (by k_ne) (fun K_ hK_ => ?_); go_simp; refine hK_ _ _ ⟨?_, ?_⟩; (focus (refine de_none ?_; intro e he; have hm := mem_listed he; simp [go_sem, *] at hm)); clear hK_ K_; try w_num)
  (refine Goes.step rfl (fun _ h₁_ => ?_); replace hF := Below.at_ hF h₁_; clear h₁_; refine goes_oper_k rfl rfl (by k_ne) (fun K_ hK_ => ?_); go_simp; refine hK_ _ _ ⟨?_, ?_⟩; (focus (refine de_none ?_; intro e he; have hm := mem_listed he; simp [go_sem, *] at hm)); clear hK_ K_; try w_num)
  (refine Goes.step rfl (fun _ h₁_ => ?_); replace hF := Below.at_ hF h₁_; clear h₁_; refine goes_oper_k rfl rfl (by k_ne) (fun K_ hK_ => ?_); go_simp; refine hK_ _ _ ⟨?_, ?_⟩; (focus (refine de_none ?_; intro e he; have hm := mem_listed he; simp [go_sem, *] at hm)); clear hK_ K_; try w_num)
  (refine Goes.step rfl (fun _ h₁_ => ?_); replace hF := Below.at_ hF h₁_; clear h₁_; refine goes_oper_k rfl rfl (by k_ne) (fun K_ hK_ => ?_); go_simp; refine hK_ _ _ ⟨?_, ?_⟩; (focus (refine de_none ?_; intro e he; have hm := mem_listed he; simp [go_sem, *] at hm)); clear hK_ K_; try w_num)
  (refine Goes.step rfl (fun _ h₁_ => ?_); replace hF := Below.at_ hF h₁_; clear h₁_; refine goes_oper_k rfl rfl (by k_ne) (fun K_ hK_ => ?_); go_simp; refine hK_ _ _ ⟨?_, ?_⟩; (focus (refine de_none ?_; intro e he; have hm := mem_listed he; simp [go_sem, *] at hm)); clear hK_ K_; try w_num)
  (refine Goes.step rfl (fun _ h₁_ => ?_); replace hF := Below.at_ hF h₁_; clear h₁_; refine goes_oper_k rfl rfl (by k_ne) (fun K_ hK_ => ?_); go_simp; refine hK_ _ _ ⟨?_, ?_⟩; (focus (refine de_none ?_; intro e he; have hm := mem_listed he; simp [go_sem, *] at hm)); clear hK_ K_; try w_num)
  (refine Goes.step rfl (fun _ h₁_ => ?_); replace hF := Below.at_ hF h₁_; clear h₁_; refine goes_oper_k rfl rfl (by k_ne) (fun K_ hK_ => ?_); go_simp; refine hK_ _ _ ⟨?_, ?_⟩; (focus (refine de_none ?_; intro e he; have hm := mem_listed he; simp [go_sem, *] at hm)); clear hK_ K_; try w_num)
  (refine Goes.step rfl (fun _ h₁_ => ?_); replace hF := Below.at_ hF h₁_; clear h₁_; rw [stepG_unwanted rfl rfl]; simp only [goes_go]; refine ⟨by (refine de_none ?_; intro e he; simp at he), ?_⟩; walk_nrm)
  (refine Goes.step rfl (fun _ h₁_ => ?_); replace hF := Below.at_ hF h₁_; clear h₁_; rw [stepG_unwanted rfl rfl]; simp only [goes_go]; refine ⟨by (refine de_none ?_; intro e he; simp at he), ?_⟩; walk_nrm)
  (refine Goes.step rfl (fun _ h₁_ => ?_); replace hF := Below.at_ hF h₁_; clear h₁_; rw [stepG_unwanted rfl rfl]; simp only [goes_go]; refine ⟨by (refine de_none ?_; intro e he; simp at he), ?_⟩; walk_nrm)
  (refine Goes.step rfl (fun _ h₁_ => ?_); replace hF := Below.at_ hF h₁_; clear h₁_; refine goes_oper_k rfl rfl (by k_ne) (fun K_ hK_ => ?_); go_simp; refine hK_ _ _ ⟨?_, ?_⟩; (focus (refine de_none ?_; intro e he; have hm := mem_listed he; simp [go_sem, *] at hm)); clear hK_ K_; try w_num)
  (refine Goes.step rfl (fun _ h₁_ => ?_); replace hF := Below.at_ hF h₁_; clear h₁_; rw [stepG_region_end]; simp only [goes_go]; refine ⟨by (refine de_none ?_; intro e he; simp at he), ?_⟩)
  (refine Goes.step rfl (fun _ h₁_ => ?_); replace hF := Below.at_ hF h₁_; clear h₁_; rw [stepG_cond (t := true) rfl]; simp only [goes_go, if_true, if_false, Bool.false_eq_true, ↓reduceIte]; refine ⟨by (refine de_none ?_; intro e he; simp at he), ?_⟩)
  (refine Goes.step rfl (fun _ h₁_ => ?_); replace hF := Below.at_ hF h₁_; clear h₁_; rw [stepG_seq]; simp only [goes_go]; refine ⟨by (refine de_none ?_; intro e he; simp at he), ?_⟩)
  (refine Goes.step rfl (fun _ h₁_ => ?_); replace hF := Below.at_ hF h₁_; clear h₁_; rw [stepG_region]; simp only [goes_go, List.size_toArray, List.length_cons, List.length_nil, Nat.reduceAdd, Nat.zero_add, List.range, List.range.loop]; refine ⟨by (refine de_none ?_; intro e he; simp at he), ?_⟩)
  (refine Goes.step rfl (fun _ h₁_ => ?_); replace hF := Below.at_ hF h₁_; clear h₁_; refine goes_oper_k rfl rfl (by k_ne) (fun K_ hK_ => ?_); go_simp; refine hK_ _ _ ⟨?_, ?_⟩; (focus (refine de_none ?_; intro e he; have hm := mem_listed he; simp [go_sem, *] at hm)); clear hK_ K_; try w_num)
  (refine Goes.step rfl (fun _ h₁_ => ?_); replace hF := Below.at_ hF h₁_; clear h₁_; refine goes_oper_k rfl rfl (by k_ne) (fun K_ hK_ => ?_); go_simp; refine hK_ _ _ ⟨?_, ?_⟩; (focus (refine de_none ?_; intro e he; have hm := mem_listed he; simp [go_sem, *] at hm)); clear hK_ K_; try w_num)
  (refine Goes.step rfl (fun _ h₁_ => ?_); replace hF := Below.at_ hF h₁_; clear h₁_; refine goes_oper_k rfl rfl (by k_ne) (fun K_ hK_ => ?_); go_simp; refine hK_ _ _ ⟨?_, ?_⟩; (focus (refine de_none ?_; intro e he; have hm := mem_listed he; simp [go_sem, *] at hm)); clear hK_ K_; try w_num)
  (refine Goes.step rfl (fun _ h₁_ => ?_); replace hF := Below.at_ hF h₁_; clear h₁_; refine goes_oper_k rfl rfl (by k_ne) (fun K_ hK_ => ?_); go_simp; refine hK_ _ _ ⟨?_, ?_⟩; (focus (refine de_none ?_; intro e he; have hm := mem_listed he; simp [go_sem, *] at hm)); clear hK_ K_; try w_num)
  (refine Goes.step rfl (fun _ h₁_ => ?_); replace hF := Below.at_ hF h₁_; clear h₁_; refine goes_oper_k rfl rfl (by k_ne) (fun K_ hK_ => ?_); go_simp; refine hK_ _ _ ⟨?_, ?_⟩; (focus (refine de_none ?_; intro e he; have hm := mem_listed he; simp [go_sem, *] at hm)); clear hK_ K_; try w_num)
  (refine Goes.step rfl (fun _ h₁_ => ?_); replace hF := Below.at_ hF h₁_; clear h₁_; refine goes_oper_k rfl rfl (by k_ne) (fun K_ hK_ => ?_); go_simp; refine hK_ _ _ ⟨?_, ?_⟩; (focus (refine de_none ?_; intro e he; have hm := mem_listed he; simp [go_sem, *] at hm)); clear hK_ K_; try w_num)
  (refine Goes.step rfl (fun _ h₁_ => ?_); replace hF := Below.at_ hF h₁_; clear h₁_; refine goes_oper_k rfl rfl (by k_ne) (fun K_ hK_ => ?_); go_simp; refine hK_ _ _ ⟨?_, ?_⟩; (focus (refine de_none ?_; intro e he; have hm := mem_listed he; simp [go_sem, *] at hm)); clear hK_ K_; try w_num)
  (refine Goes.step rfl (fun _ h₁_ => ?_); replace hF := Below.at_ hF h₁_; clear h₁_; refine goes_oper_k rfl rfl (by k_ne) (fun K_ hK_ => ?_); go_simp; refine hK_ _ _ ⟨?_, ?_⟩; (focus (refine de_none ?_; intro e he; have hm := mem_listed he; simp [go_sem, *] at hm)); clear hK_ K_; try w_num)
  (refine Goes.step rfl (fun _ h₁_ => ?_); replace hF := Below.at_ hF h₁_; clear h₁_; rw [stepG_region_end]; simp only [goes_go]; refine ⟨by (refine de_none ?_; intro e he; simp at he), ?_⟩)
  (refine Goes.step rfl (fun _ h₁_ => ?_); replace hF := Below.at_ hF h₁_; clear h₁_; rw [stepG_ret']; simp only [goes_go]; refine ⟨by (refine de_none ?_; intro e he; simp at he), ?_⟩)
  refine Goes.mono (Goes.stop (n := 0) (fun w₂ r₂ => ⟨rfl, .bool true, #[], ?_, by simp, hpost _ (Below.at_ hF r₂)⟩)) (by omega)
  simp [G, stepG, unwind, doReturn, results, Frame.at, base, Try.func3, Try.f3, seen, GStep.after]

set_option maxRecDepth 100000 in
set_option maxHeartbeats 4000000 in
theorem bad3_many {Post : Value → World → Prop} (hpost : ∀ w, Below W.heap.size W w → Post (.bool true) w) {n : Int} {ja ta : Option Addr} {J cap tl tc : Nat} {j1 t1 v12 v14 v16 v20 : Value} (h1 : 1 ≤ n) (h2 : n ≤ 64) (h : 8192 < J) {w : World} (hF : Below W.heap.size W w) :
    Goes Try.prog true AtRel (DE (EvL Shun B)) (AtEnd Try.prog Shun B Post) 60 (G ((base 3).at ((a35 (.slice ja J cap) (.int .i64 n) (.slice ta tl tc) j1 t1 v12 v14 v16 v20 J).put ((R5ops3[7]?).bind (·.dst)) (.tuple #[.slice none 0 0, .int .i64 2])) (.inRegion R5ops3 [8, 9, 10, 11, 12] :: [.code C35])) []) w := by
  have hn3 : decide (n < 1) = false := decide_eq_false (by omega)
  have hn4 : decide (64 < n) = false := decide_eq_false (by omega)
  have hn5 : decide ((8192 : Int) < (J : Int)) = true := decide_eq_true (by omega)
  have e : (R5ops3[7]?).bind (·.dst) = some 23 := rfl
  rw [e]
  simp only [a35, R5ops3, C35, C31, body3, Try.f3, Option.getD_some, List.replicate, Act.put, List.setIfInBounds_toArray, List.set_cons_succ, List.set_cons_zero]
  (refine Goes.step rfl (fun _ h₁_ => ?_); replace hF := Below.at_ hF h₁_; clear h₁_; refine goes_oper_k rfl rfl (by k_ne) (fun K_ hK_ => ?_); go_simp; refine hK_ _ _ ⟨?_, ?_⟩; (focus (refine de_none ?_; intro e he; have hm := mem_listed he; simp [go_sem, *] at hm)); clear hK_ K_; try w_num)
  (refine Goes.step rfl (fun _ h₁_ => ?_); replace hF := Below.at_ hF h₁_; clear h₁_; refine goes_oper_k rfl rfl (by k_ne) (fun K_ hK_ => ?_); go_simp; refine hK_ _ _ ⟨?_, ?_⟩; (focus (refine de_none ?_; intro e he; have hm := mem_listed he; simp [go_sem, *] at hm)); clear hK_ K_; try w_num)
  (refine Goes.step rfl (fun _ h₁_ => ?_); replace hF := Below.at_ hF h₁_; clear h₁_; refine goes_oper_k rfl rfl (by k_ne) (fun K_ hK_ => ?_); go_simp; refine hK_ _ _ ⟨?_, ?_⟩; (focus (refine de_none ?_; intro e he; have hm := mem_listed he; simp [go_sem, *] at hm)); clear hK_ K_; try w_num)
  (refine Goes.step rfl (fun _ h₁_ => ?_); replace hF := Below.at_ hF h₁_; clear h₁_; refine goes_oper_k rfl rfl (by k_ne) (fun K_ hK_ => ?_); go_simp; refine hK_ _ _ ⟨?_, ?_⟩; (focus (refine de_none ?_; intro e he; have hm := mem_listed he; simp [go_sem, *] at hm)); clear hK_ K_; try w_num)
  (refine Goes.step rfl (fun _ h₁_ => ?_); replace hF := Below.at_ hF h₁_; clear h₁_; refine goes_oper_k rfl rfl (by k_ne) (fun K_ hK_ => ?_); go_simp; refine hK_ _ _ ⟨?_, ?_⟩; (focus (refine de_none ?_; intro e he; have hm := mem_listed he; simp [go_sem, *] at hm)); clear hK_ K_; try w_num)
  (refine Goes.step rfl (fun _ h₁_ => ?_); replace hF := Below.at_ hF h₁_; clear h₁_; rw [stepG_region_end]; simp only [goes_go]; refine ⟨by (refine de_none ?_; intro e he; simp at he), ?_⟩)
  (refine Goes.step rfl (fun _ h₁_ => ?_); replace hF := Below.at_ hF h₁_; clear h₁_; rw [stepG_seq]; simp only [goes_go]; refine ⟨by (refine de_none ?_; intro e he; simp at he), ?_⟩)
  (refine Goes.step rfl (fun _ h₁_ => ?_); replace hF := Below.at_ hF h₁_; clear h₁_; rw [stepG_seq]; simp only [goes_go]; refine ⟨by (refine de_none ?_; intro e he; simp at he), ?_⟩)
  (refine Goes.step rfl (fun _ h₁_ => ?_); replace hF := Below.at_ hF h₁_; clear h₁_; rw [stepG_region]; simp only [goes_go, List.size_toArray, List.length_cons, List.length_nil, Nat.reduceAdd, Nat.zero_add, List.range, List.range.loop]; refine ⟨by (refine de_none ?_; intro e he; simp at he), ?_⟩)
  (refine Goes.step rfl (fun _ h₁_ => ?_); replace hF := Below.at_ hF h₁_; clear h₁_; refine goes_oper_k rfl rfl (by k_ne) (fun K_ hK_ => ?_); go_simp; refine hK_ _ _ ⟨?_, ?_⟩; (focus (refine de_none ?_; intro e he; have hm := mem_listed he; simp [go_sem, *] at hm)); clear hK_ K_; try w_num)
  (refine Goes.step rfl (fun _ h₁_ => ?_); replace hF := Below.at_ hF h₁_; clear h₁_; refine goes_oper_k rfl rfl (by k_ne) (fun K_ hK_ => ?_); go_simp; refine hK_ _ _ ⟨?_, ?_⟩; (focus (refine de_none ?_; intro e he; have hm := mem_listed he; simp [go_sem, *] at hm)); clear hK_ K_; try w_num)
  (refine Goes.step rfl (fun _ h₁_ => ?_); replace hF := Below.at_ hF h₁_; clear h₁_; refine goes_oper_k rfl rfl (by k_ne) (fun K_ hK_ => ?_); go_simp; refine hK_ _ _ ⟨?_, ?_⟩; (focus (refine de_none ?_; intro e he; have hm := mem_listed he; simp [go_sem, *] at hm)); clear hK_ K_; try w_num)
  (refine Goes.step rfl (fun _ h₁_ => ?_); replace hF := Below.at_ hF h₁_; clear h₁_; refine goes_oper_k rfl rfl (by k_ne) (fun K_ hK_ => ?_); go_simp; refine hK_ _ _ ⟨?_, ?_⟩; (focus (refine de_none ?_; intro e he; have hm := mem_listed he; simp [go_sem, *] at hm)); clear hK_ K_; try w_num)
  (refine Goes.step rfl (fun _ h₁_ => ?_); replace hF := Below.at_ hF h₁_; clear h₁_; refine goes_oper_k rfl rfl (by k_ne) (fun K_ hK_ => ?_); go_simp; refine hK_ _ _ ⟨?_, ?_⟩; (focus (refine de_none ?_; intro e he; have hm := mem_listed he; simp [go_sem, *] at hm)); clear hK_ K_; try w_num)
  (refine Goes.step rfl (fun _ h₁_ => ?_); replace hF := Below.at_ hF h₁_; clear h₁_; refine goes_oper_k rfl rfl (by k_ne) (fun K_ hK_ => ?_); go_simp; refine hK_ _ _ ⟨?_, ?_⟩; (focus (refine de_none ?_; intro e he; have hm := mem_listed he; simp [go_sem, *] at hm)); clear hK_ K_; try w_num)
  (refine Goes.step rfl (fun _ h₁_ => ?_); replace hF := Below.at_ hF h₁_; clear h₁_; refine goes_oper_k rfl rfl (by k_ne) (fun K_ hK_ => ?_); go_simp; refine hK_ _ _ ⟨?_, ?_⟩; (focus (refine de_none ?_; intro e he; have hm := mem_listed he; simp [go_sem, *] at hm)); clear hK_ K_; try w_num)
  (refine Goes.step rfl (fun _ h₁_ => ?_); replace hF := Below.at_ hF h₁_; clear h₁_; refine goes_oper_k rfl rfl (by k_ne) (fun K_ hK_ => ?_); go_simp; refine hK_ _ _ ⟨?_, ?_⟩; (focus (refine de_none ?_; intro e he; have hm := mem_listed he; simp [go_sem, *] at hm)); clear hK_ K_; try w_num)
  (refine Goes.step rfl (fun _ h₁_ => ?_); replace hF := Below.at_ hF h₁_; clear h₁_; refine goes_oper_k rfl rfl (by k_ne) (fun K_ hK_ => ?_); go_simp; refine hK_ _ _ ⟨?_, ?_⟩; (focus (refine de_none ?_; intro e he; have hm := mem_listed he; simp [go_sem, *] at hm)); clear hK_ K_; try w_num)
  (refine Goes.step rfl (fun _ h₁_ => ?_); replace hF := Below.at_ hF h₁_; clear h₁_; refine goes_oper_k rfl rfl (by k_ne) (fun K_ hK_ => ?_); go_simp; refine hK_ _ _ ⟨?_, ?_⟩; (focus (refine de_none ?_; intro e he; have hm := mem_listed he; simp [go_sem, *] at hm)); clear hK_ K_; try w_num)
  (refine Goes.step rfl (fun _ h₁_ => ?_); replace hF := Below.at_ hF h₁_; clear h₁_; refine goes_oper_k rfl rfl (by k_ne) (fun K_ hK_ => ?_); go_simp; refine hK_ _ _ ⟨?_, ?_⟩; (focus (refine de_none ?_; intro e he; have hm := mem_listed he; simp [go_sem, *] at hm)); clear hK_ K_; try w_num)
  (refine Goes.step rfl (fun _ h₁_ => ?_); replace hF := Below.at_ hF h₁_; clear h₁_; rw [stepG_region_end]; simp only [goes_go]; refine ⟨by (refine de_none ?_; intro e he; simp at he), ?_⟩)
  (refine Goes.step rfl (fun _ h₁_ => ?_); replace hF := Below.at_ hF h₁_; clear h₁_; rw [stepG_cond (t := true) rfl]; simp only [goes_go, if_true, if_false, Bool.false_eq_true, ↓reduceIte]; refine ⟨by (refine de_none ?_; intro e he; simp at he), ?_⟩)
  (refine Goes.step rfl (fun _ h₁_ => ?_); replace hF := Below.at_ hF h₁_; clear h₁_; rw [stepG_seq]; simp only [goes_go]; refine ⟨by (refine de_none ?_; intro e he; simp at he), ?_⟩)
  (refine Goes.step rfl (fun _ h₁_ => ?_); replace hF := Below.at_ hF h₁_; clear h₁_; rw [stepG_region]; simp only [goes_go, List.size_toArray, List.length_cons, List.length_nil, Nat.reduceAdd, Nat.zero_add, List.range, List.range.loop]; refine ⟨by (refine de_none ?_; intro e he; simp at he), ?_⟩)
  (refine Goes.step rfl (fun _ h₁_ => ?_); replace hF := Below.at_ hF h₁_; clear h₁_; refine goes_oper_k rfl rfl (by k_ne) (fun K_ hK_ => ?_); go_simp; refine hK_ _ _ ⟨?_, ?_⟩; (focus (refine de_none ?_; intro e he; have hm := mem_listed he; simp [go_sem, *] at hm)); clear hK_ K_; try w_num)
  (refine Goes.step rfl (fun _ h₁_ => ?_); replace hF := Below.at_ hF h₁_; clear h₁_; refine goes_oper_k rfl rfl (by k_ne) (fun K_ hK_ => ?_); go_simp; refine hK_ _ _ ⟨?_, ?_⟩; (focus (refine de_none ?_; intro e he; have hm := mem_listed he; simp [go_sem, *] at hm)); clear hK_ K_; try w_num)
  (refine Goes.step rfl (fun _ h₁_ => ?_); replace hF := Below.at_ hF h₁_; clear h₁_; refine goes_oper_k rfl rfl (by k_ne) (fun K_ hK_ => ?_); go_simp; refine hK_ _ _ ⟨?_, ?_⟩; (focus (refine de_none ?_; intro e he; have hm := mem_listed he; simp [go_sem, *] at hm)); clear hK_ K_; try w_num)
  (refine Goes.step rfl (fun _ h₁_ => ?_); replace hF := Below.at_ hF h₁_; clear h₁_; refine goes_oper_k rfl rfl (by k_ne) (fun K_ hK_ => ?_); go_simp; refine hK_ _ _ ⟨?_, ?_⟩; (focus (refine de_none ?_; intro e he; have hm := mem_listed he; simp [go_sem, *] at hm)); clear hK_ K_; try w_num)
  (refine Goes.step rfl (fun _ h₁_ => ?_); replace hF := Below.at_ hF h₁_; clear h₁_; refine goes_oper_k rfl rfl (by k_ne) (fun K_ hK_ => ?_); go_simp; refine hK_ _ _ ⟨?_, ?_⟩; (focus (refine de_none ?_; intro e he; have hm := mem_listed he; simp [go_sem, *] at hm)); clear hK_ K_; try w_num)
  (refine Goes.step rfl (fun _ h₁_ => ?_); replace hF := Below.at_ hF h₁_; clear h₁_; refine goes_oper_k rfl rfl (by k_ne) (fun K_ hK_ => ?_); go_simp; refine hK_ _ _ ⟨?_, ?_⟩; (focus (refine de_none ?_; intro e he; have hm := mem_listed he; simp [go_sem, *] at hm)); clear hK_ K_; try w_num)
  (refine Goes.step rfl (fun _ h₁_ => ?_); replace hF := Below.at_ hF h₁_; clear h₁_; refine goes_oper_k rfl rfl (by k_ne) (fun K_ hK_ => ?_); go_simp; refine hK_ _ _ ⟨?_, ?_⟩; (focus (refine de_none ?_; intro e he; have hm := mem_listed he; simp [go_sem, *] at hm)); clear hK_ K_; try w_num)
  (refine Goes.step rfl (fun _ h₁_ => ?_); replace hF := Below.at_ hF h₁_; clear h₁_; refine goes_oper_k rfl rfl (by k_ne) (fun K_ hK_ => ?_); go_simp; refine hK_ _ _ ⟨?_, ?_⟩; (focus (refine de_none ?_; intro e he; have hm := mem_listed he; simp [go_sem, *] at hm)); clear hK_ K_; try w_num)
  (refine Goes.step rfl (fun _ h₁_ => ?_); replace hF := Below.at_ hF h₁_; clear h₁_; rw [stepG_region_end]; simp only [goes_go]; refine ⟨by (refine de_none ?_; intro e he; simp at he), ?_⟩)
  (refine Goes.step rfl (fun _ h₁_ => ?_); replace hF := Below.at_ hF h₁_; clear h₁_; rw [stepG_ret']; simp only [goes_go]; refine ⟨by (refine de_none ?_; intro e he; simp at he), ?_⟩)
  refine Goes.mono (Goes.stop (n := 0) (fun w₂ r₂ => ⟨rfl, .bool true, #[], ?_, by simp, hpost _ (Below.at_ hF r₂)⟩)) (by omega)
  simp [G, stepG, unwind, doReturn, results, Frame.at, base, Try.func3, Try.f3, seen, GStep.after]
end
end Go.Proofs.Ytngnkdedfcnfkaa

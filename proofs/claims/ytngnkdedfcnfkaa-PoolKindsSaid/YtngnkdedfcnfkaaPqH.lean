/-
  lantern/lanternlaw20.PoolKinds (function 6): its walks behind its call of Run. (Printed by tools/pqh_gen.py.)
-/
import Derived.Test.YtngnkdedfcnfkaaPqG
set_option linter.unusedSimpArgs false
set_option linter.unusedVariables false
namespace Go.Proofs.Ytngnkdedfcnfkaa
open Go Go.Conc Go.RowKit Go.Conc.Lib Go.ConcR.Gen Go.ConcN.Gen

/-- what the law leans on behind Run: its texts and the answers -/
structure FT (W : World) (ja : Option Addr) (J O : Nat) (z : Nat → ByteArray) (w : World) : Prop where
  below : Below W.heap.size W w
  src : SrcV W ja J W.heap.size (fun i => .string (z i))
  srcw : SrcV w ja J W.heap.size (fun i => .string (z i))
  out : ∀ i, i < J → w.cell? ⟨O, i, none⟩ = some (.int .i64 (z i).size)
theorem FT.at_ {W : World} {ja : Option Addr} {J O : Nat} {z : Nat → ByteArray} {w w₁ : World} (h : FT W ja J O z w) (r : AtRel w w₁) : FT W ja J O z w₁ := by
  obtain ⟨d, rfl⟩ := r
  exact ⟨Below.at_ h.below ⟨d, rfl⟩, h.src, ⟨h.srcw.nil, h.srcw.blk, h.srcw.cell, h.srcw.one⟩, h.out⟩
noncomputable def C66 : Code := match C65 with | .seq _ c => c | _ => .skip
noncomputable def L6l : Code := match C66 with | .seq (.seq _ (.block _ (.loop c))) _ => c | _ => .skip
noncomputable def C614 : Code := match C66 with | .seq _ c => c | _ => .skip
noncomputable def B6l : Code := match L6l with | .seq _ (.seq _ (.seq (.block _ c) _)) => c | _ => .skip
noncomputable def R11ops6 : Array Oper := match B6l with | .seq _ (.seq (.region _ ops _) _) => ops | _ => #[]
noncomputable def K611 : Code := match B6l with | .seq _ (.seq _ c) => c | _ => .skip
noncomputable def R13c6 : Code := match L6l with | .seq _ (.seq _ (.seq _ c)) => c | _ => .skip
section
variable {Shun : Loc → Prop} {B : Nat} {W : World}
set_option maxRecDepth 100000 in
set_option maxHeartbeats 4000000 in
/-- the drawn region 'l[i] != len(jobs[i])' -/
theorem drawn611 {a : Addr} {J cap O k : Nat} {z : Nat → ByteArray} {v1 v2 v3 v4 v5 v6 v8 v10 v11 v12 v13 v14 v15 v16 v17 v18 v19 v20 v21 v22 v23 v24 v25 v26 v27 v28 v29 v30 v31 v32 v33 v34 v35 v36 v37 v38 v39 v40 v41 v42 v43 v54 : Value} {K : List Item} {cs : List Frame} {Stop : Goroutine → World → Prop} {m0 : Nat} {tE : Value} (hk : k < J) (hS : ∀ a : Addr, a.block < W.heap.size → ¬ Shun (.cell a)) (hO : ∀ a : Addr, a.block = O → ¬ Shun (.cell a)) (hN : W.heap.size ≤ B) (hOB : O < B) (hbl : ∀ b : Addr, b.block = a.block → b.block < W.heap.size)
    (hend : ∀ w, FT W (some a) J O z w → Goes Try.prog true AtRel (DE (EvL Shun B)) Stop m0 (G ((base 6).at ⟨((.slice (some a) J cap) :: v1 :: v2 :: v3 :: v4 :: v5 :: v6 :: (.slice (some ⟨O, 0, none⟩) J J) :: v8 :: (.int .i64 k) :: v10 :: v11 :: v12 :: v13 :: v14 :: v15 :: v16 :: v17 :: v18 :: v19 :: v20 :: v21 :: v22 :: v23 :: v24 :: v25 :: v26 :: v27 :: v28 :: v29 :: v30 :: v31 :: v32 :: v33 :: v34 :: v35 :: v36 :: v37 :: v38 :: v39 :: v40 :: v41 :: v42 :: v43 :: (.slice (some ⟨O, 0, none⟩) J J) :: (.int .i64 k) :: (.pointer (some ⟨O, k, none⟩)) :: (.int .i64 (z k).size) :: (.slice (some a) J cap) :: (.int .i64 k) :: (.pointer (some (a.add k))) :: (.string (z k)) :: (.int .i64 (z k).size) :: (.bool false) :: v54 :: []).toArray, []⟩ (.inRegion R11ops6 [] :: K)) cs) w) :
    ∀ (l : List Nat) (l0 l1 l2 l3 l4 l5 l6 l7 l8 : Bool) (t44 t45 t46 t47 t48 t49 t50 t51 t52 : Value), Okl .any R11ops6 #[l0, l1, l2, l3, l4, l5, l6, l7, l8, false] l →
    (l0 = true → t44 = (.slice (some ⟨O, 0, none⟩) J J)) → (l1 = true → t45 = (.int .i64 k)) → (l2 = true → t46 = (.pointer (some ⟨O, k, none⟩)) ∧ l0 = true ∧ l1 = true) → (l3 = true → t47 = (.int .i64 (z k).size) ∧ l2 = true) → (l4 = true → t48 = (.slice (some a) J cap)) → (l5 = true → t49 = (.int .i64 k)) → (l6 = true → t50 = (.pointer (some (a.add k))) ∧ l4 = true ∧ l5 = true) → (l7 = true → t51 = (.string (z k)) ∧ l6 = true) → (l8 = true → t52 = (.int .i64 (z k).size) ∧ l7 = true) →
    ∀ w, FT W (some a) J O z w → Goes Try.prog true AtRel (DE (EvL Shun B)) Stop (m0 + l.length * 1) (G ((base 6).at ⟨((.slice (some a) J cap) :: v1 :: v2 :: v3 :: v4 :: v5 :: v6 :: (.slice (some ⟨O, 0, none⟩) J J) :: v8 :: (.int .i64 k) :: v10 :: v11 :: v12 :: v13 :: v14 :: v15 :: v16 :: v17 :: v18 :: v19 :: v20 :: v21 :: v22 :: v23 :: v24 :: v25 :: v26 :: v27 :: v28 :: v29 :: v30 :: v31 :: v32 :: v33 :: v34 :: v35 :: v36 :: v37 :: v38 :: v39 :: v40 :: v41 :: v42 :: v43 :: t44 :: t45 :: t46 :: t47 :: t48 :: t49 :: t50 :: t51 :: t52 :: tE :: v54 :: []).toArray, []⟩ (.inRegion R11ops6 l :: K)) cs) w := by
  have hk0 : (0 : Int) ≤ (k : Int) := by omega
  have hk1 : (k : Int) < (J : Int) := by omega
  intro l
  induction l with
  | nil =>
    intro l0 l1 l2 l3 l4 l5 l6 l7 l8 t44 t45 t46 t47 t48 t49 t50 t51 t52 hl
    exfalso
    have no : ∀ i, i ∉ Region.ready .any R11ops6 #[l0, l1, l2, l3, l4, l5, l6, l7, l8, false] := fun i hi => by
      have : Region.ready .any R11ops6 #[l0, l1, l2, l3, l4, l5, l6, l7, l8, false] = [] := hl
      rw [this] at hi; cases hi
    have h0 := no 0; have h1 := no 1; have h2 := no 2; have h3 := no 3; have h4 := no 4; have h5 := no 5; have h6 := no 6; have h7 := no 7; have h8 := no 8; have h9 := no 9
    clear no hl
    simp only [mem_ready] at h0 h1 h2 h3 h4 h5 h6 h7 h8 h9
    simp [R11ops6, B6l, L6l, C66, C65, C61, body6, Try.f6, Region.binds] at h0 h1 h4 h5
    subst h0 h1 h4 h5
    simp [R11ops6, B6l, L6l, C66, C65, C61, body6, Try.f6, Region.binds] at h2 h6
    subst h2 h6
    simp [R11ops6, B6l, L6l, C66, C65, C61, body6, Try.f6, Region.binds] at h3 h7
    subst h3 h7
    simp [R11ops6, B6l, L6l, C66, C65, C61, body6, Try.f6, Region.binds] at h8
    subst h8
    simp [R11ops6, B6l, L6l, C66, C65, C61, body6, Try.f6, Region.binds] at h9
  | cons i l ih =>
    intro l0 l1 l2 l3 l4 l5 l6 l7 l8 t44 t45 t46 t47 t48 t49 t50 t51 t52 hl g0 g1 g2 g3 g4 g5 g6 g7 g8 w hF
    obtain ⟨hi, hl⟩ := hl
    rw [mem_ready] at hi
    match i, hi, hl with
    | 0, hi, hl =>
      simp [R11ops6, B6l, L6l, C66, C65, C61, body6, Try.f6, Region.binds] at hi
      subst hi
      have hm := ih true l1 l2 l3 l4 l5 l6 l7 l8 (.slice (some ⟨O, 0, none⟩) J J) t45 t46 t47 t48 t49 t50 t51 t52 (by simpa using hl) (fun _ => rfl) g1 (fun h => ⟨(g2 h).1, rfl, (g2 h).2.2⟩) g3 g4 g5 g6 g7 g8
      refine Goes.mono (n := m0 + l.length * 1 + 1) ?_ (by simp only [List.length_cons]; omega)
      simp only [R11ops6, B6l, L6l, C66, C65, C61, body6, Try.f6, Option.getD_some]
      (refine Goes.step rfl (fun _ h₁_ => ?_); replace hF := FT.at_ hF h₁_; clear h₁_; refine goes_oper_k rfl rfl (by k_ne) (fun K_ hK_ => ?_); go_simp; refine hK_ _ _ ⟨?_, ?_⟩; (focus (refine de_none ?_; intro e he; have hm := mem_listed he; simp [go_sem, *] at hm)); clear hK_ K_; try w_num)
      exact hm _ hF
    | 1, hi, hl =>
      simp [R11ops6, B6l, L6l, C66, C65, C61, body6, Try.f6, Region.binds] at hi
      subst hi
      have hm := ih l0 true l2 l3 l4 l5 l6 l7 l8 t44 (.int .i64 k) t46 t47 t48 t49 t50 t51 t52 (by simpa using hl) g0 (fun _ => rfl) (fun h => ⟨(g2 h).1, (g2 h).2.1, rfl⟩) g3 g4 g5 g6 g7 g8
      refine Goes.mono (n := m0 + l.length * 1 + 1) ?_ (by simp only [List.length_cons]; omega)
      simp only [R11ops6, B6l, L6l, C66, C65, C61, body6, Try.f6, Option.getD_some]
      (refine Goes.step rfl (fun _ h₁_ => ?_); replace hF := FT.at_ hF h₁_; clear h₁_; refine goes_oper_k rfl rfl (by k_ne) (fun K_ hK_ => ?_); go_simp; refine hK_ _ _ ⟨?_, ?_⟩; (focus (refine de_none ?_; intro e he; have hm := mem_listed he; simp [go_sem, *] at hm)); clear hK_ K_; try w_num)
      exact hm _ hF
    | 2, hi, hl =>
      simp [R11ops6, B6l, L6l, C66, C65, C61, body6, Try.f6, Region.binds] at hi
      obtain ⟨rfl, hd⟩ := hi
      have k0 : l0 = true := by cases e : l0 with | true => rfl | false => rw [e] at hd; simp at hd
      have k1 : l1 = true := by cases e : l1 with | true => rfl | false => rw [e] at hd; simp at hd
      have hm := ih l0 l1 true l3 l4 l5 l6 l7 l8 t44 t45 (.pointer (some ⟨O, k, none⟩)) t47 t48 t49 t50 t51 t52 (by simpa using hl) g0 g1 (fun _ => ⟨rfl, k0, k1⟩) (fun h => ⟨(g3 h).1, rfl⟩) g4 g5 g6 g7 g8
      obtain rfl := g0 k0
      obtain rfl := g1 k1
      refine Goes.mono (n := m0 + l.length * 1 + 1) ?_ (by simp only [List.length_cons]; omega)
      simp only [R11ops6, B6l, L6l, C66, C65, C61, body6, Try.f6, Option.getD_some]
      (refine Goes.step rfl (fun _ h₁_ => ?_); replace hF := FT.at_ hF h₁_; clear h₁_; refine goes_oper_k rfl rfl (by k_ne) (fun K_ hK_ => ?_); go_simp; refine hK_ _ _ ⟨?_, ?_⟩; (focus (refine de_none ?_; intro e he; have hm := mem_listed he; simp [go_sem, *] at hm)); clear hK_ K_; try w_num)
      exact hm _ hF
    | 3, hi, hl =>
      simp [R11ops6, B6l, L6l, C66, C65, C61, body6, Try.f6, Region.binds] at hi
      obtain ⟨rfl, hd⟩ := hi
      have k2 : l2 = true := by cases e : l2 with | true => rfl | false => rw [e] at hd; simp at hd
      have hm := ih l0 l1 l2 true l4 l5 l6 l7 l8 t44 t45 t46 (.int .i64 (z k).size) t48 t49 t50 t51 t52 (by simpa using hl) g0 g1 g2 (fun _ => ⟨rfl, k2⟩) g4 g5 g6 g7 g8
      obtain ⟨rfl, k0, k1⟩ := g2 k2
      obtain rfl := g0 k0
      obtain rfl := g1 k1
      refine Goes.mono (n := m0 + l.length * 1 + 1) ?_ (by simp only [List.length_cons]; omega)
      simp only [R11ops6, B6l, L6l, C66, C65, C61, body6, Try.f6, Option.getD_some]
      (refine Goes.step rfl (fun _ h₁_ => ?_); replace hF := FT.at_ hF h₁_; clear h₁_; refine goes_oper_k rfl rfl (by decide) (fun K_ hK_ => ?_); have hf0_ := (hF.out k hk); go_simp; refine hK_ _ _ ⟨de_of (fun e he => ?_), ?_⟩; (focus (have hm := mem_listed he; simp [go_sem, storedEv, *] at hm; try (subst hm; exact (evL_cell _ _ (hO _ rfl) (by simp; omega))))); clear hK_ K_ hf0_)
      exact hm _ hF
    | 4, hi, hl =>
      simp [R11ops6, B6l, L6l, C66, C65, C61, body6, Try.f6, Region.binds] at hi
      subst hi
      have hm := ih l0 l1 l2 l3 true l5 l6 l7 l8 t44 t45 t46 t47 (.slice (some a) J cap) t49 t50 t51 t52 (by simpa using hl) g0 g1 g2 g3 (fun _ => rfl) g5 (fun h => ⟨(g6 h).1, rfl, (g6 h).2.2⟩) g7 g8
      refine Goes.mono (n := m0 + l.length * 1 + 1) ?_ (by simp only [List.length_cons]; omega)
      simp only [R11ops6, B6l, L6l, C66, C65, C61, body6, Try.f6, Option.getD_some]
      (refine Goes.step rfl (fun _ h₁_ => ?_); replace hF := FT.at_ hF h₁_; clear h₁_; refine goes_oper_k rfl rfl (by k_ne) (fun K_ hK_ => ?_); go_simp; refine hK_ _ _ ⟨?_, ?_⟩; (focus (refine de_none ?_; intro e he; have hm := mem_listed he; simp [go_sem, *] at hm)); clear hK_ K_; try w_num)
      exact hm _ hF
    | 5, hi, hl =>
      simp [R11ops6, B6l, L6l, C66, C65, C61, body6, Try.f6, Region.binds] at hi
      subst hi
      have hm := ih l0 l1 l2 l3 l4 true l6 l7 l8 t44 t45 t46 t47 t48 (.int .i64 k) t50 t51 t52 (by simpa using hl) g0 g1 g2 g3 g4 (fun _ => rfl) (fun h => ⟨(g6 h).1, (g6 h).2.1, rfl⟩) g7 g8
      refine Goes.mono (n := m0 + l.length * 1 + 1) ?_ (by simp only [List.length_cons]; omega)
      simp only [R11ops6, B6l, L6l, C66, C65, C61, body6, Try.f6, Option.getD_some]
      (refine Goes.step rfl (fun _ h₁_ => ?_); replace hF := FT.at_ hF h₁_; clear h₁_; refine goes_oper_k rfl rfl (by k_ne) (fun K_ hK_ => ?_); go_simp; refine hK_ _ _ ⟨?_, ?_⟩; (focus (refine de_none ?_; intro e he; have hm := mem_listed he; simp [go_sem, *] at hm)); clear hK_ K_; try w_num)
      exact hm _ hF
    | 6, hi, hl =>
      simp [R11ops6, B6l, L6l, C66, C65, C61, body6, Try.f6, Region.binds] at hi
      obtain ⟨rfl, hd⟩ := hi
      have k4 : l4 = true := by cases e : l4 with | true => rfl | false => rw [e] at hd; simp at hd
      have k5 : l5 = true := by cases e : l5 with | true => rfl | false => rw [e] at hd; simp at hd
      have hm := ih l0 l1 l2 l3 l4 l5 true l7 l8 t44 t45 t46 t47 t48 t49 (.pointer (some (a.add k))) t51 t52 (by simpa using hl) g0 g1 g2 g3 g4 g5 (fun _ => ⟨rfl, k4, k5⟩) (fun h => ⟨(g7 h).1, rfl⟩) g8
      obtain rfl := g4 k4
      obtain rfl := g5 k5
      refine Goes.mono (n := m0 + l.length * 1 + 1) ?_ (by simp only [List.length_cons]; omega)
      simp only [R11ops6, B6l, L6l, C66, C65, C61, body6, Try.f6, Option.getD_some]
      (refine Goes.step rfl (fun _ h₁_ => ?_); replace hF := FT.at_ hF h₁_; clear h₁_; refine goes_oper_k rfl rfl (by k_ne) (fun K_ hK_ => ?_); go_simp; refine hK_ _ _ ⟨?_, ?_⟩; (focus (refine de_none ?_; intro e he; have hm := mem_listed he; simp [go_sem, *] at hm)); clear hK_ K_; try w_num)
      exact hm _ hF
    | 7, hi, hl =>
      simp [R11ops6, B6l, L6l, C66, C65, C61, body6, Try.f6, Region.binds] at hi
      obtain ⟨rfl, hd⟩ := hi
      have k6 : l6 = true := by cases e : l6 with | true => rfl | false => rw [e] at hd; simp at hd
      have hm := ih l0 l1 l2 l3 l4 l5 l6 true l8 t44 t45 t46 t47 t48 t49 t50 (.string (z k)) t52 (by simpa using hl) g0 g1 g2 g3 g4 g5 g6 (fun _ => ⟨rfl, k6⟩) (fun h => ⟨(g8 h).1, rfl⟩)
      obtain ⟨rfl, k4, k5⟩ := g6 k6
      obtain rfl := g4 k4
      obtain rfl := g5 k5
      refine Goes.mono (n := m0 + l.length * 1 + 1) ?_ (by simp only [List.length_cons]; omega)
      simp only [R11ops6, B6l, L6l, C66, C65, C61, body6, Try.f6, Option.getD_some]
      (refine Goes.step rfl (fun _ h₁_ => ?_); replace hF := FT.at_ hF h₁_; clear h₁_; refine goes_oper_k rfl rfl (by decide) (fun K_ hK_ => ?_); have hf0_ := (hF.srcw.cell a rfl k hk); go_simp; refine hK_ _ _ ⟨de_of (fun e he => ?_), ?_⟩; (focus (have hm := mem_listed he; simp [go_sem, storedEv, *] at hm; try (subst hm; exact (evL_cell _ _ (hS _ (hbl _ (addBlock _ _))) (by have := hbl (a.add k) (addBlock _ _); omega))))); clear hK_ K_ hf0_)
      exact hm _ hF
    | 8, hi, hl =>
      simp [R11ops6, B6l, L6l, C66, C65, C61, body6, Try.f6, Region.binds] at hi
      obtain ⟨rfl, hd⟩ := hi
      have k7 : l7 = true := by cases e : l7 with | true => rfl | false => rw [e] at hd; simp at hd
      have hm := ih l0 l1 l2 l3 l4 l5 l6 l7 true t44 t45 t46 t47 t48 t49 t50 t51 (.int .i64 (z k).size) (by simpa using hl) g0 g1 g2 g3 g4 g5 g6 g7 (fun _ => ⟨rfl, k7⟩)
      obtain ⟨rfl, k6⟩ := g7 k7
      obtain ⟨rfl, k4, k5⟩ := g6 k6
      obtain rfl := g4 k4
      obtain rfl := g5 k5
      refine Goes.mono (n := m0 + l.length * 1 + 1) ?_ (by simp only [List.length_cons]; omega)
      simp only [R11ops6, B6l, L6l, C66, C65, C61, body6, Try.f6, Option.getD_some]
      (refine Goes.step rfl (fun _ h₁_ => ?_); replace hF := FT.at_ hF h₁_; clear h₁_; refine goes_oper_k rfl rfl (by k_ne) (fun K_ hK_ => ?_); have hf0_ := (events_len_text (z k)); go_simp; refine hK_ _ _ ⟨?_, ?_⟩; (focus (refine de_none ?_; intro e he; have hm := mem_listed he; simp [go_sem, *] at hm)); clear hK_ K_ hf0_; try w_num)
      exact hm _ hF
    | 9, hi, hl =>
      simp [R11ops6, B6l, L6l, C66, C65, C61, body6, Try.f6, Region.binds] at hi
      have k3 : l3 = true := by cases e : l3 with | true => rfl | false => rw [e] at hi; simp at hi
      have k8 : l8 = true := by cases e : l8 with | true => rfl | false => rw [e] at hi; simp at hi
      obtain ⟨rfl, k2⟩ := g3 k3
      obtain ⟨rfl, k0, k1⟩ := g2 k2
      obtain rfl := g0 k0
      obtain rfl := g1 k1
      obtain ⟨rfl, k7⟩ := g8 k8
      obtain ⟨rfl, k6⟩ := g7 k7
      obtain ⟨rfl, k4, k5⟩ := g6 k6
      obtain rfl := g4 k4
      obtain rfl := g5 k5
      subst k0 k1 k2 k3 k4 k5 k6 k7 k8
      have hnil : l = [] := by
        cases l with
        | nil => rfl
        | cons i l =>
          have := hl.1
          rw [mem_ready] at this
          obtain ⟨h1, o, ho, _⟩ := this
          have hlt : i < 10 := (Array.getElem?_eq_some_iff.1 ho).1
          exfalso
          revert h1
          match i, hlt with
          | 0, _ | 1, _ | 2, _ | 3, _ | 4, _ | 5, _ | 6, _ | 7, _ | 8, _ | 9, _ => simp
      subst hnil
      refine Goes.mono (n := m0 + 1) ?_ (by simp only [List.length_cons]; omega)
      simp only [R11ops6, B6l, L6l, C66, C65, C61, body6, Try.f6, Option.getD_some]
      (refine Goes.step rfl (fun _ h₁_ => ?_); replace hF := FT.at_ hF h₁_; clear h₁_; refine goes_oper_k rfl rfl (by k_ne) (fun K_ hK_ => ?_); go_simp; refine hK_ _ _ ⟨?_, ?_⟩; (focus (refine de_none ?_; intro e he; have hm := mem_listed he; simp [go_sem, *] at hm)); clear hK_ K_; try w_num)
      exact hend _ hF
    | n + 10, hi, hl => simp [R11ops6, B6l, L6l, C66, C65, C61, body6, Try.f6] at hi

set_option maxRecDepth 100000 in
set_option maxHeartbeats 4000000 in
/-- behind the test of one answer -/
theorem mid611 {Post : Value → World → Prop} {a : Addr} {J cap O k m : Nat} {z : Nat → ByteArray} (hJ : J ≤ 8192) (hk : k < J) {v1 v2 v3 v4 v5 v6 v8 v9 v10 v11 v12 v13 v14 v15 v16 v17 v18 v19 v20 v21 v22 v23 v24 v25 v26 v27 v28 v29 v30 v31 v32 v33 v34 v35 v36 v37 v38 v39 v42 v43 v44 v45 v46 v47 v48 v49 v50 v51 v52 v53 v54 : Value} {w : World} (hF : FT W (some a) J O z w)
    (next : ∀ {v1 v2 v3 v4 v5 v6 v8 v9 v10 v11 v12 v13 v14 v15 v16 v17 v18 v19 v20 v21 v22 v23 v24 v25 v26 v27 v28 v29 v30 v31 v32 v33 v34 v35 v36 v37 v38 v39 v42 v43 v44 v45 v46 v47 v48 v49 v50 v51 v52 v53 v54 : Value} {w : World}, FT W (some a) J O z w → Goes Try.prog true AtRel (DE (EvL Shun B)) (AtEnd Try.prog Shun B Post) m (G ((base 6).at ⟨((.slice (some a) J cap) :: v1 :: v2 :: v3 :: v4 :: v5 :: v6 :: (.slice (some ⟨O, 0, none⟩) J J) :: v8 :: v9 :: v10 :: v11 :: v12 :: v13 :: v14 :: v15 :: v16 :: v17 :: v18 :: v19 :: v20 :: v21 :: v22 :: v23 :: v24 :: v25 :: v26 :: v27 :: v28 :: v29 :: v30 :: v31 :: v32 :: v33 :: v34 :: v35 :: v36 :: v37 :: v38 :: v39 :: (.int .i64 J) :: (.int .i64 ((k : Int) + 1)) :: v42 :: v43 :: v44 :: v45 :: v46 :: v47 :: v48 :: v49 :: v50 :: v51 :: v52 :: v53 :: v54 :: []).toArray, []⟩ [.code L6l, .inLoop L6l, .inBlock 0, .code C614]) []) w) :
    Goes Try.prog true AtRel (DE (EvL Shun B)) (AtEnd Try.prog Shun B Post) (m + 20) (G ((base 6).at ⟨((.slice (some a) J cap) :: v1 :: v2 :: v3 :: v4 :: v5 :: v6 :: (.slice (some ⟨O, 0, none⟩) J J) :: v8 :: v9 :: v10 :: v11 :: v12 :: v13 :: v14 :: v15 :: v16 :: v17 :: v18 :: v19 :: v20 :: v21 :: v22 :: v23 :: v24 :: v25 :: v26 :: v27 :: v28 :: v29 :: v30 :: v31 :: v32 :: v33 :: v34 :: v35 :: v36 :: v37 :: v38 :: v39 :: (.int .i64 J) :: (.int .i64 k) :: v42 :: v43 :: v44 :: v45 :: v46 :: v47 :: v48 :: v49 :: v50 :: v51 :: v52 :: (.bool false) :: v54 :: []).toArray, []⟩ (.inRegion R11ops6 [] :: [.code K611, .inBlock 1, .code R13c6, .inLoop L6l, .inBlock 0, .code C614])) []) w := by
  (refine Goes.step rfl (fun _ h₁_ => ?_); replace hF := FT.at_ hF h₁_; clear h₁_; rw [stepG_region_end]; simp only [goes_go]; refine ⟨by (refine de_none ?_; intro e he; simp at he), ?_⟩)
  simp only [K611, B6l, R13c6, L6l, C66, C65, C61, body6, Try.f6, Option.getD_some]
  (refine Goes.step rfl (fun _ h₁_ => ?_); replace hF := FT.at_ hF h₁_; clear h₁_; rw [stepG_cond (t := false) rfl]; simp only [goes_go, if_true, if_false, Bool.false_eq_true, ↓reduceIte]; refine ⟨by (refine de_none ?_; intro e he; simp at he), ?_⟩)
  (refine Goes.step rfl (fun _ h₁_ => ?_); replace hF := FT.at_ hF h₁_; clear h₁_; rw [stepG_skip]; simp only [goes_go]; refine ⟨by (refine de_none ?_; intro e he; simp at he), ?_⟩)
  (refine Goes.step rfl (fun _ h₁_ => ?_); replace hF := FT.at_ hF h₁_; clear h₁_; rw [stepG_inBlock]; simp only [goes_go]; refine ⟨by (refine de_none ?_; intro e he; simp at he), ?_⟩)
  (refine Goes.step rfl (fun _ h₁_ => ?_); replace hF := FT.at_ hF h₁_; clear h₁_; rw [stepG_region]; simp only [goes_go, List.size_toArray, List.length_cons, List.length_nil, Nat.reduceAdd, Nat.zero_add, List.range, List.range.loop]; refine ⟨by (refine de_none ?_; intro e he; simp at he), ?_⟩)
  (refine Goes.step rfl (fun _ h₁_ => ?_); replace hF := FT.at_ hF h₁_; clear h₁_; refine goes_oper_k rfl rfl (by k_ne) (fun K_ hK_ => ?_); go_simp; refine hK_ _ _ ⟨?_, ?_⟩; (focus (refine de_none ?_; intro e he; have hm := mem_listed he; simp [go_sem, *] at hm)); clear hK_ K_; try w_num)
  (refine Goes.step rfl (fun _ h₁_ => ?_); replace hF := FT.at_ hF h₁_; clear h₁_; refine goes_oper_k rfl rfl (by k_ne) (fun K_ hK_ => ?_); go_simp; refine hK_ _ _ ⟨?_, ?_⟩; (focus (refine de_none ?_; intro e he; have hm := mem_listed he; simp [go_sem, *] at hm)); clear hK_ K_; try w_num)
  (refine Goes.step rfl (fun _ h₁_ => ?_); replace hF := FT.at_ hF h₁_; clear h₁_; rw [stepG_region_end]; simp only [goes_go]; refine ⟨by (refine de_none ?_; intro e he; simp at he), ?_⟩)
  (refine Goes.step rfl (fun _ h₁_ => ?_); replace hF := FT.at_ hF h₁_; clear h₁_; rw [stepG_inLoop]; simp only [goes_go]; refine ⟨by (refine de_none ?_; intro e he; simp at he), ?_⟩)
  have hn := @next
  simp only [L6l, C66, C65, C61, body6, Try.f6, Option.getD_some] at hn
  refine Goes.mono (n := m) ?_ (by omega)
  have hw : IntKind.i64.wrap ((k : Int) + 1) = (k : Int) + 1 := by rw [IntKind.wrap_i64]; omega
  simp only [hw]
  exact hn hF

set_option maxRecDepth 100000 in
set_option maxHeartbeats 4000000 in
/-- all answers are what they should be -/
theorem loop6 {Post : Value → World → Prop} (hpost : ∀ w, Below W.heap.size W w → Post (.bool true) w) {ja : Option Addr} {J cap O : Nat} {z : Nat → ByteArray} (hJ : J ≤ 8192) (hS : ∀ a : Addr, a.block < W.heap.size → ¬ Shun (.cell a)) (hO : ∀ a : Addr, a.block = O → ¬ Shun (.cell a)) (hN : W.heap.size ≤ B) (hOB : O < B) :
    ∀ (d k : Nat), k + d = J → ∀ {v1 v2 v3 v4 v5 v6 v8 v9 v10 v11 v12 v13 v14 v15 v16 v17 v18 v19 v20 v21 v22 v23 v24 v25 v26 v27 v28 v29 v30 v31 v32 v33 v34 v35 v36 v37 v38 v39 v42 v43 v44 v45 v46 v47 v48 v49 v50 v51 v52 v53 v54 : Value} {w : World}, FT W ja J O z w →
      Goes Try.prog true AtRel (DE (EvL Shun B)) (AtEnd Try.prog Shun B Post) (20 + d * 80) (G ((base 6).at ⟨((.slice ja J cap) :: v1 :: v2 :: v3 :: v4 :: v5 :: v6 :: (.slice (some ⟨O, 0, none⟩) J J) :: v8 :: v9 :: v10 :: v11 :: v12 :: v13 :: v14 :: v15 :: v16 :: v17 :: v18 :: v19 :: v20 :: v21 :: v22 :: v23 :: v24 :: v25 :: v26 :: v27 :: v28 :: v29 :: v30 :: v31 :: v32 :: v33 :: v34 :: v35 :: v36 :: v37 :: v38 :: v39 :: (.int .i64 J) :: (.int .i64 k) :: v42 :: v43 :: v44 :: v45 :: v46 :: v47 :: v48 :: v49 :: v50 :: v51 :: v52 :: v53 :: v54 :: []).toArray, []⟩ [.code L6l, .inLoop L6l, .inBlock 0, .code C614]) []) w := by
  intro d
  induction d with
  | zero =>
    intro k hk v1 v2 v3 v4 v5 v6 v8 v9 v10 v11 v12 v13 v14 v15 v16 v17 v18 v19 v20 v21 v22 v23 v24 v25 v26 v27 v28 v29 v30 v31 v32 v33 v34 v35 v36 v37 v38 v39 v42 v43 v44 v45 v46 v47 v48 v49 v50 v51 v52 v53 v54 w hF
    have hd : decide ((k : Int) < (J : Int)) = false := decide_eq_false (by omega)
    have hd2 : decide (k < J) = false := decide_eq_false (by omega)
    have hd3 : ¬ k < J := by omega
    simp only [L6l, C66, C65, C61, body6, Try.f6, Option.getD_some]
    (refine Goes.step rfl (fun _ h₁_ => ?_); replace hF := FT.at_ hF h₁_; clear h₁_; rw [stepG_seq]; simp only [goes_go]; refine ⟨by (refine de_none ?_; intro e he; simp at he), ?_⟩)
    (refine Goes.step rfl (fun _ h₁_ => ?_); replace hF := FT.at_ hF h₁_; clear h₁_; rw [stepG_region]; simp only [goes_go, List.size_toArray, List.length_cons, List.length_nil, Nat.reduceAdd, Nat.zero_add, List.range, List.range.loop]; refine ⟨by (refine de_none ?_; intro e he; simp at he), ?_⟩)
    (refine Goes.step rfl (fun _ h₁_ => ?_); replace hF := FT.at_ hF h₁_; clear h₁_; refine goes_oper_k rfl rfl (by k_ne) (fun K_ hK_ => ?_); go_simp; refine hK_ _ _ ⟨?_, ?_⟩; (focus (refine de_none ?_; intro e he; have hm := mem_listed he; simp [go_sem, *] at hm)); clear hK_ K_; try w_num)
    (refine Goes.step rfl (fun _ h₁_ => ?_); replace hF := FT.at_ hF h₁_; clear h₁_; rw [stepG_region_end]; simp only [goes_go]; refine ⟨by (refine de_none ?_; intro e he; simp at he), ?_⟩)
    (refine Goes.step rfl (fun _ h₁_ => ?_); replace hF := FT.at_ hF h₁_; clear h₁_; rw [stepG_seq]; simp only [goes_go]; refine ⟨by (refine de_none ?_; intro e he; simp at he), ?_⟩)
    (refine Goes.step rfl (fun _ h₁_ => ?_); replace hF := FT.at_ hF h₁_; clear h₁_; rw [stepG_cond (t := false) rfl]; simp only [goes_go, if_true, if_false, Bool.false_eq_true, ↓reduceIte]; refine ⟨by (refine de_none ?_; intro e he; simp at he), ?_⟩)
    (refine Goes.step rfl (fun _ h₁_ => ?_); replace hF := FT.at_ hF h₁_; clear h₁_; refine goes_exit rfl ?_; refine ⟨by (refine de_none ?_; intro e he; simp at he), ?_⟩)
    simp only [C614, C66, C65, C61, body6, Try.f6, Option.getD_some]
    (refine Goes.step rfl (fun _ h₁_ => ?_); replace hF := FT.at_ hF h₁_; clear h₁_; rw [stepG_seq]; simp only [goes_go]; refine ⟨by (refine de_none ?_; intro e he; simp at he), ?_⟩)
    (refine Goes.step rfl (fun _ h₁_ => ?_); replace hF := FT.at_ hF h₁_; clear h₁_; rw [stepG_region]; simp only [goes_go, List.size_toArray, List.length_cons, List.length_nil, Nat.reduceAdd, Nat.zero_add, List.range, List.range.loop]; refine ⟨by (refine de_none ?_; intro e he; simp at he), ?_⟩)
    (refine Goes.step rfl (fun _ h₁_ => ?_); replace hF := FT.at_ hF h₁_; clear h₁_; refine goes_oper_k rfl rfl (by k_ne) (fun K_ hK_ => ?_); go_simp; refine hK_ _ _ ⟨?_, ?_⟩; (focus (refine de_none ?_; intro e he; have hm := mem_listed he; simp [go_sem, *] at hm)); clear hK_ K_; try w_num)
    (refine Goes.step rfl (fun _ h₁_ => ?_); replace hF := FT.at_ hF h₁_; clear h₁_; rw [stepG_region_end]; simp only [goes_go]; refine ⟨by (refine de_none ?_; intro e he; simp at he), ?_⟩)
    (refine Goes.step rfl (fun _ h₁_ => ?_); replace hF := FT.at_ hF h₁_; clear h₁_; rw [stepG_ret']; simp only [goes_go]; refine ⟨by (refine de_none ?_; intro e he; simp at he), ?_⟩)
    refine Goes.mono (Goes.stop (n := 0) (fun w₂ r₂ => ⟨rfl, .bool true, #[], ?_, by simp, hpost _ (Below.at_ hF.below r₂)⟩)) (by omega)
    simp [G, stepG, unwind, doReturn, results, Frame.at, base, Try.func6, Try.f6, seen, GStep.after]
  | succ d ih =>
    intro k hk v1 v2 v3 v4 v5 v6 v8 v9 v10 v11 v12 v13 v14 v15 v16 v17 v18 v19 v20 v21 v22 v23 v24 v25 v26 v27 v28 v29 v30 v31 v32 v33 v34 v35 v36 v37 v38 v39 v42 v43 v44 v45 v46 v47 v48 v49 v50 v51 v52 v53 v54 w hF
    have hkJ : k < J := by omega
    have hd : decide ((k : Int) < (J : Int)) = true := decide_eq_true (by omega)
    obtain ⟨a, rfl⟩ : ∃ a, ja = some a := by
      cases ja with
      | none => exact absurd (hF.src.nil rfl) (by omega)
      | some a => exact ⟨a, rfl⟩
    have hbl : ∀ b : Addr, b.block = a.block → b.block < W.heap.size := fun b e => by rw [e]; exact hF.src.blk a rfl (by omega)
    refine Goes.mono (n := 20 + d * 80 + 20 + 10 + 24) ?_ (by omega)
    simp only [L6l, C66, C65, C61, body6, Try.f6, Option.getD_some]
    (refine Goes.step rfl (fun _ h₁_ => ?_); replace hF := FT.at_ hF h₁_; clear h₁_; rw [stepG_seq]; simp only [goes_go]; refine ⟨by (refine de_none ?_; intro e he; simp at he), ?_⟩)
    (refine Goes.step rfl (fun _ h₁_ => ?_); replace hF := FT.at_ hF h₁_; clear h₁_; rw [stepG_region]; simp only [goes_go, List.size_toArray, List.length_cons, List.length_nil, Nat.reduceAdd, Nat.zero_add, List.range, List.range.loop]; refine ⟨by (refine de_none ?_; intro e he; simp at he), ?_⟩)
    (refine Goes.step rfl (fun _ h₁_ => ?_); replace hF := FT.at_ hF h₁_; clear h₁_; refine goes_oper_k rfl rfl (by k_ne) (fun K_ hK_ => ?_); go_simp; refine hK_ _ _ ⟨?_, ?_⟩; (focus (refine de_none ?_; intro e he; have hm := mem_listed he; simp [go_sem, *] at hm)); clear hK_ K_; try w_num)
    (refine Goes.step rfl (fun _ h₁_ => ?_); replace hF := FT.at_ hF h₁_; clear h₁_; rw [stepG_region_end]; simp only [goes_go]; refine ⟨by (refine de_none ?_; intro e he; simp at he), ?_⟩)
    (refine Goes.step rfl (fun _ h₁_ => ?_); replace hF := FT.at_ hF h₁_; clear h₁_; rw [stepG_seq]; simp only [goes_go]; refine ⟨by (refine de_none ?_; intro e he; simp at he), ?_⟩)
    (refine Goes.step rfl (fun _ h₁_ => ?_); replace hF := FT.at_ hF h₁_; clear h₁_; rw [stepG_cond (t := true) rfl]; simp only [goes_go, if_true, if_false, Bool.false_eq_true, ↓reduceIte]; refine ⟨by (refine de_none ?_; intro e he; simp at he), ?_⟩)
    (refine Goes.step rfl (fun _ h₁_ => ?_); replace hF := FT.at_ hF h₁_; clear h₁_; rw [stepG_skip]; simp only [goes_go]; refine ⟨by (refine de_none ?_; intro e he; simp at he), ?_⟩)
    (refine Goes.step rfl (fun _ h₁_ => ?_); replace hF := FT.at_ hF h₁_; clear h₁_; rw [stepG_seq]; simp only [goes_go]; refine ⟨by (refine de_none ?_; intro e he; simp at he), ?_⟩)
    (refine Goes.step rfl (fun _ h₁_ => ?_); replace hF := FT.at_ hF h₁_; clear h₁_; rw [stepG_block]; simp only [goes_go]; refine ⟨by (refine de_none ?_; intro e he; simp at he), ?_⟩)
    (refine Goes.step rfl (fun _ h₁_ => ?_); replace hF := FT.at_ hF h₁_; clear h₁_; rw [stepG_seq]; simp only [goes_go]; refine ⟨by (refine de_none ?_; intro e he; simp at he), ?_⟩)
    (refine Goes.step rfl (fun _ h₁_ => ?_); replace hF := FT.at_ hF h₁_; clear h₁_; rw [stepG_region]; simp only [goes_go, List.size_toArray, List.length_cons, List.length_nil, Nat.reduceAdd, Nat.zero_add, List.range, List.range.loop]; refine ⟨by (refine de_none ?_; intro e he; simp at he), ?_⟩)
    (refine Goes.step rfl (fun _ h₁_ => ?_); replace hF := FT.at_ hF h₁_; clear h₁_; refine goes_oper_k rfl rfl (by k_ne) (fun K_ hK_ => ?_); go_simp; refine hK_ _ _ ⟨?_, ?_⟩; (focus (refine de_none ?_; intro e he; have hm := mem_listed he; simp [go_sem, *] at hm)); clear hK_ K_; try w_num)
    (refine Goes.step rfl (fun _ h₁_ => ?_); replace hF := FT.at_ hF h₁_; clear h₁_; refine goes_oper_k rfl rfl (by k_ne) (fun K_ hK_ => ?_); go_simp; refine hK_ _ _ ⟨?_, ?_⟩; (focus (refine de_none ?_; intro e he; have hm := mem_listed he; simp [go_sem, *] at hm)); clear hK_ K_; try w_num)
    (refine Goes.step rfl (fun _ h₁_ => ?_); replace hF := FT.at_ hF h₁_; clear h₁_; rw [stepG_region_end]; simp only [goes_go]; refine ⟨by (refine de_none ?_; intro e he; simp at he), ?_⟩)
    (refine Goes.step rfl (fun _ h₁_ => ?_); replace hF := FT.at_ hF h₁_; clear h₁_; rw [stepG_seq]; simp only [goes_go]; refine ⟨by (refine de_none ?_; intro e he; simp at he), ?_⟩)
    (refine Goes.step rfl (fun _ h₁_ => ?_); replace hF := FT.at_ hF h₁_; clear h₁_)
    rename_i w₁
    rw [stepG_region_draw]
    refine ⟨fun e he => by simp at he, ?_⟩
    have hok := okl_schedule mixed R11ops6 (w₁.tape w₁.drawn (.order ((base 6).fn) 11))
    have hlen := okl_len0 hok
    have hsz : R11ops6.size = 10 := rfl
    rw [hsz] at hlen
    have hi : _ := fun {v1 v2 v3 v4 v5 v6 v8 v9 v10 v11 v12 v13 v14 v15 v16 v17 v18 v19 v20 v21 v22 v23 v24 v25 v26 v27 v28 v29 v30 v31 v32 v33 v34 v35 v36 v37 v38 v39 v42 v43 v44 v45 v46 v47 v48 v49 v50 v51 v52 v53 v54 : Value} {w : World} => @ih (k + 1) (by omega) v1 v2 v3 v4 v5 v6 v8 v9 v10 v11 v12 v13 v14 v15 v16 v17 v18 v19 v20 v21 v22 v23 v24 v25 v26 v27 v28 v29 v30 v31 v32 v33 v34 v35 v36 v37 v38 v39 v42 v43 v44 v45 v46 v47 v48 v49 v50 v51 v52 v53 v54 w
    have ec : (((k + 1 : Nat)) : Int) = (k : Int) + 1 := by omega
    simp only [ec] at hi
    refine Goes.mono (drawn611 (tE := v53) (m0 := 20 + d * 80 + 20) hkJ hS hO hN hOB hbl (fun w hF => mid611 (v53 := undef) hJ hkJ hF hi) _ false false false false false false false false false _ _ _ _ _ _ _ _ _ hok (by simp) (by simp) (by simp) (by simp) (by simp) (by simp) (by simp) (by simp) (by simp) _ (hF.at_ ⟨_, rfl⟩)) (by omega)

set_option maxRecDepth 100000 in
set_option maxHeartbeats 4000000 in
/-- Run has answered -/
theorem good6 {Post : Value → World → Prop} (hpost : ∀ w, Below W.heap.size W w → Post (.bool true) w) {n : Int} {ja ta : Option Addr} {J cap tl tc : Nat} {j1 t1 v12 v14 v16 v19 v20 v21 v22 v23 v24 : Value} {O : Nat} {z : Nat → ByteArray} (hJ : J ≤ 8192) (hS : ∀ a : Addr, a.block < W.heap.size → ¬ Shun (.cell a)) (hO : ∀ a : Addr, a.block = O → ¬ Shun (.cell a)) (hN : W.heap.size ≤ B) (hOB : O < B) {w : World} (hF : FT W ja J O z w) :
    Goes Try.prog true AtRel (DE (EvL Shun B)) (AtEnd Try.prog Shun B Post) (20 + J * 80 + 60) (G ((base 6).at ((a65 (.slice ja J cap) (.int .i64 n) (.slice ta tl tc) j1 t1 v12 v14 v16 v19 v20 v21 v22 v23 v24 J).put ((R5ops6[11]?).bind (·.dst)) (.tuple #[.slice (some ⟨O, 0, none⟩) J J, .int .i64 0])) (.inRegion R5ops6 [12, 13, 14, 15, 16] :: [.code C65])) []) w := by
  have e : (R5ops6[11]?).bind (·.dst) = some 27 := rfl
  rw [e]
  simp only [a65, R5ops6, C65, C61, body6, Try.f6, Option.getD_some, List.replicate, Act.put, List.setIfInBounds_toArray, List.set_cons_succ, List.set_cons_zero]
  (refine Goes.step rfl (fun _ h₁_ => ?_); replace hF := FT.at_ hF h₁_; clear h₁_; refine goes_oper_k rfl rfl (by k_ne) (fun K_ hK_ => ?_); go_simp; refine hK_ _ _ ⟨?_, ?_⟩; (focus (refine de_none ?_; intro e he; have hm := mem_listed he; simp [go_sem, *] at hm)); clear hK_ K_; try w_num)
  (refine Goes.step rfl (fun _ h₁_ => ?_); replace hF := FT.at_ hF h₁_; clear h₁_; refine goes_oper_k rfl rfl (by k_ne) (fun K_ hK_ => ?_); go_simp; refine hK_ _ _ ⟨?_, ?_⟩; (focus (refine de_none ?_; intro e he; have hm := mem_listed he; simp [go_sem, *] at hm)); clear hK_ K_; try w_num)
  (refine Goes.step rfl (fun _ h₁_ => ?_); replace hF := FT.at_ hF h₁_; clear h₁_; refine goes_oper_k rfl rfl (by k_ne) (fun K_ hK_ => ?_); go_simp; refine hK_ _ _ ⟨?_, ?_⟩; (focus (refine de_none ?_; intro e he; have hm := mem_listed he; simp [go_sem, *] at hm)); clear hK_ K_; try w_num)
  (refine Goes.step rfl (fun _ h₁_ => ?_); replace hF := FT.at_ hF h₁_; clear h₁_; refine goes_oper_k rfl rfl (by k_ne) (fun K_ hK_ => ?_); go_simp; refine hK_ _ _ ⟨?_, ?_⟩; (focus (refine de_none ?_; intro e he; have hm := mem_listed he; simp [go_sem, *] at hm)); clear hK_ K_; try w_num)
  (refine Goes.step rfl (fun _ h₁_ => ?_); replace hF := FT.at_ hF h₁_; clear h₁_; refine goes_oper_k rfl rfl (by k_ne) (fun K_ hK_ => ?_); go_simp; refine hK_ _ _ ⟨?_, ?_⟩; (focus (refine de_none ?_; intro e he; have hm := mem_listed he; simp [go_sem, *] at hm)); clear hK_ K_; try w_num)
  (refine Goes.step rfl (fun _ h₁_ => ?_); replace hF := FT.at_ hF h₁_; clear h₁_; rw [stepG_region_end]; simp only [goes_go]; refine ⟨by (refine de_none ?_; intro e he; simp at he), ?_⟩)
  (refine Goes.step rfl (fun _ h₁_ => ?_); replace hF := FT.at_ hF h₁_; clear h₁_; rw [stepG_seq]; simp only [goes_go]; refine ⟨by (refine de_none ?_; intro e he; simp at he), ?_⟩)
  (refine Goes.step rfl (fun _ h₁_ => ?_); replace hF := FT.at_ hF h₁_; clear h₁_; rw [stepG_seq]; simp only [goes_go]; refine ⟨by (refine de_none ?_; intro e he; simp at he), ?_⟩)
  (refine Goes.step rfl (fun _ h₁_ => ?_); replace hF := FT.at_ hF h₁_; clear h₁_; rw [stepG_region]; simp only [goes_go, List.size_toArray, List.length_cons, List.length_nil, Nat.reduceAdd, Nat.zero_add, List.range, List.range.loop]; refine ⟨by (refine de_none ?_; intro e he; simp at he), ?_⟩)
  (refine Goes.step rfl (fun _ h₁_ => ?_); replace hF := FT.at_ hF h₁_; clear h₁_; refine goes_oper_k rfl rfl (by k_ne) (fun K_ hK_ => ?_); go_simp; refine hK_ _ _ ⟨?_, ?_⟩; (focus (refine de_none ?_; intro e he; have hm := mem_listed he; simp [go_sem, *] at hm)); clear hK_ K_; try w_num)
  (refine Goes.step rfl (fun _ h₁_ => ?_); replace hF := FT.at_ hF h₁_; clear h₁_; refine goes_oper_k rfl rfl (by k_ne) (fun K_ hK_ => ?_); go_simp; refine hK_ _ _ ⟨?_, ?_⟩; (focus (refine de_none ?_; intro e he; have hm := mem_listed he; simp [go_sem, *] at hm)); clear hK_ K_; try w_num)
  (refine Goes.step rfl (fun _ h₁_ => ?_); replace hF := FT.at_ hF h₁_; clear h₁_; refine goes_oper_k rfl rfl (by k_ne) (fun K_ hK_ => ?_); go_simp; refine hK_ _ _ ⟨?_, ?_⟩; (focus (refine de_none ?_; intro e he; have hm := mem_listed he; simp [go_sem, *] at hm)); clear hK_ K_; try w_num)
  (refine Goes.step rfl (fun _ h₁_ => ?_); replace hF := FT.at_ hF h₁_; clear h₁_; refine goes_oper_k rfl rfl (by k_ne) (fun K_ hK_ => ?_); go_simp; refine hK_ _ _ ⟨?_, ?_⟩; (focus (refine de_none ?_; intro e he; have hm := mem_listed he; simp [go_sem, *] at hm)); clear hK_ K_; try w_num)
  (refine Goes.step rfl (fun _ h₁_ => ?_); replace hF := FT.at_ hF h₁_; clear h₁_; refine goes_oper_k rfl rfl (by k_ne) (fun K_ hK_ => ?_); go_simp; refine hK_ _ _ ⟨?_, ?_⟩; (focus (refine de_none ?_; intro e he; have hm := mem_listed he; simp [go_sem, *] at hm)); clear hK_ K_; try w_num)
  (refine Goes.step rfl (fun _ h₁_ => ?_); replace hF := FT.at_ hF h₁_; clear h₁_; refine goes_oper_k rfl rfl (by k_ne) (fun K_ hK_ => ?_); go_simp; refine hK_ _ _ ⟨?_, ?_⟩; (focus (refine de_none ?_; intro e he; have hm := mem_listed he; simp [go_sem, *] at hm)); clear hK_ K_; try w_num)
  (refine Goes.step rfl (fun _ h₁_ => ?_); replace hF := FT.at_ hF h₁_; clear h₁_; refine goes_oper_k rfl rfl (by k_ne) (fun K_ hK_ => ?_); go_simp; refine hK_ _ _ ⟨?_, ?_⟩; (focus (refine de_none ?_; intro e he; have hm := mem_listed he; simp [go_sem, *] at hm)); clear hK_ K_; try w_num)
  (refine Goes.step rfl (fun _ h₁_ => ?_); replace hF := FT.at_ hF h₁_; clear h₁_; refine goes_oper_k rfl rfl (by k_ne) (fun K_ hK_ => ?_); go_simp; refine hK_ _ _ ⟨?_, ?_⟩; (focus (refine de_none ?_; intro e he; have hm := mem_listed he; simp [go_sem, *] at hm)); clear hK_ K_; try w_num)
  (refine Goes.step rfl (fun _ h₁_ => ?_); replace hF := FT.at_ hF h₁_; clear h₁_; refine goes_oper_k rfl rfl (by k_ne) (fun K_ hK_ => ?_); go_simp; refine hK_ _ _ ⟨?_, ?_⟩; (focus (refine de_none ?_; intro e he; have hm := mem_listed he; simp [go_sem, *] at hm)); clear hK_ K_; try w_num)
  (refine Goes.step rfl (fun _ h₁_ => ?_); replace hF := FT.at_ hF h₁_; clear h₁_; rw [stepG_region_end]; simp only [goes_go]; refine ⟨by (refine de_none ?_; intro e he; simp at he), ?_⟩)
  (refine Goes.step rfl (fun _ h₁_ => ?_); replace hF := FT.at_ hF h₁_; clear h₁_; rw [stepG_cond (t := false) rfl]; simp only [goes_go, if_true, if_false, Bool.false_eq_true, ↓reduceIte]; refine ⟨by (refine de_none ?_; intro e he; simp at he), ?_⟩)
  (refine Goes.step rfl (fun _ h₁_ => ?_); replace hF := FT.at_ hF h₁_; clear h₁_; rw [stepG_skip]; simp only [goes_go]; refine ⟨by (refine de_none ?_; intro e he; simp at he), ?_⟩)
  (refine Goes.step rfl (fun _ h₁_ => ?_); replace hF := FT.at_ hF h₁_; clear h₁_; rw [stepG_seq]; simp only [goes_go]; refine ⟨by (refine de_none ?_; intro e he; simp at he), ?_⟩)
  (refine Goes.step rfl (fun _ h₁_ => ?_); replace hF := FT.at_ hF h₁_; clear h₁_; rw [stepG_seq]; simp only [goes_go]; refine ⟨by (refine de_none ?_; intro e he; simp at he), ?_⟩)
  (refine Goes.step rfl (fun _ h₁_ => ?_); replace hF := FT.at_ hF h₁_; clear h₁_; rw [stepG_region]; simp only [goes_go, List.size_toArray, List.length_cons, List.length_nil, Nat.reduceAdd, Nat.zero_add, List.range, List.range.loop]; refine ⟨by (refine de_none ?_; intro e he; simp at he), ?_⟩)
  (refine Goes.step rfl (fun _ h₁_ => ?_); replace hF := FT.at_ hF h₁_; clear h₁_; refine goes_oper_k rfl rfl (by k_ne) (fun K_ hK_ => ?_); go_simp; refine hK_ _ _ ⟨?_, ?_⟩; (focus (refine de_none ?_; intro e he; have hm := mem_listed he; simp [go_sem, *] at hm)); clear hK_ K_; try w_num)
  (refine Goes.step rfl (fun _ h₁_ => ?_); replace hF := FT.at_ hF h₁_; clear h₁_; refine goes_oper_k rfl rfl (by k_ne) (fun K_ hK_ => ?_); go_simp; refine hK_ _ _ ⟨?_, ?_⟩; (focus (refine de_none ?_; intro e he; have hm := mem_listed he; simp [go_sem, *] at hm)); clear hK_ K_; try w_num)
  (refine Goes.step rfl (fun _ h₁_ => ?_); replace hF := FT.at_ hF h₁_; clear h₁_; refine goes_oper_k rfl rfl (by k_ne) (fun K_ hK_ => ?_); go_simp; refine hK_ _ _ ⟨?_, ?_⟩; (focus (refine de_none ?_; intro e he; have hm := mem_listed he; simp [go_sem, *] at hm)); clear hK_ K_; try w_num)
  (refine Goes.step rfl (fun _ h₁_ => ?_); replace hF := FT.at_ hF h₁_; clear h₁_; rw [stepG_region_end]; simp only [goes_go]; refine ⟨by (refine de_none ?_; intro e he; simp at he), ?_⟩)
  (refine Goes.step rfl (fun _ h₁_ => ?_); replace hF := FT.at_ hF h₁_; clear h₁_; rw [stepG_block]; simp only [goes_go]; refine ⟨by (refine de_none ?_; intro e he; simp at he), ?_⟩)
  (refine Goes.step rfl (fun _ h₁_ => ?_); replace hF := FT.at_ hF h₁_; clear h₁_; rw [stepG_loop]; simp only [goes_go]; refine ⟨by (refine de_none ?_; intro e he; simp at he), ?_⟩)
  refine Goes.mono (n := 20 + J * 80) ?_ (by omega)
  have hl : _ := fun {v1 v2 v3 v4 v5 v6 v8 v9 v10 v11 v12 v13 v14 v15 v16 v17 v18 v19 v20 v21 v22 v23 v24 v25 v26 v27 v28 v29 v30 v31 v32 v33 v34 v35 v36 v37 v38 v39 v42 v43 v44 v45 v46 v47 v48 v49 v50 v51 v52 v53 v54 : Value} => @loop6 Shun B W Post hpost ja J cap O z hJ hS hO hN hOB J 0 (by omega) v1 v2 v3 v4 v5 v6 v8 v9 v10 v11 v12 v13 v14 v15 v16 v17 v18 v19 v20 v21 v22 v23 v24 v25 v26 v27 v28 v29 v30 v31 v32 v33 v34 v35 v36 v37 v38 v39 v42 v43 v44 v45 v46 v47 v48 v49 v50 v51 v52 v53 v54 _ hF
  simp only [L6l, C66, C65, C61, body6, Try.f6, Option.getD_some, C614, Int.ofNat_zero, Int.cast_ofNat_Int, Int.natCast_zero] at hl
  exact hl
end
end Go.Proofs.Ytngnkdedfcnfkaa

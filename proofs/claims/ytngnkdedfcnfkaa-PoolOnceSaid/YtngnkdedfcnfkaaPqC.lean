/-
  lantern/lanternlaw20.PoolRuns (function 3): its walks from its entry to its call of Run.
-/
import Derived.Test.YtngnkdedfcnfkaaPqB
set_option linter.unusedSimpArgs false
set_option linter.unusedVariables false
namespace Go.Proofs.Ytngnkdedfcnfkaa
open Go Go.Conc Go.RowKit Go.Conc.Lib Go.ConcR.Gen Go.ConcN.Gen

theorem at_rl {W w w₁ : World} (h : AtRel W w) (r : AtRel w w₁) : AtRel W w₁ := atRel_trans _ _ _ h r
theorem Below.at_ {N : Nat} {W w w₁ : World} (h : Below N W w) (r : AtRel w w₁) : Below N W w₁ := by
  obtain ⟨d, rfl⟩ := r
  exact ⟨h.os, h.tape, h.output, h.size, h.block⟩

/-- a row of the law's own: its block, how many, what -/
abbrev Row := Nat × Nat × (Nat → Value)
/-- the world between the calls: what was there stands, rows have been made -/
structure G4 (W : World) (N₁ : Nat) (rows : List Row) (w : World) : Prop where
  below : Below W.heap.size W w
  size : N₁ ≤ w.heap.size
  rows : ∀ r ∈ rows, N₁ ≤ r.1 ∧ r.1 < w.heap.size ∧ ∀ i, i < r.2.1 → w.cell? ⟨r.1, i, none⟩ = some (r.2.2 i)
/-- one of them is new and empty -/
structure G5 (W : World) (N₁ : Nat) (rows : List Row) (g : Nat) (w : World) : Prop where
  four : G4 W N₁ rows w
  lt : ∀ r ∈ rows, r.1 < g
  ge : N₁ ≤ g
  own : w.ownsRow g 3 1 (.slice (some ⟨g, 0, none⟩) 0 0) 0 []
section
variable {W w w' : World} {N₁ g : Nat} {rows : List Row}
theorem G4.at_ (h : G4 W N₁ rows w) (r : AtRel w w') : G4 W N₁ rows w' := by
  obtain ⟨d, rfl⟩ := r
  exact ⟨Below.at_ h.below ⟨d, rfl⟩, h.size, h.rows⟩
theorem G5.at_ (h : G5 W N₁ rows g w) (r : AtRel w w') : G5 W N₁ rows g w' := by
  obtain ⟨d, rfl⟩ := r
  exact ⟨h.four.at_ ⟨d, rfl⟩, h.lt, h.ge, h.own⟩
theorem G4.made (hN : W.heap.size ≤ N₁) (h : G4 W N₁ rows w) : G5 W N₁ rows w.heap.size (w.alloc (.cells #[] 3)) := by
  have hs := h.size
  refine ⟨⟨h.below.alloc (by omega) _, by simp; omega, fun r hr => ?_⟩, fun r hr => (h.rows r hr).2.1, hs, World.ownsRow_made w #[] 0 (Nat.le_refl _) (Nat.zero_le _) rfl⟩
  obtain ⟨h1, h2, h3⟩ := h.rows r hr
  exact ⟨h1, by simp; omega, fun i hi => by rw [World.cell?_alloc_past _ _ _ (by simpa using h2)]; exact h3 i hi⟩
theorem G4.later (hN : W.heap.size ≤ N₁) (h : G4 W N₁ rows w) {g : Nat} (hr : ∀ r ∈ rows, r.1 < g) (hg : N₁ ≤ g) (r : Below g w w') : G4 W N₁ rows w' := by
  refine ⟨h.below.trans (r.mono (by omega)), Nat.le_trans h.size r.size, fun x hx => ?_⟩
  obtain ⟨h1, h2, h3⟩ := h.rows x hx
  exact ⟨h1, Nat.lt_of_lt_of_le h2 r.size, fun i hi => by rw [r.cell (by simpa using hr x hx)]; exact h3 i hi⟩
theorem G5.grow (hN : W.heap.size ≤ N₁) (h : G5 W N₁ rows g w) {b m : Nat} {f : Nat → Value} (r : Below g w w') (h1 : g ≤ b) (h2 : b < w'.heap.size) (h3 : ∀ i, i < m → w'.cell? ⟨b, i, none⟩ = some (f i)) : G4 W N₁ ((b, m, f) :: rows) w' := by
  have h4 := h.four.later hN h.lt h.ge r
  have := h.ge
  refine ⟨h4.below, h4.size, fun x hx => ?_⟩
  rcases List.mem_cons.1 hx with rfl | hx
  · exact ⟨by simp only; omega, h2, h3⟩
  · exact h4.rows x hx
end

noncomputable def body3 : Code := Try.f3.body.getD .skip
noncomputable def R1ops3 : Array Oper := match body3 with | .seq _ (.seq (.seq (.region _ ops _) _) _) => ops | _ => #[]
noncomputable def E31 : Code := match body3 with | .seq _ (.seq (.seq _ c) _) => c | _ => .skip
noncomputable def C31 : Code := match body3 with | .seq _ (.seq _ c) => c | _ => .skip
noncomputable def R5ops3 : Array Oper := match C31 with | .seq _ (.seq (.region _ ops _) _) => ops | _ => #[]
noncomputable def C35 : Code := match C31 with | .seq _ (.seq _ c) => c | _ => .skip
theorem nm7 : (Try.f7.name == "runtime.NumGoroutine") = false := by kernel_rfl
/-- the frame while Awake is under way -/
noncomputable def a31 (jv nv tv : Value) : Act := ⟨(jv :: nv :: tv :: undef :: undef :: undef :: .bool false :: List.replicate 66 undef).toArray, []⟩
/-- the frame while Run is under way -/
noncomputable def a35 (jv nv tv j' t' : Value) (v12 v14 v16 v20 : Value) (J : Nat) : Act := ⟨(jv :: nv :: tv :: undef :: undef :: undef :: .bool false :: undef :: undef :: undef :: .bool true :: .bool false :: v12 :: .int .i64 J :: v14 :: undef :: v16 :: jv :: j' :: nv :: v20 :: tv :: t' :: List.replicate 50 undef).toArray, []⟩

section
variable {Shun : Loc → Prop} {B : Nat} {W : World} {jv nv tv : Value}
set_option maxRecDepth 100000 in
theorem law3a : Goes Try.prog true AtRel (DE (EvL Shun B)) (fun g w => g = gAwake ((base 3).at (a31 jv nv tv) (.inRegion R1ops3 [0, 1] :: [.code E31, .code C31]) :: []) ∧ AtRel W w) 12
    (G ((base 3).at ⟨(jv :: nv :: tv :: List.replicate 70 undef).toArray, []⟩ [.code body3]) []) W := by
  have hF : AtRel W W := atRel_refl W
  simp only [body3, Try.f3, Option.getD_some, List.replicate]
  (refine Goes.step rfl (fun _ h₁_ => ?_); replace hF := at_rl hF h₁_; clear h₁_; rw [stepG_seq]; simp only [goes_go]; refine ⟨by (refine de_none ?_; intro e he; simp at he), ?_⟩)
  (refine Goes.step rfl (fun _ h₁_ => ?_); replace hF := at_rl hF h₁_; clear h₁_; rw [stepG_region]; simp only [goes_go, List.size_toArray, List.length_cons, List.length_nil, Nat.reduceAdd, Nat.zero_add, List.range, List.range.loop]; refine ⟨by (refine de_none ?_; intro e he; simp at he), ?_⟩)
  (refine Goes.step rfl (fun _ h₁_ => ?_); replace hF := at_rl hF h₁_; clear h₁_; refine goes_oper_k rfl rfl (by k_ne) (fun K_ hK_ => ?_); go_simp; refine hK_ _ _ ⟨?_, ?_⟩; (focus (refine de_none ?_; intro e he; have hm := mem_listed he; simp [go_sem, *] at hm)); clear hK_ K_; try w_num)
  (refine Goes.step rfl (fun _ h₁_ => ?_); replace hF := at_rl hF h₁_; clear h₁_; rw [stepG_region_end]; simp only [goes_go]; refine ⟨by (refine de_none ?_; intro e he; simp at he), ?_⟩)
  (refine Goes.step rfl (fun _ h₁_ => ?_); replace hF := at_rl hF h₁_; clear h₁_; rw [stepG_seq]; simp only [goes_go]; refine ⟨by (refine de_none ?_; intro e he; simp at he), ?_⟩)
  (refine Goes.step rfl (fun _ h₁_ => ?_); replace hF := at_rl hF h₁_; clear h₁_; rw [stepG_seq]; simp only [goes_go]; refine ⟨by (refine de_none ?_; intro e he; simp at he), ?_⟩)
  (refine Goes.step rfl (fun _ h₁_ => ?_); replace hF := at_rl hF h₁_; clear h₁_; rw [stepG_region]; simp only [goes_go, List.size_toArray, List.length_cons, List.length_nil, Nat.reduceAdd, Nat.zero_add, List.range, List.range.loop]; refine ⟨by (refine de_none ?_; intro e he; simp at he), ?_⟩)
  (refine Goes.step rfl (fun _ h₁_ => ?_); replace hF := at_rl hF h₁_; clear h₁_)
  refine goes_call rfl rfl (by k_ne) rfl Try.func7 nm7 rfl ⟨by (refine de_none ?_; intro e he; simp at he), ?_⟩
  refine Goes.stop (fun w₁ h₁ => ⟨?_, at_rl hF h₁⟩)
  simp only [gAwake, body7, a31, R1ops3, E31, C31, body3, Try.f3, Try.f7, Option.getD_some, List.replicate, Array.replicate, Act.eval, List.map_toArray, List.map_cons, List.map_nil, List.append_toArray, List.nil_append, List.size_toArray, List.length_nil, Nat.reduceSub, Nat.sub_zero]

set_option maxRecDepth 100000 in
set_option maxHeartbeats 1000000 in
/-- so many jobs that the law lets them go -/
theorem law3b {Post : Value → World → Prop} {w : World} {ja : Option Addr} {J cap : Nat} (hJ : 9000 < J) (hF : Below W.heap.size W w) (hpost : ∀ w, Below W.heap.size W w → Post (.bool true) w) :
    Goes Try.prog true AtRel (DE (EvL Shun B)) (AtEnd Try.prog Shun B Post) 20 (G ((base 3).at ((a31 (.slice ja J cap) nv tv).put ((R1ops3[0]?).bind (·.dst)) (.bool true)) (.inRegion R1ops3 [1] :: [.code E31, .code C31])) []) w := by
  have e : (R1ops3[0]?).bind (·.dst) = some 10 := rfl
  rw [e]
  have hd : decide ((9000 : Int) < (J : Int)) = true := decide_eq_true (by omega)
  simp only [a31, R1ops3, E31, C31, body3, Try.f3, Option.getD_some, List.replicate, Act.put, List.setIfInBounds_toArray, List.set_cons_succ, List.set_cons_zero]
  (refine Goes.step rfl (fun _ h₁_ => ?_); replace hF := Below.at_ hF h₁_; clear h₁_; refine goes_oper_k rfl rfl (by k_ne) (fun K_ hK_ => ?_); go_simp; refine hK_ _ _ ⟨?_, ?_⟩; (focus (refine de_none ?_; intro e he; have hm := mem_listed he; simp [go_sem, *] at hm)); clear hK_ K_; try w_num)
  (refine Goes.step rfl (fun _ h₁_ => ?_); replace hF := Below.at_ hF h₁_; clear h₁_; rw [stepG_region_end]; simp only [goes_go]; refine ⟨by (refine de_none ?_; intro e he; simp at he), ?_⟩)
  (refine Goes.step rfl (fun _ h₁_ => ?_); replace hF := Below.at_ hF h₁_; clear h₁_; rw [stepG_cond (t := false) rfl]; simp only [goes_go, if_true, if_false, Bool.false_eq_true, ↓reduceIte]; refine ⟨by (refine de_none ?_; intro e he; simp at he), ?_⟩)
  (refine Goes.step rfl (fun _ h₁_ => ?_); replace hF := Below.at_ hF h₁_; clear h₁_; rw [stepG_skip]; simp only [goes_go]; refine ⟨by (refine de_none ?_; intro e he; simp at he), ?_⟩)
  (refine Goes.step rfl (fun _ h₁_ => ?_); replace hF := Below.at_ hF h₁_; clear h₁_; rw [stepG_seq]; simp only [goes_go]; refine ⟨by (refine de_none ?_; intro e he; simp at he), ?_⟩)
  (refine Goes.step rfl (fun _ h₁_ => ?_); replace hF := Below.at_ hF h₁_; clear h₁_; rw [stepG_seq]; simp only [goes_go]; refine ⟨by (refine de_none ?_; intro e he; simp at he), ?_⟩)
  (refine Goes.step rfl (fun _ h₁_ => ?_); replace hF := Below.at_ hF h₁_; clear h₁_; rw [stepG_region]; simp only [goes_go, List.size_toArray, List.length_cons, List.length_nil, Nat.reduceAdd, Nat.zero_add, List.range, List.range.loop]; refine ⟨by (refine de_none ?_; intro e he; simp at he), ?_⟩)
  (refine Goes.step rfl (fun _ h₁_ => ?_); replace hF := Below.at_ hF h₁_; clear h₁_; refine goes_oper_k rfl rfl (by k_ne) (fun K_ hK_ => ?_); go_simp; refine hK_ _ _ ⟨?_, ?_⟩; (focus (refine de_none ?_; intro e he; have hm := mem_listed he; simp [go_sem, *] at hm)); clear hK_ K_; try w_num)
  (refine Goes.step rfl (fun _ h₁_ => ?_); replace hF := Below.at_ hF h₁_; clear h₁_; refine goes_oper_k rfl rfl (by k_ne) (fun K_ hK_ => ?_); go_simp; refine hK_ _ _ ⟨?_, ?_⟩; (focus (refine de_none ?_; intro e he; have hm := mem_listed he; simp [go_sem, *] at hm)); clear hK_ K_; try w_num)
  (refine Goes.step rfl (fun _ h₁_ => ?_); replace hF := Below.at_ hF h₁_; clear h₁_; refine goes_oper_k rfl rfl (by k_ne) (fun K_ hK_ => ?_); go_simp; refine hK_ _ _ ⟨?_, ?_⟩; (focus (refine de_none ?_; intro e he; have hm := mem_listed he; simp [go_sem, *] at hm)); clear hK_ K_; try w_num)
  (refine Goes.step rfl (fun _ h₁_ => ?_); replace hF := Below.at_ hF h₁_; clear h₁_; rw [stepG_region_end]; simp only [goes_go]; refine ⟨by (refine de_none ?_; intro e he; simp at he), ?_⟩)
  (refine Goes.step rfl (fun _ h₁_ => ?_); replace hF := Below.at_ hF h₁_; clear h₁_; rw [stepG_cond (t := true) rfl]; simp only [goes_go, if_true, if_false, Bool.false_eq_true, ↓reduceIte]; refine ⟨by (refine de_none ?_; intro e he; simp at he), ?_⟩)
  (refine Goes.step rfl (fun _ h₁_ => ?_); replace hF := Below.at_ hF h₁_; clear h₁_; rw [stepG_seq]; simp only [goes_go]; refine ⟨by (refine de_none ?_; intro e he; simp at he), ?_⟩)
  (refine Goes.step rfl (fun _ h₁_ => ?_); replace hF := Below.at_ hF h₁_; clear h₁_; rw [stepG_region]; simp only [goes_go, List.size_toArray, List.length_cons, List.length_nil, Nat.reduceAdd, Nat.zero_add, List.range, List.range.loop]; refine ⟨by (refine de_none ?_; intro e he; simp at he), ?_⟩)
  (refine Goes.step rfl (fun _ h₁_ => ?_); replace hF := Below.at_ hF h₁_; clear h₁_; refine goes_oper_k rfl rfl (by k_ne) (fun K_ hK_ => ?_); go_simp; refine hK_ _ _ ⟨?_, ?_⟩; (focus (refine de_none ?_; intro e he; have hm := mem_listed he; simp [go_sem, *] at hm)); clear hK_ K_; try w_num)
  (refine Goes.step rfl (fun _ h₁_ => ?_); replace hF := Below.at_ hF h₁_; clear h₁_; rw [stepG_region_end]; simp only [goes_go]; refine ⟨by (refine de_none ?_; intro e he; simp at he), ?_⟩)
  (refine Goes.step rfl (fun _ h₁_ => ?_); replace hF := Below.at_ hF h₁_; clear h₁_; rw [stepG_ret']; simp only [goes_go]; refine ⟨by (refine de_none ?_; intro e he; simp at he), ?_⟩)
  refine Goes.stop (fun w₂ r₂ => ⟨rfl, .bool true, #[], ?_, by simp, hpost _ (Below.at_ hF r₂)⟩)
  simp [G, stepG, unwind, doReturn, results, Frame.at, base, Try.func3, Try.f3, seen, GStep.after]


theorem info22 : (Try.prog.info? 3).map (fun i => (i.zero, i.size, i.bytes)) = some (some (.int .i64 0), 1, 8) := by kernel_rfl
/-- the frame behind the first append -/
noncomputable def a34 (jv nv tv j' : Value) (v12 v14 v16 : Value) (J : Nat) : Act := ⟨(jv :: nv :: tv :: undef :: undef :: undef :: .bool false :: undef :: undef :: undef :: .bool true :: .bool false :: v12 :: .int .i64 J :: v14 :: undef :: v16 :: jv :: j' :: List.replicate 54 undef).toArray, []⟩
theorem evL_cellS {Shun : Loc → Prop} {B : Nat} (a : Addr) (wr sy : Bool) (hS : ¬ Shun (.cell a)) (hB : a.block < B) : EvL Shun B ⟨.cell a, wr, sy⟩ := by
  refine ⟨fun x hx hs => ?_, by simp, by simp, ?_⟩
  · simp only [ofEvent_cell0, MemAct.touch?, Option.some.injEq] at hx
    subst hx
    exact absurd hs hS
  · rw [ofEvent_cell0]; exact hB
theorem append_ev {es : Array Event} {N g : Nat} (hS1 : ∀ a : Addr, a.block < N → ¬ Shun (.cell a)) (hS2 : ∀ a : Addr, a.block = g → ¬ Shun (.cell a)) (hN : N ≤ B) (hg : g < B)
    (h : ∀ ev ∈ es, (∃ ad, ev.loc = .cell ad ∧ ((ev.write = false ∧ ad.block < N) ∨ ad.block = g)) ∨ ∃ m, ev = ⟨.mark m, false, true⟩ ∧ Neutral m) : ∀ ev ∈ es, EvL Shun B ev := by
  intro ev he
  rcases h ev he with ⟨ad, h1, h2⟩ | ⟨m, rfl, hm⟩
  · obtain ⟨l, wr, sy⟩ := ev
    obtain rfl : l = .cell ad := h1
    rcases h2 with ⟨_, h2⟩ | h2
    · exact evL_cellS _ _ _ (hS1 ad h2) (by omega)
    · exact evL_cellS _ _ _ (hS2 ad h2) (by omega)
  · exact evL_mark hm
set_option maxRecDepth 100000 in
set_option maxHeartbeats 4000000 in
/-- from Awake's return to behind the first append -/
theorem law3c {N₁ : Nat} {w : World} {n : Int} {ja ta : Option Addr} {J cap tl tc : Nat} {fj : Nat → Value} (hN : W.heap.size ≤ N₁) (hJ : J ≤ 9000) (hsj : SrcV w ja J W.heap.size fj) (hF : G4 W N₁ [] w ∧ SrcV w ja J W.heap.size fj ∧ w.heap.size = N₁)
    (hS1 : ∀ a : Addr, a.block < W.heap.size → ¬ Shun (.cell a)) (hS2 : ∀ a : Addr, N₁ ≤ a.block → ¬ Shun (.cell a)) (hB : N₁ + 1 ≤ B) :
    Goes Try.prog true AtRel (DE (EvL Shun B)) (fun g w => ∃ j1 c1 v12 v14 v16, g = G ((base 3).at (a34 (.slice ja J cap) (.int .i64 n) (.slice ta tl tc) (.slice (some ⟨j1, 0, none⟩) J c1) v12 v14 v16 J) (.inRegion R5ops3 [3, 4, 5, 6, 7, 8, 9, 10, 11, 12] :: [.code C35])) [] ∧ G4 W N₁ [(j1, J, fj)] w) 40
      (G ((base 3).at ((a31 (.slice ja J cap) (.int .i64 n) (.slice ta tl tc)).put ((R1ops3[0]?).bind (·.dst)) (.bool true)) (.inRegion R1ops3 [1] :: [.code E31, .code C31])) []) w := by
  have e : (R1ops3[0]?).bind (·.dst) = some 10 := rfl
  rw [e]
  have hd : decide ((9000 : Int) < (J : Int)) = false := decide_eq_false (by omega)
  have fa : ∀ {w w' : World}, (G4 W N₁ [] w ∧ SrcV w ja J W.heap.size fj ∧ w.heap.size = N₁) → AtRel w w' → (G4 W N₁ [] w' ∧ SrcV w' ja J W.heap.size fj ∧ w'.heap.size = N₁) := fun h r => by
    obtain ⟨d, rfl⟩ := r
    exact ⟨h.1.at_ ⟨d, rfl⟩, ⟨h.2.1.nil, h.2.1.blk, h.2.1.cell, h.2.1.one⟩, h.2.2⟩
  simp only [a31, R1ops3, E31, C31, body3, Try.f3, Option.getD_some, List.replicate, Act.put, List.setIfInBounds_toArray, List.set_cons_succ, List.set_cons_zero]
  (refine Goes.step rfl (fun _ h₁_ => ?_); replace hF := fa hF h₁_; clear h₁_; refine goes_oper_k rfl rfl (by k_ne) (fun K_ hK_ => ?_); go_simp; refine hK_ _ _ ⟨?_, ?_⟩; (focus (refine de_none ?_; intro e he; have hm := mem_listed he; simp [go_sem, *] at hm)); clear hK_ K_; try w_num)
  (refine Goes.step rfl (fun _ h₁_ => ?_); replace hF := fa hF h₁_; clear h₁_; rw [stepG_region_end]; simp only [goes_go]; refine ⟨by (refine de_none ?_; intro e he; simp at he), ?_⟩)
  (refine Goes.step rfl (fun _ h₁_ => ?_); replace hF := fa hF h₁_; clear h₁_; rw [stepG_cond (t := false) rfl]; simp only [goes_go, if_true, if_false, Bool.false_eq_true, ↓reduceIte]; refine ⟨by (refine de_none ?_; intro e he; simp at he), ?_⟩)
  (refine Goes.step rfl (fun _ h₁_ => ?_); replace hF := fa hF h₁_; clear h₁_; rw [stepG_skip]; simp only [goes_go]; refine ⟨by (refine de_none ?_; intro e he; simp at he), ?_⟩)
  (refine Goes.step rfl (fun _ h₁_ => ?_); replace hF := fa hF h₁_; clear h₁_; rw [stepG_seq]; simp only [goes_go]; refine ⟨by (refine de_none ?_; intro e he; simp at he), ?_⟩)
  (refine Goes.step rfl (fun _ h₁_ => ?_); replace hF := fa hF h₁_; clear h₁_; rw [stepG_seq]; simp only [goes_go]; refine ⟨by (refine de_none ?_; intro e he; simp at he), ?_⟩)
  (refine Goes.step rfl (fun _ h₁_ => ?_); replace hF := fa hF h₁_; clear h₁_; rw [stepG_region]; simp only [goes_go, List.size_toArray, List.length_cons, List.length_nil, Nat.reduceAdd, Nat.zero_add, List.range, List.range.loop]; refine ⟨by (refine de_none ?_; intro e he; simp at he), ?_⟩)
  (refine Goes.step rfl (fun _ h₁_ => ?_); replace hF := fa hF h₁_; clear h₁_; refine goes_oper_k rfl rfl (by k_ne) (fun K_ hK_ => ?_); go_simp; refine hK_ _ _ ⟨?_, ?_⟩; (focus (refine de_none ?_; intro e he; have hm := mem_listed he; simp [go_sem, *] at hm)); clear hK_ K_; try w_num)
  (refine Goes.step rfl (fun _ h₁_ => ?_); replace hF := fa hF h₁_; clear h₁_; refine goes_oper_k rfl rfl (by k_ne) (fun K_ hK_ => ?_); go_simp; refine hK_ _ _ ⟨?_, ?_⟩; (focus (refine de_none ?_; intro e he; have hm := mem_listed he; simp [go_sem, *] at hm)); clear hK_ K_; try w_num)
  (refine Goes.step rfl (fun _ h₁_ => ?_); replace hF := fa hF h₁_; clear h₁_; refine goes_oper_k rfl rfl (by k_ne) (fun K_ hK_ => ?_); go_simp; refine hK_ _ _ ⟨?_, ?_⟩; (focus (refine de_none ?_; intro e he; have hm := mem_listed he; simp [go_sem, *] at hm)); clear hK_ K_; try w_num)
  (refine Goes.step rfl (fun _ h₁_ => ?_); replace hF := fa hF h₁_; clear h₁_; rw [stepG_region_end]; simp only [goes_go]; refine ⟨by (refine de_none ?_; intro e he; simp at he), ?_⟩)
  (refine Goes.step rfl (fun _ h₁_ => ?_); replace hF := fa hF h₁_; clear h₁_; rw [stepG_cond (t := false) rfl]; simp only [goes_go, if_true, if_false, Bool.false_eq_true, ↓reduceIte]; refine ⟨by (refine de_none ?_; intro e he; simp at he), ?_⟩)
  (refine Goes.step rfl (fun _ h₁_ => ?_); replace hF := fa hF h₁_; clear h₁_; rw [stepG_skip]; simp only [goes_go]; refine ⟨by (refine de_none ?_; intro e he; simp at he), ?_⟩)
  (refine Goes.step rfl (fun _ h₁_ => ?_); replace hF := fa hF h₁_; clear h₁_; rw [stepG_seq]; simp only [goes_go]; refine ⟨by (refine de_none ?_; intro e he; simp at he), ?_⟩)
  (refine Goes.step rfl (fun _ h₁_ => ?_); replace hF := fa hF h₁_; clear h₁_; rw [stepG_region]; simp only [goes_go, List.size_toArray, List.length_cons, List.length_nil, Nat.reduceAdd, Nat.zero_add, List.range, List.range.loop]; refine ⟨by (refine de_none ?_; intro e he; simp at he), ?_⟩)
  (refine Goes.step rfl (fun _ h₁_ => ?_); replace hF := fa hF h₁_; clear h₁_)
  rename_i w₁
  refine goes_oper_k rfl rfl (by decide) (fun K_ hK_ => ?_)
  go_simp
  refine hK_ _ _ ⟨fun e he => ?_, ?_⟩
  · have hm := mem_listed he
    simp [go_sem] at hm
  clear hK_ K_
  obtain ⟨h4, hs, hw⟩ := hF
  have hF : G5 W N₁ [] N₁ (w₁.alloc (.cells #[] 3)) ∧ SrcV (w₁.alloc (.cells #[] 3)) ja J W.heap.size fj := by
    have := h4.made hN
    rw [hw] at this
    exact ⟨this, hs.below ((Below.refl _ _).alloc (by omega) _)⟩
  clear h4 hs hw
  have fb : ∀ {w w' : World}, (G5 W N₁ [] N₁ w ∧ SrcV w ja J W.heap.size fj) → AtRel w w' → (G5 W N₁ [] N₁ w' ∧ SrcV w' ja J W.heap.size fj) := fun h r => by
    obtain ⟨d, rfl⟩ := r
    exact ⟨h.1.at_ ⟨d, rfl⟩, ⟨h.2.nil, h.2.blk, h.2.cell, h.2.one⟩⟩
  (refine Goes.step rfl (fun _ h₁_ => ?_); replace hF := fb hF h₁_; clear h₁_; refine goes_oper_k rfl rfl (by k_ne) (fun K_ hK_ => ?_); go_simp; refine hK_ _ _ ⟨?_, ?_⟩; (focus (refine de_none ?_; intro e he; have hm := mem_listed he; simp [go_sem, *] at hm)); clear hK_ K_; try w_num)
  (refine Goes.step rfl (fun _ h₁_ => ?_); replace hF := fb hF h₁_; clear h₁_)
  rename_i w₂
  obtain ⟨i0, hi, hz0, hz1, hz2⟩ := info_parts info22
  have hg := (hF.1.own.lt N₁ rfl)
  obtain ⟨j1, c1, w₃, hr, hj1, hj2, hcells, hbelow, hev⟩ := append_src (tb := 22) (mc := cap) Try.underlying22 hi hz0 hz1 hz2 rfl (base := N₁) (by omega) hF.1.own hF.2 (by simp only [maxLen]; omega) (by omega)
  refine goes_oper_k rfl rfl (by decide) (fun K_ hK_ => ?_)
  refine uponK_append (.tmp 16) (.tmp 17) 22 rfl rfl rfl hr (hK_ _ _ ⟨append_ev (N := W.heap.size) (g := N₁) hS1 (fun a h => hS2 a (by omega)) (by omega) (by omega) (fun e he => ?_), ?_⟩)
  · have hm := mem_listed he
    rw [events_append_op (.tmp 16) (.tmp 17) 22 rfl rfl rfl] at hm
    exact hev e hm
  clear hK_ K_
  have hF := hF.1.grow hN hbelow hj1 hj2 hcells
  simp only [List.getElem_toArray, List.getElem_cons_succ, List.getElem_cons_zero, List.getElem?_toArray, List.getElem?_cons_succ, List.getElem?_cons_zero, Act.put, List.setIfInBounds_toArray, List.set_cons_succ, List.set_cons_zero]
  refine Goes.mono (Goes.stop (n := 0) (fun w₃ r₃ => ⟨j1, c1, .slice ja J cap, .bool false, .slice (some ⟨N₁, 0, none⟩) 0 0, ?_, hF.at_ r₃⟩)) (by omega)
  simp only [a34, R5ops3, C35, C31, body3, Try.f3, Option.getD_some, List.replicate, Act.put, List.setIfInBounds_toArray, List.set_cons_succ, List.set_cons_zero]

set_option maxRecDepth 100000 in
set_option maxHeartbeats 4000000 in
/-- .. and on, into Run -/
theorem law3d {N₁ : Nat} {w : World} {n : Int} {ja ta j1 : Option Addr} {J cap tl tc c1 jb : Nat} {v12 v14 v16 : Value} {fj ft : Nat → Value} (hN : W.heap.size ≤ N₁) (htl : tl * 8 ≤ 140737488355328) (hF : G4 W N₁ [(jb, J, fj)] w ∧ SrcV w ta tl W.heap.size ft)
    (hS1 : ∀ a : Addr, a.block < W.heap.size → ¬ Shun (.cell a)) (hS2 : ∀ a : Addr, N₁ ≤ a.block → ¬ Shun (.cell a)) {g : Nat} (hw : w.heap.size = g) (hB : g + 1 ≤ B) :
    Goes Try.prog true AtRel (DE (EvL Shun B)) (fun a w => ∃ t1 c2 v20, a = R8.gRun (.slice j1 J c1) (.int .i64 n) (.slice (some ⟨t1, 0, none⟩) tl c2) (.func (.func 9) #[] #[]) ((base 3).at (a35 (.slice ja J cap) (.int .i64 n) (.slice ta tl tc) (.slice j1 J c1) (.slice (some ⟨t1, 0, none⟩) tl c2) v12 v14 v16 v20 J) (.inRegion R5ops3 (7 :: [8, 9, 10, 11, 12]) :: [.code C35]) :: []) ∧ G4 W N₁ [(t1, tl, ft), (jb, J, fj)] w ∧ g ≤ t1) 10
      (G ((base 3).at (a34 (.slice ja J cap) (.int .i64 n) (.slice ta tl tc) (.slice j1 J c1) v12 v14 v16 J) (.inRegion R5ops3 [3, 4, 5, 6, 7, 8, 9, 10, 11, 12] :: [.code C35])) []) w := by
  have fa : ∀ {w w' : World}, (G4 W N₁ [(jb, J, fj)] w ∧ SrcV w ta tl W.heap.size ft ∧ w.heap.size = g) → AtRel w w' → (G4 W N₁ [(jb, J, fj)] w' ∧ SrcV w' ta tl W.heap.size ft ∧ w'.heap.size = g) := fun h r => by
    obtain ⟨d, rfl⟩ := r
    exact ⟨h.1.at_ ⟨d, rfl⟩, ⟨h.2.1.nil, h.2.1.blk, h.2.1.cell, h.2.1.one⟩, h.2.2⟩
  replace hF := And.intro hF.1 (And.intro hF.2 hw)
  clear hw
  simp only [a34, R5ops3, C35, C31, body3, Try.f3, Option.getD_some, List.replicate]
  (refine Goes.step rfl (fun _ h₁_ => ?_); replace hF := fa hF h₁_; clear h₁_; refine goes_oper_k rfl rfl (by k_ne) (fun K_ hK_ => ?_); go_simp; refine hK_ _ _ ⟨?_, ?_⟩; (focus (refine de_none ?_; intro e he; have hm := mem_listed he; simp [go_sem, *] at hm)); clear hK_ K_; try w_num)
  (refine Goes.step rfl (fun _ h₁_ => ?_); replace hF := fa hF h₁_; clear h₁_)
  rename_i w₁
  refine goes_oper_k rfl rfl (by decide) (fun K_ hK_ => ?_)
  go_simp
  refine hK_ _ _ ⟨fun e he => ?_, ?_⟩
  · have hm := mem_listed he
    simp [go_sem] at hm
  clear hK_ K_
  obtain ⟨h4, hs, hw⟩ := hF
  have hF : G5 W N₁ [(jb, J, fj)] g (w₁.alloc (.cells #[] 3)) ∧ SrcV (w₁.alloc (.cells #[] 3)) ta tl W.heap.size ft := by
    have := h4.made hN
    rw [hw] at this
    exact ⟨this, hs.below ((Below.refl _ _).alloc (by have := h4.size; omega) _)⟩
  clear h4 hs hw
  have fb : ∀ {w w' : World}, (G5 W N₁ [(jb, J, fj)] g w ∧ SrcV w ta tl W.heap.size ft) → AtRel w w' → (G5 W N₁ [(jb, J, fj)] g w' ∧ SrcV w' ta tl W.heap.size ft) := fun h r => by
    obtain ⟨d, rfl⟩ := r
    exact ⟨h.1.at_ ⟨d, rfl⟩, ⟨h.2.nil, h.2.blk, h.2.cell, h.2.one⟩⟩
  (refine Goes.step rfl (fun _ h₁_ => ?_); replace hF := fb hF h₁_; clear h₁_; refine goes_oper_k rfl rfl (by k_ne) (fun K_ hK_ => ?_); go_simp; refine hK_ _ _ ⟨?_, ?_⟩; (focus (refine de_none ?_; intro e he; have hm := mem_listed he; simp [go_sem, *] at hm)); clear hK_ K_; try w_num)
  (refine Goes.step rfl (fun _ h₁_ => ?_); replace hF := fb hF h₁_; clear h₁_)
  rename_i w₂
  obtain ⟨i0, hi, hz0, hz1, hz2⟩ := info_parts info22
  have hg := (hF.1.own.lt g rfl)
  have hge := hF.1.ge
  obtain ⟨t1, c2, w₃, hr, hj1, hj2, hcells, hbelow, hev⟩ := append_src (tb := 22) (mc := tc) Try.underlying22 hi hz0 hz1 hz2 rfl (base := g) (by omega) hF.1.own hF.2 (by simp only [maxLen]; omega) (by omega)
  refine goes_oper_k rfl rfl (by decide) (fun K_ hK_ => ?_)
  refine uponK_append (.tmp 20) (.tmp 21) 22 rfl rfl rfl hr (hK_ _ _ ⟨append_ev (N := W.heap.size) (g := g) hS1 (fun a h => hS2 a (by omega)) (by omega) (by omega) (fun e he => ?_), ?_⟩)
  · have hm := mem_listed he
    rw [events_append_op (.tmp 20) (.tmp 21) 22 rfl rfl rfl] at hm
    exact hev e hm
  clear hK_ K_
  replace hF := hF.1.grow hN hbelow hj1 hj2 hcells
  simp only [List.getElem_toArray, List.getElem_cons_succ, List.getElem_cons_zero, List.getElem?_toArray, List.getElem?_cons_succ, List.getElem?_cons_zero, Act.put, List.setIfInBounds_toArray, List.set_cons_succ, List.set_cons_zero]
  (refine Goes.step rfl (fun _ h₁_ => ?_); replace hF := G4.at_ hF h₁_; clear h₁_)
  refine goes_call rfl rfl (by k_ne) rfl Try.func8 nm8 rfl ⟨by (refine de_none ?_; intro e he; simp at he), ?_⟩
  refine Goes.mono (Goes.stop (n := 0) (fun w₁ h₁ => ⟨t1, c2, .slice (some ⟨g, 0, none⟩) 0 0, ?_, hF.at_ h₁, hj1⟩)) (by omega)
  simp only [R8.gRun, R8.bodyR, a35, R5ops3, C35, C31, body3, Try.f3, Try.f8, Option.getD_some, List.replicate, Act.eval, List.map_toArray, List.map_cons, List.map_nil, Array.getD_eq_getD_getElem?, List.getElem?_toArray, List.getElem?_cons_succ, List.getElem?_cons_zero, List.size_toArray, List.length_cons, List.length_nil, Nat.reduceAdd, Nat.reduceSub]
end
end Go.Proofs.Ytngnkdedfcnfkaa

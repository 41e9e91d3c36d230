/-
  lantern/lanternlaw20.PoolKinds (function 6): its walks from its entry to its call of Run. (Printed by tools/pqg_gen.py.)
-/
import Derived.Test.YtngnkdedfcnfkaaPqC
import Derived.Test.YtngnkdedfcnfkaaRCZA
set_option linter.unusedSimpArgs false
set_option linter.unusedVariables false
namespace Go.Proofs.Ytngnkdedfcnfkaa
open Go Go.Conc Go.RowKit Go.Conc.Lib Go.ConcR.Gen Go.ConcN.Gen

/-- one of the rows is new and empty, whatever its elements -/
structure G5e (e : TypeId) (W : World) (N₁ : Nat) (rows : List Row) (g : Nat) (w : World) : Prop where
  four : G4 W N₁ rows w
  lt : ∀ r ∈ rows, r.1 < g
  ge : N₁ ≤ g
  own : w.ownsRow g e 1 (.slice (some ⟨g, 0, none⟩) 0 0) 0 []
section
variable {W w w' : World} {N₁ g : Nat} {rows : List Row} {e : TypeId}
theorem G5e.at_ (h : G5e e W N₁ rows g w) (r : AtRel w w') : G5e e W N₁ rows g w' := by
  obtain ⟨d, rfl⟩ := r
  exact ⟨h.four.at_ ⟨d, rfl⟩, h.lt, h.ge, h.own⟩
theorem G4.madee (hN : W.heap.size ≤ N₁) (h : G4 W N₁ rows w) : G5e e W N₁ rows w.heap.size (w.alloc (.cells #[] e)) := by
  have hs := h.size
  refine ⟨⟨h.below.alloc (by omega) _, by simp; omega, fun r hr => ?_⟩, fun r hr => (h.rows r hr).2.1, hs, World.ownsRow_made w #[] 0 (Nat.le_refl _) (Nat.zero_le _) rfl⟩
  obtain ⟨h1, h2, h3⟩ := h.rows r hr
  exact ⟨h1, by simp; omega, fun i hi => by rw [World.cell?_alloc_past _ _ _ (by simpa using h2)]; exact h3 i hi⟩
theorem G5e.grow (hN : W.heap.size ≤ N₁) (h : G5e e W N₁ rows g w) {b m : Nat} {f : Nat → Value} (r : Below g w w') (h1 : g ≤ b) (h2 : b < w'.heap.size) (h3 : ∀ i, i < m → w'.cell? ⟨b, i, none⟩ = some (f i)) : G4 W N₁ ((b, m, f) :: rows) w' := by
  have h4 := h.four.later hN h.lt h.ge r
  have := h.ge
  refine ⟨h4.below, h4.size, fun x hx => ?_⟩
  rcases List.mem_cons.1 hx with rfl | hx
  · exact ⟨by simp only; omega, h2, h3⟩
  · exact h4.rows x hx
end
theorem info29 : (Try.prog.info? 9).map (fun i => (i.zero, i.size, i.bytes)) = some (some (.string ByteArray.empty), 1, 16) := by kernel_rfl
theorem nm13 : (Try.f13.name == "runtime.NumGoroutine") = false := by kernel_rfl
/-- how many workers the law asks for -/
def wk (n : Int) : Int := 1 + Int.tmod (n % 18446744073709551616) 64
theorem wk_lo (n : Int) : 1 ≤ wk n := by
  unfold wk
  have := Int.tmod_nonneg (64 : Int) (a := n % 18446744073709551616) (by omega)
  omega
theorem wk_hi (n : Int) : wk n ≤ 64 := by
  unfold wk
  have := Int.tmod_lt_of_pos (n % 18446744073709551616) (b := 64) (by omega)
  omega
theorem wk_eq (n : Int) : IntKind.i64.wrap (1 + IntKind.i64.wrap (Int.tmod (n % 18446744073709551616) 64)) = wk n := by
  have h1 := wk_lo n
  have h2 := wk_hi n
  unfold wk at *
  rw [IntKind.wrap_i64, IntKind.wrap_i64]
  omega

noncomputable def body6 : Code := Try.f6.body.getD .skip
noncomputable def R1ops6 : Array Oper := match body6 with | .seq _ (.seq (.seq (.region _ ops _) _) _) => ops | _ => #[]
noncomputable def E61 : Code := match body6 with | .seq _ (.seq (.seq _ c) _) => c | _ => .skip
noncomputable def C61 : Code := match body6 with | .seq _ (.seq _ c) => c | _ => .skip
noncomputable def R5ops6 : Array Oper := match C61 with | .seq _ (.seq (.region _ ops _) _) => ops | _ => #[]
noncomputable def C65 : Code := match C61 with | .seq _ (.seq _ c) => c | _ => .skip
/-- the frame while Awake is under way -/
noncomputable def a61 (jv nv tv : Value) : Act := ⟨(jv :: nv :: tv :: undef :: undef :: undef :: .bool false :: List.replicate 48 undef).toArray, []⟩
/-- the frame while Run is under way -/
noncomputable def a65 (jv nv tv j' t' : Value) (v12 v14 v16 v19 v20 v21 v22 v23 v24 : Value) (J : Nat) : Act := ⟨(jv :: nv :: tv :: undef :: undef :: undef :: .bool false :: undef :: undef :: undef :: .bool true :: .bool false :: v12 :: .int .i64 J :: v14 :: undef :: v16 :: jv :: j' :: v19 :: v20 :: v21 :: v22 :: v23 :: v24 :: tv :: t' :: List.replicate 28 undef).toArray, []⟩

section
variable {Shun : Loc → Prop} {B : Nat} {W : World} {jv nv tv : Value}
set_option maxRecDepth 100000 in
theorem law6a : Goes Try.prog true AtRel (DE (EvL Shun B)) (fun g w => g = gAwake ((base 6).at (a61 jv nv tv) (.inRegion R1ops6 [0, 1] :: [.code E61, .code C61]) :: []) ∧ AtRel W w) 12
    (G ((base 6).at ⟨(jv :: nv :: tv :: List.replicate 52 undef).toArray, []⟩ [.code body6]) []) W := by
  have hF : AtRel W W := atRel_refl W
  simp only [body6, Try.f6, Option.getD_some, List.replicate]
  (refine Goes.step rfl (fun _ h₁_ => ?_); replace hF := at_rl hF h₁_; clear h₁_; rw [stepG_seq]; simp only [goes_go]; refine ⟨by (refine de_none ?_; intro e he; simp at he), ?_⟩)
  (refine Goes.step rfl (fun _ h₁_ => ?_); replace hF := at_rl hF h₁_; clear h₁_; rw [stepG_region]; simp only [goes_go, List.size_toArray, List.length_cons, List.length_nil, Nat.reduceAdd, Nat.zero_add, List.range, List.range.loop]; refine ⟨by (refine de_none ?_; intro e he; simp at he), ?_⟩)
  (refine Goes.step rfl (fun _ h₁_ => ?_); replace hF := at_rl hF h₁_; clear h₁_; refine goes_oper_k rfl rfl (by k_ne) (fun K_ hK_ => ?_); go_simp; refine hK_ _ _ ⟨?_, ?_⟩; (focus (refine de_none ?_; intro e he; have hm := mem_listed he; simp [go_sem, *] at hm)); clear hK_ K_; try w_num)
  (refine Goes.step rfl (fun _ h₁_ => ?_); replace hF := at_rl hF h₁_; clear h₁_; rw [stepG_region_end]; simp only [goes_go]; refine ⟨by (refine de_none ?_; intro e he; simp at he), ?_⟩)
  (refine Goes.step rfl (fun _ h₁_ => ?_); replace hF := at_rl hF h₁_; clear h₁_; rw [stepG_seq]; simp only [goes_go]; refine ⟨by (refine de_none ?_; intro e he; simp at he), ?_⟩)
  (refine Goes.step rfl (fun _ h₁_ => ?_); replace hF := at_rl hF h₁_; clear h₁_; rw [stepG_seq]; simp only [goes_go]; refine ⟨by (refine de_none ?_; intro e he; simp at he), ?_⟩)
  (refine Goes.step rfl (fun _ h₁_ => ?_); replace hF := at_rl hF h₁_; clear h₁_; rw [stepG_region]; simp only [goes_go, List.size_toArray, List.length_cons, List.length_nil, Nat.reduceAdd, Nat.zero_add, List.range, List.range.loop]; refine ⟨by (refine de_none ?_; intro e he; simp at he), ?_⟩)
  (refine Goes.step rfl (fun _ h₁_ => ?_); replace hF := at_rl hF h₁_; clear h₁_)
  refine goes_call rfl rfl (by k_ne) rfl Try.func7 nm7 rfl ⟨by (refine de_none ?_; intro e he; simp at he), ?_⟩
  refine Goes.stop (fun w₁ h₁ => ⟨?_, at_rl hF h₁⟩)
  simp only [gAwake, body7, a61, R1ops6, E61, C61, body6, Try.f6, Try.f7, Option.getD_some, List.replicate, Array.replicate, Act.eval, List.map_toArray, List.map_cons, List.map_nil, List.append_toArray, List.nil_append, List.size_toArray, List.length_nil, Nat.reduceSub, Nat.sub_zero]

set_option maxRecDepth 100000 in
set_option maxHeartbeats 1000000 in
/-- so many jobs that the law lets them go -/
theorem law6b {Post : Value → World → Prop} {w : World} {ja : Option Addr} {J cap : Nat} (hJ : 1000 < J) (hF : Below W.heap.size W w) (hpost : ∀ w, Below W.heap.size W w → Post (.bool true) w) :
    Goes Try.prog true AtRel (DE (EvL Shun B)) (AtEnd Try.prog Shun B Post) 20 (G ((base 6).at ((a61 (.slice ja J cap) nv tv).put ((R1ops6[0]?).bind (·.dst)) (.bool true)) (.inRegion R1ops6 [1] :: [.code E61, .code C61])) []) w := by
  have e : (R1ops6[0]?).bind (·.dst) = some 10 := rfl
  rw [e]
  have hd : decide ((1000 : Int) < (J : Int)) = true := decide_eq_true (by omega)
  simp only [a61, R1ops6, E61, C61, body6, Try.f6, Option.getD_some, List.replicate, Act.put, List.setIfInBounds_toArray, List.set_cons_succ, List.set_cons_zero]
  (refine Goes.step rfl (fun _ h₁_ => ?_); replace hF := Below.at_ hF h₁_; clear h₁_; refine goes_oper_k rfl rfl (by k_ne) (fun K_ hK_ => ?_); go_simp; refine hK_ _ _ ⟨?_, ?_⟩; (focus (refine de_none ?_; intro e he; have hm := mem_listed he; simp [go_sem, *] at hm)); clear hK_ K_; try w_num)
  (refine Goes.step rfl (fun _ h₁_ => ?_); replace hF := Below.at_ hF h₁_; clear h₁_; rw [stepG_region_end]; simp only [goes_go]; refine ⟨by (refine de_none ?_; intro e he; simp at he), ?_⟩)
  (refine Goes.step rfl (fun _ h₁_ => ?_); replace hF := Below.at_ hF h₁_; clear h₁_; rw [stepG_cond (t := false) rfl]; simp only [goes_go, if_true, if_false, Bool.false_eq_true, ↓reduceIte]; refine ⟨by (refine de_none ?_; intro e he; simp at he), ?_⟩)
  (refine Goes.step rfl (fun _ h₁_ => ?_); replace hF := Below.at_ hF h₁_; clear h₁_; rw [stepG_skip]; simp only [goes_go]; refine ⟨by (refine de_none ?_; intro e he; simp at he), ?_⟩)
  (refine Goes.step rfl (fun _ h₁_ => ?_); replace hF := Below.at_ hF h₁_; clear h₁_; rw [stepG_seq]; simp only [goes_go]; refine ⟨by (refine de_none ?_; intro e he; simp at he), ?_⟩)
  (refine Goes.step rfl (fun _ h₁_ => ?_); replace hF := Below.at_ hF h₁_; clear h₁_; rw [stepG_seq]; simp only [goes_go]; refine ⟨by (refine de_none ?_; intro e he; simp at he), ?_⟩)
  (refine Goes.step rfl (fun _ h₁_ => ?_); replace hF := Below.at_ hF h₁_; clear h₁_; rw [stepG_region]; simp only [goes_go, List.size_toArray, List.length_cons, List.length_nil, Nat.reduceAdd, Nat.zero_add, List.range, List.range.loop]; refine ⟨by (refine de_none ?_; intro e he; simp at he), ?_⟩)
  (refine Goes.step rfl (fun _ h₁_ => ?_); replace hF := Below.at_ hF h₁_; clear h₁_; refine goes_oper_k rfl rfl (by k_ne) (fun K_ hK_ => ?_); go_simp; refine hK_ _ _ ⟨?_, ?_⟩; (focus (refine de_none ?_; intro e he; have hm := mem_listed he; simp [go_sem, *] at hm)); clear hK_ K_; try w_num)
  (refine Goes.step rfl (fun _ h₁_ => ?_); replace hF := Below.at_ hF h₁_; clear h₁_; refine goes_oper_k rfl rfl (by k_ne) (fun K_ hK_ => ?_); go_simp; refine hK_ _ _ ⟨?_, ?_⟩; (focus (refine de_none ?_; intro e he; have hm := mem_listed he; simp [go_sem, *] at hm)); clear hK_ K_; try w_num)
  (refine Goes.step rfl (fun _ h₁_ => ?_); replace hF := Below.at_ hF h₁_; clear h₁_; refine goes_oper_k rfl rfl (by k_ne) (fun K_ hK_ => ?_); go_simp; refine hK_ _ _ ⟨?_, ?_⟩; (focus (refine de_none ?_; intro e he; have hm := mem_listed he; simp [go_sem, *] at hm)); clear hK_ K_; try w_num)
  (refine Goes.step rfl (fun _ h₁_ => ?_); replace hF := Below.at_ hF h₁_; clear h₁_; rw [stepG_region_end]; simp only [goes_go]; refine ⟨by (refine de_none ?_; intro e he; simp at he), ?_⟩)
  (refine Goes.step rfl (fun _ h₁_ => ?_); replace hF := Below.at_ hF h₁_; clear h₁_; rw [stepG_cond (t := true) rfl]; simp only [goes_go, if_true, if_false, Bool.false_eq_true, ↓reduceIte]; refine ⟨by (refine de_none ?_; intro e he; simp at he), ?_⟩)
  (refine Goes.step rfl (fun _ h₁_ => ?_); replace hF := Below.at_ hF h₁_; clear h₁_; rw [stepG_seq]; simp only [goes_go]; refine ⟨by (refine de_none ?_; intro e he; simp at he), ?_⟩)
  (refine Goes.step rfl (fun _ h₁_ => ?_); replace hF := Below.at_ hF h₁_; clear h₁_; rw [stepG_region]; simp only [goes_go, List.size_toArray, List.length_cons, List.length_nil, Nat.reduceAdd, Nat.zero_add, List.range, List.range.loop]; refine ⟨by (refine de_none ?_; intro e he; simp at he), ?_⟩)
  (refine Goes.step rfl (fun _ h₁_ => ?_); replace hF := Below.at_ hF h₁_; clear h₁_; refine goes_oper_k rfl rfl (by k_ne) (fun K_ hK_ => ?_); go_simp; refine hK_ _ _ ⟨?_, ?_⟩; (focus (refine de_none ?_; intro e he; have hm := mem_listed he; simp [go_sem, *] at hm)); clear hK_ K_; try w_num)
  (refine Goes.step rfl (fun _ h₁_ => ?_); replace hF := Below.at_ hF h₁_; clear h₁_; rw [stepG_region_end]; simp only [goes_go]; refine ⟨by (refine de_none ?_; intro e he; simp at he), ?_⟩)
  (refine Goes.step rfl (fun _ h₁_ => ?_); replace hF := Below.at_ hF h₁_; clear h₁_; rw [stepG_ret']; simp only [goes_go]; refine ⟨by (refine de_none ?_; intro e he; simp at he), ?_⟩)
  refine Goes.stop (fun w₂ r₂ => ⟨rfl, .bool true, #[], ?_, by simp, hpost _ (Below.at_ hF r₂)⟩)
  simp [G, stepG, unwind, doReturn, results, Frame.at, base, Try.func6, Try.f6, seen, GStep.after]


/-- the frame behind the first append -/
noncomputable def a64 (jv nv tv j' : Value) (v12 v14 v16 : Value) (J : Nat) : Act := ⟨(jv :: nv :: tv :: undef :: undef :: undef :: .bool false :: undef :: undef :: undef :: .bool true :: .bool false :: v12 :: .int .i64 J :: v14 :: undef :: v16 :: jv :: j' :: List.replicate 36 undef).toArray, []⟩
set_option maxRecDepth 100000 in
set_option maxHeartbeats 4000000 in
/-- from Awake's return to behind the first append -/
theorem law6c {N₁ : Nat} {w : World} {n : Int} {ja ta : Option Addr} {J cap tl tc : Nat} {fj : Nat → Value} (hN : W.heap.size ≤ N₁) (hJ : J ≤ 1000) (hsj : SrcV w ja J W.heap.size fj) (hF : G4 W N₁ [] w ∧ SrcV w ja J W.heap.size fj ∧ w.heap.size = N₁)
    (hS1 : ∀ a : Addr, a.block < W.heap.size → ¬ Shun (.cell a)) (hS2 : ∀ a : Addr, N₁ ≤ a.block → ¬ Shun (.cell a)) (hB : N₁ + 1 ≤ B) :
    Goes Try.prog true AtRel (DE (EvL Shun B)) (fun g w => ∃ j1 c1 v12 v14 v16, g = G ((base 6).at (a64 (.slice ja J cap) (.int .i64 n) (.slice ta tl tc) (.slice (some ⟨j1, 0, none⟩) J c1) v12 v14 v16 J) (.inRegion R5ops6 [3, 4, 5, 6, 7, 8, 9, 10, 11, 12, 13, 14, 15, 16] :: [.code C65])) [] ∧ G4 W N₁ [(j1, J, fj)] w) 40
      (G ((base 6).at ((a61 (.slice ja J cap) (.int .i64 n) (.slice ta tl tc)).put ((R1ops6[0]?).bind (·.dst)) (.bool true)) (.inRegion R1ops6 [1] :: [.code E61, .code C61])) []) w := by
  have e : (R1ops6[0]?).bind (·.dst) = some 10 := rfl
  rw [e]
  have hd : decide ((1000 : Int) < (J : Int)) = false := decide_eq_false (by omega)
  have fa : ∀ {w w' : World}, (G4 W N₁ [] w ∧ SrcV w ja J W.heap.size fj ∧ w.heap.size = N₁) → AtRel w w' → (G4 W N₁ [] w' ∧ SrcV w' ja J W.heap.size fj ∧ w'.heap.size = N₁) := fun h r => by
    obtain ⟨d, rfl⟩ := r
    exact ⟨h.1.at_ ⟨d, rfl⟩, ⟨h.2.1.nil, h.2.1.blk, h.2.1.cell, h.2.1.one⟩, h.2.2⟩
  simp only [a61, R1ops6, E61, C61, body6, Try.f6, Option.getD_some, List.replicate, Act.put, List.setIfInBounds_toArray, List.set_cons_succ, List.set_cons_zero]
  (refine Goes.step rfl (fun _ h₁_ => ?_); replace hF := fa hF h₁_; clear h₁_; refine goes_oper_k rfl rfl (by k_ne) (fun K_ hK_ => ?_); go_simp; refine hK_ _ _ ⟨?_, ?_⟩; (focus (refine de_none ?_; intro e he; have hm := mem_listed he; simp [go_sem, *] at hm)); clear hK_ K_; try w_num)
  (refine Goes.step rfl (fun _ h₁_ => ?_); replace hF := fa hF h₁_; clear h₁_; rw [stepG_region_end]; simp only [goes_go]; refine ⟨by (refine de_none ?_; intro e he; simp at he), ?_⟩)
  (refine Goes.step rfl (fun _ h₁_ => ?_); replace hF := fa hF h₁_; clear h₁_; rw [stepG_cond (t := false) rfl]; simp only [goes_go, if_true, if_false, Bool.false_eq_true, ↓reduceIte]; refine ⟨by (refine de_none ?_; intro e he; simp at he), ?_⟩)
  (refine Goes.step rfl (fun _ h₁_ => ?_); replace hF := fa hF h₁_; clear h₁_; rw [stepG_skip]; simp only [goes_go]; refine ⟨by (refine de_none ?_; intro e he; simp at he), ?_⟩)
  (refine Goes.step rfl (fun _ h₁_ => ?_); replace hF := fa hF h₁_; clear h₁_; rw [stepG_seq]; simp only [goes_go]; refine ⟨by (refine de_none ?_; intro e he; simp at he), ?_⟩)
  (refine Goes.step rfl (fun _ h₁_ => ?_); replace hF := fa hF h₁_; clear h₁_; rw [stepG_seq]; simp only [goes_go]; refine ⟨by (refine de_none ?_; intro e he; simp at he), ?_⟩)
  (refine Goes.step rfl (fun _ h₁_ => ?_); replace hF := fa hF h₁_; clear h₁_; rw [stepG_region]; simp only [goes_go, List.size_toArray, List.length_cons, List.length_nil, Nat.reduceAdd, Nat.zero_add, List.range, List.range.loop]; refine ⟨by (refine de_none ?_; intro e he; simp at he), ?_⟩)
  (refine Goes.step rfl (fun _ h₁_ => ?_); replace hF := fa hF h₁_; clear h₁_; refine goes_oper_k rfl rfl (by k_ne) (fun K_ hK_ => ?_); go_simp; refine hK_ _ _ ⟨?_, ?_⟩; (focus (refine de_none ?_; intro e he; have hm := mem_listed he; simp [go_sem, *] at hm)); clear hK_ K_; try w_num)
  (refine Goes.step rfl (fun _ h₁_ => ?_); replace hF := fa hF h₁_; clear h₁_; refine goes_oper_k rfl rfl (by k_ne) (fun K_ hK_ => ?_); go_simp; refine hK_ _ _ ⟨?_, ?_⟩; (focus (refine de_none ?_; intro e he; have hm := mem_listed he; simp [go_sem, *] at hm)); clear hK_ K_; try w_num)
  (refine Goes.step rfl (fun _ h₁_ => ?_); replace hF := fa hF h₁_; clear h₁_; refine goes_oper_k rfl rfl (by k_ne) (fun K_ hK_ => ?_); go_simp; refine hK_ _ _ ⟨?_, ?_⟩; (focus (refine de_none ?_; intro e he; have hm := mem_listed he; simp [go_sem, *] at hm)); clear hK_ K_; try w_num)
  (refine Goes.step rfl (fun _ h₁_ => ?_); replace hF := fa hF h₁_; clear h₁_; rw [stepG_region_end]; simp only [goes_go]; refine ⟨by (refine de_none ?_; intro e he; simp at he), ?_⟩)
  (refine Goes.step rfl (fun _ h₁_ => ?_); replace hF := fa hF h₁_; clear h₁_; rw [stepG_cond (t := false) rfl]; simp only [goes_go, if_true, if_false, Bool.false_eq_true, ↓reduceIte]; refine ⟨by (refine de_none ?_; intro e he; simp at he), ?_⟩)
  (refine Goes.step rfl (fun _ h₁_ => ?_); replace hF := fa hF h₁_; clear h₁_; rw [stepG_skip]; simp only [goes_go]; refine ⟨by (refine de_none ?_; intro e he; simp at he), ?_⟩)
  (refine Goes.step rfl (fun _ h₁_ => ?_); replace hF := fa hF h₁_; clear h₁_; rw [stepG_seq]; simp only [goes_go]; refine ⟨by (refine de_none ?_; intro e he; simp at he), ?_⟩)
  (refine Goes.step rfl (fun _ h₁_ => ?_); replace hF := fa hF h₁_; clear h₁_; rw [stepG_region]; simp only [goes_go, List.size_toArray, List.length_cons, List.length_nil, Nat.reduceAdd, Nat.zero_add, List.range, List.range.loop]; refine ⟨by (refine de_none ?_; intro e he; simp at he), ?_⟩)
  (refine Goes.step rfl (fun _ h₁_ => ?_); replace hF := fa hF h₁_; clear h₁_)
  rename_i w₁
  refine goes_oper_k rfl rfl (by decide) (fun K_ hK_ => ?_)
  go_simp
  refine hK_ _ _ ⟨fun e he => ?_, ?_⟩
  · have hm := mem_listed he
    simp [go_sem] at hm
  clear hK_ K_
  obtain ⟨h4, hs, hw⟩ := hF
  have hF : G5e 9 W N₁ [] N₁ (w₁.alloc (.cells #[] 9)) ∧ SrcV (w₁.alloc (.cells #[] 9)) ja J W.heap.size fj := by
    have := h4.madee (e := 9) hN
    rw [hw] at this
    exact ⟨this, hs.below ((Below.refl _ _).alloc (by omega) _)⟩
  clear h4 hs hw
  have fb : ∀ {w w' : World}, (G5e 9 W N₁ [] N₁ w ∧ SrcV w ja J W.heap.size fj) → AtRel w w' → (G5e 9 W N₁ [] N₁ w' ∧ SrcV w' ja J W.heap.size fj) := fun h r => by
    obtain ⟨d, rfl⟩ := r
    exact ⟨h.1.at_ ⟨d, rfl⟩, ⟨h.2.nil, h.2.blk, h.2.cell, h.2.one⟩⟩
  (refine Goes.step rfl (fun _ h₁_ => ?_); replace hF := fb hF h₁_; clear h₁_; refine goes_oper_k rfl rfl (by k_ne) (fun K_ hK_ => ?_); go_simp; refine hK_ _ _ ⟨?_, ?_⟩; (focus (refine de_none ?_; intro e he; have hm := mem_listed he; simp [go_sem, *] at hm)); clear hK_ K_; try w_num)
  (refine Goes.step rfl (fun _ h₁_ => ?_); replace hF := fb hF h₁_; clear h₁_)
  rename_i w₂
  obtain ⟨i0, hi, hz0, hz1, hz2⟩ := info_parts info29
  have hg := (hF.1.own.lt N₁ rfl)
  obtain ⟨j1, c1, w₃, hr, hj1, hj2, hcells, hbelow, hev⟩ := append_src (tb := 29) (mc := cap) Try.underlying29 hi hz0 hz1 hz2 rfl (base := N₁) (by omega) hF.1.own hF.2 (by simp only [maxLen]; omega) (by omega)
  refine goes_oper_k rfl rfl (by decide) (fun K_ hK_ => ?_)
  refine uponK_append (.tmp 16) (.tmp 17) 29 rfl rfl rfl hr (hK_ _ _ ⟨append_ev (N := W.heap.size) (g := N₁) hS1 (fun a h => hS2 a (by omega)) (by omega) (by omega) (fun e he => ?_), ?_⟩)
  · have hm := mem_listed he
    rw [events_append_op (.tmp 16) (.tmp 17) 29 rfl rfl rfl] at hm
    exact hev e hm
  clear hK_ K_
  have hF := hF.1.grow hN hbelow hj1 hj2 hcells
  simp only [List.getElem_toArray, List.getElem_cons_succ, List.getElem_cons_zero, List.getElem?_toArray, List.getElem?_cons_succ, List.getElem?_cons_zero, Act.put, List.setIfInBounds_toArray, List.set_cons_succ, List.set_cons_zero]
  refine Goes.mono (Goes.stop (n := 0) (fun w₃ r₃ => ⟨j1, c1, .slice ja J cap, .bool false, .slice (some ⟨N₁, 0, none⟩) 0 0, ?_, hF.at_ r₃⟩)) (by omega)
  simp only [a64, R5ops6, C65, C61, body6, Try.f6, Option.getD_some, List.replicate, Act.put, List.setIfInBounds_toArray, List.set_cons_succ, List.set_cons_zero]

set_option maxRecDepth 100000 in
set_option maxHeartbeats 4000000 in
/-- .. and on, into Run -/
theorem law6d {N₁ : Nat} {w : World} {n : Int} {ja ta j1 : Option Addr} {J cap tl tc c1 jb : Nat} {v12 v14 v16 : Value} {fj ft : Nat → Value} (hN : W.heap.size ≤ N₁) (htl : tl * 8 ≤ 140737488355328) (hF : G4 W N₁ [(jb, J, fj)] w ∧ SrcV w ta tl W.heap.size ft)
    (hS1 : ∀ a : Addr, a.block < W.heap.size → ¬ Shun (.cell a)) (hS2 : ∀ a : Addr, N₁ ≤ a.block → ¬ Shun (.cell a)) {g : Nat} (hw : w.heap.size = g) (hB : g + 1 ≤ B) :
    Goes Try.prog true AtRel (DE (EvL Shun B)) (fun a w => ∃ t1 c2 v19 v20 v21 v22 v23 v24, a = R13.gRun (.slice j1 J c1) (.int .i64 (wk n)) (.slice (some ⟨t1, 0, none⟩) tl c2) (.func (.func 14) #[] #[]) ((base 6).at (a65 (.slice ja J cap) (.int .i64 n) (.slice ta tl tc) (.slice j1 J c1) (.slice (some ⟨t1, 0, none⟩) tl c2) v12 v14 v16 v19 v20 v21 v22 v23 v24 J) (.inRegion R5ops6 (11 :: [12, 13, 14, 15, 16]) :: [.code C65]) :: []) ∧ G4 W N₁ [(t1, tl, ft), (jb, J, fj)] w ∧ g ≤ t1) 20
      (G ((base 6).at (a64 (.slice ja J cap) (.int .i64 n) (.slice ta tl tc) (.slice j1 J c1) v12 v14 v16 J) (.inRegion R5ops6 [3, 4, 5, 6, 7, 8, 9, 10, 11, 12, 13, 14, 15, 16] :: [.code C65])) []) w := by
  have fa : ∀ {w w' : World}, (G4 W N₁ [(jb, J, fj)] w ∧ SrcV w ta tl W.heap.size ft ∧ w.heap.size = g) → AtRel w w' → (G4 W N₁ [(jb, J, fj)] w' ∧ SrcV w' ta tl W.heap.size ft ∧ w'.heap.size = g) := fun h r => by
    obtain ⟨d, rfl⟩ := r
    exact ⟨h.1.at_ ⟨d, rfl⟩, ⟨h.2.1.nil, h.2.1.blk, h.2.1.cell, h.2.1.one⟩, h.2.2⟩
  replace hF := And.intro hF.1 (And.intro hF.2 hw)
  clear hw
  simp only [a64, R5ops6, C65, C61, body6, Try.f6, Option.getD_some, List.replicate]
  (refine Goes.step rfl (fun _ h₁_ => ?_); replace hF := fa hF h₁_; clear h₁_; refine goes_oper_k rfl rfl (by k_ne) (fun K_ hK_ => ?_); go_simp; refine hK_ _ _ ⟨?_, ?_⟩; (focus (refine de_none ?_; intro e he; have hm := mem_listed he; simp [go_sem, *] at hm)); clear hK_ K_; try w_num)
  (refine Goes.step rfl (fun _ h₁_ => ?_); replace hF := fa hF h₁_; clear h₁_; refine goes_oper_k rfl rfl (by k_ne) (fun K_ hK_ => ?_); have hf0_ := Try.underlying3; have hf1_ := Try.underlying30; go_simp; refine hK_ _ _ ⟨?_, ?_⟩; (focus (refine de_none ?_; intro e he; have hm := mem_listed he; simp [go_sem, *] at hm)); clear hK_ K_ hf0_ hf1_; try w_num)
  (refine Goes.step rfl (fun _ h₁_ => ?_); replace hF := fa hF h₁_; clear h₁_; refine goes_oper_k rfl rfl (by k_ne) (fun K_ hK_ => ?_); go_simp; refine hK_ _ _ ⟨?_, ?_⟩; (focus (refine de_none ?_; intro e he; have hm := mem_listed he; simp [go_sem, *] at hm)); clear hK_ K_; try w_num)
  (refine Goes.step rfl (fun _ h₁_ => ?_); replace hF := fa hF h₁_; clear h₁_; refine goes_oper_k rfl rfl (by k_ne) (fun K_ hK_ => ?_); have hf0_ := Try.underlying3; have hf1_ := Try.underlying30; go_simp; refine hK_ _ _ ⟨?_, ?_⟩; (focus (refine de_none ?_; intro e he; have hm := mem_listed he; simp [go_sem, *] at hm)); clear hK_ K_ hf0_ hf1_; try w_num)
  (refine Goes.step rfl (fun _ h₁_ => ?_); replace hF := fa hF h₁_; clear h₁_; refine goes_oper_k rfl rfl (by k_ne) (fun K_ hK_ => ?_); go_simp; refine hK_ _ _ ⟨?_, ?_⟩; (focus (refine de_none ?_; intro e he; have hm := mem_listed he; simp [go_sem, *] at hm)); clear hK_ K_; try w_num)
  rw [wk_eq]
  (refine Goes.step rfl (fun _ h₁_ => ?_); replace hF := fa hF h₁_; clear h₁_)
  rename_i w₁
  refine goes_oper_k rfl rfl (by decide) (fun K_ hK_ => ?_)
  go_simp
  refine hK_ _ _ ⟨fun e he => ?_, ?_⟩
  · have hm := mem_listed he
    simp [go_sem] at hm
  clear hK_ K_
  obtain ⟨h4, hs, hw⟩ := hF
  have hF : G5 W N₁ [(jb, J, fj)] g (w₁.alloc (.cells #[] 3)) ∧ SrcV (w₁.alloc (.cells #[] 3)) ta tl W.heap.size ft := by
    have := h4.made hN
    rw [hw] at this
    exact ⟨this, hs.below ((Below.refl _ _).alloc (by have := h4.size; omega) _)⟩
  clear h4 hs hw
  have fb : ∀ {w w' : World}, (G5 W N₁ [(jb, J, fj)] g w ∧ SrcV w ta tl W.heap.size ft) → AtRel w w' → (G5 W N₁ [(jb, J, fj)] g w' ∧ SrcV w' ta tl W.heap.size ft) := fun h r => by
    obtain ⟨d, rfl⟩ := r
    exact ⟨h.1.at_ ⟨d, rfl⟩, ⟨h.2.nil, h.2.blk, h.2.cell, h.2.one⟩⟩
  (refine Goes.step rfl (fun _ h₁_ => ?_); replace hF := fb hF h₁_; clear h₁_; refine goes_oper_k rfl rfl (by k_ne) (fun K_ hK_ => ?_); go_simp; refine hK_ _ _ ⟨?_, ?_⟩; (focus (refine de_none ?_; intro e he; have hm := mem_listed he; simp [go_sem, *] at hm)); clear hK_ K_; try w_num)
  (refine Goes.step rfl (fun _ h₁_ => ?_); replace hF := fb hF h₁_; clear h₁_)
  rename_i w₂
  obtain ⟨i0, hi, hz0, hz1, hz2⟩ := info_parts info22
  have hg := (hF.1.own.lt g rfl)
  have hge := hF.1.ge
  obtain ⟨t1, c2, w₃, hr, hj1, hj2, hcells, hbelow, hev⟩ := append_src (tb := 22) (mc := tc) Try.underlying22 hi hz0 hz1 hz2 rfl (base := g) (by omega) hF.1.own hF.2 (by simp only [maxLen]; omega) (by omega)
  refine goes_oper_k rfl rfl (by decide) (fun K_ hK_ => ?_)
  refine uponK_append (.tmp 24) (.tmp 25) 22 rfl rfl rfl hr (hK_ _ _ ⟨append_ev (N := W.heap.size) (g := g) hS1 (fun a h => hS2 a (by omega)) (by omega) (by omega) (fun e he => ?_), ?_⟩)
  · have hm := mem_listed he
    rw [events_append_op (.tmp 24) (.tmp 25) 22 rfl rfl rfl] at hm
    exact hev e hm
  clear hK_ K_
  replace hF := hF.1.grow hN hbelow hj1 hj2 hcells
  simp only [List.getElem_toArray, List.getElem_cons_succ, List.getElem_cons_zero, List.getElem?_toArray, List.getElem?_cons_succ, List.getElem?_cons_zero, Act.put, List.setIfInBounds_toArray, List.set_cons_succ, List.set_cons_zero]
  (refine Goes.step rfl (fun _ h₁_ => ?_); replace hF := G4.at_ hF h₁_; clear h₁_)
  refine goes_call rfl rfl (by k_ne) rfl Try.func13 nm13 rfl ⟨by (refine de_none ?_; intro e he; simp at he), ?_⟩
  refine Goes.mono (Goes.stop (n := 0) (fun w₁ h₁ => ⟨t1, c2, .int .i64 n, .int .u64 (n % 18446744073709551616), .int .u64 (Int.tmod (n % 18446744073709551616) 64), .int .i64 (IntKind.i64.wrap (Int.tmod (n % 18446744073709551616) 64)), .int .i64 (wk n), .slice (some ⟨g, 0, none⟩) 0 0, ?_, hF.at_ h₁, hj1⟩)) (by omega)
  simp only [R13.gRun, R13.bodyR, a65, R5ops6, C65, C61, body6, Try.f6, Try.f13, Option.getD_some, List.replicate, Act.eval, List.map_toArray, List.map_cons, List.map_nil, Array.getD_eq_getD_getElem?, List.getElem?_toArray, List.getElem?_cons_succ, List.getElem?_cons_zero, List.size_toArray, List.length_cons, List.length_nil, Nat.reduceAdd, Nat.reduceSub]
end
end Go.Proofs.Ytngnkdedfcnfkaa

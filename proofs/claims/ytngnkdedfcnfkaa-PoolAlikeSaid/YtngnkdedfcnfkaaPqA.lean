/-
  Awake: the fixed fact of the pool's laws, as a phase: a frame in which goroutine 0 has just entered Awake ⟹ a frame with two leavers more in which it is back at its caller with 'true'.
-/
import Derived.Test.YtngnkdedfcnfkaaRAZA
import Derived.Test.YtngnkdedfcnfkaaPrD
set_option linter.unusedSimpArgs false
set_option linter.unusedVariables false
namespace Go.Proofs.Ytngnkdedfcnfkaa
open Go Go.Conc Go.RowKit Go.Conc.Lib Go.ConcR.Gen Go.ConcN.Gen
open Go.ConcN (WgLive Has RW ShN upd upd_same upd_ne goes_mono)
open Go.ConcR (KK WgAt stA smA)

noncomputable def body7 : Code := Try.f7.body.getD .skip
noncomputable def R1ops7 : Array Oper := match body7 with | .seq _ (.seq (.region _ ops _) _) => ops | _ => #[]
noncomputable def E7 : Code := match body7 with | .seq _ (.seq _ c) => c | _ => .skip
theorem nm8 : (Try.f8.name == "runtime.NumGoroutine") = false := by kernel_rfl
/-- Awake, entered -/
noncomputable def gAwake (cs : List Frame) : Goroutine := G ((base 7).at ⟨Array.replicate 34 undef, []⟩ [.code body7]) cs
/-- Awake's frame while Run is under way -/
noncomputable def a7 (N : Nat) : Act := ⟨(Value.bool false :: undef :: undef :: undef :: .slice (some ⟨N, 0, none⟩) 3 3 :: .slice (some ⟨N + 1, 0, none⟩) 2 2 :: List.replicate 28 undef).toArray, []⟩
/-- the call of Run that Awake makes -/
def cA (N : Nat) : Ctx :=
  { H := N + 2, n := 2, J := 3, cap := 3, jb := N, ja := some ⟨N, 0, none⟩, vals := fun i => .int .i64 (i + 1), Ans := fun i v _ => v = .int .i64 ((i + 1) * (i + 1)), fn := .func (.func 9) #[] #[], zR := .int .i64 0 }

section
variable {Shun : Loc → Prop} {B : Nat} {cs : List Frame} {W : World}
set_option maxRecDepth 100000 in
/-- from Awake's entry into Run -/
theorem awake1 (hB : W.heap.size + 2 ≤ B) (hS : ∀ a : Addr, W.heap.size ≤ a.block → ¬ Shun (.cell a)) :
    Goes Try.prog true AtRel (DE (EvL Shun B)) (fun g w => g = R8.gRun (.slice (some ⟨W.heap.size, 0, none⟩) 3 3) (.int .i64 2) (.slice (some ⟨W.heap.size + 1, 0, none⟩) 2 2) (.func (.func 9) #[] #[]) ((base 7).at (a7 W.heap.size) (.inRegion R1ops7 (2 :: [3, 4, 5, 6, 7]) :: [.code E7]) :: cs) ∧
      AtRel ((W.alloc (.cells #[.int .i64 1, .int .i64 2, .int .i64 3] 3)).alloc (.cells #[.int .i64 1, .int .i64 0] 3)) w) 20 (gAwake cs) W := by
  simp only [gAwake, body7, Try.f7, Option.getD_some, Array.replicate, List.replicate]
  (refine Goes.step rfl (fun w₁_ h₁_ => ?_); obtain ⟨dd_, hdd_⟩ := h₁_; subst hdd_; (try simp only [at_alloc, at_setCell, at_at', at_size, World.size_alloc, World.size_setCell]); rw [stepG_seq]; simp only [goes_go]; refine ⟨by (refine de_none ?_; intro e he; simp at he), ?_⟩)
  (refine Goes.step rfl (fun w₁_ h₁_ => ?_); obtain ⟨dd_, hdd_⟩ := h₁_; subst hdd_; (try simp only [at_alloc, at_setCell, at_at', at_size, World.size_alloc, World.size_setCell]); rw [stepG_region]; simp only [goes_go, List.size_toArray, List.length_cons, List.length_nil, Nat.reduceAdd, Nat.zero_add, List.range, List.range.loop]; refine ⟨by (refine de_none ?_; intro e he; simp at he), ?_⟩)
  (refine Goes.step rfl (fun w₁_ h₁_ => ?_); obtain ⟨dd_, hdd_⟩ := h₁_; subst hdd_; (try simp only [at_alloc, at_setCell, at_at', at_size, World.size_alloc, World.size_setCell]); refine goes_oper_k rfl rfl (by decide) (fun K_ hK_ => ?_); go_simp; refine hK_ _ _ ⟨fun e he => ?_, ?_⟩; (focus (have hm := mem_listed he; simp [go_sem, storedEv, *] at hm; try (subst hm; exact (evL_cell _ _ (hS _ (by simp)) (by simp; omega))))); clear hK_ K_ ; try w_num)
  (refine Goes.step rfl (fun w₁_ h₁_ => ?_); obtain ⟨dd_, hdd_⟩ := h₁_; subst hdd_; (try simp only [at_alloc, at_setCell, at_at', at_size, World.size_alloc, World.size_setCell]); rw [stepG_region_end]; simp only [goes_go]; refine ⟨by (refine de_none ?_; intro e he; simp at he), ?_⟩)
  (refine Goes.step rfl (fun w₁_ h₁_ => ?_); obtain ⟨dd_, hdd_⟩ := h₁_; subst hdd_; (try simp only [at_alloc, at_setCell, at_at', at_size, World.size_alloc, World.size_setCell]); rw [stepG_seq]; simp only [goes_go]; refine ⟨by (refine de_none ?_; intro e he; simp at he), ?_⟩)
  (refine Goes.step rfl (fun w₁_ h₁_ => ?_); obtain ⟨dd_, hdd_⟩ := h₁_; subst hdd_; (try simp only [at_alloc, at_setCell, at_at', at_size, World.size_alloc, World.size_setCell]); rw [stepG_region]; simp only [goes_go, List.size_toArray, List.length_cons, List.length_nil, Nat.reduceAdd, Nat.zero_add, List.range, List.range.loop]; refine ⟨by (refine de_none ?_; intro e he; simp at he), ?_⟩)
  (refine Goes.step rfl (fun w₁_ h₁_ => ?_); obtain ⟨dd_, hdd_⟩ := h₁_; subst hdd_; (try simp only [at_alloc, at_setCell, at_at', at_size, World.size_alloc, World.size_setCell]); refine goes_oper_k rfl rfl (by decide) (fun K_ hK_ => ?_); go_simp; refine hK_ _ _ ⟨fun e he => ?_, ?_⟩; (focus (have hm := mem_listed he; simp [go_sem, storedEv, *] at hm; try (subst hm; exact (evL_cell _ _ (hS _ (by simp)) (by simp; omega))))); clear hK_ K_ ; try w_num)
  (refine Goes.step rfl (fun w₁_ h₁_ => ?_); obtain ⟨dd_, hdd_⟩ := h₁_; subst hdd_; (try simp only [at_alloc, at_setCell, at_at', at_size, World.size_alloc, World.size_setCell]); refine goes_oper_k rfl rfl (by decide) (fun K_ hK_ => ?_); go_simp; refine hK_ _ _ ⟨fun e he => ?_, ?_⟩; (focus (have hm := mem_listed he; simp [go_sem, storedEv, *] at hm; try (subst hm; exact (evL_cell _ _ (hS _ (by simp)) (by simp; omega))))); clear hK_ K_ ; try w_num)
  (refine Goes.step rfl (fun w₁_ h₁_ => ?_); obtain ⟨dd_, hdd_⟩ := h₁_; subst hdd_; (try simp only [at_alloc, at_setCell, at_at', at_size, World.size_alloc, World.size_setCell]))
  refine goes_call rfl rfl (by k_ne) rfl Try.func8 nm8 rfl ⟨by (refine de_none ?_; intro e he; simp at he), ?_⟩
  refine Goes.stop (fun w₁ h₁ => ⟨?_, ?_⟩)
  · simp only [R8.gRun, R8.bodyR, a7, R1ops7, E7, body7, Try.f7, Try.f8, Option.getD_some, List.replicate, Act.eval, List.map_toArray, List.map_cons, List.map_nil, Array.getD_eq_getD_getElem?, List.getElem?_toArray, List.getElem?_cons_succ, List.getElem?_cons_zero, List.size_toArray, List.length_cons, List.length_nil, Nat.reduceAdd, Nat.reduceSub]
  · obtain ⟨d, rfl⟩ := h₁
    exact ⟨d, rfl⟩

theorem de_of {E : Event → Prop} {w w' : World} {es : Array Event} (h : ∀ e ∈ es, E e) : DE E w w' es := h
theorem KE.ocell {c : Ctx} {re : TypeId} {W w : World} (h : KE c re W w) {x : Nat} (hx : x < c.J) : ∃ v, w.cell? ⟨c.H + 7 + 2 * c.n, x, none⟩ = some v ∧ c.Ans x v w := by
  obtain ⟨arr, h1, h2, h3⟩ := h.outb
  obtain ⟨v, h4, h5⟩ := h3 x hx
  exact ⟨v, by simp [World.cell?, h1, h4], h5⟩

theorem cellA {N : Nat} {W w : World} (h : KE (cA N) 3 W w) : w.cell? ⟨N + 13, 0, none⟩ = some (.int .i64 1) ∧ w.cell? ⟨N + 13, 1, none⟩ = some (.int .i64 4) ∧ w.cell? ⟨N + 13, 2, none⟩ = some (.int .i64 9) := by
  refine ⟨?_, ?_, ?_⟩
  · obtain ⟨v, h1, h2⟩ := h.ocell (x := 0) (show 0 < 3 by omega)
    have h3 : v = .int .i64 1 := h2
    subst h3; exact h1
  · obtain ⟨v, h1, h2⟩ := h.ocell (x := 1) (show 1 < 3 by omega)
    have h3 : v = .int .i64 4 := h2
    subst h3; exact h1
  · obtain ⟨v, h1, h2⟩ := h.ocell (x := 2) (show 2 < 3 by omega)
    have h3 : v = .int .i64 9 := h2
    subst h3; exact h1
set_option maxRecDepth 100000 in
set_option maxHeartbeats 1000000 in
/-- out of Run: all is as it should be -/
theorem awake2 {N : Nat} {Shun₀ : Loc → Prop} (hc : OkC (cA N) Shun₀) {s : Nat} (hB : N + 13 < B) (hS : ∀ a : Addr, a.block = N + 13 → ¬ Shun (.cell a)) {b₀ : Frame} {a₀ : Act} {ops₀ : Array Oper} {i₀ : Nat} {rest₀ : List Nat} {k₀ : List Item} {cs₀ : List Frame} {W w : World} {g : Goroutine}
    (hg : R8.Left3 (cA N) (base 7) (a7 N) R1ops7 2 [3, 4, 5, 6, 7] [.code E7] (b₀.at a₀ (.inRegion ops₀ (i₀ :: rest₀) :: k₀) :: cs₀) g) (hF : KE (cA N) 3 W w ∧ w.heap.size = s) :
    Goes Try.prog true AtRel (DE (EvL Shun B)) (fun g w => g = G (b₀.at (a₀.put ((ops₀[i₀]?).bind (·.dst)) (.bool true)) (.inRegion ops₀ rest₀ :: k₀)) cs₀ ∧ KE (cA N) 3 W w ∧ w.heap.size = s) 40 g w := by
  have fa : ∀ {w w' : World}, (KE (cA N) 3 W w ∧ w.heap.size = s) → AtRel w w' → (KE (cA N) 3 W w' ∧ w'.heap.size = s) := fun h r => ⟨h.1.at_ hc r, by obtain ⟨d, rfl⟩ := r; exact h.2⟩
  have e : (R1ops7[2]?).bind (·.dst) = some 6 := rfl
  unfold R8.Left3 at hg
  rw [e] at hg
  have e1 : (cA N).H + 7 + 2 * (cA N).n = N + 13 := rfl
  have e2 : (cA N).J = 3 := rfl
  simp only [e1, e2, a7, R1ops7, E7, body7, Try.f7, Option.getD_some, List.replicate, Act.put, List.setIfInBounds_toArray, List.set_cons_succ, List.set_cons_zero] at hg
  subst hg
  (refine Goes.step rfl (fun _ h₁_ => ?_); replace hF := fa hF h₁_; clear h₁_; refine goes_oper_k rfl rfl (by k_ne) (fun K_ hK_ => ?_); go_simp; refine hK_ _ _ ⟨?_, ?_⟩; (focus (refine de_none ?_; intro e he; have hm := mem_listed he; simp [go_sem, *] at hm)); clear hK_ K_; try w_num)
  (refine Goes.step rfl (fun _ h₁_ => ?_); replace hF := fa hF h₁_; clear h₁_; refine goes_oper_k rfl rfl (by k_ne) (fun K_ hK_ => ?_); go_simp; refine hK_ _ _ ⟨?_, ?_⟩; (focus (refine de_none ?_; intro e he; have hm := mem_listed he; simp [go_sem, *] at hm)); clear hK_ K_; try w_num)
  (refine Goes.step rfl (fun _ h₁_ => ?_); replace hF := fa hF h₁_; clear h₁_; refine goes_oper_k rfl rfl (by k_ne) (fun K_ hK_ => ?_); go_simp; refine hK_ _ _ ⟨?_, ?_⟩; (focus (refine de_none ?_; intro e he; have hm := mem_listed he; simp [go_sem, *] at hm)); clear hK_ K_; try w_num)
  (refine Goes.step rfl (fun _ h₁_ => ?_); replace hF := fa hF h₁_; clear h₁_; refine goes_oper_k rfl rfl (by k_ne) (fun K_ hK_ => ?_); go_simp; refine hK_ _ _ ⟨?_, ?_⟩; (focus (refine de_none ?_; intro e he; have hm := mem_listed he; simp [go_sem, *] at hm)); clear hK_ K_; try w_num)
  (refine Goes.step rfl (fun _ h₁_ => ?_); replace hF := fa hF h₁_; clear h₁_; refine goes_oper_k rfl rfl (by k_ne) (fun K_ hK_ => ?_); go_simp; refine hK_ _ _ ⟨?_, ?_⟩; (focus (refine de_none ?_; intro e he; have hm := mem_listed he; simp [go_sem, *] at hm)); clear hK_ K_; try w_num)
  (refine Goes.step rfl (fun _ h₁_ => ?_); replace hF := fa hF h₁_; clear h₁_; rw [stepG_region_end]; simp only [goes_go]; refine ⟨by (refine de_none ?_; intro e he; simp at he), ?_⟩)
  (refine Goes.step rfl (fun _ h₁_ => ?_); replace hF := fa hF h₁_; clear h₁_; rw [stepG_seq]; simp only [goes_go]; refine ⟨by (refine de_none ?_; intro e he; simp at he), ?_⟩)
  (refine Goes.step rfl (fun _ h₁_ => ?_); replace hF := fa hF h₁_; clear h₁_; rw [stepG_region]; simp only [goes_go, List.size_toArray, List.length_cons, List.length_nil, Nat.reduceAdd, Nat.zero_add, List.range, List.range.loop]; refine ⟨by (refine de_none ?_; intro e he; simp at he), ?_⟩)
  (refine Goes.step rfl (fun _ h₁_ => ?_); replace hF := fa hF h₁_; clear h₁_; refine goes_oper_k rfl rfl (by k_ne) (fun K_ hK_ => ?_); go_simp; refine hK_ _ _ ⟨?_, ?_⟩; (focus (refine de_none ?_; intro e he; have hm := mem_listed he; simp [go_sem, *] at hm)); clear hK_ K_; try w_num)
  (refine Goes.step rfl (fun _ h₁_ => ?_); replace hF := fa hF h₁_; clear h₁_; refine goes_oper_k rfl rfl (by k_ne) (fun K_ hK_ => ?_); go_simp; refine hK_ _ _ ⟨?_, ?_⟩; (focus (refine de_none ?_; intro e he; have hm := mem_listed he; simp [go_sem, *] at hm)); clear hK_ K_; try w_num)
  (refine Goes.step rfl (fun _ h₁_ => ?_); replace hF := fa hF h₁_; clear h₁_; refine goes_oper_k rfl rfl (by k_ne) (fun K_ hK_ => ?_); go_simp; refine hK_ _ _ ⟨?_, ?_⟩; (focus (refine de_none ?_; intro e he; have hm := mem_listed he; simp [go_sem, *] at hm)); clear hK_ K_; try w_num)
  (refine Goes.step rfl (fun _ h₁_ => ?_); replace hF := fa hF h₁_; clear h₁_; refine goes_oper_k rfl rfl (by k_ne) (fun K_ hK_ => ?_); go_simp; refine hK_ _ _ ⟨?_, ?_⟩; (focus (refine de_none ?_; intro e he; have hm := mem_listed he; simp [go_sem, *] at hm)); clear hK_ K_; try w_num)
  (refine Goes.step rfl (fun _ h₁_ => ?_); replace hF := fa hF h₁_; clear h₁_; refine goes_oper_k rfl rfl (by k_ne) (fun K_ hK_ => ?_); go_simp; refine hK_ _ _ ⟨?_, ?_⟩; (focus (refine de_none ?_; intro e he; have hm := mem_listed he; simp [go_sem, *] at hm)); clear hK_ K_; try w_num)
  (refine Goes.step rfl (fun _ h₁_ => ?_); replace hF := fa hF h₁_; clear h₁_; refine goes_oper_k rfl rfl (by k_ne) (fun K_ hK_ => ?_); go_simp; refine hK_ _ _ ⟨?_, ?_⟩; (focus (refine de_none ?_; intro e he; have hm := mem_listed he; simp [go_sem, *] at hm)); clear hK_ K_; try w_num)
  (refine Goes.step rfl (fun _ h₁_ => ?_); replace hF := fa hF h₁_; clear h₁_; refine goes_oper_k rfl rfl (by k_ne) (fun K_ hK_ => ?_); go_simp; refine hK_ _ _ ⟨?_, ?_⟩; (focus (refine de_none ?_; intro e he; have hm := mem_listed he; simp [go_sem, *] at hm)); clear hK_ K_; try w_num)
  (refine Goes.step rfl (fun _ h₁_ => ?_); replace hF := fa hF h₁_; clear h₁_; refine goes_oper_k rfl rfl (by k_ne) (fun K_ hK_ => ?_); go_simp; refine hK_ _ _ ⟨?_, ?_⟩; (focus (refine de_none ?_; intro e he; have hm := mem_listed he; simp [go_sem, *] at hm)); clear hK_ K_; try w_num)
  (refine Goes.step rfl (fun _ h₁_ => ?_); replace hF := fa hF h₁_; clear h₁_; refine goes_oper_k rfl rfl (by k_ne) (fun K_ hK_ => ?_); go_simp; refine hK_ _ _ ⟨?_, ?_⟩; (focus (refine de_none ?_; intro e he; have hm := mem_listed he; simp [go_sem, *] at hm)); clear hK_ K_; try w_num)
  (refine Goes.step rfl (fun _ h₁_ => ?_); replace hF := fa hF h₁_; clear h₁_; refine goes_oper_k rfl rfl (by k_ne) (fun K_ hK_ => ?_); go_simp; refine hK_ _ _ ⟨?_, ?_⟩; (focus (refine de_none ?_; intro e he; have hm := mem_listed he; simp [go_sem, *] at hm)); clear hK_ K_; try w_num)
  (refine Goes.step rfl (fun _ h₁_ => ?_); replace hF := fa hF h₁_; clear h₁_; refine goes_oper_k rfl rfl (by decide) (fun K_ hK_ => ?_); have hf0_ := ((cellA hF.1).1); go_simp; refine hK_ _ _ ⟨de_of (fun e he => ?_), ?_⟩; (focus (have hm := mem_listed he; simp [go_sem, storedEv, *] at hm; try (subst hm; exact (evL_cell _ _ (hS _ (by simp)) (by simp; omega))))); clear hK_ K_ hf0_)
  (refine Goes.step rfl (fun _ h₁_ => ?_); replace hF := fa hF h₁_; clear h₁_; refine goes_oper_k rfl rfl (by k_ne) (fun K_ hK_ => ?_); go_simp; refine hK_ _ _ ⟨?_, ?_⟩; (focus (refine de_none ?_; intro e he; have hm := mem_listed he; simp [go_sem, *] at hm)); clear hK_ K_; try w_num)
  (refine Goes.step rfl (fun _ h₁_ => ?_); replace hF := fa hF h₁_; clear h₁_; refine goes_oper_k rfl rfl (by k_ne) (fun K_ hK_ => ?_); go_simp; refine hK_ _ _ ⟨?_, ?_⟩; (focus (refine de_none ?_; intro e he; have hm := mem_listed he; simp [go_sem, *] at hm)); clear hK_ K_; try w_num)
  (refine Goes.step rfl (fun _ h₁_ => ?_); replace hF := fa hF h₁_; clear h₁_; refine goes_oper_k rfl rfl (by k_ne) (fun K_ hK_ => ?_); go_simp; refine hK_ _ _ ⟨?_, ?_⟩; (focus (refine de_none ?_; intro e he; have hm := mem_listed he; simp [go_sem, *] at hm)); clear hK_ K_; try w_num)
  (refine Goes.step rfl (fun _ h₁_ => ?_); replace hF := fa hF h₁_; clear h₁_; refine goes_oper_k rfl rfl (by k_ne) (fun K_ hK_ => ?_); go_simp; refine hK_ _ _ ⟨?_, ?_⟩; (focus (refine de_none ?_; intro e he; have hm := mem_listed he; simp [go_sem, *] at hm)); clear hK_ K_; try w_num)
  (refine Goes.step rfl (fun _ h₁_ => ?_); replace hF := fa hF h₁_; clear h₁_; refine goes_oper_k rfl rfl (by k_ne) (fun K_ hK_ => ?_); go_simp; refine hK_ _ _ ⟨?_, ?_⟩; (focus (refine de_none ?_; intro e he; have hm := mem_listed he; simp [go_sem, *] at hm)); clear hK_ K_; try w_num)
  (refine Goes.step rfl (fun _ h₁_ => ?_); replace hF := fa hF h₁_; clear h₁_; refine goes_oper_k rfl rfl (by decide) (fun K_ hK_ => ?_); have hf0_ := ((cellA hF.1).2.1); go_simp; refine hK_ _ _ ⟨de_of (fun e he => ?_), ?_⟩; (focus (have hm := mem_listed he; simp [go_sem, storedEv, *] at hm; try (subst hm; exact (evL_cell _ _ (hS _ (by simp)) (by simp; omega))))); clear hK_ K_ hf0_)
  (refine Goes.step rfl (fun _ h₁_ => ?_); replace hF := fa hF h₁_; clear h₁_; refine goes_oper_k rfl rfl (by k_ne) (fun K_ hK_ => ?_); go_simp; refine hK_ _ _ ⟨?_, ?_⟩; (focus (refine de_none ?_; intro e he; have hm := mem_listed he; simp [go_sem, *] at hm)); clear hK_ K_; try w_num)
  (refine Goes.step rfl (fun _ h₁_ => ?_); replace hF := fa hF h₁_; clear h₁_; refine goes_oper_k rfl rfl (by k_ne) (fun K_ hK_ => ?_); go_simp; refine hK_ _ _ ⟨?_, ?_⟩; (focus (refine de_none ?_; intro e he; have hm := mem_listed he; simp [go_sem, *] at hm)); clear hK_ K_; try w_num)
  (refine Goes.step rfl (fun _ h₁_ => ?_); replace hF := fa hF h₁_; clear h₁_; refine goes_oper_k rfl rfl (by k_ne) (fun K_ hK_ => ?_); go_simp; refine hK_ _ _ ⟨?_, ?_⟩; (focus (refine de_none ?_; intro e he; have hm := mem_listed he; simp [go_sem, *] at hm)); clear hK_ K_; try w_num)
  (refine Goes.step rfl (fun _ h₁_ => ?_); replace hF := fa hF h₁_; clear h₁_; refine goes_oper_k rfl rfl (by k_ne) (fun K_ hK_ => ?_); go_simp; refine hK_ _ _ ⟨?_, ?_⟩; (focus (refine de_none ?_; intro e he; have hm := mem_listed he; simp [go_sem, *] at hm)); clear hK_ K_; try w_num)
  (refine Goes.step rfl (fun _ h₁_ => ?_); replace hF := fa hF h₁_; clear h₁_; refine goes_oper_k rfl rfl (by k_ne) (fun K_ hK_ => ?_); go_simp; refine hK_ _ _ ⟨?_, ?_⟩; (focus (refine de_none ?_; intro e he; have hm := mem_listed he; simp [go_sem, *] at hm)); clear hK_ K_; try w_num)
  (refine Goes.step rfl (fun _ h₁_ => ?_); replace hF := fa hF h₁_; clear h₁_; refine goes_oper_k rfl rfl (by decide) (fun K_ hK_ => ?_); have hf0_ := ((cellA hF.1).2.2); go_simp; refine hK_ _ _ ⟨de_of (fun e he => ?_), ?_⟩; (focus (have hm := mem_listed he; simp [go_sem, storedEv, *] at hm; try (subst hm; exact (evL_cell _ _ (hS _ (by simp)) (by simp; omega))))); clear hK_ K_ hf0_)
  (refine Goes.step rfl (fun _ h₁_ => ?_); replace hF := fa hF h₁_; clear h₁_; refine goes_oper_k rfl rfl (by k_ne) (fun K_ hK_ => ?_); go_simp; refine hK_ _ _ ⟨?_, ?_⟩; (focus (refine de_none ?_; intro e he; have hm := mem_listed he; simp [go_sem, *] at hm)); clear hK_ K_; try w_num)
  (refine Goes.step rfl (fun _ h₁_ => ?_); replace hF := fa hF h₁_; clear h₁_; refine goes_oper_k rfl rfl (by k_ne) (fun K_ hK_ => ?_); go_simp; refine hK_ _ _ ⟨?_, ?_⟩; (focus (refine de_none ?_; intro e he; have hm := mem_listed he; simp [go_sem, *] at hm)); clear hK_ K_; try w_num)
  (refine Goes.step rfl (fun _ h₁_ => ?_); replace hF := fa hF h₁_; clear h₁_; refine goes_oper_k rfl rfl (by k_ne) (fun K_ hK_ => ?_); go_simp; refine hK_ _ _ ⟨?_, ?_⟩; (focus (refine de_none ?_; intro e he; have hm := mem_listed he; simp [go_sem, *] at hm)); clear hK_ K_; try w_num)
  (refine Goes.step rfl (fun _ h₁_ => ?_); replace hF := fa hF h₁_; clear h₁_; rw [stepG_region_end]; simp only [goes_go]; refine ⟨by (refine de_none ?_; intro e he; simp at he), ?_⟩)
  (refine Goes.step rfl (fun _ h₁_ => ?_); replace hF := fa hF h₁_; clear h₁_; rw [stepG_ret']; simp only [goes_go]; refine ⟨by (refine de_none ?_; intro e he; simp at he), ?_⟩)
  (refine Goes.step rfl (fun _ h₁_ => ?_); replace hF := fa hF h₁_; clear h₁_)
  refine goes_leave1 rfl rfl Try.func7 rfl ⟨by (refine de_none ?_; intro e he; simp at he), ?_⟩
  exact Goes.stop (fun w₁ h₁ => ⟨rfl, fa hF h₁⟩)

theorem okA (hS : ∀ a : Addr, W.heap.size ≤ a.block → ¬ Shun (.cell a)) : OkC (cA W.heap.size) Shun where
  npos := by show 1 ≤ 2; omega
  nmax := by show 2 ≤ 64; omega
  Jmax := by show 3 ≤ 8192; omega
  ja _ := rfl
  jbH _ := by show W.heap.size < W.heap.size + 2; omega
  ansK _ _ _ _ h _ := h
  f1 _ _ _ h := by have h : _ = _ := h; subst h; rfl
  fn1 := rfl
  f2 _ _ _ h := by have h : _ = _ := h; subst h; rfl
  sh a h _ := hS a (by have : W.heap.size + 2 ≤ a.block := h; omega)
  shj a _ h := hS a (by have : a.block = W.heap.size := h; omega)
theorem okTA {w : World} (hS : ∀ a : Addr, W.heap.size ≤ a.block → ¬ Shun (.cell a)) (h : AtRel ((W.alloc (.cells #[.int .i64 1, .int .i64 2, .int .i64 3] 3)).alloc (.cells #[.int .i64 1, .int .i64 0] 3)) w) :
    OkT (cA W.heap.size) Shun w (some ⟨W.heap.size + 1, 0, none⟩) 2 (W.heap.size + 1) (fun i => if i = 0 then 1 else 0) where
  ta _ := rfl
  tbH _ := by show W.heap.size + 1 < W.heap.size + 2; omega
  sh a _ h := hS a (by omega)
  cell i hi := by
    obtain ⟨d, rfl⟩ := h
    show (((W.alloc (.cells #[.int .i64 1, .int .i64 2, .int .i64 3] 3)).alloc (.cells #[.int .i64 1, .int .i64 0] 3))).cell? ⟨W.heap.size + 1, i, none⟩ = _
    rw [World.cell?_alloc_at _ _ _ _ (by simp)]
    match i, hi with
    | 0, _ | 1, _ => rfl
  len := by omega
  lo i _ := by show -9223372036854775808 ≤ (if i = 0 then (1 : Int) else 0); split <;> omega
  hi i _ := by show (if i = 0 then (1 : Int) else 0) < 9223372036854775808; split <;> omega

set_option maxHeartbeats 1000000 in
/-- ████████ Awake. ████████ -/
theorem awake_phase (hS : ∀ a : Addr, W.heap.size ≤ a.block → ¬ Shun (.cell a)) {B₀ : Nat} (hB₀ : B₀ ≤ W.heap.size) {b₀ : Frame} {a₀ : Act} {ops₀ : Array Oper} {i₀ : Nat} {rest₀ : List Nat} {k₀ : List Item} {cs₀ : List Frame} {gs : Array Goroutine} {T : Trace} {q : Nat → Nat} {sl : Option (Nat × Nat)} (hbig : gs.size + 66 < 2147483648)
    (ha : gs[0]? = some (gAwake (b₀.at a₀ (.inRegion ops₀ (i₀ :: rest₀) :: k₀) :: cs₀))) (hL : Leavers Try.prog T gs q) (hP : Past Shun B₀ T) :
    ∃ N gs' a' w' sl' T' q', runNT Try.prog N (crowd gs W sl) T = (.next (crowd gs' w' sl'), T') ∧ gs'.size = gs.size + 2 ∧ gs'[0]? = some a' ∧ a' = G (b₀.at (a₀.put ((ops₀[i₀]?).bind (·.dst)) (.bool true)) (.inRegion ops₀ rest₀ :: k₀)) cs₀ ∧
      Below W.heap.size W w' ∧ W.heap.size + 14 ≤ w'.heap.size ∧ Leavers Try.prog T' gs' q' ∧ Past (fun l => Shun l ∨ ShN (W.heap.size + 8) l) w'.heap.size T' := by
  have hc := okA (W := W) hS
  obtain ⟨N₁, gs₁, a₁, w₁, sl₁, T₁, q₁, hr₁, hsz₁, ha₁, ⟨rfl, hw₁⟩, hL₁, hP₁⟩ := walk_beside (P := Try.prog) (Shun := Shun) (B := W.heap.size + 2) (fun _ _ _ h => h) _ _ gs _ W sl T q (Nat.le_refl _) ha hL (hP.mono (by omega)) (awake1 (cs := b₀.at a₀ (.inRegion ops₀ (i₀ :: rest₀) :: k₀) :: cs₀) (Nat.le_refl _) hS)
  have hb₁ : Below W.heap.size W w₁ := by
    obtain ⟨d, rfl⟩ := hw₁
    have := ((Below.refl W.heap.size W).alloc (Nat.le_refl _) (.cells #[.int .i64 1, .int .i64 2, .int .i64 3] 3)).alloc (by simp) (.cells #[.int .i64 1, .int .i64 0] 3)
    exact ⟨this.os, this.tape, this.output, this.size, this.block⟩
  have hsw : w₁.heap.size = W.heap.size + 2 := by obtain ⟨d, rfl⟩ := hw₁; simp [World.at]
  have hcell : ∀ i, i < 3 → w₁.cell? ⟨W.heap.size, i, none⟩ = some (.int .i64 ((i : Int) + 1)) := by
    intro i hi
    obtain ⟨d, rfl⟩ := hw₁
    show (((W.alloc (.cells #[.int .i64 1, .int .i64 2, .int .i64 3] 3)).alloc (.cells #[.int .i64 1, .int .i64 0] 3))).cell? ⟨W.heap.size, i, none⟩ = _
    rw [World.cell?_alloc_past _ _ _ (by simp), World.cell?_alloc_at _ _ _ _ rfl]
    match i, hi with
    | 0, _ | 1, _ | 2, _ => rfl
  have hsq : ∀ i, i < (cA W.heap.size).J → ∃ x : Int, (cA W.heap.size).vals i = .int .i64 x ∧ ∀ w, (cA W.heap.size).Ans i (.int .i64 (IntKind.wrap .i64 (x * x))) w := by
    intro i hi
    have hi' : i < 3 := hi
    refine ⟨(i : Int) + 1, rfl, fun _ => ?_⟩
    show _ = Value.int .i64 (((i : Int) + 1) * ((i : Int) + 1))
    match i, hi' with
    | 0, _ | 1, _ | 2, _ => rfl
  obtain ⟨N₂, gs₂, a₂, w₂, sl₂, T₂, q₂, hr₂, hsz₂, ha₂, hA₂, hK₂, hL₂, hP₂⟩ := R8.run_phase (sl := sl₁) (c := cA W.heap.size) (W := w₁) (B := W.heap.size + 17) (B₀ := W.heap.size + 2) hc (doesSquare rfl hsq) (by show W.heap.size + 2 + 8 + 2 * 2 ≤ _; omega) (by show W.heap.size + 2 = _; omega) hcell (okTA hS hw₁) (Nat.le_refl _) (by omega) ha₁ hL₁ hP₁
  have hS₂ : ∀ a : Addr, a.block = W.heap.size + 13 → ¬ ShunW (cA W.heap.size) Shun (.cell a) := fun a h => shunW_not (hS a (by omega)) (by show a.block ≠ W.heap.size + 2 + 6; omega)
  obtain ⟨N₃, gs₃, a₃, w₃, sl₃, T₃, q₃, hr₃, hsz₃, ha₃, ⟨hA₃, hK₃, hs₃⟩, hL₃, hP₃⟩ := walk_beside (P := Try.prog) (B := w₂.heap.size) (fun _ _ _ h => h) _ _ gs₂ _ w₂ sl₂ T₂ q₂ (Nat.le_refl _) ha₂ hL₂ hP₂ (awake2 (Shun := ShunW (cA W.heap.size) Shun) hc (by have : W.heap.size + 2 + 8 + 2 * 2 ≤ w₂.heap.size := hK₂.sz; omega) hS₂ hA₂ ⟨hK₂, rfl⟩)
  refine ⟨N₁ + (N₂ + N₃), gs₃, a₃, w₃, sl₃, T₃, q₃, runNT_then hr₁ (runNT_then hr₂ hr₃), ?_, ha₃, hA₃, ?_, ?_, hL₃, ?_⟩
  · have : gs₂.size = gs₁.size + 2 := hsz₂
    omega
  · have ho := hK₃.kb.old
    exact hb₁.trans ⟨ho.os, ho.tape, ho.output, by have : W.heap.size + 2 + 8 + 2 * 2 ≤ w₃.heap.size := hK₃.sz; omega, fun b hb => ho.block b (by show b < W.heap.size + 2; omega)⟩
  · have : W.heap.size + 2 + 8 + 2 * 2 ≤ w₃.heap.size := hK₃.sz
    omega
  · rw [hs₃]; exact hP₃
end
end Go.Proofs.Ytngnkdedfcnfkaa

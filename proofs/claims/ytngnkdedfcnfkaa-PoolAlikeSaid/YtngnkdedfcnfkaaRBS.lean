/-
  lantern/pool.Run (function 10): the starter, from its entry to its first loop.
-/
import Derived.Test.YtngnkdedfcnfkaaPrE
import Derived.Test.YtngnkdedfcnfkaaRBW
import Derived.Laws.MakeOwn
import Derived.Conc.SmallLaws
set_option linter.unusedSimpArgs false
set_option linter.unusedVariables false
namespace Go.Proofs.Ytngnkdedfcnfkaa.R10
open Go Go.Conc Go.RowKit Go.Conc.Lib Go.ConcR.Gen Go.ConcN.Gen
open Go.ConcN (WgLive Has RW ShN upd upd_same upd_ne)
open Go.ConcR (KK WgAt stA smA)

noncomputable def bodyR : Code := Try.f10.body.getD .skip
noncomputable def C1 : Code := match bodyR with | .seq _ (.seq _ (.seq _ (.seq _ (.seq _ c)))) => c | _ => .skip
noncomputable def L1 : Code := match C1 with | .seq (.seq _ (.block _ (.loop c))) _ => c | _ => .skip
noncomputable def C2 : Code := match C1 with | .seq _ c => c | _ => .skip

/-- what the slots hold all along -/
structure Sl1 (c : Ctx) (tv : Value) (k : Nat) (T : Array Value) : Prop where
  sz : T.size = 93
  s1 : T[1]? = some (.int .i64 c.n)
  s2 : T[2]? = some tv
  s4 : T[4]? = some (pt c.H)
  s7 : T[7]? = some (pt (c.H + 1))
  s10 : T[10]? = some (pt (c.H + 3))
  s11 : T[11]? = some (pt (c.H + 5))
  s12 : T[12]? = some (pt (c.H + 6))
  s36 : T[36]? = some (.int .i64 c.n)
  s37 : T[37]? = some (.int .i64 k)
/-- at the head of the loop that hires, k hired -/
def Head1 (c : Ctx) (tv : Value) (cs : List Frame) (k : Nat) (g : Goroutine) : Prop :=
  ∃ T : Array Value, g = G ((base 10).at ⟨T, []⟩ [.code L1, .inLoop L1, .inBlock 0, .code C2]) cs ∧ Sl1 c tv k T

/-- Run, entered -/
noncomputable def gRun (jv nv tv fv : Value) (cs : List Frame) : Goroutine := G ((base 10).at ⟨#[jv, nv, tv, fv] ++ Array.replicate 89 undef, []⟩ [.code bodyR]) cs

section
variable {c : Ctx} {Shun : Loc → Prop} {B : Nat} {cs : List Frame} {W : World}
theorem info52 : (Try.prog.info? 52).map (fun i => (i.zero, i.size, i.bytes)) = some (some (.chan none), 1, 8) := by kernel_rfl

/-- the world at the first loop's head -/
def wE (c : Ctx) (W : World) : World := ((((((W.alloc (.cells #[.slice c.ja c.J c.cap] 29)).alloc (.cells #[c.fn] 34)).alloc (.cells (madeCells #[.chan none] c.n) 52)).alloc (.cells #[.slice (some ⟨W.heap.size + 1 + 1, 0, none⟩) c.n c.n] 40)).alloc (.chan 0 #[] false 0 0 false)).alloc (.cells #[.chan (some (W.heap.size + 1 + 1 + 1 + 1))] 57)).alloc (.cells #[.int .u64 0, .int .u32 0] 51)
theorem wE_heap (c : Ctx) (W : World) : (wE c W).heap = ((((((W.heap.push (.cells #[.slice c.ja c.J c.cap] 29)).push (.cells #[c.fn] 34)).push (.cells (madeCells #[.chan none] c.n) 52)).push (.cells #[.slice (some ⟨W.heap.size + 1 + 1, 0, none⟩) c.n c.n] 40)).push (.chan 0 #[] false 0 0 false)).push (.cells #[.chan (some (W.heap.size + 1 + 1 + 1 + 1))] 57)).push (.cells #[.int .u64 0, .int .u32 0] 51) := rfl
theorem wE_old (c : Ctx) (W : World) {b : Nat} (h : b < W.heap.size) : (wE c W).heap[b]? = W.heap[b]? := by
  rw [wE_heap]
  simp only [Array.getElem?_push, Array.size_push]
  repeat rw [if_neg (by omega)]
theorem ks0 (hc : OkC c Shun) (hH : c.H = W.heap.size) (hjobs : ∀ i, i < c.J → W.cell? ⟨c.jb, i, none⟩ = some (c.vals i)) : KS c W 0 (wE c W) := by
  have e : ∀ i, i < 7 → (wE c W).heap[c.H + i]? = #[Obj.cells #[.slice c.ja c.J c.cap] 29, .cells #[c.fn] 34, .cells (madeCells #[.chan none] c.n) 52, .cells #[.slice (some ⟨W.heap.size + 1 + 1, 0, none⟩) c.n c.n] 40, .chan 0 #[] false 0 0 false, .cells #[.chan (some (W.heap.size + 1 + 1 + 1 + 1))] 57, .cells #[.int .u64 0, .int .u32 0] 51][i]? := by
    intro i hi
    rw [wE_heap, hH]
    simp only [Array.getElem?_push, Array.size_push]
    match i, hi with
    | 0, _ | 1, _ | 2, _ | 3, _ | 4, _ | 5, _ | 6, _ => (repeat rw [if_neg (by omega)]); rw [if_pos (by omega)]; rfl
  refine ⟨⟨⟨rfl, rfl, rfl, by rw [wE_heap]; simp; omega, fun b hb => wE_old c W (by omega)⟩, ?_, ?_, ?_, ?_, ⟨_, e 2 (by omega), size_madeCells _ _⟩, fun j hj => absurd hj (by omega), fun j hj => absurd hj (by omega), fun i hi => ?_, ?_⟩, by rw [wE_heap]; simp; omega, e 4 (by omega), fun j hj => absurd hj (by omega)⟩
  · have := e 0 (by omega); simp [World.cell?] at this ⊢; rw [this]; simp
  · have := e 1 (by omega); simp [World.cell?] at this ⊢; rw [this]; simp
  · have := e 3 (by omega); simp [World.cell?] at this ⊢; rw [this]; simp [hH]
  · have := e 5 (by omega); simp [World.cell?] at this ⊢; rw [this]; simp [hH]
  · rw [← hjobs i hi]
    exact (same_block (wE_old c W (by have := hc.jbH (by omega); simp only; omega))).1
  · exact ⟨0, 0, e 6 (by omega)⟩

theorem wg0 (c : Ctx) (W : World) (hH : c.H = W.heap.size) : WgAt 51 (c.H + 6) (wE c W) 0 0 := by
  have e : (wE c W).heap[c.H + 6]? = some (.cells #[.int .u64 0, .int .u32 0] 51) := by
    rw [wE_heap, Array.getElem?_push, if_pos (by simp only [Array.size_push]; omega)]
  exact e
theorem infoD : ∃ i, Try.prog.info? 59 = some i := Option.isSome_iff_exists.1 (by kernel_rfl)
theorem infoI : ∃ i, Try.prog.info? 3 = some i := Option.isSome_iff_exists.1 (by kernel_rfl)
theorem mkD (w : World) : (Instr.makeChan 57 (.int .i64 0)).run Try.prog w = .ok (.chan (some w.heap.size)) (w.alloc (.chan 0 #[] false 0 0 false)) := by
  obtain ⟨i, hi⟩ := infoD
  simpa using run_makeChan (P := Try.prog) (w := w) Try.underlying57 hi .i64 0 (by omega) (by simp)
theorem mkDe (w : World) (es : Array Event) : (Instr.makeChan 57 (.int .i64 0)).events Try.prog w es = es := by
  obtain ⟨i, hi⟩ := infoD
  simpa using events_makeChan (P := Try.prog) (w := w) Try.underlying57 hi .i64 0 (by omega) (by simp) es
theorem mkI (w : World) : (Instr.makeChan 52 (.int .i64 0)).run Try.prog w = .ok (.chan (some w.heap.size)) (w.alloc (.chan 0 #[] false 0 0 false)) := by
  obtain ⟨i, hi⟩ := infoI
  simpa using run_makeChan (P := Try.prog) (w := w) Try.underlying52 hi .i64 0 (by omega) (by simp)
theorem mkIe (w : World) (es : Array Event) : (Instr.makeChan 52 (.int .i64 0)).events Try.prog w es = es := by
  obtain ⟨i, hi⟩ := infoI
  simpa using events_makeChan (P := Try.prog) (w := w) Try.underlying52 hi .i64 0 (by omega) (by simp) es

set_option maxRecDepth 100000 in
set_option maxHeartbeats 4000000 in
theorem entry1 (hc : OkC c Shun) (hB : c.H + 6 ≤ B) (hH : c.H = W.heap.size) {tv : Value} (hjobs : ∀ i, i < c.J → W.cell? ⟨c.jb, i, none⟩ = some (c.vals i)) :
    ∃ m, Goes Try.prog true AtRel (DE (EvL Shun B)) (fun g w => Head1 c tv cs 0 g ∧ KS c W 0 w ∧ WgAt 51 (c.H + 6) w 0 0) m (gRun (.slice c.ja c.J c.cap) (.int .i64 c.n) tv c.fn cs) W := by
  refine ⟨60, ?_⟩
  obtain ⟨i0, hi, hz0, hz1, hz2⟩ := info_parts info52
  have hn1 := hc.npos
  have hn2 := hc.nmax
  have hJ2 := hc.Jmax
  have hmk := fun w => run_make (P := Try.prog) w 40 52 i0 (.chan none) Try.underlying40 hi hz0 .i64 .i64 c.n c.n (by omega) (by omega) (by rw [hz2]; omega) (by omega)
  have hme := fun w es => events_make (P := Try.prog) w 40 52 i0 (.chan none) Try.underlying40 hi hz0 .i64 .i64 c.n c.n (by omega) (by omega) (by rw [hz2]; omega) (by omega) (by rw [hz2]; simp; omega) es
  have hn3 : decide ((c.n : Int) < 1) = false := decide_eq_false (by omega)
  have hn4 : decide ((64 : Int) < (c.n : Int)) = false := decide_eq_false (by omega)
  have hn5 : decide ((8192 : Int) < (c.J : Int)) = false := decide_eq_false (by omega)
  have hca : ∀ (w : World) (d : Nat) (a : Addr), (w.at d).cell? a = w.cell? a := fun _ _ _ => rfl
  have hfa : ∀ (w : World) (d : Nat) (a : Addr), (w.at d).frozen? a = w.frozen? a := fun _ _ _ => rfl
  have hfn1 := hc.fn1
  simp only [Value.cells] at hfn1
  simp only [gRun, bodyR, Try.f10, Option.getD_some, Array.replicate, List.replicate, List.append_toArray, List.cons_append, List.nil_append]
  (refine Goes.step rfl (fun w₁_ h₁_ => ?_); obtain ⟨dd_, hdd_⟩ := h₁_; subst hdd_; (try simp only [at_alloc, at_setCell, at_at', at_size, World.size_alloc, World.size_setCell]); rw [stepG_seq]; simp only [goes_go]; refine ⟨by (refine de_none ?_; intro e he; simp at he), ?_⟩)
  (refine Goes.step rfl (fun w₁_ h₁_ => ?_); obtain ⟨dd_, hdd_⟩ := h₁_; subst hdd_; (try simp only [at_alloc, at_setCell, at_at', at_size, World.size_alloc, World.size_setCell]); rw [stepG_region]; simp only [goes_go, List.size_toArray, List.length_cons, List.length_nil, Nat.reduceAdd, Nat.zero_add, List.range, List.range.loop]; refine ⟨by (refine de_none ?_; intro e he; simp at he), ?_⟩)
  (refine Goes.step rfl (fun w₁_ h₁_ => ?_); obtain ⟨dd_, hdd_⟩ := h₁_; subst hdd_; (try simp only [at_alloc, at_setCell, at_at', at_size, World.size_alloc, World.size_setCell]); refine goes_oper_k rfl rfl (by decide) (fun K_ hK_ => ?_); have hf0_ := hfn1; go_simp; refine hK_ _ _ ⟨fun e he => ?_, ?_⟩; (focus (have hm := mem_listed he; simp [go_sem, storedEv, *] at hm; try (subst hm; exact (evL_cell _ _ (hc.sh _ (by simp; omega) (by simp; omega)) (by simp; omega))))); clear hK_ K_ hf0_; try w_num)
  (refine Goes.step rfl (fun w₁_ h₁_ => ?_); obtain ⟨dd_, hdd_⟩ := h₁_; subst hdd_; (try simp only [at_alloc, at_setCell, at_at', at_size, World.size_alloc, World.size_setCell]); refine goes_oper_k rfl rfl (by decide) (fun K_ hK_ => ?_); have hf0_ := hfn1; go_simp; refine hK_ _ _ ⟨fun e he => ?_, ?_⟩; (focus (have hm := mem_listed he; simp [go_sem, storedEv, *] at hm; try (subst hm; exact (evL_cell _ _ (hc.sh _ (by simp; omega) (by simp; omega)) (by simp; omega))))); clear hK_ K_ hf0_; try w_num)
  (refine Goes.step rfl (fun w₁_ h₁_ => ?_); obtain ⟨dd_, hdd_⟩ := h₁_; subst hdd_; (try simp only [at_alloc, at_setCell, at_at', at_size, World.size_alloc, World.size_setCell]); refine goes_oper_k rfl rfl (by decide) (fun K_ hK_ => ?_); have hf0_ := hfn1; go_simp; refine hK_ _ _ ⟨fun e he => ?_, ?_⟩; (focus (have hm := mem_listed he; simp [go_sem, storedEv, *] at hm; try (subst hm; exact (evL_cell _ _ (hc.sh _ (by simp; omega) (by simp; omega)) (by simp; omega))))); clear hK_ K_ hf0_; try w_num)
  (refine Goes.step rfl (fun w₁_ h₁_ => ?_); obtain ⟨dd_, hdd_⟩ := h₁_; subst hdd_; (try simp only [at_alloc, at_setCell, at_at', at_size, World.size_alloc, World.size_setCell]); refine goes_oper_k rfl rfl (by decide) (fun K_ hK_ => ?_); have hf0_ := hfn1; go_simp; refine hK_ _ _ ⟨fun e he => ?_, ?_⟩; (focus (have hm := mem_listed he; simp [go_sem, storedEv, *] at hm; try (subst hm; exact (evL_cell _ _ (hc.sh _ (by simp; omega) (by simp; omega)) (by simp; omega))))); clear hK_ K_ hf0_; try w_num)
  (refine Goes.step rfl (fun w₁_ h₁_ => ?_); obtain ⟨dd_, hdd_⟩ := h₁_; subst hdd_; (try simp only [at_alloc, at_setCell, at_at', at_size, World.size_alloc, World.size_setCell]); rw [stepG_region_end]; simp only [goes_go]; refine ⟨by (refine de_none ?_; intro e he; simp at he), ?_⟩)
  (refine Goes.step rfl (fun w₁_ h₁_ => ?_); obtain ⟨dd_, hdd_⟩ := h₁_; subst hdd_; (try simp only [at_alloc, at_setCell, at_at', at_size, World.size_alloc, World.size_setCell]); rw [stepG_seq]; simp only [goes_go]; refine ⟨by (refine de_none ?_; intro e he; simp at he), ?_⟩)
  (refine Goes.step rfl (fun w₁_ h₁_ => ?_); obtain ⟨dd_, hdd_⟩ := h₁_; subst hdd_; (try simp only [at_alloc, at_setCell, at_at', at_size, World.size_alloc, World.size_setCell]); rw [stepG_seq]; simp only [goes_go]; refine ⟨by (refine de_none ?_; intro e he; simp at he), ?_⟩)
  (refine Goes.step rfl (fun w₁_ h₁_ => ?_); obtain ⟨dd_, hdd_⟩ := h₁_; subst hdd_; (try simp only [at_alloc, at_setCell, at_at', at_size, World.size_alloc, World.size_setCell]); rw [stepG_region]; simp only [goes_go, List.size_toArray, List.length_cons, List.length_nil, Nat.reduceAdd, Nat.zero_add, List.range, List.range.loop]; refine ⟨by (refine de_none ?_; intro e he; simp at he), ?_⟩)
  (refine Goes.step rfl (fun w₁_ h₁_ => ?_); obtain ⟨dd_, hdd_⟩ := h₁_; subst hdd_; (try simp only [at_alloc, at_setCell, at_at', at_size, World.size_alloc, World.size_setCell]); refine goes_oper_k rfl rfl (by decide) (fun K_ hK_ => ?_); go_simp; refine hK_ _ _ ⟨fun e he => ?_, ?_⟩; (focus (have hm := mem_listed he; simp [go_sem, storedEv, *] at hm; try (subst hm; exact (evL_cell _ _ (hc.sh _ (by simp; omega) (by simp; omega)) (by simp; omega))))); clear hK_ K_ ; try w_num)
  (refine Goes.step rfl (fun w₁_ h₁_ => ?_); obtain ⟨dd_, hdd_⟩ := h₁_; subst hdd_; (try simp only [at_alloc, at_setCell, at_at', at_size, World.size_alloc, World.size_setCell]); refine goes_oper_k rfl rfl (by decide) (fun K_ hK_ => ?_); go_simp; refine hK_ _ _ ⟨fun e he => ?_, ?_⟩; (focus (have hm := mem_listed he; simp [go_sem, storedEv, *] at hm; try (subst hm; exact (evL_cell _ _ (hc.sh _ (by simp; omega) (by simp; omega)) (by simp; omega))))); clear hK_ K_ ; try w_num)
  (refine Goes.step rfl (fun w₁_ h₁_ => ?_); obtain ⟨dd_, hdd_⟩ := h₁_; subst hdd_; (try simp only [at_alloc, at_setCell, at_at', at_size, World.size_alloc, World.size_setCell]); refine goes_oper_k rfl rfl (by decide) (fun K_ hK_ => ?_); go_simp; refine hK_ _ _ ⟨fun e he => ?_, ?_⟩; (focus (have hm := mem_listed he; simp [go_sem, storedEv, *] at hm; try (subst hm; exact (evL_cell _ _ (hc.sh _ (by simp; omega) (by simp; omega)) (by simp; omega))))); clear hK_ K_ ; try w_num)
  (refine Goes.step rfl (fun w₁_ h₁_ => ?_); obtain ⟨dd_, hdd_⟩ := h₁_; subst hdd_; (try simp only [at_alloc, at_setCell, at_at', at_size, World.size_alloc, World.size_setCell]); refine goes_oper_k rfl rfl (by decide) (fun K_ hK_ => ?_); go_simp; refine hK_ _ _ ⟨fun e he => ?_, ?_⟩; (focus (have hm := mem_listed he; simp [go_sem, storedEv, *] at hm; try (subst hm; exact (evL_cell _ _ (hc.sh _ (by simp; omega) (by simp; omega)) (by simp; omega))))); clear hK_ K_ ; try w_num)
  (refine Goes.step rfl (fun w₁_ h₁_ => ?_); obtain ⟨dd_, hdd_⟩ := h₁_; subst hdd_; (try simp only [at_alloc, at_setCell, at_at', at_size, World.size_alloc, World.size_setCell]); refine goes_oper_k rfl rfl (by decide) (fun K_ hK_ => ?_); go_simp; refine hK_ _ _ ⟨fun e he => ?_, ?_⟩; (focus (have hm := mem_listed he; simp [go_sem, storedEv, *] at hm; try (subst hm; exact (evL_cell _ _ (hc.sh _ (by simp; omega) (by simp; omega)) (by simp; omega))))); clear hK_ K_ ; try w_num)
  (refine Goes.step rfl (fun w₁_ h₁_ => ?_); obtain ⟨dd_, hdd_⟩ := h₁_; subst hdd_; (try simp only [at_alloc, at_setCell, at_at', at_size, World.size_alloc, World.size_setCell]); refine goes_oper_k rfl rfl (by decide) (fun K_ hK_ => ?_); go_simp; refine hK_ _ _ ⟨fun e he => ?_, ?_⟩; (focus (have hm := mem_listed he; simp [go_sem, storedEv, *] at hm; try (subst hm; exact (evL_cell _ _ (hc.sh _ (by simp; omega) (by simp; omega)) (by simp; omega))))); clear hK_ K_ ; try w_num)
  (refine Goes.step rfl (fun w₁_ h₁_ => ?_); obtain ⟨dd_, hdd_⟩ := h₁_; subst hdd_; (try simp only [at_alloc, at_setCell, at_at', at_size, World.size_alloc, World.size_setCell]); refine goes_oper_k rfl rfl (by decide) (fun K_ hK_ => ?_); go_simp; refine hK_ _ _ ⟨fun e he => ?_, ?_⟩; (focus (have hm := mem_listed he; simp [go_sem, storedEv, *] at hm; try (subst hm; exact (evL_cell _ _ (hc.sh _ (by simp; omega) (by simp; omega)) (by simp; omega))))); clear hK_ K_ ; try w_num)
  (refine Goes.step rfl (fun w₁_ h₁_ => ?_); obtain ⟨dd_, hdd_⟩ := h₁_; subst hdd_; (try simp only [at_alloc, at_setCell, at_at', at_size, World.size_alloc, World.size_setCell]); refine goes_oper_k rfl rfl (by decide) (fun K_ hK_ => ?_); go_simp; refine hK_ _ _ ⟨fun e he => ?_, ?_⟩; (focus (have hm := mem_listed he; simp [go_sem, storedEv, *] at hm; try (subst hm; exact (evL_cell _ _ (hc.sh _ (by simp; omega) (by simp; omega)) (by simp; omega))))); clear hK_ K_ ; try w_num)
  (refine Goes.step rfl (fun w₁_ h₁_ => ?_); obtain ⟨dd_, hdd_⟩ := h₁_; subst hdd_; (try simp only [at_alloc, at_setCell, at_at', at_size, World.size_alloc, World.size_setCell]); refine goes_oper_k rfl rfl (by decide) (fun K_ hK_ => ?_); go_simp; refine hK_ _ _ ⟨fun e he => ?_, ?_⟩; (focus (have hm := mem_listed he; simp [go_sem, storedEv, *] at hm; try (subst hm; exact (evL_cell _ _ (hc.sh _ (by simp; omega) (by simp; omega)) (by simp; omega))))); clear hK_ K_ ; try w_num)
  (refine Goes.step rfl (fun w₁_ h₁_ => ?_); obtain ⟨dd_, hdd_⟩ := h₁_; subst hdd_; (try simp only [at_alloc, at_setCell, at_at', at_size, World.size_alloc, World.size_setCell]); refine goes_oper_k rfl rfl (by decide) (fun K_ hK_ => ?_); go_simp; refine hK_ _ _ ⟨fun e he => ?_, ?_⟩; (focus (have hm := mem_listed he; simp [go_sem, storedEv, *] at hm; try (subst hm; exact (evL_cell _ _ (hc.sh _ (by simp; omega) (by simp; omega)) (by simp; omega))))); clear hK_ K_ ; try w_num)
  (refine Goes.step rfl (fun w₁_ h₁_ => ?_); obtain ⟨dd_, hdd_⟩ := h₁_; subst hdd_; (try simp only [at_alloc, at_setCell, at_at', at_size, World.size_alloc, World.size_setCell]); refine goes_oper_k rfl rfl (by decide) (fun K_ hK_ => ?_); go_simp; refine hK_ _ _ ⟨fun e he => ?_, ?_⟩; (focus (have hm := mem_listed he; simp [go_sem, storedEv, *] at hm; try (subst hm; exact (evL_cell _ _ (hc.sh _ (by simp; omega) (by simp; omega)) (by simp; omega))))); clear hK_ K_ ; try w_num)
  (refine Goes.step rfl (fun w₁_ h₁_ => ?_); obtain ⟨dd_, hdd_⟩ := h₁_; subst hdd_; (try simp only [at_alloc, at_setCell, at_at', at_size, World.size_alloc, World.size_setCell]); rw [stepG_region_end]; simp only [goes_go]; refine ⟨by (refine de_none ?_; intro e he; simp at he), ?_⟩)
  (refine Goes.step rfl (fun w₁_ h₁_ => ?_); obtain ⟨dd_, hdd_⟩ := h₁_; subst hdd_; (try simp only [at_alloc, at_setCell, at_at', at_size, World.size_alloc, World.size_setCell]); rw [stepG_cond (t := false) rfl]; simp only [goes_go, if_true, if_false, Bool.false_eq_true, ↓reduceIte]; refine ⟨by (refine de_none ?_; intro e he; simp at he), ?_⟩)
  (refine Goes.step rfl (fun w₁_ h₁_ => ?_); obtain ⟨dd_, hdd_⟩ := h₁_; subst hdd_; (try simp only [at_alloc, at_setCell, at_at', at_size, World.size_alloc, World.size_setCell]); rw [stepG_skip]; simp only [goes_go]; refine ⟨by (refine de_none ?_; intro e he; simp at he), ?_⟩)
  (refine Goes.step rfl (fun w₁_ h₁_ => ?_); obtain ⟨dd_, hdd_⟩ := h₁_; subst hdd_; (try simp only [at_alloc, at_setCell, at_at', at_size, World.size_alloc, World.size_setCell]); rw [stepG_seq]; simp only [goes_go]; refine ⟨by (refine de_none ?_; intro e he; simp at he), ?_⟩)
  (refine Goes.step rfl (fun w₁_ h₁_ => ?_); obtain ⟨dd_, hdd_⟩ := h₁_; subst hdd_; (try simp only [at_alloc, at_setCell, at_at', at_size, World.size_alloc, World.size_setCell]); rw [stepG_region]; simp only [goes_go, List.size_toArray, List.length_cons, List.length_nil, Nat.reduceAdd, Nat.zero_add, List.range, List.range.loop]; refine ⟨by (refine de_none ?_; intro e he; simp at he), ?_⟩)
  (refine Goes.step rfl (fun w₁_ h₁_ => ?_); obtain ⟨dd_, hdd_⟩ := h₁_; subst hdd_; (try simp only [at_alloc, at_setCell, at_at', at_size, World.size_alloc, World.size_setCell]); refine goes_oper_k rfl rfl (by decide) (fun K_ hK_ => ?_); go_simp; refine hK_ _ _ ⟨fun e he => ?_, ?_⟩; (focus (have hm := mem_listed he; simp [go_sem, storedEv, *] at hm; try (subst hm; exact (evL_cell _ _ (hc.sh _ (by simp; omega) (by simp; omega)) (by simp; omega))))); clear hK_ K_ ; try w_num)
  (refine Goes.step rfl (fun w₁_ h₁_ => ?_); obtain ⟨dd_, hdd_⟩ := h₁_; subst hdd_; (try simp only [at_alloc, at_setCell, at_at', at_size, World.size_alloc, World.size_setCell]); refine goes_oper_k rfl rfl (by decide) (fun K_ hK_ => ?_); go_simp; refine hK_ _ _ ⟨fun e he => ?_, ?_⟩; (focus (have hm := mem_listed he; simp [go_sem, storedEv, *] at hm; try (subst hm; exact (evL_cell _ _ (hc.sh _ (by simp; omega) (by simp; omega)) (by simp; omega))))); clear hK_ K_ ; try w_num)
  (refine Goes.step rfl (fun w₁_ h₁_ => ?_); obtain ⟨dd_, hdd_⟩ := h₁_; subst hdd_; (try simp only [at_alloc, at_setCell, at_at', at_size, World.size_alloc, World.size_setCell]); refine goes_oper_k rfl rfl (by decide) (fun K_ hK_ => ?_); go_simp; refine hK_ _ _ ⟨fun e he => ?_, ?_⟩; (focus (have hm := mem_listed he; simp [go_sem, storedEv, *] at hm; try (subst hm; exact (evL_cell _ _ (hc.sh _ (by simp; omega) (by simp; omega)) (by simp; omega))))); clear hK_ K_ ; try w_num)
  (refine Goes.step rfl (fun w₁_ h₁_ => ?_); obtain ⟨dd_, hdd_⟩ := h₁_; subst hdd_; (try simp only [at_alloc, at_setCell, at_at', at_size, World.size_alloc, World.size_setCell]); refine goes_oper_k rfl rfl (by decide) (fun K_ hK_ => ?_); go_simp; refine hK_ _ _ ⟨fun e he => ?_, ?_⟩; (focus (have hm := mem_listed he; simp [go_sem, storedEv, *] at hm; try (subst hm; exact (evL_cell _ _ (hc.sh _ (by simp; omega) (by simp; omega)) (by simp; omega))))); clear hK_ K_ ; try w_num)
  (refine Goes.step rfl (fun w₁_ h₁_ => ?_); obtain ⟨dd_, hdd_⟩ := h₁_; subst hdd_; (try simp only [at_alloc, at_setCell, at_at', at_size, World.size_alloc, World.size_setCell]); rw [stepG_region_end]; simp only [goes_go]; refine ⟨by (refine de_none ?_; intro e he; simp at he), ?_⟩)
  (refine Goes.step rfl (fun w₁_ h₁_ => ?_); obtain ⟨dd_, hdd_⟩ := h₁_; subst hdd_; (try simp only [at_alloc, at_setCell, at_at', at_size, World.size_alloc, World.size_setCell]); rw [stepG_seq]; simp only [goes_go]; refine ⟨by (refine de_none ?_; intro e he; simp at he), ?_⟩)
  (refine Goes.step rfl (fun w₁_ h₁_ => ?_); obtain ⟨dd_, hdd_⟩ := h₁_; subst hdd_; (try simp only [at_alloc, at_setCell, at_at', at_size, World.size_alloc, World.size_setCell]); rw [stepG_region]; simp only [goes_go, List.size_toArray, List.length_cons, List.length_nil, Nat.reduceAdd, Nat.zero_add, List.range, List.range.loop]; refine ⟨by (refine de_none ?_; intro e he; simp at he), ?_⟩)
  (refine Goes.step rfl (fun w₁_ h₁_ => ?_); obtain ⟨dd_, hdd_⟩ := h₁_; subst hdd_; (try simp only [at_alloc, at_setCell, at_at', at_size, World.size_alloc, World.size_setCell]); refine goes_oper_k rfl rfl (by decide) (fun K_ hK_ => ?_); have hf0_ := mkD; have hf1_ := mkDe; go_simp; refine hK_ _ _ ⟨fun e he => ?_, ?_⟩; (focus (have hm := mem_listed he; simp [go_sem, storedEv, *] at hm; try (subst hm; exact (evL_cell _ _ (hc.sh _ (by simp; omega) (by simp; omega)) (by simp; omega))))); clear hK_ K_ hf0_ hf1_; try w_num)
  (refine Goes.step rfl (fun w₁_ h₁_ => ?_); obtain ⟨dd_, hdd_⟩ := h₁_; subst hdd_; (try simp only [at_alloc, at_setCell, at_at', at_size, World.size_alloc, World.size_setCell]); refine goes_oper_k rfl rfl (by decide) (fun K_ hK_ => ?_); go_simp; refine hK_ _ _ ⟨fun e he => ?_, ?_⟩; (focus (have hm := mem_listed he; simp [go_sem, storedEv, *] at hm; try (subst hm; exact (evL_cell _ _ (hc.sh _ (by simp; omega) (by simp; omega)) (by simp; omega))))); clear hK_ K_ ; try w_num)
  (refine Goes.step rfl (fun w₁_ h₁_ => ?_); obtain ⟨dd_, hdd_⟩ := h₁_; subst hdd_; (try simp only [at_alloc, at_setCell, at_at', at_size, World.size_alloc, World.size_setCell]); refine goes_oper_k rfl rfl (by decide) (fun K_ hK_ => ?_); go_simp; refine hK_ _ _ ⟨fun e he => ?_, ?_⟩; (focus (have hm := mem_listed he; simp [go_sem, storedEv, *] at hm; try (subst hm; exact (evL_cell _ _ (hc.sh _ (by simp; omega) (by simp; omega)) (by simp; omega))))); clear hK_ K_ ; try w_num)
  (refine Goes.step rfl (fun w₁_ h₁_ => ?_); obtain ⟨dd_, hdd_⟩ := h₁_; subst hdd_; (try simp only [at_alloc, at_setCell, at_at', at_size, World.size_alloc, World.size_setCell]); rw [stepG_region_end]; simp only [goes_go]; refine ⟨by (refine de_none ?_; intro e he; simp at he), ?_⟩)
  (refine Goes.step rfl (fun w₁_ h₁_ => ?_); obtain ⟨dd_, hdd_⟩ := h₁_; subst hdd_; (try simp only [at_alloc, at_setCell, at_at', at_size, World.size_alloc, World.size_setCell]); rw [stepG_seq]; simp only [goes_go]; refine ⟨by (refine de_none ?_; intro e he; simp at he), ?_⟩)
  (refine Goes.step rfl (fun w₁_ h₁_ => ?_); obtain ⟨dd_, hdd_⟩ := h₁_; subst hdd_; (try simp only [at_alloc, at_setCell, at_at', at_size, World.size_alloc, World.size_setCell]); rw [stepG_region]; simp only [goes_go, List.size_toArray, List.length_cons, List.length_nil, Nat.reduceAdd, Nat.zero_add, List.range, List.range.loop]; refine ⟨by (refine de_none ?_; intro e he; simp at he), ?_⟩)
  (refine Goes.step rfl (fun w₁_ h₁_ => ?_); obtain ⟨dd_, hdd_⟩ := h₁_; subst hdd_; (try simp only [at_alloc, at_setCell, at_at', at_size, World.size_alloc, World.size_setCell]); refine goes_oper_k rfl rfl (by decide) (fun K_ hK_ => ?_); go_simp; refine hK_ _ _ ⟨fun e he => ?_, ?_⟩; (focus (have hm := mem_listed he; simp [go_sem, storedEv, *] at hm; try (subst hm; exact (evL_cell _ _ (hc.sh _ (by simp; omega) (by simp; omega)) (by simp; omega))))); clear hK_ K_ ; try w_num)
  (refine Goes.step rfl (fun w₁_ h₁_ => ?_); obtain ⟨dd_, hdd_⟩ := h₁_; subst hdd_; (try simp only [at_alloc, at_setCell, at_at', at_size, World.size_alloc, World.size_setCell]); rw [stepG_region_end]; simp only [goes_go]; refine ⟨by (refine de_none ?_; intro e he; simp at he), ?_⟩)
  (refine Goes.step rfl (fun w₁_ h₁_ => ?_); obtain ⟨dd_, hdd_⟩ := h₁_; subst hdd_; (try simp only [at_alloc, at_setCell, at_at', at_size, World.size_alloc, World.size_setCell]); rw [stepG_seq]; simp only [goes_go]; refine ⟨by (refine de_none ?_; intro e he; simp at he), ?_⟩)
  (refine Goes.step rfl (fun w₁_ h₁_ => ?_); obtain ⟨dd_, hdd_⟩ := h₁_; subst hdd_; (try simp only [at_alloc, at_setCell, at_at', at_size, World.size_alloc, World.size_setCell]); rw [stepG_seq]; simp only [goes_go]; refine ⟨by (refine de_none ?_; intro e he; simp at he), ?_⟩)
  (refine Goes.step rfl (fun w₁_ h₁_ => ?_); obtain ⟨dd_, hdd_⟩ := h₁_; subst hdd_; (try simp only [at_alloc, at_setCell, at_at', at_size, World.size_alloc, World.size_setCell]); rw [stepG_region]; simp only [goes_go, List.size_toArray, List.length_cons, List.length_nil, Nat.reduceAdd, Nat.zero_add, List.range, List.range.loop]; refine ⟨by (refine de_none ?_; intro e he; simp at he), ?_⟩)
  (refine Goes.step rfl (fun w₁_ h₁_ => ?_); obtain ⟨dd_, hdd_⟩ := h₁_; subst hdd_; (try simp only [at_alloc, at_setCell, at_at', at_size, World.size_alloc, World.size_setCell]); refine goes_oper_k rfl rfl (by decide) (fun K_ hK_ => ?_); go_simp; refine hK_ _ _ ⟨fun e he => ?_, ?_⟩; (focus (have hm := mem_listed he; simp [go_sem, storedEv, *] at hm; try (subst hm; exact (evL_cell _ _ (hc.sh _ (by simp; omega) (by simp; omega)) (by simp; omega))))); clear hK_ K_ ; try w_num)
  (refine Goes.step rfl (fun w₁_ h₁_ => ?_); obtain ⟨dd_, hdd_⟩ := h₁_; subst hdd_; (try simp only [at_alloc, at_setCell, at_at', at_size, World.size_alloc, World.size_setCell]); refine goes_oper_k rfl rfl (by decide) (fun K_ hK_ => ?_); go_simp; refine hK_ _ _ ⟨fun e he => ?_, ?_⟩; (focus (have hm := mem_listed he; simp [go_sem, storedEv, *] at hm; try (subst hm; exact (evL_cell _ _ (hc.sh _ (by simp; omega) (by simp; omega)) (by simp; omega))))); clear hK_ K_ ; try w_num)
  (refine Goes.step rfl (fun w₁_ h₁_ => ?_); obtain ⟨dd_, hdd_⟩ := h₁_; subst hdd_; (try simp only [at_alloc, at_setCell, at_at', at_size, World.size_alloc, World.size_setCell]); refine goes_oper_k rfl rfl (by decide) (fun K_ hK_ => ?_); go_simp; refine hK_ _ _ ⟨fun e he => ?_, ?_⟩; (focus (have hm := mem_listed he; simp [go_sem, storedEv, *] at hm; try (subst hm; exact (evL_cell _ _ (hc.sh _ (by simp; omega) (by simp; omega)) (by simp; omega))))); clear hK_ K_ ; try w_num)
  (refine Goes.step rfl (fun w₁_ h₁_ => ?_); obtain ⟨dd_, hdd_⟩ := h₁_; subst hdd_; (try simp only [at_alloc, at_setCell, at_at', at_size, World.size_alloc, World.size_setCell]); rw [stepG_region_end]; simp only [goes_go]; refine ⟨by (refine de_none ?_; intro e he; simp at he), ?_⟩)
  (refine Goes.step rfl (fun w₁_ h₁_ => ?_); obtain ⟨dd_, hdd_⟩ := h₁_; subst hdd_; (try simp only [at_alloc, at_setCell, at_at', at_size, World.size_alloc, World.size_setCell]); rw [stepG_block]; simp only [goes_go]; refine ⟨by (refine de_none ?_; intro e he; simp at he), ?_⟩)
  (refine Goes.step rfl (fun w₁_ h₁_ => ?_); obtain ⟨dd_, hdd_⟩ := h₁_; subst hdd_; (try simp only [at_alloc, at_setCell, at_at', at_size, World.size_alloc, World.size_setCell]); rw [stepG_loop]; simp only [goes_go]; refine ⟨by (refine de_none ?_; intro e he; simp at he), ?_⟩)
  refine Goes.stop (fun w₁ h₁ => ?_)
  refine ⟨⟨_, rfl, ⟨rfl, rfl, rfl, ?_, ?_, ?_, ?_, ?_, rfl, rfl⟩⟩, ?_, ?_⟩
  · rw [hH]; rfl
  · rw [hH]; rfl
  · rw [hH]; rfl
  · rw [hH]; rfl
  · rw [hH]; rfl
  · have h₂ : AtRel (wE c W) w₁ := by obtain ⟨d, rfl⟩ := h₁; exact ⟨d, rfl⟩
    exact (ks0 hc hH hjobs).off (Off.of_at h₂)
  · have h₂ : AtRel (wE c W) w₁ := by obtain ⟨d, rfl⟩ := h₁; exact ⟨d, rfl⟩
    exact (wg0 c W hH).of_block ((Off.of_at (S := fun _ => False) h₂).block _ (fun h => h))
end
end Go.Proofs.Ytngnkdedfcnfkaa.R10

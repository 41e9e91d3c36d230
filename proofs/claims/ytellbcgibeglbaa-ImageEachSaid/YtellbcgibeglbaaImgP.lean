/-
  The contracts at a nil image; a range over a method value that yields nothing; the walk of ImageNil.
-/
import Derived.Test.YtellbcgibeglbaaImgS
import Derived.RangeFuncNested
import Derived.RangeFuncBound
import Derived.RangeFuncCalls
import Derived.RangeFuncLeaves
import Derived.Shelf.Abstract
import Derived.Shelf.RegionOpen
import Derived.OwnWalkIn
import Derived.TacticsInMore
import Derived.LoopNIn
import Derived.LoopIn
namespace Go.Proofs.Ytellbcgibeglbaa
open Go.RowKit Go.Shelf
attribute [local go_sem] Oper.semAt_some

section
variable {w : World}

set_option maxHeartbeats 400000 in
theorem inside_nil_S (x y : Int) : Calls Try.prog 29 #[.pointer none, .int .i64 x, .int .i64 y] w fun e w' => e = .returned (.bool false) ∧ w' = w := by
  go_enter Try.func29, Try.ntmps29
  go_wp2
  go_ret
  exact ⟨rfl, rfl⟩

set_option maxHeartbeats 400000 in
theorem at_nil_S (x y : Int) : Calls Try.prog 25 #[.pointer none, .int .i64 x, .int .i64 y] w fun e w' => e = .returned (.tuple #[.string ByteArray.empty, .int .i64 1]) ∧ w' = w := by
  go_enter Try.func25, Try.ntmps25
  go_wp2
  go_ret2
  exact ⟨rfl, rfl⟩

set_option maxHeartbeats 400000 in
theorem set_nil_S (x y : Int) (v : Value) : Calls Try.prog 28 #[.pointer none, .int .i64 x, .int .i64 y, v] w fun e w' => e = .returned (.int .i64 1) ∧ w' = w := by
  go_enter Try.func28, Try.ntmps28
  go_wp2
  go_ret
  exact ⟨rfl, rfl⟩

set_option maxHeartbeats 400000 in
theorem wrapped_nil_S (x y : Int) : Calls Try.prog 30 #[.pointer none, .int .i64 x, .int .i64 y] w fun e w' => e = .returned (.string ByteArray.empty) ∧ w' = w := by
  go_enter Try.func30, Try.ntmps30
  go_wp2
  go_ret
  exact ⟨rfl, rfl⟩

set_option maxHeartbeats 400000 in
set_option maxRecDepth 100000 in
theorem fold_nil_S (v : Value) : Calls Try.prog 31 #[.pointer none, v] w fun e w' => e = .returned (.pointer none) ∧ w' = w := by
  go_enter Try.func31, Try.ntmps31
  go_wp2
  go_ret
  exact ⟨rfl, rfl⟩

set_option maxHeartbeats 400000 in
theorem levels_nil_S (v : Value) : Calls Try.prog 32 #[.pointer none, v] w fun e w' => e = .returned (.slice none 0 0) ∧ w' = w := by
  go_enter Try.func32, Try.ntmps32
  go_wp2
  go_ret
  exact ⟨rfl, rfl⟩

set_option maxHeartbeats 400000 in
theorem each_nil_S (v : Value) : Calls Try.prog 27 #[.pointer none, v] w fun e w' => (∃ u, e = .returned u) ∧ w' = w := by
  go_enter Try.func27, Try.ntmps27
  go_wp2
  first
    | (go_end0; exact ⟨⟨_, rfl⟩, rfl⟩)
    | (refine bodyPost_ret (results_none rfl _ _ _) rfl ?_; exact ⟨⟨_, rfl⟩, rfl⟩)
end

/-- A range over a method value: the one call, of the method with its receiver ahead of yield; what it owes is told by 'rangePost'. -/
theorem wpIn_rangeFunc_method {F : Fence} {n : Nat} {P : Program} {g : Operand} {ps : Array Tmp} {assign body : Code} {Q : Exit → Act → World → Prop} {a : Act} {w : World}
    (hro : F.round = none) (h1 : 1 ≤ n) {gf : Nat} {m : Value} (hg : a.eval g = .func (.func gf) #[m] #[]) (hFg : F.fn gf) (eg : ∀ args w, (callFunc gf args).run P w = .ok (.enter gf args) w)
    (h : ∀ (fn : FuncId) (rec : LoopState → Option Code → Loop) (W1 : World), F.fn fn → rec = (fun st pe => { state := st, pending := pe, fn, tmps := a.tmps, params := ps, assign, body, defers := w.heap.size }) →
      Below w.heap.size w W1 → W1.heap.size = w.heap.size + 2 → W1.heap[w.heap.size]? = some (.deferred (some [])) → W1.heap[w.heap.size + 1]? = some (.loop (rec .ready none)) →
      CallsIn F (n - 1) P gf #[m, .func (.yield (w.heap.size + 1)) #[] #[]] W1 (rangePost F n P (w.heap.size + 1) Q { a with defers := { target := .collected w.heap.size, args := #[] } :: a.defers })) :
    (Code.rangeFunc g ps assign body).wpIn F n P Q a w := by
  refine wpIn_rangeFunc ?_
  intro fn hfn
  rw [hro]
  obtain ⟨rec, hrec⟩ : ∃ rec : LoopState → Option Code → Loop, rec = fun st pe => { state := st, pending := pe, fn, tmps := a.tmps, params := ps, assign, body, defers := w.heap.size } := ⟨_, rfl⟩
  obtain ⟨W1, hW1⟩ : ∃ W1, (w.alloc (.deferred (some []))).alloc (.loop (rec .ready none)) = W1 := ⟨_, rfl⟩
  have hL1 : W1.heap[w.heap.size + 1]? = some (.loop (rec .ready none)) := by
    have := World.alloc_heap_new (w.alloc (.deferred (some []))) (.loop (rec .ready none))
    rw [World.size_alloc] at this
    rw [← hW1]; exact this
  have hK1 : W1.heap[w.heap.size]? = some (.deferred (some [])) := by
    rw [← hW1]; exact (Below.heap_alloc _ _ _ (by simp)).trans (World.alloc_heap_new w _)
  have hb1 : Below w.heap.size w W1 := by rw [← hW1]; exact ((Below.refl _ w).alloc (Nat.le_refl _) _).alloc (by simp) _
  have h2 := h fn rec W1 hfn hrec hb1 (by rw [← hW1]; simp) hK1 hL1
  refine ⟨w.heap.size + 1, [{ target := .collected w.heap.size, args := #[] }], W1, { target := .fn (.func gf) #[], args := #[m, .func (.yield (w.heap.size + 1)) #[] #[]] }, W1, gf, #[m, .func (.yield (w.heap.size + 1)) #[] #[]], W1, ?_, ?_, ?_, ?_, fun _ => h1, h2⟩
  · rw [← hW1, hrec]; exact run_enterLoop_outer _ _ _ _ _
  · simp only [resolve, hg]
    simp [go_sem]
  · intro f' hf'; simp [Target.leads] at hf'; subst hf'; exact hFg
  · simp [invoke, go_sem, eg]

set_option maxHeartbeats 1600000 in
set_option maxRecDepth 100000 in
theorem nil_walk (a0 a1 : Int) (w : World) (_ : (Lit.int .i64 a0).wf = true) (_ : (Lit.int .i64 a1).wf = true) :
    Calls Try.prog 8 #[.int .i64 a0, .int .i64 a1] w fun e w' => e = .returned (.bool true) ∧ Below w.heap.size w w' := by
  have hmf : ∀ (fn : Fn) (first cap : Array Value) (w : World), (Instr.makeFunc fn first cap).run Try.prog w = .ok (.func fn first cap) w := fun _ _ _ _ => rfl
  refine (callsIn_wide (n := 5)).1 ?_
  refine callsIn_of_wp_marks Try.func8 rfl trivial ?_ rfl
  simp only [Try.ntmps8, List.size_toArray, List.length_cons, List.length_nil, Nat.reduceAdd, Nat.reduceSub, Array.replicate_succ, Array.replicate_zero, List.push_toArray, List.append_toArray, List.nil_append, List.cons_append]
  gi_wp2_with (first
    | (refine ⟨trivial, ?_⟩; gi_at_call 9; refine (callsIn_wide.2 (awake_any _)).mono ?_; rintro e wa ⟨rfl, hb⟩; have HB := Lib.hid hb; clear hb)
    | (refine ⟨trivial, ?_⟩; gi_at_call 14; refine (callsIn_wide.2 (size_nil_S)).mono ?_; rintro e w1 ⟨rfl, rfl⟩)
    | (refine ⟨trivial, ?_⟩; gi_at_call 25; refine (callsIn_wide.2 (at_nil_S _ _)).mono ?_; rintro e w1 ⟨rfl, rfl⟩))
  have hsz : w1.heap.size < (w1.alloc (.cells #[.int .i64 0] 3)).heap.size := by simp
  have hn0 : (w1.alloc (.cells #[.int .i64 0] 3)).heap[w1.heap.size]? = some (.cells #[.int .i64 0] 3 (0, 0)) := heap_alloc_new w1 _
  have HB0 : Hid (Below w.heap.size w (w1.alloc (.cells #[.int .i64 0] 3))) := HB.out.alloc HB.out.size _
  generalize w1.alloc (.cells #[.int .i64 0] 3) = W0 at *
  generalize w1.heap.size = bn at *
  refine wpIn_rangeFunc_method rfl (by omega) (gf := 27) (m := .pointer none) rfl trivial (enters_of Try.func27 (by kernel_rfl) rfl) ?_
  intro fn rec W1 _ hrec hb1 hsz1 hK1 hL1
  refine (callsIn_wide.2 (each_nil_S _)).mono ?_
  rintro e W ⟨⟨u, rfl⟩, hW⟩
  subst hW
  refine ⟨none, _, by have := run_endLoop (P := Try.prog) hL1 (by rw [hrec]; simp); rw [hrec] at this; exact this, ?_⟩
  have hbn : bn < W0.heap.size := hsz
  have HD : Hid ((W.putObj (W0.heap.size + 1) (.loop { rec .ready none with state := .exhausted })).heap[W0.heap.size]? = some (.deferred (some []))) := (World.putObj_heap_other (by omega)).trans hK1
  have hc : (W.putObj (W0.heap.size + 1) (.loop { rec .ready none with state := .exhausted })).cell? ⟨bn, 0, none⟩ = some (.int .i64 0) :=
    cell_of_one (((World.putObj_heap_other (by omega)).trans (hb1.block bn hbn)).trans hn0)
  have HB2 : Hid (Below w.heap.size w (W.putObj (W0.heap.size + 1) (.loop { rec .ready none with state := .exhausted }))) :=
    (HB0.out.trans (hb1.mono HB0.out.size)).trans ⟨rfl, rfl, rfl, by simp, fun k hk => World.putObj_heap_other (by have := HB0.out.size; omega)⟩
  rw [hrec] at HD hc HB2
  clear hL1 hK1 hrec hb1 hsz1 hn0 hsz
  generalize W.putObj (W0.heap.size + 1) _ = W2 at *
  have HBN := Lib.hid hbn
  clear hbn
  dsimp only
  gi_wp2_with (first
    | (refine ⟨trivial, ?_⟩; gi_at_call 28; refine (callsIn_wide.2 (set_nil_S _ _ _)).mono ?_; rintro e w1 ⟨rfl, rfl⟩)
    | (refine ⟨trivial, ?_⟩; gi_at_call 29; refine (callsIn_wide.2 (inside_nil_S _ _)).mono ?_; rintro e w1 ⟨rfl, rfl⟩)
    | (refine ⟨trivial, ?_⟩; gi_at_call 16; refine (callsIn_wide.2 (pix_nil_S)).mono ?_; rintro e w1 ⟨rfl, rfl⟩)
    | (refine ⟨trivial, ?_⟩; gi_at_call 30; refine (callsIn_wide.2 (wrapped_nil_S _ _)).mono ?_; rintro e w1 ⟨rfl, rfl⟩)
    | (refine ⟨trivial, ?_⟩; gi_at_call 31; refine (callsIn_wide.2 (fold_nil_S _)).mono ?_; rintro e w1 ⟨rfl, rfl⟩)
    | (refine ⟨trivial, ?_⟩; gi_at_call 32; refine (callsIn_wide.2 (levels_nil_S _)).mono ?_; rintro e w1 ⟨rfl, rfl⟩))
  refine ⟨by simp, .inl ⟨_, _, rfl, run_takeDeferred HD.out, ?_⟩⟩
  exact ⟨_, results_tmp rfl _ _ _, rfl, HB2.out.trans ⟨rfl, rfl, rfl, by simp, fun k hk => World.putObj_heap_other (by have := HB0.out.size; omega)⟩⟩

end Go.Proofs.Ytellbcgibeglbaa

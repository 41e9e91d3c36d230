/-
  The pool's rows: a list of ints that a law was given.
-/
import Derived.Test.YtngnkdedfcnfkaaRows
import Derived.Test.YtngnkdedfcnfkaaPqB
import Derived.Conc.LeavingOf
import Derived.ProofKit
import Derived.OpenShut
import Derived.Below
set_option linter.unusedSimpArgs false
set_option linter.unusedVariables false
namespace Go.Proofs.Ytngnkdedfcnfkaa
open Go Go.ChangeShapes Go.WideShapes Go.ChangeAt Go.RowKit Go.Conc

theorem Try.own : ownKnob Try.prog.godebug = none := by kernel_rfl
theorem Try.laidOut : laidOutB Try.prog = true := by kernel_rfl
theorem Try.cells3 : Try.prog.cellsOf 3 = 1 := by kernel_rfl
theorem Try.bytes3 : Try.prog.bytesOf 3 = 8 := by kernel_rfl

theorem open_src {H : Type} {enc : TypeId × Value → H} {W : World} {base : Nat} {v : Value} {d : DataW H} {p : List MemPlace} (hv : Value.okWide Try.prog W .any base 22 v) (h : DataW.Trod enc Try.prog W 0 (fun _ => true) true 22 v d p) :
    ∃ a0 len cap, ∃ z : Nat → Int, v = .slice a0 len cap ∧ SrcV W a0 len W.heap.size (fun i => .int .i64 (z i)) ∧ (∀ i, i < len → -9223372036854775808 ≤ z i ∧ z i < 9223372036854775808) ∧ (0 < len → ∃ es sp, d = .slice es sp ∧ len ≤ es.length + sp.length) := by
  obtain ⟨a0, len, cap, rfl⟩ := okWide_slice Try.underlying22 hv
  obtain ⟨fuel, hf⟩ := h
  rcases open_ints Try.underlying22 Try.underlying3 Try.cells3 hf with ⟨hcs, hx⟩ | ⟨a, len', cap', zs, hcs, _, hl, hm, hz, hx, hcell, hwz⟩
  · simp [Value.cells] at hcs
    obtain ⟨rfl, rfl, rfl⟩ := hcs
    exact ⟨none, 0, 0, fun _ => 0, rfl, ⟨fun _ => rfl, fun _ h => (by cases h), fun _ h => (by cases h), fun i h => absurd h (by omega)⟩, fun i h => absurd h (by omega), fun h => absurd h (by omega)⟩
  · simp [Value.cells] at hcs
    obtain ⟨rfl, rfl, rfl⟩ := hcs
    simp only [Prod.mk.injEq] at hx
    obtain ⟨rfl, rfl⟩ := hx
    simp only [if_true] at hz
    refine ⟨some a, len, cap, fun i => zs.getD i 0, rfl, ⟨(fun h => by cases h), fun b hb h0 => ?_, fun b hb i hi => ?_, fun i _ => rfl⟩, fun i hi => ?_, fun _ => ⟨_, _, rfl, ?_⟩⟩
    · cases hb
      have := World.block_lt_of_cell? W _ (hcell 0 (by omega))
      rwa [addBlock] at this
    · cases hb
      exact hcell i (by omega)
    · have hi' : i < zs.length := by omega
      have := hwz (zs.getD i 0) (by rw [List.getD_eq_getElem?_getD, List.getElem?_eq_getElem hi']; exact List.getElem_mem hi')
      simp [Lit.wf, IntKind.min, IntKind.max, IntKind.signed, IntKind.bits] at this
      show -9223372036854775808 ≤ zs.getD i 0 ∧ zs.getD i 0 < 9223372036854775808
      rw [List.getD_eq_getElem?_getD]
      omega
    · simp only [lits, List.length_map, List.length_take, List.length_drop]
      omega
end Go.Proofs.Ytngnkdedfcnfkaa

/-
  The pool's rows: a list of texts that a law was given.
-/
import Derived.Test.YtngnkdedfcnfkaaPqF
import Derived.SliceStrings
set_option linter.unusedSimpArgs false
set_option linter.unusedVariables false
namespace Go.Proofs.Ytngnkdedfcnfkaa
open Go Go.ChangeShapes Go.WideShapes Go.ChangeAt Go.RowKit Go.Conc

theorem Try.cells9 : Try.prog.cellsOf 9 = 1 := by kernel_rfl
theorem open_txt {H : Type} {enc : TypeId × Value → H} {W : World} {base : Nat} {v : Value} {d : DataW H} {p : List MemPlace} (hv : Value.okWide Try.prog W .any base 29 v) (h : DataW.Trod enc Try.prog W 0 (fun _ => true) true 29 v d p) :
    ∃ a0 len cap, ∃ z : Nat → ByteArray, v = .slice a0 len cap ∧ SrcV W a0 len W.heap.size (fun i => .string (z i)) ∧ (∀ i, i < len → (z i).size ≤ maxLen) := by
  obtain ⟨a0, len, cap, rfl⟩ := okWide_slice Try.underlying29 hv
  obtain ⟨fuel, hf⟩ := h
  rcases open_strings Try.underlying29 Try.underlying9 Try.cells9 hf with ⟨hcs, hx⟩ | ⟨a, len', cap', zs, hcs, _, hl, hm, hz, hx, hcell, hwz⟩
  · simp [Value.cells] at hcs
    obtain ⟨rfl, rfl, rfl⟩ := hcs
    exact ⟨none, 0, 0, fun _ => ByteArray.empty, rfl, ⟨fun _ => rfl, fun _ h => (by cases h), fun _ h => (by cases h), fun i h => absurd h (by omega)⟩, fun i h => absurd h (by omega)⟩
  · simp [Value.cells] at hcs
    obtain ⟨rfl, rfl, rfl⟩ := hcs
    simp only [if_true] at hz
    refine ⟨some a, len, cap, fun i => zs.getD i ByteArray.empty, rfl, ⟨(fun h => by cases h), fun b hb h0 => ?_, fun b hb i hi => ?_, fun i _ => rfl⟩, fun i hi => ?_⟩
    · cases hb
      have := World.block_lt_of_cell? W _ (hcell 0 (by omega))
      rwa [addBlock] at this
    · cases hb
      exact hcell i (by omega)
    · have hi' : i < zs.length := by omega
      exact hwz (zs.getD i ByteArray.empty) (by rw [List.getD_eq_getElem?_getD, List.getElem?_eq_getElem hi']; exact List.getElem_mem hi')
end Go.Proofs.Ytngnkdedfcnfkaa

/-
  The pool's rows: a list of texts that a law was given.
-/
import Derived.Test.YtngnkdedfcnfkaaPqF
import Derived.SliceStrings
set_option linter.unusedSimpArgs false
set_option linter.unusedVariables false
namespace Go.Proofs.Ytngnkdedfcnfkaa
open Go Go.ChangeShapes Go.WideShapes Go.ChangeAt Go.RowKit Go.Conc

theorem weightsAll_mem {H : Type} {P : Program} {e : TypeId} {d : DataW H} {ds : List (DataW H)} (hd : d ∈ ds) : ∀ n ∈ d.weights P e, n ∈ DataW.weightsAll P e ds := by
  induction ds with
  | nil => cases hd
  | cons x r ih =>
    intro n hn
    simp only [DataW.weightsAll, List.mem_append]
    rcases List.mem_cons.1 hd with rfl | h
    · exact Or.inl hn
    · exact Or.inr (ih h n hn)
/-- the form's own reach, of a text inside a slice -/
theorem sized_text {H : Type} {P : Program} {ts : List TypeId} {ds : List (DataW H)} (h : (DataW.weightsEach P ts ds).all (· ≤ reachBytes) = true) {j : Nat} {t e : TypeId} {elems spare : List (DataW H)} {bytes : List UInt8}
    (ht : ts[j]? = some t) (hd : ds[j]? = some (.slice elems spare)) (hu : P.underlying t = some (.slice e)) (hx : DataW.lit (.string bytes) ∈ elems) : bytes.length ≤ reachBytes := by
  refine of_decide_eq_true (List.all_eq_true.1 h _ (DataW.weights_mem_each ht hd _ ?_))
  simp only [DataW.weights, hu, List.mem_cons, List.mem_append]
  exact Or.inr (Or.inl (weightsAll_mem hx _ (by simp [DataW.weights])))
theorem Try.cells9 : Try.prog.cellsOf 9 = 1 := by kernel_rfl
theorem open_txt {H : Type} {enc : TypeId × Value → H} {W : World} {base : Nat} {v : Value} {d : DataW H} {p : List MemPlace} (hv : Value.okWide Try.prog W .any base 29 v) (h : DataW.Trod enc Try.prog W 0 (fun _ => true) true 29 v d p) :
    ∃ a0 len cap, ∃ z : Nat → ByteArray, v = .slice a0 len cap ∧ SrcV W a0 len W.heap.size (fun i => .string (z i)) ∧ (∀ i, i < len → (z i).size ≤ maxLen) ∧ (∀ i, i < len → ∃ es sp, d = .slice es sp ∧ DataW.lit (.string (z i).data.toList) ∈ es) := by
  obtain ⟨a0, len, cap, rfl⟩ := okWide_slice Try.underlying29 hv
  obtain ⟨fuel, hf⟩ := h
  rcases open_strings Try.underlying29 Try.underlying9 Try.cells9 hf with ⟨hcs, hx⟩ | ⟨a, len', cap', zs, hcs, _, hl, hm, hz, hx, hcell, hwz⟩
  · simp [Value.cells] at hcs
    obtain ⟨rfl, rfl, rfl⟩ := hcs
    exact ⟨none, 0, 0, fun _ => ByteArray.empty, rfl, ⟨fun _ => rfl, fun _ h => (by cases h), fun _ h => (by cases h), fun i h => absurd h (by omega)⟩, fun i h => absurd h (by omega), fun i h => absurd h (by omega)⟩
  · simp [Value.cells] at hcs
    obtain ⟨rfl, rfl, rfl⟩ := hcs
    simp only [if_true] at hz
    refine ⟨some a, len, cap, fun i => zs.getD i ByteArray.empty, rfl, ⟨(fun h => by cases h), fun b hb h0 => ?_, fun b hb i hi => ?_, fun i _ => rfl⟩, fun i hi => ?_, fun i hi => ?_⟩
    · cases hb
      have := World.block_lt_of_cell? W _ (hcell 0 (by omega))
      rwa [addBlock] at this
    · cases hb
      exact hcell i (by omega)
    · have hi' : i < zs.length := by omega
      exact hwz (zs.getD i ByteArray.empty) (by rw [List.getD_eq_getElem?_getD, List.getElem?_eq_getElem hi']; exact List.getElem_mem hi')
    · have hi' : i < zs.length := by omega
      simp only [Prod.mk.injEq] at hx
      refine ⟨_, _, hx.1, ?_⟩
      unfold strs
      refine List.mem_map.2 ⟨zs.getD i ByteArray.empty, ?_, rfl⟩
      rw [List.getD_eq_getElem?_getD, List.getElem?_eq_getElem hi', Option.getD_some]
      have h1 : (zs.take len)[i]? = some zs[i] := by rw [List.getElem?_take, if_pos hi, List.getElem?_eq_getElem hi']
      exact List.mem_of_getElem? h1
end Go.Proofs.Ytngnkdedfcnfkaa

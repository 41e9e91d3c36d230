/-
  The pool's laws: 'append' of the law's argument onto a new empty row.
-/
import Derived.Test.YtngnkdedfcnfkaaPqA
import Derived.Conc.AppendWalk
import Derived.Maps.AppendAt
set_option linter.unusedSimpArgs false
set_option linter.unusedVariables false
namespace Go.Proofs.Ytngnkdedfcnfkaa
open Go Go.Conc Go.RowKit Go.Conc.Lib Go.ConcR.Gen Go.ConcN.Gen

/-- a list of values that an argument points to -/
structure SrcV (w : World) (ao : Option Addr) (m N : Nat) (f : Nat → Value) : Prop where
  nil : ao = none → m = 0
  blk : ∀ a, ao = some a → 0 < m → a.block < N
  cell : ∀ a, ao = some a → ∀ i, i < m → w.cell? (a.add i) = some (f i)
  one : ∀ i, i < m → (f i).oneCell' = true
theorem SrcV.below {w w' : World} {ao : Option Addr} {m N : Nat} {f : Nat → Value} (h : SrcV w ao m N f) (r : Below N w w') : SrcV w' ao m N f :=
  ⟨h.nil, h.blk, fun a ha i hi => (r.cell (by rw [addBlock]; exact h.blk a ha (by omega))).trans (h.cell a ha i hi), h.one⟩
theorem SrcV.mono {w : World} {ao : Option Addr} {m N N' : Nat} {f : Nat → Value} (h : SrcV w ao m N f) (r : N ≤ N') : SrcV w ao m N' f := ⟨h.nil, fun a ha hm => Nat.lt_of_lt_of_le (h.blk a ha hm) r, h.cell, h.one⟩
theorem evL_mark {Shun : Loc → Prop} {B : Nat} {m : Mark} (h : Neutral m) : EvL Shun B ⟨.mark m, false, true⟩ := by
  unfold Neutral at h
  subst h
  exact ⟨fun x hx => by simp [MemAct.ofEvent, MemAct.touch?] at hx, by simp, by simp, by simp [MemAct.ofEvent, MemAct.low]⟩

theorem append_src {P : Program} {ta tb e : TypeId} {i0 : TypeInfo} {zv : Value} {bytes : Nat} (hta : P.underlying ta = some (.slice e)) (hi : P.info? e = some i0) (hz : i0.zero = some zv) (hs1 : i0.size = 1) (hby : i0.bytes = bytes) (hzs : zv.cells.size = 1)
    {w : World} {base g : Nat} (hbase : base ≤ w.heap.size) (hrow : w.ownsRow base e 1 (.slice (some ⟨g, 0, none⟩) 0 0) 0 []) {ao : Option Addr} {m mc N : Nat} {f : Nat → Value} (hsrc : SrcV w ao m N f) (h63 : m ≤ maxLen) (hbytes : m * bytes ≤ 140737488355328) :
    ∃ g' c' w', (Builtin.append_ #[ta, ta] tb #[.slice (some ⟨g, 0, none⟩) 0 0, .slice ao m mc]).run P w = .ok (.slice (some ⟨g', 0, none⟩) m c') w' ∧ base ≤ g' ∧ g' < w'.heap.size ∧ (∀ i, i < m → w'.cell? ⟨g', i, none⟩ = some (f i)) ∧ Below base w w' ∧
      ∀ ev ∈ (Builtin.append_ #[ta, ta] tb #[.slice (some ⟨g, 0, none⟩) 0 0, .slice ao m mc]).events P w #[], (∃ ad, ev.loc = .cell ad ∧ ((ev.write = false ∧ ad.block < N) ∨ ad.block = g)) ∨ ∃ m, ev = ⟨.mark m, false, true⟩ ∧ Neutral m := by
  have hgl := hrow.lt g rfl
  by_cases hm : m = 0
  · subst hm
    refine ⟨g, 0, w, ?_, hgl.1, hgl.2, fun i h => by omega, Below.refl _ _, ?_⟩
    · cases ao <;> simp [Builtin.append_, run_underlying hta, sizeOf, typeInfo, hi, Builtin.lenOf, Builtin.firstCells, loadCells, loadCellsFrom, storeCells]
    · cases ao <;> simp [Builtin.append_, run_underlying hta, sizeOf, typeInfo, hi, Builtin.lenOf, Builtin.firstCells, loadCells, loadCellsFrom, storeCells]
  · obtain ⟨a, rfl⟩ : ∃ a, ao = some a := by
      cases ao with
      | none => exact absurd (hsrc.nil rfl) hm
      | some a => exact ⟨a, rfl⟩
    have hl : ((List.range m).map f).length = m * 1 := by simp
    have hnews : ∀ j u, ((List.range m).map f)[j]? = some u → w.cell? (a.add j) = some u := by
      intro j u h
      simp only [List.getElem?_map, List.getElem?_range, Option.map_eq_some_iff] at h
      obtain ⟨k, hk, rfl⟩ := h
      have hj : j < m := by
        rcases Nat.lt_or_ge j m with h | h
        · exact h
        · rw [List.getElem?_eq_none (by simpa using h)] at hk; cases hk
      rw [List.getElem?_range hj] at hk
      cases hk
      exact hsrc.cell a rfl j hj
    have h1 : ∀ u ∈ (List.range m).map f, u.oneCell' = true := by
      intro u hu
      obtain ⟨k, hk, rfl⟩ := List.mem_map.1 hu
      exact hsrc.one k (List.mem_range.1 hk)
    obtain ⟨v', w', hr, hown, hgrow, hnil, _⟩ := run_append_own_at (P := P) w base ta tb e i0 zv 1 bytes hta hi hz hs1 hby hzs (by decide) _ 0 [] hrow a m mc _ hl hnews h1 (by omega) (by simpa using hbytes) hbase
    have hev := events_append_where (P := P) w base ta tb e i0 zv 1 bytes hta hi hz hs1 hby _ 0 [] hrow a m mc _ hl hnews h1 (by omega) (by simpa using hbytes)
    rcases hown.2 with ⟨h0, hz⟩ | ⟨g', c', cur, rfl, hbg, hg', _⟩
    · omega
    · have hc := hown.cells (g := g') rfl
      refine ⟨g', c', w', by simpa using hr, hbg, (Array.getElem?_eq_some_iff.1 hg').1, fun i hi => ?_, (Below.refl base w).grown hgrow hbase (fun q hq => (hrow.lt q hq).1), fun ev he => ?_⟩
      · have := hc i (f i) (by simp [List.getElem?_range hi])
        unfold Addr.add at this
        split at this
        · rename_i e0; subst e0; exact this
        · simpa using this
      · rcases hev ev he with ⟨ad, h2, ⟨h3, h4⟩ | h3⟩ | h
        · exact .inl ⟨ad, h2, .inl ⟨h3, by rw [h4]; exact hsrc.blk a rfl (by omega)⟩⟩
        · exact .inl ⟨ad, h2, .inr (by simpa [Value.ownBlock] using h3)⟩
        · exact .inr h
end Go.Proofs.Ytngnkdedfcnfkaa

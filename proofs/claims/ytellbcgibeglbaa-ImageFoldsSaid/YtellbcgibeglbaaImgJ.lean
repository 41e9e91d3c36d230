/-
  A list of acts that came in, opened; the contract of Set at integer samples.
-/
import Derived.Test.YtellbcgibeglbaaImgI
import Derived.ProofKit
import Derived.Lib.SmallJoins
import Derived.ChangeAlike
namespace Go.Proofs.Ytellbcgibeglbaa
open Go.RowKit

/-- one act in memory: four whole numbers -/
def ActAt (w : World) (b off : Nat) (K X Y V : Int) : Prop :=
  (-9223372036854775808 ≤ X ∧ X ≤ 9223372036854775807 ∧ -9223372036854775808 ≤ Y ∧ Y ≤ 9223372036854775807) ∧
  w.cell? ⟨b, off, none⟩ = some (.int .i64 K) ∧ w.cell? ⟨b, off + 1, none⟩ = some (.int .i64 X) ∧ w.cell? ⟨b, off + 2, none⟩ = some (.int .i64 Y) ∧ w.cell? ⟨b, off + 3, none⟩ = some (.int .i64 V)

def IsActs (w : World) (a : Option Addr) (len : Nat) : Prop :=
  len ≤ maxLen ∧ (0 < len → ∃ b off, a = some ⟨b, off, none⟩ ∧ ∀ i, i < len → ∃ K X Y V, ActAt w b (off + i * 4) K X Y V)

theorem Try.cells46 : Try.prog.cellsOf 46 = 4 := by kernel_rfl
theorem Try.cells3 : Try.prog.cellsOf 3 = 1 := by kernel_rfl

theorem i64_bd {n : Int} (h : (Lit.int .i64 n).wf = true) : -9223372036854775808 ≤ n ∧ n ≤ 9223372036854775807 := by
  simpa [Lit.wf, IntKind.min, IntKind.max, IntKind.bits, IntKind.signed] using h

open Go.ChangeShapes Go.WideShapes Go.ChangeAt in
theorem open_acts {H : Type} {enc : TypeId × Value → H} {W : World} {a : Option Addr} {len cap : Nat} {d : DataW H} {ps : List MemPlace}
    (h : DataW.Trod enc Try.prog W 0 (fun _ => true) true 43 (.slice a len cap) d ps) : IsActs W a len := by
  obtain ⟨fuel, hf⟩ := h
  rcases DataW.trod_slice Try.underlying43 hf with h0 | ⟨x, l, c, elems, rest, n, _, hcs, _, hb, hl, hm, hlen, hel, _, _⟩
  · have : a = none ∧ len = 0 ∧ cap = 0 := by
      have := h0.1
      simpa [Value.cells] using this
    obtain ⟨rfl, rfl, rfl⟩ := this
    exact ⟨Nat.zero_le _, fun h => by omega⟩
  · simp [Value.cells] at hcs
    obtain ⟨rfl, rfl, rfl⟩ := hcs
    refine ⟨by omega, fun hpos => ?_⟩
    have each : ∀ i, i < len → ∃ K X Y V : Int, (-9223372036854775808 ≤ X ∧ X ≤ 9223372036854775807 ∧ -9223372036854775808 ≤ Y ∧ Y ≤ 9223372036854775807) ∧
        W.cell? (x.add (i * 4)) = some (.int .i64 K) ∧ W.cell? ((x.add (i * 4)).add 1) = some (.int .i64 X) ∧ W.cell? ((x.add (i * 4)).add 2) = some (.int .i64 Y) ∧ W.cell? ((x.add (i * 4)).add 3) = some (.int .i64 V) := by
      intro i hi
      have he := hel i hi
      rw [Try.cells46] at he
      obtain ⟨cs, hcs, htr⟩ := Option.bind_eq_some_iff.1 (he.trans (List.getElem?_eq_getElem (by omega)))
      obtain ⟨y0, y1, y2, y3, m, _, hclen, h0, h1, h2, h3⟩ := Joins.trod_struct4 Try.underlying46 htr
      simp only [Try.cells3] at h0 h1 h2 h3
      obtain ⟨K, e0, _, _⟩ := DataW.trod_int Try.underlying3 h0
      obtain ⟨X, e1, _, wX⟩ := DataW.trod_int Try.underlying3 h1
      obtain ⟨Y, e2, _, wY⟩ := DataW.trod_int Try.underlying3 h2
      obtain ⟨V, e3, _, _⟩ := DataW.trod_int Try.underlying3 h3
      rw [Try.cells46] at hclen
      match cs, hclen with
      | [c0, c1, c2, c3], _ =>
        simp at e0 e1 e2 e3
        subst e0 e1 e2 e3
        have bX := i64_bd wX
        have bY := i64_bd wY
        refine ⟨K, X, Y, V, ⟨bX.1, bX.2, bY.1, bY.2⟩, ?_⟩
        have hr : List.range 4 = [0, 1, 2, 3] := rfl
        simp [World.cells?, hr, Option.bind_eq_some_iff] at hcs
        have z : ∀ q : Addr, q.add 0 = q := fun q => by simp [Addr.add]
        rw [z] at hcs
        exact hcs
    obtain ⟨b, off, spot⟩ := x
    have hspot : spot = none := by
      obtain ⟨K, X, Y, V, _, h0, _⟩ := each 0 hpos
      simpa [Addr.add] using World.cell?_spot h0
    subst hspot
    refine ⟨b, off, rfl, fun i hi => ?_⟩
    obtain ⟨K, X, Y, V, hbd, h0, h1, h2, h3⟩ := each i hi
    rw [Go.WideShapes.add_plain] at h0 h1 h2 h3
    rw [Go.WideShapes.add_plain] at h1 h2 h3
    exact ⟨K, X, Y, V, hbd, h0, h1, h2, h3⟩

theorem row_setCell {w : World} {g : Nat} {E : TypeId} {cs : List Value} (h : w.heap[g]? = some (.cells cs.toArray E (0, 0))) (k : Nat) (u : Value) :
    (w.setCell ⟨g, k, none⟩ u).heap[g]? = some (.cells (cs.set k u).toArray E (0, 0)) := by
  have hlt := lt_of_block h
  have h' : w.heap[g] = .cells cs.toArray E (0, 0) := by simpa [Array.getElem?_eq_getElem hlt] using h
  show (w.heap.modify g _)[g]? = _
  rw [Array.getElem?_eq_getElem (by simpa using hlt), Array.getElem_modify_self, h']
  simp

section
variable {W H x y : Int} {b g n : Nat} {cs : List Value} {w : World}

theorem IsImg.setCell {E S : Nat} (h : IsImg w E S b g W H n cs) (hbg : b ≠ g) (k : Nat) (u : Value) : IsImg (w.setCell ⟨g, k, none⟩ u) E S b g W H n (cs.set k u) :=
  ⟨by rw [Below.heap_setCell _ _ _ _ hbg]; exact h.head, row_setCell h.row k u, by rw [List.length_set]; exact h.len⟩

theorem grownBy_setCell (w : World) (g k : Nat) (u : Value) : w.grownBy (w.setCell ⟨g, k, none⟩ u) (some g) :=
  ⟨rfl, rfl, rfl, by simp [World.setCell], fun j _ hj => Below.heap_setCell _ _ _ _ (fun e => hj (by rw [e]))⟩

set_option maxHeartbeats 400000 in
theorem set_in {ps : List Int} {v : Int} (himg : IsImg w 3 66 b g W H n (ps.map (Value.int .i64))) (hbg : b ≠ g) (hn : W * H = n) (h5 : W * H ≤ 65536) (h1 : 0 ≤ x) (h2 : x < W) (h3 : 0 ≤ y) (h4 : y < H) :
    Calls Try.prog 19 #[.pointer (some ⟨b, 0, none⟩), .int .i64 x, .int .i64 y, .int .i64 v] w fun e w' =>
      e = .returned (.int .i64 0) ∧ IsImg w' 3 66 b g W H n ((ps.set (inAt W x y) v).map (Value.int .i64)) ∧ w.grownBy w' (some g) ∧ w'.heap.size = w.heap.size := by
  obtain ⟨c0, c1, c2⟩ := himg.cells
  have hl := himg.len
  obtain ⟨b1, b2, b3⟩ := inAt_bd h1 h2 h3 h4
  have hcell : w.cell? ⟨g, inAt W x y, none⟩ = some (.int .i64 (ps.getD (inAt W x y) 0)) := by
    refine himg.cell _ _ ?_
    have : inAt W x y < ps.length := by rw [List.length_map] at hl; unfold inAt; omega
    simp [List.getD, this]
  have hfz : w.frozen? ⟨g, inAt W x y, none⟩ = false := himg.free _
  have HN := Lib.hid hn
  have hidx : y * W + x < n := by rw [← HN.out]; exact b3
  have hw : (y * W + x).toNat = inAt W x y := rfl
  have HI := Lib.hid himg
  clear hl hn himg
  go_enter Try.func19, Try.ntmps19
  go_wp2_with (go_at_call 18; refine (inside_yes HI.out h1 h2 h3 h4).mono ?_; rintro e w' ⟨rfl, rfl⟩)
  go_region
  all_goals go_wp2
  all_goals go_ret
  all_goals exact ⟨rfl, by have := HI.out.setCell hbg (inAt W x y) (.int .i64 v); rw [List.map_set]; exact ⟨this.head, this.row, this.len⟩, ⟨rfl, rfl, rfl, by simp [World.setCell], (grownBy_setCell _ g _ _).block⟩, by simp [World.setCell]⟩

set_option maxHeartbeats 400000 in
theorem set_out {v : Int} (himg : IsImg w 3 66 b g W H n cs) (h : ¬ (0 ≤ x ∧ x < W ∧ 0 ≤ y ∧ y < H)) :
    Calls Try.prog 19 #[.pointer (some ⟨b, 0, none⟩), .int .i64 x, .int .i64 y, .int .i64 v] w fun e w' => e = .returned (.int .i64 2) ∧ w' = w := by
  have HI := Lib.hid himg
  have HH := Lib.hid h
  clear h himg
  go_enter Try.func19, Try.ntmps19
  go_wp2_with (go_at_call 18; refine (inside_no HI.out HH.out).mono ?_; rintro e w' ⟨rfl, rfl⟩)
  go_ret
  exact ⟨rfl, rfl⟩
end

end Go.Proofs.Ytellbcgibeglbaa

/-
  Memory for the making of a table: the growing row of sums.
-/
import Derived.Test.YtblckohcjfoalaaDisH
namespace Go.Proofs.Ytblckohcjfoalaa
open Go.RowKit

/-- the sums, as a row -/
def sums (f : Nat → Int) (k : Nat) : List Value := vals k (fun j => .int .i64 (pre f (j + 1)))

theorem own_val {w : World} {B : Nat} {E : TypeId} {v : Value} {n : Nat} {xs : List Value} (h : w.ownsRow B E 1 v n xs) : ∃ a c, v = .slice a n c := by
  rcases h.2 with ⟨h0, h1⟩ | ⟨g, c, cur, h0, _⟩
  · exact ⟨none, 0, by rw [h1]; exact h0⟩
  · exact ⟨_, _, h0⟩

theorem own_form {w : World} {B : Nat} {E : TypeId} {v : Value} {n : Nat} {xs : List Value} (h : w.ownsRow B E 1 v n xs) (hn : 0 < n) : ∃ g c, v = .slice (some ⟨g, 0, none⟩) n c := by
  rcases h.2 with ⟨_, h0⟩ | ⟨g, c, cur, h0, _⟩
  · omega
  · exact ⟨_, _, h0⟩

/-- loop 1 of New: memory -/
structure N1 (T E : TypeId) (w wr : World) (b g n k : Nat) (it : Nat → Value) (f : Nat → Int) (vi ve : Value) : Prop where
  head : wr.heap[b]? = some (.cells #[vi, ve, .slice none 0 0] T (0, 0))
  items : Fun wr g E n it
  row : wr.ownsRow (b + 1) 3 1 ve k (sums f k)
  below : Below w.heap.size w wr
  lo : w.heap.size ≤ g
  hb : g < b

section
variable {T E : TypeId} {w wr : World} {b g n k : Nat} {it : Nat → Value} {f : Nat → Int} {vi ve : Value}

theorem N1.size (h : N1 T E w wr b g n k it f vi ve) : b < wr.heap.size := (Array.getElem?_eq_some_iff.1 h.head).1

theorem N1.cell (h : N1 T E w wr b g n k it f vi ve) : wr.cell? ⟨b, 1, none⟩ = some ve ∧ wr.frozen? ⟨b, 1, none⟩ = false := by
  have := h.head
  exact ⟨by simp [World.cell?, this], by simp [World.frozen?, this]⟩

theorem N1.alloc (h : N1 T E w wr b g n k it f vi ve) (o : Obj) : N1 T E w (wr.alloc o) b g n k it f vi ve := by
  have h1 := h.size
  have h2 := h.hb
  have h3 := h.lo
  refine ⟨?_, h.items.same (Below.heap_alloc _ _ _ (by omega)), World.ownsRow.alloc h.row o, h.below.alloc (by omega) _, h.lo, h.hb⟩
  rw [Below.heap_alloc _ _ _ h1]
  exact h.head

theorem N1.kept {w1 : World} (h : N1 T E w wr b g n k it f vi ve) (hg : wr.grownBy w1 ve.ownBlock) : w1.cell? ⟨b, 1, none⟩ = some ve ∧ w1.frozen? ⟨b, 1, none⟩ = false := by
  have h1 := h.size
  have hlo : ∀ q, ve.ownBlock = some q → b + 1 ≤ q := fun q hq => (h.row.lt q hq).1
  have hh : w1.heap[b]? = some (.cells #[vi, ve, .slice none 0 0] T (0, 0)) := by
    rw [hg.block b h1 (fun e => by have := hlo b e.symm; omega)]; exact h.head
  exact ⟨by simp [World.cell?, hh], by simp [World.frozen?, hh]⟩

theorem N1.push {w1 : World} {v' : Value} (h : N1 T E w wr b g n k it f vi ve) (hown : w1.ownsRow (b + 1) 3 1 v' (k + 1) (sums f k ++ [.int .i64 (pre f (k + 1))])) (hg : wr.grownBy w1 ve.ownBlock) :
    N1 T E w (w1.setCell ⟨b, 1, none⟩ v') b g n (k + 1) it f vi v' := by
  have h1 := h.size
  have h2 := h.hb
  have h3 := h.lo
  have hlo : ∀ q, ve.ownBlock = some q → b + 1 ≤ q := fun q hq => (h.row.lt q hq).1
  have hh : w1.heap[b]? = some (.cells #[vi, ve, .slice none 0 0] T (0, 0)) := by
    rw [hg.block b h1 (fun e => by have := hlo b e.symm; omega)]; exact h.head
  have hset : w1.grownBy (w1.setCell ⟨b, 1, none⟩ v') (some b) :=
    ⟨rfl, rfl, rfl, by simp [World.setCell], fun j _ hj => Below.heap_setCell _ _ _ _ (fun e => hj (by simp [e]))⟩
  refine ⟨?_, ?_, ?_, ?_, h3, h2⟩
  · rw [heap_setCell_same w1 b 1 _ T v' hh]; simp
  · exact (h.items.grown hg (fun e => by have := hlo _ e; omega)).otherCell _ _ (by simp; omega)
  · have e : sums f (k + 1) = sums f k ++ [.int .i64 (pre f (k + 1))] := vals_succ _ _
    rw [e]
    refine World.ownsRow.kept hown hset ?_
    cases hv : v'.ownBlock with
    | none => exact .inl rfl
    | some q => right; intro e; simp at e; have := (hown.lt q hv).1; omega
  · exact (h.below.grown hg h.below.size (fun q hq => by have := hlo q hq; omega)).setCell (by simp; omega) _

end

theorem N1.start {T E : TypeId} {w w1 : World} {n g c : Nat} {it : Nat → Value} {f : Nat → Int} (h : w1.ownsRow w.heap.size E 1 (.slice (some ⟨g, 0, none⟩) n c) n (vals n it)) (hb : Below w.heap.size w w1) :
    N1 T E w (w1.alloc (.cells #[.slice (some ⟨g, 0, none⟩) n c, .slice none 0 0, .slice none 0 0] T)) w1.heap.size g n 0 it f (.slice (some ⟨g, 0, none⟩) n c) (.slice none 0 0) := by
  obtain ⟨c1, c2, c3⟩ := own_fun h
  exact ⟨heap_alloc_new w1 _, c3.same (Below.heap_alloc _ _ _ c2), World.ownsRow_nil _ _ _ _, hb.alloc hb.size _, c1, c2⟩

/-- a table made at w, that lies in w' -/
structure Tab (T E : TypeId) (w w' : World) (p : Value) (n : Nat) (it : Nat → Value) (f : Nat → Int) (b bi be bs ci ce : Nat) (r sl : Nat → Int) : Prop where
  ptr : p = .pointer (some ⟨b, 0, none⟩)
  tab : IsTab w' T E b bi be bs ci ce n it f sl
  acc : Acc n (pre f n) f (fun _ => false) r sl
  lb : w.heap.size ≤ b ∧ b < w'.heap.size
  li : w.heap.size ≤ bi ∧ bi < w'.heap.size
  le : w.heap.size ≤ be ∧ be < w'.heap.size
  ls : w.heap.size ≤ bs ∧ bs < w'.heap.size

theorem N1.fin {T E : TypeId} {w wr w' : World} {b g n be ce ci bs : Nat} {it : Nat → Value} {f r sl : Nat → Int}
    (h : N1 T E w wr b g n n it f (.slice (some ⟨g, 0, none⟩) n ci) (.slice (some ⟨be, 0, none⟩) n ce))
    (hd : w'.heap[b]? = some (.cells #[.slice (some ⟨g, 0, none⟩) n ci, .slice (some ⟨be, 0, none⟩) n ce, .slice (some ⟨bs, 0, none⟩) n n] T (0, 0)))
    (h1 : wr.heap.size ≤ bs) (h2 : bs < w'.heap.size) (hs : Fun w' bs 56 (3 * n) (fun j => .int .i64 (sl j))) (ha : Acc n (pre f n) f (fun _ => false) r sl) (hk : Kept wr.heap.size b wr w') :
    Tab T E w w' (.pointer (some ⟨b, 0, none⟩)) n it f b g be bs ci ce r sl ∧ Below w.heap.size w w' := by
  have a1 := h.size
  have a2 := h.hb
  have a3 := h.lo
  obtain ⟨c1, c2, c3⟩ := own_fun h.row
  have hsz := hk.size
  refine ⟨⟨rfl, ⟨hd, h.items.same (hk.block g (by omega) (by omega)), c3.same (hk.block be c2 (by omega)), hs⟩, ha, ⟨by omega, by omega⟩, ⟨by omega, by omega⟩, ⟨by omega, by omega⟩, ⟨by omega, by omega⟩⟩, ?_⟩
  have hb := h.below
  exact ⟨hk.os.trans hb.os, hk.tape.trans hb.tape, hk.output.trans hb.output, by omega, fun k hk2 => (hk.block k (by omega) (by omega)).trans (hb.block k hk2)⟩

/-- what New answers -/
def NewAns (T E : TypeId) (w w' : World) (e : Ending) (m n : Nat) (it : Nat → Value) (f : Nat → Int) : Prop :=
  (verdict m n f ≠ 0 → e = .returned (.tuple #[.pointer none, .int .i64 (verdict m n f)])) ∧
  (verdict m n f = 0 → ∃ b bi be bs ci ce r sl, e = .returned (.tuple #[.pointer (some ⟨b, 0, none⟩), .int .i64 0]) ∧ Tab T E w w' (.pointer (some ⟨b, 0, none⟩)) n it f b bi be bs ci ce r sl)

theorem NewAns.bad {T E : TypeId} {w w' : World} {m n : Nat} {it : Nat → Value} {f : Nat → Int} {x : Int} (h : verdict m n f = x) (h0 : x ≠ 0) :
    NewAns T E w w' (.returned (.tuple #[.pointer none, .int .i64 x])) m n it f := by
  subst h
  exact ⟨fun _ => rfl, fun h => absurd h h0⟩

end Go.Proofs.Ytblckohcjfoalaa

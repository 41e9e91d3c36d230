/-
  Memory for the filling of the alias table: rows that are stored into, stacks that are popped, what is kept but for one block.
-/
import Derived.Test.YtblckohcjfoalaaDisE
import Derived.Test.YtblckohcjfoalaaDisP
import Derived.Maps.AppendAt
namespace Go.Proofs.Ytblckohcjfoalaa
open Go.RowKit

/-- a stack of places: a row of one's own -/
def Stk (w : World) (B : Nat) (v : Value) (L : List Nat) : Prop := w.ownsRow B 3 1 v L.length (L.map (fun (i : Nat) => Value.int .i64 (i : Int)))

theorem Stk.kept {w w' : World} {B : Nat} {v : Value} {L : List Nat} {row : Option Nat} (h : Stk w B v L) (hg : w.grownBy w' row) (hne : v.ownBlock = none ∨ v.ownBlock ≠ row) : Stk w' B v L :=
  World.ownsRow.kept h hg hne

theorem Stk.form {w : World} {B : Nat} {v : Value} {L : List Nat} (h : Stk w B v L) (hn : 0 < L.length) : ∃ g c, v = .slice (some ⟨g, 0, none⟩) L.length c ∧ B ≤ g ∧ g < w.heap.size := by
  rcases h.2 with ⟨_, h0⟩ | ⟨g, c, cur, h0, h1, h2, _⟩
  · omega
  · exact ⟨g, c, h0, h1, (Array.getElem?_eq_some_iff.1 h2).1⟩

theorem Stk.val {w : World} {B : Nat} {v : Value} {L : List Nat} (h : Stk w B v L) : ∃ a c, v = .slice a L.length c := by
  rcases h.2 with ⟨h0, h1⟩ | ⟨g, c, cur, h0, _⟩
  · exact ⟨none, 0, by rw [h1]; exact h0⟩
  · exact ⟨_, _, h0⟩

theorem Stk.pop {w : World} {B g c : Nat} {L : List Nat} {x : Nat} (h : Stk w B (.slice (some ⟨g, 0, none⟩) (L.length + 1) c) (L ++ [x])) :
    Stk w B (.slice (some ⟨g, 0, none⟩) L.length c) L ∧ w.cell? ⟨g, L.length, none⟩ = some (.int .i64 (x : Int)) ∧ L.length < c := by
  unfold Stk at h ⊢
  rw [List.length_append, List.length_singleton] at h
  have hcell := World.ownsRow.cellAt h L.length (by omega)
  rcases h.2 with ⟨h0, _⟩ | ⟨g', c', cur, h0, h1, h2, h3, h4, h5, h6⟩
  · simp at h0
  · simp only [Value.slice.injEq, Option.some.injEq, Addr.mk.injEq, and_true, true_and] at h0
    obtain ⟨rfl, rfl⟩ := h0
    refine ⟨⟨by simp, .inr ⟨g, c, cur, rfl, h1, h2, by omega, h4, h5, ?_⟩⟩, ?_, by omega⟩
    · have h7 : (cur.toList.take ((L.length + 1) * 1)).take L.length = L.map (fun (i : Nat) => Value.int .i64 (i : Int)) := by
        rw [h6, List.map_append, List.take_left' (by simp)]
      rw [List.take_take] at h7
      rw [Nat.mul_one]
      rw [Nat.mul_one, Nat.min_eq_left (by omega)] at h7
      exact h7
    · rw [hcell, List.map_append, List.getElem?_append_right (by simp)]
      simp

/-- what lies below B is kept, but for block b -/
structure Kept (B b : Nat) (w w' : World) : Prop where
  os : w'.os = w.os
  tape : w'.tape = w.tape
  output : w'.output = w.output
  size : w.heap.size ≤ w'.heap.size
  block : ∀ k, k < B → k ≠ b → w'.heap[k]? = w.heap[k]?

theorem Kept.refl (B b : Nat) (w : World) : Kept B b w w := ⟨rfl, rfl, rfl, Nat.le_refl _, fun _ _ _ => rfl⟩
theorem Kept.trans {B b : Nat} {w w' w'' : World} (h : Kept B b w w') (k : Kept B b w' w'') : Kept B b w w'' :=
  ⟨k.os.trans h.os, k.tape.trans h.tape, k.output.trans h.output, Nat.le_trans h.size k.size, fun j hj hb => (k.block j hj hb).trans (h.block j hj hb)⟩
theorem Kept.of_below {B b : Nat} {w w' : World} (h : Below B w w') : Kept B b w w' := ⟨h.os, h.tape, h.output, h.size, fun k hk _ => h.block k hk⟩
theorem Kept.of_grown {B b : Nat} {w w' : World} {row : Option Nat} (h : w.grownBy w' row) (hB : B ≤ w.heap.size) (hr : ∀ k, row = some k → B ≤ k) : Kept B b w w' :=
  ⟨h.os, h.tape, h.output, h.size, fun k hk _ => h.block k (by omega) (fun e => by have := hr k e.symm; omega)⟩
theorem Kept.setCell {B b : Nat} (w : World) (a : Addr) (v : Value) (h : B ≤ a.block ∨ a.block = b) : Kept B b w (w.setCell a v) :=
  ⟨rfl, rfl, rfl, by simp [World.setCell], fun k hk hb => Below.heap_setCell _ _ _ _ (by rcases h with h | h <;> omega)⟩

theorem Fun.grown {w w' : World} {g : Nat} {t : TypeId} {n : Nat} {f : Nat → Value} {row : Option Nat} (h : Fun w g t n f) (hg : w.grownBy w' row) (hne : row ≠ some g) : Fun w' g t n f := by
  obtain ⟨cs, h1, h2, h3⟩ := h
  exact ⟨cs, (hg.block g (Array.getElem?_eq_some_iff.1 h1).1 (fun e => hne e.symm)).trans h1, h2, h3⟩

theorem Fun.stored {w : World} {g : Nat} {t : TypeId} {n : Nat} {f f' : Nat → Value} (h : Fun w g t n f) {k : Nat} (hk : k < n) {v : Value} (hv : f' k = v) (hf : ∀ j, j < n → j ≠ k → f' j = f j) : Fun (w.setCell ⟨g, k, none⟩ v) g t n f' := by
  obtain ⟨cs, h1, h2, h3⟩ := h
  refine ⟨cs.setIfInBounds k v, heap_setCell_same w g k cs t v h1, by simpa using h2, fun j hj => ?_⟩
  by_cases e : j = k
  · subst e
    rw [Array.getElem?_setIfInBounds_self_of_lt (by omega), hv]
  · rw [Array.getElem?_setIfInBounds_ne (fun h => e h.symm), hf j hj e]
    exact h3 j hj

theorem Fun.otherCell {w : World} {g : Nat} {t : TypeId} {n : Nat} {f : Nat → Value} (h : Fun w g t n f) (a : Addr) (v : Value) (hne : g ≠ a.block) : Fun (w.setCell a v) g t n f := h.same (Below.heap_setCell _ _ _ _ hne)

theorem run_makeFull {P : Program} {t e : TypeId} {z : Value} {bytes : Nat} (ht : P.underlying t = some (.slice e)) (hinfo : (P.info? e).map (fun i => (i.zero, i.size, i.bytes)) = some (some z, 1, bytes)) (hz : z.cells = #[z])
    (n : Int) (h0 : 0 ≤ n) (hb : (bytes : Int) * n ≤ 281474976710656) (h63 : n ≤ 9223372036854775807) (w : World) :
    (Instr.makeSlice t (.int .i64 n) (.int .i64 n)).run P w = .ok (.slice (some ⟨w.heap.size, 0, none⟩) n.toNat n.toNat) (w.alloc (.cells (madeCells #[z] n.toNat) e)) := by
  obtain ⟨i0, hi, hz0, hz1, hz2⟩ := info_parts hinfo
  have := run_make (P := P) w t e i0 z ht hi hz0 .i64 .i64 n n h0 (Int.le_refl _) (by rw [hz2]; exact hb) h63
  rw [hz1, Nat.mul_one, hz] at this
  exact this

theorem new_at (W V : World) (h : V.heap.size = W.heap.size) (x : Value) (t : TypeId) : ∀ j u, [x][j]? = some u → (V.alloc (.cells #[x] t)).cell? ((⟨W.heap.size, 0, none⟩ : Addr).add j) = some u := by
  rw [← h]; exact cell_one_new V x t

theorem Try.info56 : (Try.prog.info? 56).map (fun i => (i.zero, i.size, i.bytes)) = some (some (.agg #[.int .i64 0, .int .i64 0, .int .i64 0]), 3, 24) := by kernel_rfl

theorem run_makeSlots (n : Nat) (h : n ≤ 4096) (w : World) :
    (Instr.makeSlice 51 (.int .i64 (n : Int)) (.int .i64 (n : Int))).run Try.prog w = .ok (.slice (some ⟨w.heap.size, 0, none⟩) n n) (w.alloc (.cells (madeCells #[.int .i64 0, .int .i64 0, .int .i64 0] (n * 3)) 56)) := by
  obtain ⟨i0, hi, hz0, hz1, hz2⟩ := info_parts Try.info56
  have := run_make (P := Try.prog) w 51 56 i0 _ Try.underlying51 hi hz0 .i64 .i64 n n (by omega) (Int.le_refl _) (by rw [hz2]; omega) (by omega)
  rw [hz1, Int.toNat_natCast] at this
  exact this

/-- loop 1: memory -/
structure M1 (w wr : World) (n : Nat) (r : Nat → Int) (vS vG : Value) (S G : List Nat) : Prop where
  rest : Fun wr w.heap.size 3 n (fun j => .int .i64 (r j))
  stS : Stk wr (w.heap.size + 1) vS S
  stG : Stk wr (w.heap.size + 1) vG G
  apart : vS.ownBlock = none ∨ vS.ownBlock ≠ vG.ownBlock
  below : Below w.heap.size w wr

theorem M1.store {w wr : World} {n : Nat} {r : Nat → Int} {vS vG : Value} {S G : List Nat} (h : M1 w wr n r vS vG S G) {k : Nat} (hk : k < n) (q : Nat) (P : Int) (o : Obj) :
    M1 w (((wr.drewN q).setCell ⟨w.heap.size, k, none⟩ (.int .i64 P)).alloc o) n (upd r k P) vS vG S G := by
  have hsz := h.below.size
  have hlt : w.heap.size < wr.heap.size := by
    obtain ⟨cs, h1, _, _⟩ := h.rest
    exact (Array.getElem?_eq_some_iff.1 h1).1
  have hg1 : (wr.drewN q).grownBy ((wr.drewN q).setCell ⟨w.heap.size, k, none⟩ (.int .i64 P)) (some w.heap.size) :=
    ⟨rfl, rfl, rfl, by simp [World.setCell], fun j _ hj => Below.heap_setCell _ _ _ _ (fun e => hj (by simp [e]))⟩
  have own : ∀ v L, Stk wr (w.heap.size + 1) v L → Stk (((wr.drewN q).setCell ⟨w.heap.size, k, none⟩ (.int .i64 P)).alloc o) (w.heap.size + 1) v L := by
    intro v L hv
    refine World.ownsRow.alloc ?_ o
    refine World.ownsRow.kept (w := wr.drewN q) hv hg1 ?_
    rcases hv.2 with ⟨h0, _⟩ | ⟨g, c, cur, h0, h1, _⟩
    · left; rw [h0]; rfl
    · right; rw [h0]; simp [Value.ownBlock]; omega
  refine ⟨?_, own _ _ h.stS, own _ _ h.stG, h.apart, ?_⟩
  · refine (Fun.stored (h.rest.drewN q) hk (by rw [upd_same]) (fun j _ hj => by rw [upd_other hj])).same ?_
    exact Below.heap_alloc _ _ _ (by simp [World.setCell]; exact hlt)
  · exact ((below_drewN' h.below q).setCell (Nat.le_refl _) _).alloc (by simp [World.setCell]; exact hsz) _

theorem M1.pushS {w A w1 : World} {n : Nat} {r : Nat → Int} {vS vG v' : Value} {S G : List Nat} (h : M1 w A n r vS vG S G) {k : Nat}
    (hown : w1.ownsRow (w.heap.size + 1) 3 1 v' (S.length + 1) (S.map (fun (i : Nat) => Value.int .i64 (i : Int)) ++ [.int .i64 (k : Int)])) (hg : A.grownBy w1 vS.ownBlock) (hat : v'.ownBlock = vS.ownBlock ∨ v'.ownBlock = some A.heap.size) :
    M1 w w1 n r v' vG (S ++ [k]) G := by
  have hS : ∀ q, vS.ownBlock = some q → w.heap.size + 1 ≤ q := fun q hq => (h.stS.lt q hq).1
  have hG : ∀ q, vG.ownBlock = some q → q < A.heap.size := fun q hq => (h.stG.lt q hq).2
  refine ⟨h.rest.grown hg (fun e => by have := hS _ e; omega), ?_, h.stG.kept hg ?_, ?_, ?_⟩
  · unfold Stk
    rw [List.length_append, List.length_singleton, List.map_append]
    exact hown
  · rcases h.apart with h0 | h0
    · rw [h0]
      cases hv : vG.ownBlock with
      | none => exact .inl rfl
      | some q => exact .inr (by simp)
    · exact .inr (fun e => h0 e.symm)
  · rcases hat with h0 | h0
    · rw [h0]; exact h.apart
    · right
      rw [h0]
      intro e
      have := hG _ e.symm
      omega
  · exact h.below.grown hg h.below.size (fun q hq => by have := hS q hq; omega)

theorem M1.pushG {w A w1 : World} {n : Nat} {r : Nat → Int} {vS vG v' : Value} {S G : List Nat} (h : M1 w A n r vS vG S G) {k : Nat}
    (hown : w1.ownsRow (w.heap.size + 1) 3 1 v' (G.length + 1) (G.map (fun (i : Nat) => Value.int .i64 (i : Int)) ++ [.int .i64 (k : Int)])) (hg : A.grownBy w1 vG.ownBlock) (hat : v'.ownBlock = vG.ownBlock ∨ v'.ownBlock = some A.heap.size) :
    M1 w w1 n r vS v' S (G ++ [k]) := by
  have hS : ∀ q, vS.ownBlock = some q → q < A.heap.size := fun q hq => (h.stS.lt q hq).2
  have hG : ∀ q, vG.ownBlock = some q → w.heap.size + 1 ≤ q := fun q hq => (h.stG.lt q hq).1
  refine ⟨h.rest.grown hg (fun e => by have := hG _ e; omega), h.stS.kept hg h.apart, ?_, ?_, ?_⟩
  · unfold Stk
    rw [List.length_append, List.length_singleton, List.map_append]
    exact hown
  · rcases hat with h0 | h0
    · rw [h0]; exact h.apart
    · rw [h0]
      cases hv : vS.ownBlock with
      | none => exact .inl rfl
      | some q => right; intro e; simp at e; have := hS q hv; omega
  · exact h.below.grown hg h.below.size (fun q hq => by have := hG q hq; omega)

/-- loop 1: which things lie where -/
structure L1 (n : Nat) (T : Int) (f r : Nat → Int) (k : Nat) (S G : List Nat) : Prop where
  nd : (S ++ G).Nodup
  all : ∀ i, i ∈ S ++ G ↔ i < k
  sm : ∀ i, i ∈ S → f i * n < T
  gr : ∀ i, i ∈ G → T ≤ f i * n
  eq : ∀ j, j < k → r j = f j * n
  len : S.length + G.length = k

theorem L1.small {n : Nat} {T : Int} {f r : Nat → Int} {k : Nat} {S G : List Nat} (h : L1 n T f r k S G) (hk : f k * n < T) : L1 n T f (upd r k (f k * n)) (k + 1) (S ++ [k]) G := by
  have hn : k ∉ S ++ G := fun hm => absurd ((h.all k).1 hm) (Nat.lt_irrefl _)
  refine ⟨?_, fun i => ?_, fun i hi => ?_, h.gr, fun j hj => ?_, by have := h.len; simp; omega⟩
  · rw [List.append_assoc, List.singleton_append]
    refine (List.perm_middle.nodup_iff).2 (List.nodup_cons.2 ⟨hn, h.nd⟩)
  · have := h.all i
    simp only [List.mem_append, List.mem_singleton] at this ⊢
    constructor
    · rintro ((h1 | h1) | h1)
      · have := this.1 (.inl h1); omega
      · omega
      · have := this.1 (.inr h1); omega
    · intro h1
      by_cases e : i = k
      · exact .inl (.inr e)
      · rcases this.2 (by omega) with h2 | h2
        · exact .inl (.inl h2)
        · exact .inr h2
  · rcases List.mem_append.1 hi with h1 | h1
    · exact h.sm i h1
    · rw [List.mem_singleton.1 h1]; exact hk
  · by_cases e : j = k
    · subst e; exact upd_same _ _ _
    · rw [upd_other e]; exact h.eq j (by omega)

theorem L1.great {n : Nat} {T : Int} {f r : Nat → Int} {k : Nat} {S G : List Nat} (h : L1 n T f r k S G) (hk : T ≤ f k * n) : L1 n T f (upd r k (f k * n)) (k + 1) S (G ++ [k]) := by
  have hn : k ∉ S ++ G := fun hm => absurd ((h.all k).1 hm) (Nat.lt_irrefl _)
  refine ⟨?_, fun i => ?_, h.sm, fun i hi => ?_, fun j hj => ?_, by have := h.len; simp; omega⟩
  · rw [← List.append_assoc]
    have := List.nodup_cons.2 ⟨hn, h.nd⟩
    exact ((List.perm_append_singleton k (S ++ G)).nodup_iff).2 this
  · have := h.all i
    simp only [List.mem_append, List.mem_singleton] at this ⊢
    constructor
    · rintro (h1 | h1 | h1)
      · have := this.1 (.inl h1); omega
      · have := this.1 (.inr h1); omega
      · omega
    · intro h1
      by_cases e : i = k
      · exact .inr (.inr e)
      · rcases this.2 (by omega) with h2 | h2
        · exact .inl h2
        · exact .inr (.inl h2)
  · rcases List.mem_append.1 hi with h1 | h1
    · exact h.gr i h1
    · rw [List.mem_singleton.1 h1]; exact hk
  · by_cases e : j = k
    · subst e; exact upd_same _ _ _
    · rw [upd_other e]; exact h.eq j (by omega)

end Go.Proofs.Ytblckohcjfoalaa

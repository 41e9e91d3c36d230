/-
  The memory of loop 2 of the alias table: what each step keeps.
-/
import Derived.Test.YtblckohcjfoalaaDisG
namespace Go.Proofs.Ytblckohcjfoalaa
open Go.RowKit

theorem wrap_few {m : Nat} (h : m ≤ 4096) : wrap64 (m : Int) = m := by unfold wrap64; omega
theorem wrap_mid {x : Int} (h : -1000000000000000000 ≤ x) (h2 : x ≤ 1000000000000000000) : wrap64 x = x := by unfold wrap64; omega

section
variable {T : TypeId} {w wr : World} {b bs n : Nat} {vi ve : Value} {r sl : Nat → Int} {vS vG : Value} {S G : List Nat}

theorem M2.popS {g c x : Nat} (h : M2 T w wr b bs n vi ve r sl (.slice (some ⟨g, 0, none⟩) (S.length + 1) c) vG (S ++ [x]) G) :
    M2 T w wr b bs n vi ve r sl (.slice (some ⟨g, 0, none⟩) S.length c) vG S G :=
  ⟨h.head, h.rest, h.slots, (Stk.pop h.stS).1, h.stG, h.apart, h.noS, h.noG, h.kept, h.lo, h.hb⟩

theorem M2.popG {g c x : Nat} (h : M2 T w wr b bs n vi ve r sl vS (.slice (some ⟨g, 0, none⟩) (G.length + 1) c) S (G ++ [x])) :
    M2 T w wr b bs n vi ve r sl vS (.slice (some ⟨g, 0, none⟩) G.length c) S G :=
  ⟨h.head, h.rest, h.slots, h.stS, (Stk.pop h.stG).1, h.apart, h.noS, h.noG, h.kept, h.lo, h.hb⟩

theorem M2.drewN (h : M2 T w wr b bs n vi ve r sl vS vG S G) (q : Nat) : M2 T w (wr.drewN q) b bs n vi ve r sl vS vG S G :=
  ⟨h.head, h.rest, h.slots, h.stS, h.stG, h.apart, h.noS, h.noG, ⟨h.kept.os, h.kept.tape, h.kept.output, h.kept.size, h.kept.block⟩, h.lo, h.hb⟩

theorem stk_set {B : Nat} {v : Value} {L : List Nat} (h : Stk wr B v L) (a : Addr) (u : Value) (hne : ∀ q, v.ownBlock = some q → q ≠ a.block) : Stk (wr.setCell a u) B v L := by
  have hg1 : wr.grownBy (wr.setCell a u) (some a.block) :=
    ⟨rfl, rfl, rfl, by simp [World.setCell], fun j _ hj => Below.heap_setCell _ _ _ _ (fun e => hj (by simp [e]))⟩
  refine World.ownsRow.kept h hg1 ?_
  cases hv : v.ownBlock with
  | none => exact .inl rfl
  | some q => right; intro e; simp at e; exact hne q hv e

theorem M2.store (h : M2 T w wr b bs n vi ve r sl vS vG S G) {k : Nat} (hk : k < n) (P : Int) :
    M2 T w (wr.setCell ⟨w.heap.size, k, none⟩ (.int .i64 P)) b bs n vi ve (upd r k P) sl vS vG S G := by
  have hlo := h.lo
  have hb := h.hb
  refine ⟨?_, ?_, ?_, stk_set h.stS _ _ (fun q hq => by have := (h.stS.lt q hq).1; simp; omega), stk_set h.stG _ _ (fun q hq => by have := (h.stG.lt q hq).1; simp; omega), h.apart, h.noS, h.noG, h.kept.trans (Kept.setCell _ _ _ (.inl (Nat.le_refl _))), h.lo, h.hb⟩
  · rw [Below.heap_setCell _ _ _ _ (by simp; omega)]; exact h.head
  · exact Fun.stored h.rest hk (by rw [upd_same]) (fun j _ hj => by rw [upd_other hj])
  · exact h.slots.otherCell _ _ (by simp; omega)

theorem M2.slot1 (h : M2 T w wr b bs n vi ve r sl vS vG S G) {k : Nat} (hk : k < 3 * n) (P : Int) :
    M2 T w (wr.setCell ⟨bs, k, none⟩ (.int .i64 P)) b bs n vi ve r (upd sl k P) vS vG S G := by
  have hlo := h.lo
  have hb := h.hb
  refine ⟨?_, ?_, ?_, stk_set h.stS _ _ (fun q hq e => h.noS (by rw [hq, e])), stk_set h.stG _ _ (fun q hq e => h.noG (by rw [hq, e])), h.apart, h.noS, h.noG, h.kept.trans (Kept.setCell _ _ _ (.inl (by simp; omega))), h.lo, h.hb⟩
  · rw [Below.heap_setCell _ _ _ _ (by simp; omega)]; exact h.head
  · exact h.rest.otherCell _ _ (by simp; omega)
  · exact Fun.stored h.slots hk (by rw [upd_same]) (fun j _ hj => by rw [upd_other hj])

theorem M2.slot (h : M2 T w wr b bs n vi ve r sl vS vG S G) {s : Nat} (hs : s < n) (x y z : Int) :
    M2 T w (((wr.setCell ⟨bs, 3 * s, none⟩ (.int .i64 x)).setCell ⟨bs, 3 * s + 1, none⟩ (.int .i64 y)).setCell ⟨bs, 3 * s + 2, none⟩ (.int .i64 z)) b bs n vi ve r (put3 sl s x y z) vS vG S G :=
  ((h.slot1 (by omega) x).slot1 (by omega) y).slot1 (by omega) z

theorem M2.alloc (h : M2 T w wr b bs n vi ve r sl vS vG S G) (o : Obj) : M2 T w (wr.alloc o) b bs n vi ve r sl vS vG S G := by
  have hlo := h.lo
  have hsz : ∀ {g t m f}, Fun wr g t m f → g < wr.heap.size := fun ⟨_, h1, _⟩ => (Array.getElem?_eq_some_iff.1 h1).1
  have hh := (Array.getElem?_eq_some_iff.1 h.head).1
  refine ⟨?_, h.rest.same (Below.heap_alloc _ _ _ (hsz h.rest)), h.slots.same (Below.heap_alloc _ _ _ (hsz h.slots)), World.ownsRow.alloc h.stS o, World.ownsRow.alloc h.stG o, h.apart, h.noS, h.noG, h.kept.trans ?_, h.lo, h.hb⟩
  · rw [Below.heap_alloc _ _ _ hh]; exact h.head
  · exact Kept.of_grown (World.grownBy_alloc _ _ none) h.kept.size (fun k hk => by cases hk)

theorem M2.pushS {A w1 : World} {v' : Value} (h : M2 T w A b bs n vi ve r sl vS vG S G) {k : Nat}
    (hown : w1.ownsRow (w.heap.size + 1) 3 1 v' (S.length + 1) (S.map (fun (i : Nat) => Value.int .i64 (i : Int)) ++ [.int .i64 (k : Int)])) (hg : A.grownBy w1 vS.ownBlock) (hat : v'.ownBlock = vS.ownBlock ∨ v'.ownBlock = some A.heap.size) :
    M2 T w w1 b bs n vi ve r sl v' vG (S ++ [k]) G := by
  have hlo := h.lo
  have hb := h.hb
  have hsz : ∀ {g t m f}, Fun A g t m f → g < A.heap.size := fun ⟨_, h1, _⟩ => (Array.getElem?_eq_some_iff.1 h1).1
  have hS : ∀ q, vS.ownBlock = some q → w.heap.size + 1 ≤ q := fun q hq => (h.stS.lt q hq).1
  have hG : ∀ q, vG.ownBlock = some q → q < A.heap.size := fun q hq => (h.stG.lt q hq).2
  have hh := (Array.getElem?_eq_some_iff.1 h.head).1
  refine ⟨?_, h.rest.grown hg (fun e => by have := hS _ e; omega), h.slots.grown hg (fun e => h.noS e), ?_, h.stG.kept hg ?_, ?_, ?_, h.noG, h.kept.trans (Kept.of_grown hg h.kept.size (fun q hq => by have := hS q hq; omega)), h.lo, h.hb⟩
  · rw [hg.block b hh (fun e => by have := hS b e.symm; omega)]; exact h.head
  · unfold Stk
    rw [List.length_append, List.length_singleton, List.map_append]
    exact hown
  · rcases h.apart with h0 | h0
    · rw [h0]
      cases hv : vG.ownBlock with
      | none => exact .inl rfl
      | some q => exact .inr (by simp)
    · exact .inr (fun e => h0 e.symm)
  · rcases hat with h0 | h0
    · rw [h0]; exact h.apart
    · right
      rw [h0]
      intro e
      have := hG _ e.symm
      omega
  · rcases hat with h0 | h0
    · rw [h0]; exact h.noS
    · rw [h0]
      intro e
      have := hsz h.slots
      simp at e
      omega
end

/-- loop 3: one more slot -/
theorem Acc.tail {n : Nat} {T : Int} {f : Nat → Int} {G : List Nat} {j g : Nat} {r sl : Nat → Int} (h : Acc n T f (fun i => decide (i ∈ G.drop j)) r sl) (hnd : G.Nodup) (hg : G[j]? = some g) (hlt : g < n) (hr : r g = T) (hT : 0 ≤ T) :
    Acc n T f (fun i => decide (i ∈ G.drop (j + 1))) r (put3 sl g T g g) := by
  obtain ⟨hj, hgj⟩ := List.getElem?_eq_some_iff.1 hg
  have e : G.drop j = g :: G.drop (j + 1) := by rw [List.drop_eq_getElem_cons hj, hgj]
  have nd : (G.drop j).Nodup := List.Nodup.sublist (List.drop_sublist _ _) hnd
  rw [e] at nd
  have nd2 := List.nodup_cons.1 nd
  refine (h.last hlt (decide_eq_true (by rw [e]; simp)) hr hT).congr (fun i => ?_)
  unfold off
  by_cases hi : i = g
  · subst hi
    rw [if_pos rfl]
    exact decide_eq_false nd2.1
  · rw [if_neg hi, e]
    congr 1
    simp [hi]

theorem Stk.at {w : World} {B : Nat} {a : Option Addr} {c : Nat} {L : List Nat} (h : Stk w B (.slice a L.length c) L) {j : Nat} (hj : j < L.length) :
    ∃ q x, a = some ⟨q, 0, none⟩ ∧ L[j]? = some x ∧ w.cell? ⟨q, j, none⟩ = some (.int .i64 (x : Int)) := by
  obtain ⟨q, c2, hv, _, _⟩ := h.form (by omega)
  simp only [Value.slice.injEq, true_and] at hv
  obtain ⟨rfl, rfl⟩ := hv
  have hcell := World.ownsRow.cellAt h j (by omega)
  refine ⟨q, L[j], rfl, List.getElem?_eq_getElem hj, ?_⟩
  rw [hcell, List.getElem?_map, List.getElem?_eq_getElem hj]
  rfl

end Go.Proofs.Ytblckohcjfoalaa

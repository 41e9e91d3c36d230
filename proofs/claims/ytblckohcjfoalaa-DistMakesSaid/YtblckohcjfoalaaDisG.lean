/-
  The lists of loop 2 and loop 3 of the alias table.
-/
import Derived.Test.YtblckohcjfoalaaDisF
namespace Go.Proofs.Ytblckohcjfoalaa
open Go.RowKit

theorem Acc.congr {n : Nat} {T : Int} {f : Nat → Int} {L L' : Nat → Bool} {r sl : Nat → Int} (h : Acc n T f L r sl) (e : ∀ i, L' i = L i) : Acc n T f L' r sl := by
  have : L' = L := funext e
  rw [this]; exact h

def lenOf : Value → Nat
  | .slice _ n _ => n
  | _ => 0

theorem Stk.len {w : World} {B : Nat} {v : Value} {L : List Nat} (h : Stk w B v L) : lenOf v = L.length := by
  obtain ⟨a, c, rfl⟩ := h.val
  rfl

/-- loop 2: memory -/
structure M2 (T : TypeId) (w wr : World) (b bs n : Nat) (vi ve : Value) (r sl : Nat → Int) (vS vG : Value) (S G : List Nat) : Prop where
  head : wr.heap[b]? = some (.cells #[vi, ve, .slice (some ⟨bs, 0, none⟩) n n] T (0, 0))
  rest : Fun wr w.heap.size 3 n (fun j => .int .i64 (r j))
  slots : Fun wr bs 56 (3 * n) (fun j => .int .i64 (sl j))
  stS : Stk wr (w.heap.size + 1) vS S
  stG : Stk wr (w.heap.size + 1) vG G
  apart : vS.ownBlock = none ∨ vS.ownBlock ≠ vG.ownBlock
  noS : vS.ownBlock ≠ some bs
  noG : vG.ownBlock ≠ some bs
  kept : Kept w.heap.size b w wr
  lo : w.heap.size < bs
  hb : b < w.heap.size

theorem M1.toM2 {T : TypeId} {w wr : World} {n b : Nat} {r : Nat → Int} {vS vG vi ve : Value} {S G : List Nat} (h : M1 w wr n r vS vG S G) (hb : b < w.heap.size) (hh : w.heap[b]? = some (.cells #[vi, ve, .slice none 0 0] T (0, 0))) :
    M2 T w ((wr.alloc (.cells (madeCells #[.int .i64 0, .int .i64 0, .int .i64 0] (n * 3)) 56)).setCell ⟨b, 2, none⟩ (.slice (some ⟨wr.heap.size, 0, none⟩) n n)) b wr.heap.size n vi ve r (fun _ => 0) vS vG S G := by
  have hlt : w.heap.size < wr.heap.size := by
    obtain ⟨cs, h1, _, _⟩ := h.rest
    exact (Array.getElem?_eq_some_iff.1 h1).1
  obtain ⟨A, hA⟩ : ∃ A, wr.alloc (.cells (madeCells #[.int .i64 0, .int .i64 0, .int .i64 0] (n * 3)) 56) = A := ⟨_, rfl⟩
  have hold : ∀ k, k < wr.heap.size → A.heap[k]? = wr.heap[k]? := fun k hk => by rw [← hA]; exact Below.heap_alloc _ _ _ hk
  have hnew : A.heap[wr.heap.size]? = some (.cells (madeCells #[.int .i64 0, .int .i64 0, .int .i64 0] (n * 3)) 56 (0, 0)) := by rw [← hA]; exact heap_alloc_new wr _
  have hgr : wr.grownBy A none := by rw [← hA]; exact World.grownBy_alloc _ _ _
  have hA2 : A.heap[b]? = some (.cells #[vi, ve, .slice none 0 0] T (0, 0)) := by rw [hold b (by omega), h.below.block b hb]; exact hh
  rw [hA]
  have hset : A.grownBy (A.setCell ⟨b, 2, none⟩ (.slice (some ⟨wr.heap.size, 0, none⟩) n n)) (some b) :=
    ⟨rfl, rfl, rfl, by simp [World.setCell], fun j _ hj => Below.heap_setCell _ _ _ _ (fun e => hj (by simp [e]))⟩
  have own : ∀ v L, Stk wr (w.heap.size + 1) v L → Stk (A.setCell ⟨b, 2, none⟩ (.slice (some ⟨wr.heap.size, 0, none⟩) n n)) (w.heap.size + 1) v L := by
    intro v L hv
    have hne : v.ownBlock = none ∨ v.ownBlock ≠ none := by cases v.ownBlock <;> simp
    refine World.ownsRow.kept (World.ownsRow.kept hv hgr hne) hset ?_
    cases hv2 : v.ownBlock with
    | none => exact .inl rfl
    | some q => right; intro e; simp at e; have := (hv.lt q hv2).1; omega
  refine ⟨?_, ?_, ?_, own _ _ h.stS, own _ _ h.stG, h.apart, fun e => ?_, fun e => ?_, ?_, hlt, hb⟩
  · have := heap_setCell_same A b 2 _ T (.slice (some ⟨wr.heap.size, 0, none⟩) n n) hA2
    rw [this]
    simp
  · exact (h.rest.same (hold _ hlt)).otherCell _ _ (by simp; omega)
  · refine Fun.otherCell ?_ _ _ (by simp; omega)
    refine ⟨_, hnew, by simp [size_madeCells]; omega, fun j hj => ?_⟩
    have hz : ∀ m j, j < m * 3 → (madeCells #[Value.int .i64 0, .int .i64 0, .int .i64 0] (m * 3))[j]? = some (.int .i64 0) := by
      intro m j hj
      have h3 : j % 3 = 0 ∨ j % 3 = 1 ∨ j % 3 = 2 := by omega
      have e : (madeCells #[Value.int .i64 0, Value.int .i64 0, Value.int .i64 0] (m * 3))[j]? = some (#[Value.int .i64 0, Value.int .i64 0, Value.int .i64 0][j % 3]!) := by
        unfold madeCells
        rw [Array.getElem?_map, Array.getElem?_range, if_pos hj]
        rfl
      rw [e]
      rcases h3 with h3 | h3 | h3 <;> (rw [h3]; rfl)
    exact hz n j (by omega)
  · have := (h.stS.lt _ e).2; omega
  · have := (h.stG.lt _ e).2; omega
  · exact ((Kept.of_below h.below).trans (Kept.of_grown hgr (by have := h.below.size; omega) (fun k hk => by cases hk))).trans (Kept.setCell _ _ _ (.inr rfl))

/-- loop 2: which things wait, what is left of them -/
structure L2 (n : Nat) (T : Int) (f : Nat → Int) (S G : List Nat) (r sl : Nat → Int) : Prop where
  nd : (S ++ G).Nodup
  lt : ∀ i, i ∈ S ++ G → i < n
  sm : ∀ i, i ∈ S → 0 ≤ r i ∧ r i < T
  gr : ∀ i, i ∈ G → T ≤ r i ∧ r i ≤ 4398046511104
  acc : Acc n T f (fun i => decide (i ∈ S ++ G)) r sl

theorem pre_const (c : Int) : ∀ k, pre (fun _ => c) k = k * c
  | 0 => by show (0 : Int) = (0 : Nat) * c; simp
  | k + 1 => by
    show pre (fun _ => c) k + c = ((k + 1 : Nat) : Int) * c
    rw [pre_const c k, Int.natCast_add, Int.add_mul]; simp

theorem pre_lin (f : Nat → Int) (m T : Int) : ∀ k, pre (fun i => f i * m - T) k = pre f k * m - k * T
  | 0 => by show (0 : Int) = 0 * m - (0 : Nat) * T; simp
  | k + 1 => by
    show pre (fun i => f i * m - T) k + (f k * m - T) = (pre f k + f k) * m - ((k + 1 : Nat) : Int) * T
    rw [pre_lin f m T k, Int.natCast_add, Int.add_mul, Int.add_mul]
    simp
    omega

theorem L1.start {n : Nat} {f r : Nat → Int} {S G : List Nat} (g : Good n f) (h : L1 n (pre f n) f r n S G) (sl : Nat → Int) : L2 n (pre f n) f S G r sl := by
  have hlt : ∀ i, i ∈ S ++ G → i < n := fun i hi => (h.all i).1 hi
  have hle : ∀ i, i < n → 0 ≤ f i * n ∧ f i * n ≤ 4398046511104 := by
    intro i hi
    have h1 := pre_mono g.no (i + 1) n (by omega) (Nat.le_refl _)
    have h2 := pre_nonneg g.no i (by omega)
    have h3 : pre f (i + 1) = pre f i + f i := rfl
    have h4 := g.most
    have h5 := g.few
    have h6 := g.no i hi
    refine ⟨Int.mul_nonneg h6 (by omega), ?_⟩
    have := Int.mul_le_mul (show f i ≤ 1073741824 by omega) (show (n : Int) ≤ 4096 by omega) (by omega) (by omega)
    omega
  refine ⟨h.nd, hlt, fun i hi => ?_, fun i hi => ?_, ⟨?_, ?_, ?_⟩⟩
  · have hin := hlt i (List.mem_append_left _ hi)
    rw [h.eq i hin]
    exact ⟨(hle i hin).1, h.sm i hi⟩
  · have hin := hlt i (List.mem_append_right _ hi)
    rw [h.eq i hin]
    exact ⟨h.gr i hi, (hle i hin).2⟩
  · have e : pre (fun s => if decide (s ∈ S ++ G) then r s - pre f n else 0) n = pre (fun i => f i * n - pre f n) n := by
      refine pre_congr n (fun j hj => ?_)
      rw [decide_eq_true ((h.all j).2 hj), if_pos rfl, h.eq j hj]
    rw [e, pre_lin, Int.mul_comm]
    omega
  · intro i hi
    have e : pre (fun s => if decide (s ∈ S ++ G) then 0 else gives (pre f n) sl s i) n = pre (fun _ => 0) n := by
      refine pre_congr n (fun j hj => ?_)
      rw [decide_eq_true ((h.all j).2 hj), if_pos rfl]
    rw [e, pre_const, decide_eq_true ((h.all i).2 hi), if_pos rfl, h.eq i hi]
    omega
  · intro s hs hL
    rw [decide_eq_true ((h.all s).2 hs)] at hL
    cases hL

theorem L2.noG {n : Nat} {T : Int} {f : Nat → Int} {S : List Nat} {r sl : Nat → Int} (h : L2 n T f S [] r sl) : S = [] := by
  cases S with
  | nil => rfl
  | cons s S =>
    exfalso
    have h1 := pre_le_zero (h := fun t => if decide (t ∈ (s :: S) ++ []) then r t - T else 0) n (fun j hj => by
      by_cases e : j ∈ (s :: S) ++ []
      · rw [decide_eq_true e, if_pos rfl]
        have := (h.sm j (by simpa using e)).2
        omega
      · rw [decide_eq_false e]
        simp)
    have hm : s ∈ (s :: S) ++ [] := by simp
    have h2 := h1.2 s (h.lt s hm) (by
      rw [decide_eq_true hm, if_pos rfl]
      have := (h.sm s (by simp)).2
      omega)
    have h3 := h.acc.bal
    omega

theorem L2.fin {n : Nat} {T : Int} {f : Nat → Int} {G : List Nat} {r sl : Nat → Int} (h : L2 n T f [] G r sl) : ∀ i, i ∈ G → r i = T := by
  intro i hi
  have h1 := pre_ge_zero (h := fun t => if decide (t ∈ [] ++ G) then r t - T else 0) n (fun j hj => by
    by_cases e : j ∈ [] ++ G
    · rw [decide_eq_true e, if_pos rfl]
      have := (h.gr j (by simpa using e)).1
      omega
    · rw [decide_eq_false e]
      simp) h.acc.bal i (h.lt i (by simpa using hi))
  rw [decide_eq_true (show i ∈ [] ++ G by simpa using hi), if_pos rfl] at h1
  omega

section
variable {n : Nat} {T : Int} {f : Nat → Int} {S G : List Nat} {s g : Nat} {r sl : Nat → Int}

theorem L2.tops (h : L2 n T f (S ++ [s]) (G ++ [g]) r sl) : s < n ∧ g < n ∧ s ≠ g ∧ 0 ≤ r s ∧ r s < T ∧ T ≤ r g ∧ r g ≤ 4398046511104 := by
  have hs := h.sm s (by simp)
  have hg := h.gr g (by simp)
  refine ⟨h.lt s (by simp), h.lt g (by simp), ?_, hs.1, hs.2, hg.1, hg.2⟩
  intro e
  subst e
  omega

theorem L2.core (h : L2 n T f (S ++ [s]) (G ++ [g]) r sl) :
    (S ++ (G ++ [g])).Nodup ∧ s ∉ S ++ (G ++ [g]) ∧ Acc n T f (fun i => decide (i ∈ S ++ (G ++ [g]))) (upd r g (r g - (T - r s))) (put3 sl s (r s) s g) := by
  obtain ⟨h1, h2, h3, h4, h5, h6, h7⟩ := h.tops
  have nd := h.nd
  rw [List.append_assoc, List.singleton_append] at nd
  have nd2 := List.nodup_cons.1 ((List.perm_middle.nodup_iff).1 nd)
  refine ⟨nd2.2, nd2.1, ?_⟩
  refine (h.acc.round h1 h2 h3 (decide_eq_true (by simp)) (decide_eq_true (by simp)) h4 (by omega)).congr (fun i => ?_)
  unfold off
  by_cases e : i = s
  · subst e
    rw [if_pos rfl]
    exact decide_eq_false nd2.1
  · rw [if_neg e]
    congr 1
    simp [e]

theorem L2.toS (h : L2 n T f (S ++ [s]) (G ++ [g]) r sl) (hr : r g - (T - r s) < T) : L2 n T f (S ++ [g]) G (upd r g (r g - (T - r s))) (put3 sl s (r s) s g) := by
  obtain ⟨h1, h2, h3, h4, h5, h6, h7⟩ := h.tops
  obtain ⟨nd, ns, ac⟩ := h.core
  have hp : (S ++ [g] ++ G).Perm (S ++ (G ++ [g])) := by
    rw [List.append_assoc]
    exact List.Perm.append_left S List.perm_append_comm
  have ndS : g ∉ S ∧ g ∉ G := by
    have hq := List.nodup_append.1 nd
    refine ⟨fun hm => (hq.2.2 g hm g (by simp)) rfl, fun hm => ?_⟩
    exact ((List.nodup_append.1 hq.2.1).2.2 g hm g (by simp)) rfl
  refine ⟨hp.nodup_iff.2 nd, fun i hi => ?_, fun i hi => ?_, fun i hi => ?_, ac.congr (fun i => ?_)⟩
  · have hi2 := hp.mem_iff.1 hi
    refine h.lt i ?_
    simp only [List.mem_append, List.mem_singleton] at hi2 ⊢
    rcases hi2 with a | a | a
    · exact .inl (.inl a)
    · exact .inr (.inl a)
    · exact .inr (.inr a)
  · rcases List.mem_append.1 hi with a | a
    · have hne : i ≠ g := fun e => ndS.1 (e ▸ a)
      rw [upd_other hne]
      exact h.sm i (by simp [a])
    · rw [List.mem_singleton.1 a, upd_same]
      omega
  · have hne : i ≠ g := fun e => ndS.2 (e ▸ hi)
    rw [upd_other hne]
    exact h.gr i (by simp [hi])
  · congr 1
    exact propext hp.mem_iff

theorem L2.toG (h : L2 n T f (S ++ [s]) (G ++ [g]) r sl) (hr : T ≤ r g - (T - r s)) : L2 n T f S (G ++ [g]) (upd r g (r g - (T - r s))) (put3 sl s (r s) s g) := by
  obtain ⟨h1, h2, h3, h4, h5, h6, h7⟩ := h.tops
  obtain ⟨nd, ns, ac⟩ := h.core
  have hq := List.nodup_append.1 nd
  have ndS : g ∉ S ∧ g ∉ G := by
    refine ⟨fun hm => (hq.2.2 g hm g (by simp)) rfl, fun hm => ?_⟩
    exact ((List.nodup_append.1 hq.2.1).2.2 g hm g (by simp)) rfl
  refine ⟨nd, fun i hi => ?_, fun i hi => ?_, fun i hi => ?_, ac⟩
  · refine h.lt i ?_
    simp only [List.mem_append, List.mem_singleton] at hi ⊢
    rcases hi with a | a
    · exact .inl (.inl a)
    · exact .inr a
  · have hne : i ≠ g := fun e => ndS.1 (e ▸ hi)
    rw [upd_other hne]
    exact h.sm i (by simp [hi])
  · rcases List.mem_append.1 hi with a | a
    · have hne : i ≠ g := fun e => ndS.2 (e ▸ a)
      rw [upd_other hne]
      exact h.gr i (by simp [a])
    · rw [List.mem_singleton.1 a, upd_same]
      omega
end

end Go.Proofs.Ytblckohcjfoalaa

/-
  A table in memory; sums of weights.
-/
import Derived.Test.YtblckohcjfoalaaDisA
namespace Go.Proofs.Ytblckohcjfoalaa
open Go.RowKit

/-- the sum of the first k weights -/
def pre (f : Nat → Int) : Nat → Int
  | 0 => 0
  | k + 1 => pre f k + f k

theorem pre_mono {f : Nat → Int} {n : Nat} (h : ∀ j, j < n → 0 ≤ f j) : ∀ a b, a ≤ b → b ≤ n → pre f a ≤ pre f b := by
  intro a b hab
  induction b with
  | zero => intro _; have : a = 0 := by omega
            subst this; exact Int.le_refl _
  | succ b ih =>
    intro hb
    by_cases he : a = b + 1
    · subst he; exact Int.le_refl _
    · have h1 := ih (by omega) (by omega)
      have h2 := h b (by omega)
      show pre f a ≤ pre f b + f b
      omega

theorem pre_nonneg {f : Nat → Int} {n : Nat} (h : ∀ j, j < n → 0 ≤ f j) (k : Nat) (hk : k ≤ n) : 0 ≤ pre f k := pre_mono h 0 k (Nat.zero_le _) hk

theorem pre_congr {f h : Nat → Int} : ∀ (n : Nat), (∀ j, j < n → f j = h j) → pre f n = pre h n
  | 0, _ => rfl
  | n + 1, e => by show pre f n + f n = pre h n + h n; rw [pre_congr n (fun j hj => e j (by omega)), e n (by omega)]

/-- the first n cells of block g -/
def Fun (w : World) (g : Nat) (t : TypeId) (n : Nat) (f : Nat → Value) : Prop :=
  ∃ cs, w.heap[g]? = some (.cells cs t (0, 0)) ∧ n ≤ cs.size ∧ ∀ j, j < n → cs[j]? = some (f j)

section
variable {w w' : World} {g : Nat} {t : TypeId} {n : Nat} {f : Nat → Value}
theorem Fun.cell (h : Fun w g t n f) (j : Nat) (hj : j < n) : w.cell? ⟨g, j, none⟩ = some (f j) := by
  obtain ⟨cs, h1, _, h3⟩ := h
  have := h3 j hj
  simp [World.cell?, h1, this]

theorem Fun.free (h : Fun w g t n f) (j : Nat) : w.frozen? ⟨g, j, none⟩ = false := by
  obtain ⟨cs, h1, _, _⟩ := h
  simp [World.frozen?, h1]

theorem Fun.same (h : Fun w g t n f) (e : w'.heap[g]? = w.heap[g]?) : Fun w' g t n f := by
  obtain ⟨cs, h1, h2, h3⟩ := h
  exact ⟨cs, e.trans h1, h2, h3⟩

theorem Fun.below {B : Nat} (h : Fun w g t n f) (hb : Below B w w') (hg : g < B) : Fun w' g t n f := h.same (hb.block g hg)
theorem Fun.drewN (h : Fun w g t n f) (q : Nat) : Fun (w.drewN q) g t n f := h
end

/-- a table in memory: its struct in block b, the things in bi, the sums in be, the slots in bs -/
structure IsTab (w : World) (T E : TypeId) (b bi be bs ci ce n : Nat) (it : Nat → Value) (f : Nat → Int) (sl : Nat → Int) : Prop where
  head : w.heap[b]? = some (.cells #[.slice (some ⟨bi, 0, none⟩) n ci, .slice (some ⟨be, 0, none⟩) n ce, .slice (some ⟨bs, 0, none⟩) n n] T (0, 0))
  items : Fun w bi E n it
  ends : Fun w be 3 n (fun j => .int .i64 (pre f (j + 1)))
  slots : Fun w bs 56 (3 * n) (fun j => .int .i64 (sl j))

/-- weights that a table may have -/
structure Good (n : Nat) (f : Nat → Int) : Prop where
  pos : 1 ≤ n
  few : n ≤ 4096
  no : ∀ j, j < n → 0 ≤ f j
  some : 0 < pre f n
  most : pre f n ≤ 1073741824

section
variable {w w' : World} {T E : TypeId} {b bi be bs ci ce n : Nat} {it : Nat → Value} {f sl : Nat → Int}
theorem IsTab.cells (h : IsTab w T E b bi be bs ci ce n it f sl) :
    w.cell? ⟨b, 0, none⟩ = some (.slice (some ⟨bi, 0, none⟩) n ci) ∧ w.cell? ⟨b, 1, none⟩ = some (.slice (some ⟨be, 0, none⟩) n ce) ∧ w.cell? ⟨b, 2, none⟩ = some (.slice (some ⟨bs, 0, none⟩) n n) := by
  have := h.head
  simp [World.cell?, this]

theorem IsTab.drewN (h : IsTab w T E b bi be bs ci ce n it f sl) (q : Nat) : IsTab (w.drewN q) T E b bi be bs ci ce n it f sl := ⟨h.head, h.items, h.ends, h.slots⟩

theorem IsTab.below {B : Nat} (h : IsTab w T E b bi be bs ci ce n it f sl) (hb : Below B w w') (h1 : b < B) (h2 : bi < B) (h3 : be < B) (h4 : bs < B) : IsTab w' T E b bi be bs ci ce n it f sl :=
  ⟨by rw [hb.block b h1]; exact h.head, h.items.below hb h2, h.ends.below hb h3, h.slots.below hb h4⟩
end

end Go.Proofs.Ytblckohcjfoalaa

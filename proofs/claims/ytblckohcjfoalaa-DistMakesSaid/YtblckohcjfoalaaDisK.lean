/-
  The contract of Awake: the fixed fact holds.
-/
import Derived.Test.YtblckohcjfoalaaDisNS
namespace Go.Proofs.Ytblckohcjfoalaa
open Go.RowKit

def itA (j : Nat) : Value := if j = 0 then .string ⟨#[97]⟩ else if j = 1 then .string ⟨#[98]⟩ else .string ⟨#[99]⟩
def fA (j : Nat) : Int := if j = 0 then 1 else if j = 1 then 0 else 3

theorem cell_of_heap {w : World} {g : Nat} {cs : Array Value} {t : TypeId} (e : w.heap[g]? = some (.cells cs t (0, 0))) (j : Nat) : w.cell? ((⟨g, 0, none⟩ : Addr).add j) = cs[j]? := by
  have h : (⟨g, 0, none⟩ : Addr).add j = ⟨g, j, none⟩ := by simp [Addr.add]; intro h; omega
  rw [h]
  simp [World.cell?, e]

theorem three {j : Nat} (h : j < 3) : j = 0 ∨ j = 1 ∨ j = 2 := by omega

theorem fA_verdict : verdict (3 : Nat) 3 fA = 0 := by
  have hb : ∀ j, j < 3 → ¬ bad fA j := by
    intro j hj
    rcases three hj with rfl | rfl | rfl <;> decide
  rw [verdict_end (by omega) hb]
  rfl

theorem srcA (w : World) : Src ((w.alloc (.cells #[.string ⟨#[97]⟩, .string ⟨#[98]⟩, .string ⟨#[99]⟩] 9)).alloc (.cells #[.int .i64 1, .int .i64 0, .int .i64 3] 3)) (some ⟨w.heap.size, 0, none⟩) 3 3 (vals 3 itA) := by
  refine ⟨vals_len _ _, (fun h => by cases h), fun ad had j u hu => ?_, fun u hu => ?_⟩
  · obtain rfl := Option.some.inj had
    have hj : j < 3 := by
      rcases Nat.lt_or_ge j 3 with h1 | h1
      · exact h1
      · rw [List.getElem?_eq_none (by rw [vals_len]; exact h1)] at hu; cases hu
    rw [vals_at hj] at hu
    rw [← hu]
    have e : ((w.alloc (.cells #[.string ⟨#[97]⟩, .string ⟨#[98]⟩, .string ⟨#[99]⟩] 9)).alloc (.cells #[.int .i64 1, .int .i64 0, .int .i64 3] 3)).heap[w.heap.size]? = some (.cells #[.string ⟨#[97]⟩, .string ⟨#[98]⟩, .string ⟨#[99]⟩] 9 (0, 0)) := by
      rw [Below.heap_alloc _ _ _ (by simp)]
      exact heap_alloc_new w _
    rw [cell_of_heap e]
    rcases three hj with rfl | rfl | rfl <;> rfl
  · obtain ⟨j, _, rfl⟩ := List.mem_map.1 hu
    unfold itA
    split
    · rfl
    · split <;> rfl

theorem rdA (w : World) : Rd ((w.alloc (.cells #[.string ⟨#[97]⟩, .string ⟨#[98]⟩, .string ⟨#[99]⟩] 9)).alloc (.cells #[.int .i64 1, .int .i64 0, .int .i64 3] 3)) (some ⟨w.heap.size + 1, 0, none⟩) 3 fA := by
  refine ⟨(fun h => by cases h), fun x hx j hj => ?_⟩
  obtain rfl := Option.some.inj hx
  have e : ((w.alloc (.cells #[.string ⟨#[97]⟩, .string ⟨#[98]⟩, .string ⟨#[99]⟩] 9)).alloc (.cells #[.int .i64 1, .int .i64 0, .int .i64 3] 3)).heap[w.heap.size + 1]? = some (.cells #[.int .i64 1, .int .i64 0, .int .i64 3] 3 (0, 0)) := by
    have := heap_alloc_new (w.alloc (.cells #[.string ⟨#[97]⟩, .string ⟨#[98]⟩, .string ⟨#[99]⟩] 9)) (.cells #[.int .i64 1, .int .i64 0, .int .i64 3] 3)
    simpa using this
  rw [cell_of_heap e]
  rcases three hj with rfl | rfl | rfl <;> rfl

theorem goodA : Good 3 fA := verdict_good fA_verdict

theorem fA_pick0 {k : Nat} (hk : k < 3) (h1 : pre fA k ≤ (0 : Int) * pre fA 3 / 4294967296) (h2 : (0 : Int) * pre fA 3 / 4294967296 < pre fA (k + 1)) : k = 0 := by
  rcases three hk with rfl | rfl | rfl
  · rfl
  · exact absurd h1 (by decide)
  · exact absurd h1 (by decide)

theorem fA_pick2 {k : Nat} (hk : k < 3) (h1 : pre fA k ≤ (1073741824 : Int) * pre fA 3 / 4294967296) (h2 : (1073741824 : Int) * pre fA 3 / 4294967296 < pre fA (k + 1)) : k = 2 := by
  rcases three hk with rfl | rfl | rfl
  · exact absurd h2 (by decide)
  · exact absurd h2 (by decide)
  · rfl

/-- the fixed table lies there -/
def HasA (w w1 : World) (b : Nat) : Prop := (∃ bi be bs ci ce sl, IsTab w1 59 9 b bi be bs ci ce 3 itA fA sl) ∧ Below w.heap.size w w1

theorem totalA {w w1 : World} {b : Nat} (h : HasA w w1 b) : Calls Try.prog 24 #[.pointer (some ⟨b, 0, none⟩)] w1 fun e w' => e = .returned (.int .i64 4) ∧ HasA w w' b := by
  obtain ⟨⟨bi, be, bs, ci, ce, sl, ht⟩, hb⟩ := h
  refine (total_S ht (by omega) (by omega)).mono ?_
  rintro e w' ⟨rfl, q, rfl⟩
  exact ⟨rfl, ⟨bi, be, bs, ci, ce, sl, ht.drewN q⟩, below_drewN' hb q⟩

theorem pickA0 {w w1 : World} {b : Nat} (h : HasA w w1 b) : Calls Try.prog 26 #[.pointer (some ⟨b, 0, none⟩), .int .u32 0] w1 fun e w' => e = .returned (.int .i64 0) ∧ HasA w w' b := by
  obtain ⟨⟨bi, be, bs, ci, ce, sl, ht⟩, hb⟩ := h
  refine (pick_S ht goodA 0 (by omega) (by omega)).mono ?_
  rintro e w' ⟨k, rfl, h1, h2, h3, q, rfl⟩
  have hk := fA_pick0 h1 h2 h3
  subst hk
  exact ⟨rfl, ⟨bi, be, bs, ci, ce, sl, ht.drewN q⟩, below_drewN' hb q⟩

theorem pickA2 {w w1 : World} {b : Nat} (h : HasA w w1 b) : Calls Try.prog 26 #[.pointer (some ⟨b, 0, none⟩), .int .u32 1073741824] w1 fun e w' => e = .returned (.int .i64 2) ∧ HasA w w' b := by
  obtain ⟨⟨bi, be, bs, ci, ce, sl, ht⟩, hb⟩ := h
  refine (pick_S ht goodA 1073741824 (by omega) (by omega)).mono ?_
  rintro e w' ⟨k, rfl, h1, h2, h3, q, rfl⟩
  have hk := fA_pick2 h1 h2 h3
  subst hk
  exact ⟨rfl, ⟨bi, be, bs, ci, ce, sl, ht.drewN q⟩, below_drewN' hb q⟩

theorem newA (w : World) : Calls Try.prog 21 #[.slice (some ⟨w.heap.size, 0, none⟩) 3 3, .slice (some ⟨w.heap.size + 1, 0, none⟩) 3 3] ((w.alloc (.cells #[.string ⟨#[97]⟩, .string ⟨#[98]⟩, .string ⟨#[99]⟩] 9)).alloc (.cells #[.int .i64 1, .int .i64 0, .int .i64 3] 3))
    fun e w' => ∃ b, e = .returned (.tuple #[.pointer (some ⟨b, 0, none⟩), .int .i64 0]) ∧ HasA w w' b := by
  refine (new_S _ _ 3 3 3 3 itA fA _ (by omega) (by omega) (srcA w) (rdA w)).mono ?_
  rintro e w1 ⟨hans, hb1⟩
  obtain ⟨b, bi, be, bs, ci, ce, r, sl, rfl, ht⟩ := hans.2 fA_verdict
  refine ⟨b, rfl, ⟨bi, be, bs, ci, ce, sl, ht.tab⟩, ?_⟩
  have h0 : Below w.heap.size w ((w.alloc (.cells #[.string ⟨#[97]⟩, .string ⟨#[98]⟩, .string ⟨#[99]⟩] 9)).alloc (.cells #[.int .i64 1, .int .i64 0, .int .i64 3] 3)) := ((Below.refl _ w).alloc (Nat.le_refl _) _).alloc (by simp) _
  exact h0.trans (hb1.mono h0.size)

set_option maxHeartbeats 400000 in
theorem awake (w : World) : Calls Try.prog 9 #[] w fun e w' => e = .returned (.bool true) ∧ Below w.heap.size w w' := by
  go_enter Try.func9, Try.ntmps9
  go_wp2_with (first
  | (go_at_call 24; refine (totalA HA.out).mono ?_; rintro e w2 ⟨rfl, h⟩; have HA2 := Lib.hid h; clear h)
  | (go_at_call 26; refine (pickA0 HA2.out).mono ?_; rintro e w3 ⟨rfl, h⟩; have HA3 := Lib.hid h; clear h HA2)
  | (go_at_call 26; refine (pickA2 HA3.out).mono ?_; rintro e w4 ⟨rfl, h⟩; have HA4 := Lib.hid h; clear h HA3)
  | (go_at_call 21; refine (newA w).mono ?_; rintro e w1 ⟨b, rfl, h⟩; have HA := Lib.hid h; clear h))
  go_ret
  exact ⟨rfl, HA4.out.2⟩

end Go.Proofs.Ytblckohcjfoalaa

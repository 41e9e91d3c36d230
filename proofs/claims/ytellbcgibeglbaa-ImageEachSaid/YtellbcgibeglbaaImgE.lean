/-
  Awake at integer samples: the fixed fact holds.
-/
import Derived.Test.YtellbcgibeglbaaImgD
namespace Go.Proofs.Ytellbcgibeglbaa
open Go.RowKit

theorem lit_own (E : Nat) (w : World) (cs : List Value) (n : Nat) (hn : cs.length = n) (hm : n ≤ maxLen) : (w.alloc (.cells cs.toArray E)).ownsRow 0 E 1 (.slice (some ⟨w.heap.size, 0, none⟩) n n) n cs :=
  ⟨by rw [Nat.mul_one]; exact hn, .inr ⟨w.heap.size, n, cs.toArray, rfl, Nat.zero_le _, heap_alloc_new w _, Nat.le_refl _, hm, by simpa using hn, by simp [← hn]⟩⟩

def fourV : List Value := [.int .i64 1, .int .i64 2, .int .i64 3, .int .i64 4]

theorem of_four (w : World) : Calls Try.prog 10 #[.int .i64 2, .int .i64 2, .slice (some ⟨w.heap.size, 0, none⟩) 4 4] (w.alloc (.cells #[.int .i64 1, .int .i64 2, .int .i64 3, .int .i64 4] 3)) fun e w' =>
      e = .returned (.tuple #[.pointer (some ⟨w.heap.size + 2, 0, none⟩), .int .i64 0]) ∧ Hid (IsImg w' 3 66 (w.heap.size + 2) (w.heap.size + 1) 2 2 4 ([1, 2, 3, 4].map (Value.int .i64))) ∧ Hid (Below w.heap.size w w') := by
  have h := of_ok 2 2 w.heap.size 4 0 4 [1, 2, 3, 4] _ (by omega) (by omega) (by omega) (by omega) (by omega) (by omega) rfl (lit_own 3 w [.int .i64 1, .int .i64 2, .int .i64 3, .int .i64 4] 4 rfl (by decide))
  have hs : (w.alloc (.cells #[.int .i64 1, .int .i64 2, .int .i64 3, .int .i64 4] 3)).heap.size = w.heap.size + 1 := by simp
  rw [hs] at h
  exact h.mono fun e w' ⟨h1, h2, h3, _⟩ => ⟨h1, h2, ((Below.refl _ _).alloc (Nat.le_refl _) _).trans (h3.mono (by omega))⟩

theorem at_four {b g : Nat} {w : World} (h : Hid (IsImg w 3 66 b g 2 2 4 ([1, 2, 3, 4].map (Value.int .i64)))) :
    Calls Try.prog 20 #[.pointer (some ⟨b, 0, none⟩), .int .i64 1, .int .i64 0] w fun e w' => e = .returned (.tuple #[.int .i64 2, .int .i64 0]) ∧ ∃ nq, w' = w.drewN nq :=
  at_in (x := 1) (y := 0) h.out rfl (by omega) (by omega) (by omega) (by omega) (by omega)

theorem wrapped_four {b g : Nat} {w : World} (h : Hid (IsImg w 3 66 b g 2 2 4 ([1, 2, 3, 4].map (Value.int .i64)))) (nq : Nat) :
    Calls Try.prog 11 #[.pointer (some ⟨b, 0, none⟩), .int .i64 (-1), .int .i64 3] (w.drewN nq) fun e w' => e = .returned (.int .i64 4) ∧ ∃ nq, w' = w.drewN nq :=
  (wrapped_any 2 2 (-1) 3 b g 4 [1, 2, 3, 4] (w.drewN nq) (by omega) (by omega) (by omega) (by omega) (by omega) rfl ⟨h.out.head, h.out.row, h.out.len⟩).mono fun e w' ⟨h1, n2, h2⟩ => ⟨h1, nq + n2, by rw [h2]; simp [World.drewN, Nat.add_assoc]⟩

theorem below_drewN' {B : Nat} {a w : World} (h : Below B a w) (n : Nat) : Below B a (w.drewN n) := ⟨h.os, h.tape, h.output, h.size, h.block⟩

set_option maxHeartbeats 400000 in
theorem awake_any (w : World) : Calls Try.prog 9 #[] w fun e w' => e = .returned (.bool true) ∧ Below w.heap.size w w' := by
  go_enter Try.func9, Try.ntmps9
  go_wp2_with (first
    | (go_at_call 10; refine (of_four _).mono ?_; rintro e w1 ⟨rfl, HI, HB⟩)
    | (go_at_call 20; refine (at_four HI).mono ?_; rintro e w2 ⟨rfl, nq, rfl⟩)
    | (go_at_call 11; refine (wrapped_four HI _).mono ?_; rintro e w3 ⟨rfl, nq2, rfl⟩))
  go_ret
  exact ⟨rfl, below_drewN' HB.out _⟩

end Go.Proofs.Ytellbcgibeglbaa

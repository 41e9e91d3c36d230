/-
  Small facts; the contracts of cmp.Less, isNaN and slices.BinarySearch at whole numbers.
-/
import Derived.Test.YtblckohcjfoalaaRows
import Derived.WalkKit
import Derived.WalkSpells
import Derived.WalkLawsBesides
import Derived.Deep.QuietTactic
import Derived.BigQuiet
import Derived.Laws.CopyOwn
import Derived.Lib.Hide
import Derived.Below
import Derived.Deep.LoopGhost
namespace Go.Proofs.Ytblckohcjfoalaa
open Go.RowKit

theorem Try.info3 : (Try.prog.info? 3).map (fun i => (i.zero, i.size, i.bytes)) = some (some (.int .i64 0), 1, 8) := by kernel_rfl
theorem Try.info9 : (Try.prog.info? 9).map (fun i => (i.zero, i.size, i.bytes)) = some (some (.string ByteArray.empty), 1, 16) := by kernel_rfl

theorem below_drewN' {B : Nat} {a w : World} (h : Below B a w) (n : Nat) : Below B a (w.drewN n) := ⟨h.os, h.tape, h.output, h.size, h.block⟩

set_option maxHeartbeats 400000 in
theorem nanC (x : Int) (w : World) : Calls Try.prog 35 #[.int .i64 x] w fun e w' => e = .returned (.bool false) ∧ w' = w := by
  go_enter Try.func35, Try.ntmps35
  go_wp2
  go_ret
  exact ⟨by simp, rfl⟩

set_option maxHeartbeats 400000 in
theorem nanS (x : Int) (w : World) : Calls Try.prog 34 #[.int .i64 x] w fun e w' => e = .returned (.bool false) ∧ w' = w := by
  go_enter Try.func34, Try.ntmps34
  go_wp2
  go_ret
  exact ⟨by simp, rfl⟩

set_option maxHeartbeats 400000 in
theorem lessC (x y : Int) (w : World) : Calls Try.prog 33 #[.int .i64 x, .int .i64 y] w fun e w' => e = .returned (.bool (decide (x < y))) ∧ w' = w := by
  go_enter Try.func33, Try.ntmps33
  go_wp2_with (go_at_call 35; refine (nanC _ _).mono ?_; rintro e w' ⟨rfl, rfl⟩)
  go_ret
  exact ⟨rfl, rfl⟩

set_option maxHeartbeats 1000000 in
/-- the search: how many of the numbers lie below x -/
theorem search (g n c : Nat) (f : Nat → Int) (x : Int) (w : World) (hbig : n < 4611686018427387904) (hc : ∀ j, j < n → w.cell? ⟨g, j, none⟩ = some (.int .i64 (f j))) (hs : ∀ a b, a ≤ b → b < n → f a ≤ f b) :
    Calls Try.prog 28 #[.slice (some ⟨g, 0, none⟩) n c, .int .i64 x] w fun e w' =>
      ∃ k b, e = .returned (.tuple #[.int .i64 (k : Nat), .bool b]) ∧ k ≤ n ∧ (∀ t, t < k → f t < x) ∧ (∀ t, k ≤ t → t < n → x ≤ f t) ∧ ∃ q, w' = w.drewN q := by
  have S : Hid (∀ a b, a ≤ b → b < n → f a ≤ f b) := hs
  have C : Hid (∀ j, j < n → w.cell? ⟨g, j, none⟩ = some (.int .i64 (f j))) := hc
  clear hs hc
  go_enter Try.func28, Try.ntmps28
  go_wp2
  go_loopg [7, 8] n (fun m s7 s8 wr => ∃ lo hi q : Nat, s7 = .int .i64 lo ∧ s8 = .int .i64 hi ∧ lo ≤ hi ∧ hi ≤ n ∧ hi - lo ≤ m ∧ wr = w.drewN q ∧ Hid ((∀ t, t < lo → f t < x) ∧ (∀ t, hi ≤ t → t < n → x ≤ f t)))
  case atStart => exact ⟨0, n, 0, rfl, rfl, Nat.zero_le _, Nat.le_refl _, by omega, rfl, Lib.hid ⟨fun t ht => absurd ht (Nat.not_lt_zero _), fun t h1 h2 => by omega⟩⟩
  case round =>
    obtain ⟨lo, hi, q, rfl, rfl, hlh, hin, hg, rfl, I⟩ := hrel
    by_cases hlt : lo < hi
    · have cm : w.cell? ⟨g, (lo + hi) / 2, none⟩ = some (.int .i64 (f ((lo + hi) / 2))) := C.out _ (by omega)
      generalize hy : f ((lo + hi) / 2) = y at cm
      have Y := Lib.hid hy
      clear hy
      by_cases hyx : y < x
      · go_wp2_with (go_at_call 33; refine (lessC _ _ _).mono ?_; rintro e w' ⟨rfl, rfl⟩)
        go_roundg (hi - ((lo + hi) / 2 + 1))
        case measure => omega
        case rel =>
          refine ⟨(lo + hi) / 2 + 1, hi, _, by rw [show ((lo : Int) + (hi : Int)) / 2 + 1 = (((lo + hi) / 2 + 1 : Nat) : Int) by omega], rfl, by omega, hin, Nat.le_refl _, rfl, Lib.hid ⟨fun t ht => ?_, I.out.2⟩⟩
          have h1 := S.out t ((lo + hi) / 2) (by omega) (by omega)
          rw [Y.out] at h1
          omega
      · go_wp2_with (go_at_call 33; refine (lessC _ _ _).mono ?_; rintro e w' ⟨rfl, rfl⟩)
        go_roundg ((lo + hi) / 2 - lo)
        case measure => omega
        case rel =>
          refine ⟨lo, (lo + hi) / 2, _, rfl, by rw [show ((lo : Int) + (hi : Int)) / 2 = (((lo + hi) / 2 : Nat) : Int) by omega], by omega, by omega, Nat.le_refl _, rfl, Lib.hid ⟨I.out.1, fun t ht htn => ?_⟩⟩
          have h1 := S.out ((lo + hi) / 2) t ht htn
          rw [Y.out] at h1
          omega
    · have h0 : hi = lo := by omega
      subst h0
      by_cases hn : hi < n
      · have cm := C.out _ hn
        generalize hy : f hi = y at cm
        clear hy
        by_cases he : y = x
        · go_wp2_with (go_at_call 34; refine (nanS _ _).mono ?_; rintro e w' ⟨rfl, rfl⟩)
          go_ret2
          exact ⟨hi, _, rfl, hin, I.out.1, I.out.2, _, rfl⟩
        · go_wp2_with (go_at_call 34; refine (nanS _ _).mono ?_; rintro e w' ⟨rfl, rfl⟩)
          go_ret2
          exact ⟨hi, _, rfl, hin, I.out.1, I.out.2, _, rfl⟩
      · go_wp2_with (go_at_call 34; refine (nanS _ _).mono ?_; rintro e w' ⟨rfl, rfl⟩)
        go_ret2
        exact ⟨hi, _, rfl, hin, I.out.1, I.out.2, _, rfl⟩

end Go.Proofs.Ytblckohcjfoalaa

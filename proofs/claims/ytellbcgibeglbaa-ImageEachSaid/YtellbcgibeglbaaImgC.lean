/-
  The contract of Wrapped at integer samples: the sample at the place modulo the sides.
-/
import Derived.Test.YtellbcgibeglbaaImgB
namespace Go.Proofs.Ytellbcgibeglbaa
open Go.RowKit

/-- the place of a sample that goes round at the sides -/
def wrapAt (W H x y : Int) : Nat := (wrapI y H * W + wrapI x W).toNat

theorem wrapAt_bd (W H x y : Int) (h1 : 1 ≤ W) (h2 : 1 ≤ H) (h5 : W * H ≤ 65536) :
    0 ≤ wrapI y H * W ∧ wrapI y H * W ≤ 65536 ∧ 0 ≤ wrapI y H * W + wrapI x W ∧ wrapI y H * W + wrapI x W < W * H := by
  have a := wrap_bd y H h2
  have b := wrap_bd x W h1
  have c : wrapI y H * W ≤ (H - 1) * W := Int.mul_le_mul_of_nonneg_right (by omega) (by omega)
  have d : (H - 1) * W = W * H - W := by rw [Int.sub_mul, Int.one_mul, Int.mul_comm]
  have e : 0 ≤ wrapI y H * W := Int.mul_nonneg a.1 (by omega)
  omega

set_option maxHeartbeats 400000 in
theorem wrapped_any (W H x y : Int) (b g n : Nat) (ps : List Int) (w : World) (h1 : 1 ≤ W) (h2 : 1 ≤ H) (h3 : W ≤ 1024) (h4 : H ≤ 1024) (h5 : W * H ≤ 65536) (hn : W * H = n)
    (himg : IsImg w 3 66 b g W H n (ps.map (Value.int .i64))) :
    Calls Try.prog 11 #[.pointer (some ⟨b, 0, none⟩), .int .i64 x, .int .i64 y] w fun e w' =>
      e = .returned (.int .i64 (ps.getD (wrapAt W H x y) 0)) ∧ ∃ nq, w' = w.drewN nq := by
  obtain ⟨c0, c1, c2⟩ := himg.cells
  have hl := himg.len
  obtain ⟨b1, b2, b3, b4⟩ := wrapAt_bd W H x y h1 h2 h5
  have bx := wrap_bd x W h1
  have by' := wrap_bd y H h2
  have hk : wrapAt W H x y < n := by unfold wrapAt; omega
  have hcell : w.cell? ⟨g, wrapAt W H x y, none⟩ = some (.int .i64 (ps.getD (wrapAt W H x y) 0)) := by
    refine himg.cell _ _ ?_
    have : wrapAt W H x y < ps.length := by rw [List.length_map] at hl; omega
    simp [List.getD, this]
  have HN := Lib.hid hn
  have hidx : wrapI y H * W + wrapI x W < n := by rw [← HN.out]; exact b4
  have hw : (wrapI y H * W + wrapI x W).toNat = wrapAt W H x y := rfl
  clear hl hn himg b4 hk h5
  go_enter Try.func11, Try.ntmps11
  go_wp2_with fail
  go_quiet ((go_at_call 33; exact Calls.quiet_of_same (wrap_any _ _ _ (by omega) (by omega))))
  go_wp2
  go_ret
  exact ⟨rfl, _, rfl⟩

end Go.Proofs.Ytellbcgibeglbaa

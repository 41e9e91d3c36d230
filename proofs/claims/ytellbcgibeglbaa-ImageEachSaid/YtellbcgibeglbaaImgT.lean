/-
  The comparison of two points, for the round of ImageEach.
-/
import Derived.Test.YtellbcgibeglbaaImgR
import Derived.ChangeKeysEq
namespace Go.Proofs.Ytellbcgibeglbaa
open Go.RowKit Go.Shelf

set_option linter.unusedSimpArgs false
theorem neq_point (X Y : Int) (w : World) : (binOp .neq 32 (.agg #[.int .i64 X, .int .i64 Y]) (.agg #[.int .i64 X, .int .i64 Y])).run Try.prog w = .ok (.bool false) w := by
  obtain ⟨i0, hi, hz0, hz1, hz2⟩ := info_parts Try.info3
  have hc : Try.prog.cellsOf 3 = 1 := by simp [Program.cellsOf, hi, hz1]
  rw [run_neq_struct, run_equalIn_array w 9999 _ _ Try.underlying32 hi, hc]
  have hr : List.range 2 = [0, 1] := rfl
  rw [hr]
  have hp0 : ∀ (a b : Value) (w : World), (part 3 #[a, b] 0).run Try.prog w = .ok a w := by
    intro a b w; simp [part, go_sem, hz0, hz1, hz2, hi]
  have hp1 : ∀ (a b : Value) (w : World), (part 3 #[a, b] 1).run Try.prog w = .ok b w := by
    intro a b w; simp [part, go_sem, hz0, hz1, hz2, hi]
  have he : ∀ (a b : Int) (w : World), (Op.equalIn 9999 3 (.int .i64 a) (.int .i64 b)).run Try.prog w = .ok (a == b) w := fun a b w => run_equalIn_int w 9998 3 .i64 .i64 a b Try.underlying3
  simp [Op.eqItems, Sem.run_bind, hp0, hp1, he]
end Go.Proofs.Ytellbcgibeglbaa

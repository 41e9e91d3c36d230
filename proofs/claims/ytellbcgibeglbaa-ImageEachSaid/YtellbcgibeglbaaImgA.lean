/-
  The contracts of the image functions at integer samples: what each call leaves in memory.
-/
import Derived.Test.YtellbcgibeglbaaRows
import Derived.WalkKit
import Derived.WalkSpells
import Derived.WalkLawsBesides
import Derived.Deep.QuietTactic
import Derived.BigQuiet
namespace Go.Proofs.Ytellbcgibeglbaa
open Go.RowKit

/-- the place modulo n, from 0 on -/
def wrapI (x n : Int) : Int := if x.tmod n < 0 then x.tmod n + n else x.tmod n

theorem ret_int {k : IntKind} {a b : Int} (h : a = b) : Ending.returned (.int k a) = .returned (.int k b) := by rw [h]

theorem wrap_bd (x n : Int) (h1 : 1 ≤ n) : 0 ≤ wrapI x n ∧ wrapI x n < n := by
  unfold wrapI
  have h2 := Int.tmod_lt_of_pos x (show 0 < n by omega)
  have h3 : -n < x.tmod n := by
    have := Int.neg_le_of_neg_le (show -(x.tmod n) ≤ n - 1 from ?_)
    · omega
    · have h4 := Int.tmod_lt_of_pos (-x) (show 0 < n by omega)
      rw [Int.neg_tmod] at h4; omega
  split <;> omega

theorem wrap_wrap (x n : Int) (h1 : 1 ≤ n) (h2 : n ≤ 1024) (h : x.tmod n < 0) : wrap64 (x.tmod n + n) = x.tmod n + n := by
  have h4 := Int.tmod_lt_of_pos (-x) (show 0 < n by omega)
  rw [Int.neg_tmod] at h4
  unfold wrap64; omega

set_option maxHeartbeats 400000 in
theorem wrap_any (x n : Int) (w : World) (h1 : 1 ≤ n) (h2 : n ≤ 1024) :
    Calls Try.prog 33 #[.int .i64 x, .int .i64 n] w fun e w' => e = .returned (.int .i64 (wrapI x n)) ∧ w' = w := by
  go_enter Try.func33, Try.ntmps33
  go_wp2
  · have hlt : x.tmod n < 0 := by assumption
    go_ret
    exact ⟨ret_int (by rw [wrap_wrap x n h1 h2 hlt]; unfold wrapI; rw [if_pos hlt]), rfl⟩
  · have hlt : 0 ≤ x.tmod n := by assumption
    go_ret
    exact ⟨ret_int (by unfold wrapI; rw [if_neg (by omega)]), rfl⟩

theorem Try.info3 : (Try.prog.info? 3).map (fun i => (i.zero, i.size, i.bytes)) = some (some (.int .i64 0), 1, 8) := by kernel_rfl

/-- the world behind New: the samples' block, then the image's -/
def newW (z : Value) (E S : Nat) (W H : Int) (n : Nat) (w : World) : World :=
  (w.alloc (.cells (madeCells #[z] n) E)).alloc (.cells #[.int .i64 W, .int .i64 H, .slice (some ⟨w.heap.size, 0, none⟩) n n] S)

theorem run_makeFull {P : Program} {t e : TypeId} {z : Value} {bytes : Nat} (ht : P.underlying t = some (.slice e)) (hinfo : (P.info? e).map (fun i => (i.zero, i.size, i.bytes)) = some (some z, 1, bytes)) (hz : z.cells = #[z])
    (n : Int) (h0 : 0 ≤ n) (hb : (bytes : Int) * n ≤ 281474976710656) (h63 : n ≤ 9223372036854775807) (w : World) :
    (Instr.makeSlice t (.int .i64 n) (.int .i64 n)).run P w = .ok (.slice (some ⟨w.heap.size, 0, none⟩) n.toNat n.toNat) (w.alloc (.cells (madeCells #[z] n.toNat) e)) := by
  obtain ⟨i0, hi, hz0, hz1, hz2⟩ := info_parts hinfo
  have := run_make (P := P) w t e i0 z ht hi hz0 .i64 .i64 n n h0 (Int.le_refl _) (by rw [hz2]; exact hb) h63
  rw [hz1, Nat.mul_one, hz] at this
  exact this

set_option maxHeartbeats 400000 in
theorem new_ok (W H : Int) (w : World) (h1 : 1 ≤ W) (h2 : 1 ≤ H) (h3 : W ≤ 1024) (h4 : H ≤ 1024) (h5 : W * H ≤ 65536) (h6 : 1 ≤ W * H) :
    Calls Try.prog 17 #[.int .i64 W, .int .i64 H] w fun e w' =>
      e = .returned (.tuple #[.pointer (some ⟨w.heap.size + 1, 0, none⟩), .int .i64 0]) ∧ w' = newW (.int .i64 0) 3 66 W H (W * H).toNat w := by
  have hmk := run_makeFull (P := Try.prog) Try.underlying24 Try.info3 rfl (W * H) (by omega) (by omega) (by omega)
  go_enter Try.func17, Try.ntmps17
  go_wp2
  go_ret2
  exact ⟨rfl, rfl⟩

end Go.Proofs.Ytellbcgibeglbaa

/-
  The contracts of Inside and At at integer samples, and of Awake.
-/
import Derived.Test.YtellbcgibeglbaaImgC
namespace Go.Proofs.Ytellbcgibeglbaa
open Go.RowKit

section
variable {W H x y : Int} {b g n : Nat} {cs : List Value} {w : World}

set_option maxHeartbeats 400000 in
theorem inside_yes (himg : IsImg w 3 66 b g W H n cs) (h1 : 0 ≤ x) (h2 : x < W) (h3 : 0 ≤ y) (h4 : y < H) :
    Calls Try.prog 18 #[.pointer (some ⟨b, 0, none⟩), .int .i64 x, .int .i64 y] w fun e w' => e = .returned (.bool true) ∧ w' = w := by
  obtain ⟨c0, c1, c2⟩ := himg.cells
  clear himg
  go_enter Try.func18, Try.ntmps18
  go_wp2
  go_ret
  exact ⟨rfl, rfl⟩

set_option maxHeartbeats 400000 in
theorem inside_no (himg : IsImg w 3 66 b g W H n cs) (h : ¬ (0 ≤ x ∧ x < W ∧ 0 ≤ y ∧ y < H)) :
    Calls Try.prog 18 #[.pointer (some ⟨b, 0, none⟩), .int .i64 x, .int .i64 y] w fun e w' => e = .returned (.bool false) ∧ w' = w := by
  obtain ⟨c0, c1, c2⟩ := himg.cells
  clear himg
  by_cases h1 : 0 ≤ x
  · by_cases h2 : x < W
    · by_cases h3 : 0 ≤ y
      · have h4 : ¬ y < H := fun h4 => h ⟨h1, h2, h3, h4⟩
        clear h
        go_enter Try.func18, Try.ntmps18
        go_wp2
        go_ret
        exact ⟨rfl, rfl⟩
      · clear h
        go_enter Try.func18, Try.ntmps18
        go_wp2
        go_ret
        exact ⟨rfl, rfl⟩
    · clear h
      go_enter Try.func18, Try.ntmps18
      go_wp2
      go_ret
      exact ⟨rfl, rfl⟩
  · clear h
    go_enter Try.func18, Try.ntmps18
    go_wp2
    go_ret
    exact ⟨rfl, rfl⟩

/-- the place of a sample that is inside -/
def inAt (W x y : Int) : Nat := (y * W + x).toNat

theorem inAt_bd (h1 : 0 ≤ x) (h2 : x < W) (h3 : 0 ≤ y) (h4 : y < H) : 0 ≤ y * W ∧ 0 ≤ y * W + x ∧ y * W + x < W * H := by
  have c : y * W ≤ (H - 1) * W := Int.mul_le_mul_of_nonneg_right (by omega) (by omega)
  have d : (H - 1) * W = W * H - W := by rw [Int.sub_mul, Int.one_mul, Int.mul_comm]
  have e : 0 ≤ y * W := Int.mul_nonneg h3 (by omega)
  omega

set_option maxHeartbeats 400000 in
theorem at_in {ps : List Int} (himg : IsImg w 3 66 b g W H n (ps.map (Value.int .i64))) (hn : W * H = n) (h5 : W * H ≤ 65536) (h1 : 0 ≤ x) (h2 : x < W) (h3 : 0 ≤ y) (h4 : y < H) :
    Calls Try.prog 20 #[.pointer (some ⟨b, 0, none⟩), .int .i64 x, .int .i64 y] w fun e w' =>
      e = .returned (.tuple #[.int .i64 (ps.getD (inAt W x y) 0), .int .i64 0]) ∧ ∃ nq, w' = w.drewN nq := by
  obtain ⟨c0, c1, c2⟩ := himg.cells
  have hl := himg.len
  obtain ⟨b1, b2, b3⟩ := inAt_bd h1 h2 h3 h4
  have hcell : w.cell? ⟨g, inAt W x y, none⟩ = some (.int .i64 (ps.getD (inAt W x y) 0)) := by
    refine himg.cell _ _ ?_
    have : inAt W x y < ps.length := by rw [List.length_map] at hl; unfold inAt; omega
    simp [List.getD, this]
  have HN := Lib.hid hn
  have hidx : y * W + x < n := by rw [← HN.out]; exact b3
  have hw : (y * W + x).toNat = inAt W x y := rfl
  have HI := Lib.hid himg
  clear hl hn himg
  go_enter Try.func20, Try.ntmps20
  go_wp2_with (go_at_call 18; refine (inside_yes HI.out h1 h2 h3 h4).mono ?_; rintro e w' ⟨rfl, rfl⟩)
  go_quiet (fail)
  go_wp2
  go_ret2
  exact ⟨rfl, _, rfl⟩

set_option maxHeartbeats 400000 in
theorem at_out (himg : IsImg w 3 66 b g W H n cs) (h : ¬ (0 ≤ x ∧ x < W ∧ 0 ≤ y ∧ y < H)) :
    Calls Try.prog 20 #[.pointer (some ⟨b, 0, none⟩), .int .i64 x, .int .i64 y] w fun e w' =>
      e = .returned (.tuple #[.int .i64 0, .int .i64 2]) ∧ w' = w := by
  have HI := Lib.hid himg
  have HH := Lib.hid h
  clear h himg
  go_enter Try.func20, Try.ntmps20
  go_wp2_with (go_at_call 18; refine (inside_no HI.out HH.out).mono ?_; rintro e w' ⟨rfl, rfl⟩)
  go_ret2
  exact ⟨rfl, rfl⟩
end

end Go.Proofs.Ytellbcgibeglbaa

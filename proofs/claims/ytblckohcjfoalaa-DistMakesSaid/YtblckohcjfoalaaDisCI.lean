/-
  The contract of slices.Clone at one kind of things (I), whatever the source.
-/
import Derived.Test.YtblckohcjfoalaaDisE
namespace Go.Proofs.Ytblckohcjfoalaa
open Go.RowKit

set_option maxHeartbeats 400000 in
theorem clone_I (a : Option Addr) (n cap : Nat) (cs : List Value) (w : World) (h : Src w a n cap cs) (hn : n ≤ 5000) :
    Calls Try.prog 29 #[.slice a n cap] w fun e w' => ∃ v, e = .returned v ∧ w'.ownsRow w.heap.size 3 1 v n cs ∧ Below w.heap.size w w' := by
  cases a with
  | none =>
    obtain ⟨rfl, rfl⟩ := h.2.1 rfl
    obtain rfl : cs = [] := List.eq_nil_of_length_eq_zero h.1
    clear h
    have qT : ∀ (w : World), (binOp .eql 22 (.slice none 0 0) (.slice none 0 0)).run Try.prog w = .ok (.bool true) w := fun w => Lib.run_eql_slice_nil w 22 3 none 0 0 0 0 Try.underlying22
    go_enter Try.func29, Try.ntmps29
    go_wp2
    go_ret
    exact ⟨_, rfl, World.ownsRow_nil _ _ _ _, Below.refl _ _⟩
  | some ad =>
    obtain ⟨i0, hi, hz0, hz1, hz2⟩ := info_parts Try.info3
    have HS := Lib.hid h
    have qT : ∀ (w : World), (binOp .eql 22 (.slice (some ad) n cap) (.slice none 0 0)).run Try.prog w = .ok (.bool false) w := fun w => Lib.run_eql_slice_nil w 22 3 (some ad) n cap 0 0 Try.underlying22
    clear h
    go_enter Try.func29, Try.ntmps29
    go_wp2_with (
      (at_builtin; refine wpList_append_src _ rfl _ _ 22 rfl w.heap.size 3 i0 (.int .i64 0) _ Try.underlying22 hi hz0 hz1 hz2 rfl w.heap.size 0 0 [] rfl (World.ownsRow_made w #[] 0 (Nat.le_refl _) (Nat.zero_le _) rfl) (some ad) n cap cs rfl (HS.out.below (Nat.le_refl _) ((Below.refl _ _).alloc (Nat.le_refl _) _)) (by unfold maxLen; omega) (by omega) (by simp) ?_; intro g1 c1 w1 hown' hb1; have HO := Lib.hid hown'; have HB := Lib.hid hb1; clear hown' hb1))
    go_ret
    refine ⟨_, rfl, ?_, ((Below.refl w.heap.size w).alloc (Nat.le_refl _) _).trans HB.out⟩
    have := HO.out
    simpa using this

end Go.Proofs.Ytblckohcjfoalaa

/-
  The contracts of image.New, Of, Size, Pix and slices.Clone at one kind of samples (S), errors and nil too.
-/
import Derived.Test.YtellbcgibeglbaaImgG
namespace Go.Proofs.Ytellbcgibeglbaa
open Go.RowKit

set_option maxHeartbeats 400000 in
theorem new_ok_S (W H : Int) (w : World) (h1 : 1 ≤ W) (h2 : 1 ≤ H) (h3 : W ≤ 1024) (h4 : H ≤ 1024) (h5 : W * H ≤ 65536) (h6 : 1 ≤ W * H) :
    Calls Try.prog 13 #[.int .i64 W, .int .i64 H] w fun e w' =>
      e = .returned (.tuple #[.pointer (some ⟨w.heap.size + 1, 0, none⟩), .int .i64 0]) ∧ w' = newW (.string ByteArray.empty) 9 69 W H (W * H).toNat w := by
  have hmk := run_makeFull (P := Try.prog) Try.underlying34 Try.info9 rfl (W * H) (by omega) (by omega) (by omega)
  go_enter Try.func13, Try.ntmps13
  go_wp2
  go_ret2
  exact ⟨rfl, rfl⟩

theorem new_S (W H : Int) (w : World) (h1 : 1 ≤ W) (h2 : 1 ≤ H) (h3 : W ≤ 1024) (h4 : H ≤ 1024) (h5 : W * H ≤ 65536) (n : Nat) (hn : W * H = n) :
    Calls Try.prog 13 #[.int .i64 W, .int .i64 H] w fun e w' =>
      e = .returned (.tuple #[.pointer (some ⟨w.heap.size + 1, 0, none⟩), .int .i64 0]) ∧ IsImg w' 9 69 (w.heap.size + 1) w.heap.size W H n (madeCells #[.string ByteArray.empty] n).toList ∧ Below w.heap.size w w' ∧ w'.heap.size = w.heap.size + 2 :=
  (new_ok_S W H w h1 h2 h3 h4 h5 (Int.mul_pos (by omega) (by omega))).mono fun _ _ ⟨he, hw⟩ => by
    subst hw
    rw [hn, Int.toNat_natCast]
    exact ⟨he, newW_img _ _ _ _ _ _ _, newW_below _ _ _ _ _ _ _, newW_size _ _ _ _ _ _ _⟩

set_option maxHeartbeats 400000 in
theorem new_no_S (W H : Int) (w : World) (h : ¬ Fits W H) :
    Calls Try.prog 13 #[.int .i64 W, .int .i64 H] w fun e w' => e = .returned (.tuple #[.pointer none, .int .i64 70]) ∧ w' = w := by
  by_cases h1 : 1 ≤ W
  · by_cases h2 : 1 ≤ H
    · by_cases h3 : W ≤ 1024
      · by_cases h4 : H ≤ 1024
        · have p1 : 0 ≤ W * H := Int.mul_nonneg (by omega) (by omega)
          have p2 : W * H ≤ 1024 * 1024 := Int.mul_le_mul h3 h4 (by omega) (by omega)
          have h5 : ¬ W * H ≤ 65536 := fun h5 => h ⟨h1, h2, h3, h4, h5⟩
          clear h
          go_enter Try.func13, Try.ntmps13
          go_wp2
          go_ret2
          exact ⟨rfl, rfl⟩
        · clear h
          go_enter Try.func13, Try.ntmps13
          go_wp2
          go_ret2
          exact ⟨rfl, rfl⟩
      · clear h
        go_enter Try.func13, Try.ntmps13
        go_wp2
        go_ret2
        exact ⟨rfl, rfl⟩
    · clear h
      go_enter Try.func13, Try.ntmps13
      go_wp2
      go_ret2
      exact ⟨rfl, rfl⟩
  · clear h
    go_enter Try.func13, Try.ntmps13
    go_wp2
    go_ret2
    exact ⟨rfl, rfl⟩

set_option maxHeartbeats 400000 in
theorem of_S (W H : Int) (ad : Addr) (cap n : Nat) (cs : List Value) (w : World) (h1 : 1 ≤ W) (h2 : 1 ≤ H) (h3 : W ≤ 1024) (h4 : H ≤ 1024) (h5 : W * H ≤ 65536) (hn : W * H = n) (hl : cs.length = n)
    (hcells : ∀ j u, cs[j]? = some u → w.cell? (ad.add j) = some u) (hone : ∀ u ∈ cs, u.oneCell' = true) :
    Calls Try.prog 15 #[.int .i64 W, .int .i64 H, .slice (some ad) n cap] w fun e w' =>
      e = .returned (.tuple #[.pointer (some ⟨w.heap.size + 1, 0, none⟩), .int .i64 0]) ∧ IsImg w' 9 69 (w.heap.size + 1) w.heap.size W H n cs ∧ Below w.heap.size w w' ∧ w'.heap.size = w.heap.size + 2 := by
  have hpos := Int.mul_pos (show 0 < W by omega) (show 0 < H by omega)
  have HC : Hid (∀ j u, cs[j]? = some u → w.cell? (ad.add j) = some u) := hcells
  have HN := Lib.hid hn
  have HL := Lib.hid hl
  have H1 := Lib.hid hone
  clear hcells hn hl hone
  have hnn : ((n : Int) != W * H) = false := by rw [HN.out]; simp
  go_enter Try.func15, Try.ntmps15
  go_wp2_with (first
    | (go_at_call 13; refine (new_S _ _ _ (by omega) (by omega) (by omega) (by omega) (by omega) n HN.out).mono ?_; rintro e w1 ⟨rfl, himg, hb, hsz⟩; obtain ⟨c0, c1, c2⟩ := himg.cells)
    | (refine wpList_copy_img (o := ⟨some 32, _, _, _, _, _⟩) rfl (.tmp 30) (.tmp 31) 34 34 rfl 9 Try.underlying34 (by kernel_rfl) himg (by omega) ad cap rfl rfl cs HL.out (fun j v hj => cell_later hb (HC.out j v hj)) H1.out w hb ?_; intro w2 himg2 hb2 hsz2))
  go_ret2
  exact ⟨rfl, himg2, hb2, by omega⟩

set_option maxHeartbeats 400000 in
theorem of_no_S (W H : Int) (v : Value) (w : World) (h : ¬ Fits W H) :
    Calls Try.prog 15 #[.int .i64 W, .int .i64 H, v] w fun e w' => e = .returned (.tuple #[.pointer none, .int .i64 70]) ∧ w' = w := by
  have HH := Lib.hid h
  clear h
  go_enter Try.func15, Try.ntmps15
  go_wp2_with (go_at_call 13; refine (new_no_S _ _ _ HH.out).mono ?_; rintro e w1 ⟨rfl, rfl⟩)
  go_ret2
  exact ⟨rfl, rfl⟩

set_option maxHeartbeats 400000 in
theorem of_len_S (W H : Int) (ao : Option Addr) (m cap : Nat) (w : World) (h1 : 1 ≤ W) (h2 : 1 ≤ H) (h3 : W ≤ 1024) (h4 : H ≤ 1024) (h5 : W * H ≤ 65536) (hn : ¬ (m : Int) = W * H) :
    Calls Try.prog 15 #[.int .i64 W, .int .i64 H, .slice ao m cap] w fun e w' => e = .returned (.tuple #[.pointer none, .int .i64 70]) ∧ Below w.heap.size w w' := by
  have hpos := Int.mul_pos (show 0 < W by omega) (show 0 < H by omega)
  have hnn : ((m : Int) != W * H) = true := by simpa using hn
  clear hn
  go_enter Try.func15, Try.ntmps15
  go_wp2_with (go_at_call 13; refine (new_S _ _ _ (by omega) (by omega) (by omega) (by omega) (by omega) (W * H).toNat (by omega)).mono ?_; rintro e w1 ⟨rfl, himg, hb, hsz⟩; have HB := Lib.hid hb; clear himg hb hsz)
  go_ret2
  exact ⟨rfl, HB.out⟩

section
variable {W H x y : Int} {b g n : Nat} {cs : List Value} {w : World}

set_option maxHeartbeats 400000 in
theorem size_S (himg : IsImg w 9 69 b g W H n cs) :
    Calls Try.prog 14 #[.pointer (some ⟨b, 0, none⟩)] w fun e w' => e = .returned (.tuple #[.int .i64 W, .int .i64 H]) ∧ ∃ nq, w' = w.drewN nq := by
  obtain ⟨c0, c1, c2⟩ := himg.cells
  clear himg
  go_enter Try.func14, Try.ntmps14
  go_wp2_with fail
  go_quiet (fail)
  go_wp2
  go_ret2
  exact ⟨rfl, _, rfl⟩

set_option maxHeartbeats 400000 in
theorem size_nil_S : Calls Try.prog 14 #[.pointer none] w fun e w' => e = .returned (.tuple #[.int .i64 0, .int .i64 0]) ∧ w' = w := by
  go_enter Try.func14, Try.ntmps14
  go_wp2
  go_ret2
  exact ⟨rfl, rfl⟩

set_option maxHeartbeats 400000 in
theorem clone_S (ad : Addr) (cap : Nat) (hn : 1 ≤ n) (hn2 : n ≤ 65536) (hl : cs.length = n) (hcells : ∀ j u, cs[j]? = some u → w.cell? (ad.add j) = some u) (hone : ∀ u ∈ cs, u.oneCell' = true) :
    Calls Try.prog 34 #[.slice (some ad) n cap] w fun e w' =>
      ∃ g c, e = .returned (.slice (some ⟨g, 0, none⟩) n c) ∧ w'.ownsRow w.heap.size 9 1 (.slice (some ⟨g, 0, none⟩) n c) n cs ∧ Below w.heap.size w w' := by
  obtain ⟨i0, hi, hz0, hz1, hz2⟩ := info_parts Try.info9
  have HC : Hid (∀ j u, cs[j]? = some u → w.cell? (ad.add j) = some u) := hcells
  have HL := Lib.hid hl
  have H1 := Lib.hid hone
  have qT : ∀ (w : World), (binOp .eql 34 (.slice (some ad) n cap) (.slice none 0 0)).run Try.prog w = .ok (.bool false) w := fun w => Lib.run_eql_slice_nil w 34 9 (some ad) n cap 0 0 Try.underlying34
  clear hcells hl hone
  go_enter Try.func34, Try.ntmps34
  go_wp2_with (
    (at_builtin; refine wpList_append_own _ rfl _ _ 34 rfl w.heap.size 9 i0 (.string ByteArray.empty) 1 16 Try.underlying34 hi hz0 hz1 hz2 rfl (by decide) (.slice (some ⟨w.heap.size, 0, none⟩) 0 0) 0 [] rfl (World.ownsRow_made w #[] 0 (Nat.le_refl _) (Nat.zero_le _) rfl) ad n cap cs rfl (by rw [HL.out, Nat.mul_one]) (fun j u hj => cell_later ((Below.refl _ _).alloc (Nat.le_refl _) _) (HC.out j u hj)) H1.out (by unfold maxLen; omega) (by omega) (by simp) ?_; intro v' w1 hown' hgrow hnil))
  have hz : ¬ v' = .slice none 0 0 := fun h => by have := hnil.1 h; simp at this
  have HB := Lib.hid (((Below.refl w.heap.size w).alloc (Nat.le_refl _) _).grown hgrow (by simp) (fun q hq => by simp [Value.ownBlock] at hq; omega))
  have HO := Lib.hid hown'
  clear hown' hgrow hnil
  go_wp2
  go_ret
  rcases HO.out.2 with ⟨h0, _⟩ | ⟨g, c, cur, rfl, _⟩
  · exact absurd h0 hz
  · refine ⟨g, c, ?_, ?_, HB.out⟩
    · simp
    · have := HO.out; simpa using this

set_option maxHeartbeats 400000 in
theorem pix_S (himg : IsImg w 9 69 b g W H n cs) (hn : 1 ≤ n) (hn2 : n ≤ 65536) (hone : ∀ u ∈ cs, u.oneCell' = true) :
    Calls Try.prog 16 #[.pointer (some ⟨b, 0, none⟩)] w fun e w' =>
      ∃ g c, e = .returned (.slice (some ⟨g, 0, none⟩) n c) ∧ w'.ownsRow w.heap.size 9 1 (.slice (some ⟨g, 0, none⟩) n c) n cs ∧ Below w.heap.size w w' := by
  obtain ⟨c0, c1, c2⟩ := himg.cells
  have HI := Lib.hid himg
  have H1 := Lib.hid hone
  clear himg hone
  go_enter Try.func16, Try.ntmps16
  go_wp2_with (go_at_call 34; refine (clone_S _ _ hn hn2 HI.out.len (fun j u hj => by rw [Addr.add_lit, Nat.zero_add]; exact HI.out.cell j u hj) H1.out).mono ?_; rintro e w1 ⟨g1, c, rfl, hown, hb⟩; have HO := Lib.hid hown; have HB := Lib.hid hb; clear hown hb)
  go_ret
  exact ⟨_, _, rfl, HO.out, HB.out⟩

set_option maxHeartbeats 400000 in
theorem pix_nil_S : Calls Try.prog 16 #[.pointer none] w fun e w' => e = .returned (.slice none 0 0) ∧ w' = w := by
  go_enter Try.func16, Try.ntmps16
  go_wp2
  go_ret
  exact ⟨rfl, rfl⟩
end

end Go.Proofs.Ytellbcgibeglbaa


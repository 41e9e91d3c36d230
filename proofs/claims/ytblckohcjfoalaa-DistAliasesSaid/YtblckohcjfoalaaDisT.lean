/-
  The contract of Alias at any place.
-/
import Derived.Test.YtblckohcjfoalaaDisM
import Derived.Deep.DeepCutAuto
import Derived.Deep.RegionHeld3
namespace Go.Proofs.Ytblckohcjfoalaa
open Go.RowKit

theorem cell_heap {w : World} {g : Nat} {cs : Array Value} {t : TypeId} (e : w.heap[g]? = some (.cells cs t (0, 0))) (j : Nat) : w.cell? ⟨g, j, none⟩ = cs[j]? := by simp [World.cell?, e]
theorem frozen_heap {w : World} {g : Nat} {cs : Array Value} {t : TypeId} (e : w.heap[g]? = some (.cells cs t (0, 0))) (j : Nat) : w.frozen? ⟨g, j, none⟩ = false := by simp [World.frozen?, e]

theorem set3 {w : World} {g : Nat} {a b c : Value} {t : TypeId} (x y z : Value) (h : w.heap[g]? = some (.cells #[a, b, c] t (0, 0))) :
    (((w.setCell ⟨g, 0, none⟩ x).setCell ⟨g, 1, none⟩ y).setCell ⟨g, 2, none⟩ z).heap[g]? = some (.cells #[x, y, z] t (0, 0)) :=
  heap_setCell_same _ g 2 _ t z (heap_setCell_same _ g 1 _ t y (heap_setCell_same w g 0 _ t x h))

theorem three_cells {w : World} {g : Nat} {x y z : Value} {t : TypeId} (h : w.heap[g]? = some (.cells #[x, y, z] t (0, 0))) :
    w.cell? ⟨g, 0, none⟩ = some x ∧ w.cell? ⟨g, 1, none⟩ = some y ∧ w.cell? ⟨g, 2, none⟩ = some z :=
  ⟨cell_heap h 0, cell_heap h 1, cell_heap h 2⟩

theorem place_facts {T p m : Int} {s : Nat} (hp : p = s * T + m) (m0 : 0 ≤ m) (m1 : m < T) : p.tdiv T = s ∧ p.tmod T = m := by
  have hs : 0 ≤ (s : Int) * T := Int.mul_nonneg (by omega) (by omega)
  have hp0 : 0 ≤ p := by omega
  have h1 : p / T = s := by
    rw [hp, Int.add_comm, Int.add_mul_ediv_right _ _ (by omega), Int.ediv_eq_zero_of_lt m0 m1, Int.zero_add]
  have h2 : p % T = m := by
    rw [hp, Int.add_comm, Int.add_mul_emod_self_right, Int.emod_eq_of_lt m0 m1]
  rw [Int.tdiv_eq_ediv_of_nonneg hp0, Int.tmod_eq_emod_of_nonneg hp0]
  exact ⟨h1, h2⟩

set_option maxHeartbeats 1000000 in
theorem alias_in {w0 W : World} {b n : Nat} {f sl : Nat → Int} (h : HasT w0 W b n f sl) (g : Good n f) (p m : Int) (s : Nat) (hs : s < n) (hp : p = s * pre f n + m) (m0 : 0 ≤ m) (m1 : m < pre f n) :
    Calls Try.prog 20 #[.pointer (some ⟨b, 0, none⟩), .int .i64 p] W fun e w' => e = .returned (.int .i64 (if m < sl (3 * s) then sl (3 * s + 1) else sl (3 * s + 2))) ∧ Below W.heap.size W w' := by
  obtain ⟨t1, t2⟩ := place_facts hp m0 m1
  obtain ⟨T, hT⟩ : ∃ T, pre f n = T := ⟨_, rfl⟩
  have HT0 := Lib.hid hT
  have T1 := g.most
  have n1 := g.few
  rw [hT] at hp m1 t1 t2 T1
  have hp0 : 0 ≤ p := by
    have : 0 ≤ (s : Int) * T := Int.mul_nonneg (by omega) (by omega)
    omega
  have hp1 : p < (n : Int) * T := by
    have h1 := Int.mul_le_mul_of_nonneg_right (show (s : Int) + 1 ≤ n by omega) (show 0 ≤ T by omega)
    rw [Int.add_mul, Int.one_mul] at h1
    omega
  have hp2 : (n : Int) * T ≤ 4398046511104 := by
    have := Int.mul_le_mul (show (n : Int) ≤ 4096 by omega) T1 (by omega) (by omega)
    omega
  have HG := Lib.hid g
  obtain ⟨⟨bi, be, bs, ci, ce, h1, h2, h3, h4, h5⟩, h6⟩ := h
  obtain ⟨c0, c1, c2⟩ := h1.cells
  have d0 := h1.slots.cell (s * 3) (by omega)
  have d1 := h1.slots.cell (s * 3 + 1) (by omega)
  have d2 := h1.slots.cell (s * 3 + 2) (by omega)
  have HTb := Lib.hid h1
  rw [Nat.mul_comm 3 s]
  obtain ⟨X, hX⟩ : ∃ X, sl (s * 3) = X := ⟨_, rfl⟩
  obtain ⟨Y, hY⟩ : ∃ Y, sl (s * 3 + 1) = Y := ⟨_, rfl⟩
  obtain ⟨Z, hZ⟩ : ∃ Z, sl (s * 3 + 2) = Z := ⟨_, rfl⟩
  rw [hX] at d0 ⊢
  rw [hY] at d1 ⊢
  rw [hZ] at d2 ⊢
  have hq : IntKind.i64.wrap (p.tdiv T) = (s : Int) := by rw [t1, IntKind.wrap_i64]; omega
  have hme : Hid (p % T = m) := Lib.hid (by rw [← Int.tmod_eq_emod_of_nonneg hp0]; exact t2)
  have hm : IntKind.i64.wrap (p.tmod T) = m := by rw [t2, IntKind.wrap_i64]; clear hp1 hp2 hp; omega
  have hlen : Hid (∀ q, Calls Try.prog 19 #[.pointer (some ⟨b, 0, none⟩)] (W.drewN q) fun e w' => e = .returned (.int .i64 n) ∧ w' = W.drewN q) := Lib.hid (fun q => len_I (HTb.out.drewN q))
  have tq : Hid (∀ W', IsTab W' 53 3 b bi be bs ci ce n (fun j => .int .i64 (3 * (j : Int))) f sl → Calls Try.prog 15 #[.pointer (some ⟨b, 0, none⟩)] W' fun e w' => e = .returned (.int .i64 T) ∧ ∃ q, w' = W'.drewN q) :=
    Lib.hid (fun W' h' => by rw [← HT0.out]; exact total_I h' HG.out.pos HG.out.few)
  have hT1 : T ≠ 0 := by clear hp1 hp2 hp; omega
  have hT2 : (T == 0) = false := by simpa using hT1
  have hsi : (s : Int) < (n : Int) := by clear hp1 hp2 hp; omega
  have hsj : (0 : Int) ≤ (s : Int) := by clear hp1 hp2 hp; omega
  have HBk := Lib.hid (And.intro h2.2 (And.intro h3.2 (And.intro h4.2 h5.2)))
  have hbW : b < W.heap.size := h2.2
  have hsW : bs < W.heap.size := h5.2
  clear hT h1 g hX hY hZ h2 h3 h4 h5 h6 c0 c1 hp t1 t2
  obtain ⟨A, hA⟩ : ∃ A, (if m < X then Y else Z) = A := ⟨_, rfl⟩
  have HA := Lib.hid hA
  rw [hA]
  clear hA
  go_enter Try.func20, Try.ntmps20
  go_upto_region 3 with (first
    | (go_at_call 19; refine (len_I HTb.out).mono ?_; rintro e w' ⟨rfl, hw⟩; subst w')
    | (go_at_call 15; refine (tq.out _ HTb.out).mono ?_; rintro e w' ⟨rfl, q1, rfl⟩))
  have hbl : Hid (∀ q o, Below W.heap.size W (((W.drewN q).alloc o))) := Lib.hid (fun q o => (below_drewN' (Below.refl _ W) q).alloc (by simp) o)
  have hft : Hid (∀ W', Below W.heap.size W W' → IsTab W' 53 3 b bi be bs ci ce n (fun j => .int .i64 (3 * (j : Int))) f sl) := Lib.hid (fun W' hb => HTb.out.below hb HBk.out.1 HBk.out.2.1 HBk.out.2.2.1 HBk.out.2.2.2)
  have hfs : Hid (∀ W', Below W.heap.size W W' → W'.cell? ⟨b, 2, none⟩ = some (.slice (some ⟨bs, 0, none⟩) n n) ∧ W'.cell? ⟨bs, s * 3, none⟩ = some (.int .i64 X) ∧ W'.cell? ⟨bs, s * 3 + 1, none⟩ = some (.int .i64 Y) ∧ W'.cell? ⟨bs, s * 3 + 2, none⟩ = some (.int .i64 Z)) :=
    Lib.hid (fun W' hb => ⟨cell_later hb c2, cell_later hb d0, cell_later hb d1, cell_later hb d2⟩)
  go_cut [5] from 21 to 30 (fun v wx => ∃ g, v = .pointer (some ⟨g, 0, none⟩) ∧ Hid (wx.cell? ⟨g, 0, none⟩ = some (.int .i64 X) ∧ wx.cell? ⟨g, 1, none⟩ = some (.int .i64 Y) ∧ wx.cell? ⟨g, 2, none⟩ = some (.int .i64 Z) ∧ Below W.heap.size W wx))
  case first =>
    go_region_held3 (fun w' => w'.cell? ⟨b, 2, none⟩ = some (.slice (some ⟨bs, 0, none⟩) n n) ∧ w'.cell? ⟨bs, s * 3, none⟩ = some (.int .i64 X) ∧ w'.cell? ⟨bs, s * 3 + 1, none⟩ = some (.int .i64 Y) ∧ w'.cell? ⟨bs, s * 3 + 2, none⟩ = some (.int .i64 Z))
      (first | exact hkp.out | exact hfs.out _ (hbe.out.alloc hbe.out.size _) | exact hfs.out _ (((hbe.out.setCell (Nat.le_refl _) _).setCell (Nat.le_refl _) _).setCell (Nat.le_refl _) _) | exact hfs.out _ (hbl.out _ _) | go_keep) (first
      | (go_at_call 15; refine (tq.out _ (HTb.out.drewN (q1 + 1))).mono ?_; rintro e w' ⟨rfl, q2, hw⟩; have hbe := Lib.hid (show Below W.heap.size W w' by rw [hw]; exact below_drewN' (below_drewN' (Below.refl _ W) _) _); have hkp := Lib.hid (hfs.out w' hbe.out); clear hw)
      | (go_at_call 15; refine (tq.out _ (hft.out _ (hbl.out (q1 + 1) _))).mono ?_; rintro e w' ⟨rfl, q2, hw⟩; have hbe := Lib.hid (show Below W.heap.size W w' by rw [hw]; exact below_drewN' (hbl.out (q1 + 1) _) _); have hkp := Lib.hid (hfs.out w' hbe.out); have hn : w'.heap[W.heap.size]? = some (.cells #[.int .i64 0, .int .i64 0, .int .i64 0] 56 (0, 0)) := (by rw [hw]; exact heap_alloc_new (W.drewN (q1 + 1)) _); have HN := Lib.hid hn; have z0 := cell_heap hn 0; have z1 := cell_heap hn 1; have z2 := cell_heap hn 2; have y0 := frozen_heap hn 0; have y1 := frozen_heap hn 1; have y2 := frozen_heap hn 2; clear hw hn))
    · go_wp2
      go_meet
      obtain ⟨k0, k1, k2⟩ := three_cells (heap_alloc_new w' (.cells #[.int .i64 X, .int .i64 Y, .int .i64 Z] 56))
      exact ⟨_, rfl, Lib.hid ⟨k0, k1, k2, hbe.out.alloc hbe.out.size _⟩⟩
    · go_wp2
      go_meet
      obtain ⟨k0, k1, k2⟩ := three_cells (set3 (.int .i64 X) (.int .i64 Y) (.int .i64 Z) HN.out)
      exact ⟨_, rfl, Lib.hid ⟨k0, k1, k2, ((hbe.out.setCell (Nat.le_refl _) _).setCell (Nat.le_refl _) _).setCell (Nat.le_refl _) _⟩⟩
  case rest =>
    obtain ⟨g, rfl, HC⟩ := hcut
    obtain ⟨k0, k1, k2, _⟩ := HC.out
    have tqc : Hid (∀ q, Calls Try.prog 15 #[.pointer (some ⟨b, 0, none⟩)] (wc.drewN q) fun e w' => e = .returned (.int .i64 T) ∧ ∃ q2, w' = (wc.drewN q).drewN q2) := Lib.hid (fun q => tq.out _ ((hft.out wc HC.out.2.2.2).drewN q))
    have hmx0 := hme.out
    by_cases hmx : p % T < X
    · have hres := Lib.hid ((if_pos (show m < X by rw [← hmx0]; exact hmx)).symm.trans HA.out)
      clear hmx0
      go_upto_region 4 with fail
      go_quiet ((go_at_call 15; exact Calls.quiet_of (tqc.out _)))
      rename_i nq
      go_wp2
      go_ret
      exact ⟨ret_int hres.out, below_drewN' HC.out.2.2.2 nq⟩
    · have hres := Lib.hid ((if_neg (show ¬ m < X by rw [← hmx0]; exact hmx)).symm.trans HA.out)
      clear hmx0
      go_upto_region 4 with fail
      go_quiet ((go_at_call 15; exact Calls.quiet_of (tqc.out _)))
      rename_i nq
      go_wp2
      go_ret
      exact ⟨ret_int hres.out, below_drewN' HC.out.2.2.2 nq⟩

set_option maxHeartbeats 400000 in
theorem alias_low {W : World} {b : Nat} (p : Int) (hp : p < 0) : Calls Try.prog 20 #[.pointer (some ⟨b, 0, none⟩), .int .i64 p] W fun e w' => e = .returned (.int .i64 (-1)) ∧ w' = W := by
  go_enter Try.func20, Try.ntmps20
  go_wp2
  go_ret
  exact ⟨rfl, rfl⟩

set_option maxHeartbeats 400000 in
theorem alias_high {w0 W : World} {b n : Nat} {f sl : Nat → Int} (h : HasT w0 W b n f sl) (g : Good n f) (p : Int) (hp : (n : Int) * pre f n ≤ p) : Calls Try.prog 20 #[.pointer (some ⟨b, 0, none⟩), .int .i64 p] W fun e w' => e = .returned (.int .i64 (-1)) ∧ Below W.heap.size W w' := by
  obtain ⟨T, hT⟩ : ∃ T, pre f n = T := ⟨_, rfl⟩
  have HT0 := Lib.hid hT
  have T1 := g.most
  have T0 := g.some
  have n1 := g.few
  rw [hT] at hp T1 T0
  have hp2 : (n : Int) * T ≤ 4398046511104 := by
    have := Int.mul_le_mul (show (n : Int) ≤ 4096 by omega) T1 (by omega) (by omega)
    omega
  have hp3 : 0 ≤ (n : Int) * T := Int.mul_nonneg (by omega) (by omega)
  have HG := Lib.hid g
  obtain ⟨⟨bi, be, bs, ci, ce, h1, _⟩, _⟩ := h
  have HTb := Lib.hid h1
  have tq : Hid (Calls Try.prog 15 #[.pointer (some ⟨b, 0, none⟩)] W fun e w' => e = .returned (.int .i64 T) ∧ ∃ q, w' = W.drewN q) :=
    Lib.hid (by rw [← HT0.out]; exact total_I HTb.out HG.out.pos HG.out.few)
  clear hT h1 g
  go_enter Try.func20, Try.ntmps20
  go_wp2_with (first
    | (go_at_call 19; refine (len_I HTb.out).mono ?_; rintro e w' ⟨rfl, hw⟩; subst w')
    | (go_at_call 15; refine tq.out.mono ?_; rintro e w' ⟨rfl, q1, rfl⟩))
  go_ret
  exact ⟨rfl, below_drewN' (Below.refl _ _) _⟩

end Go.Proofs.Ytblckohcjfoalaa

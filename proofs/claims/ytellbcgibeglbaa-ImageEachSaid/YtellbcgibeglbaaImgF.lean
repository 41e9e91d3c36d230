/-
  The walk of ImageWraps.
-/
import Derived.Test.YtellbcgibeglbaaImgE
namespace Go.Proofs.Ytellbcgibeglbaa
open Go.RowKit

/-- the samples 0, 7, 14, .. -/
def sevens (k : Nat) : List Int := (List.range k).map (fun j : Nat => 7 * (j : Int))
theorem sevens_succ (k : Nat) : (sevens (k + 1)).map (Value.int .i64) = (sevens k).map (Value.int .i64) ++ [Value.int .i64 (7 * (k : Int))] := by simp [sevens, List.range_succ]
theorem sevens_len (k : Nat) : (sevens k).length = k := by simp [sevens]
theorem sevens_get (k j : Nat) (h : j < k) : (sevens k).getD j 0 = 7 * (j : Int) := by simp [sevens, List.getD, h]

/-- a side from 1 to 9 out of any whole number, as the program reckons it -/
theorem side9 (a : Int) : ∃ W : Int, 1 ≤ W ∧ W ≤ 9 ∧ wrap64 (1 + wrap64 ((IntKind.u64.wrap a).tmod 9)) = W := by
  have h0 : 0 ≤ IntKind.u64.wrap a := by rw [IntKind.wrap_u64]; omega
  have h1 := Int.tmod_lt_of_pos (IntKind.u64.wrap a) (show (0 : Int) < 9 by omega)
  have h2 := Int.tmod_nonneg 9 h0
  refine ⟨1 + (IntKind.u64.wrap a).tmod 9, by omega, by omega, ?_⟩
  have e : wrap64 ((IntKind.u64.wrap a).tmod 9) = (IntKind.u64.wrap a).tmod 9 := by unfold wrap64; omega
  rw [e]; unfold wrap64; omega

theorem rem1000 (a : Int) : ∃ x : Int, -1000 < x ∧ x < 1000 ∧ a.tmod 1000 = x := by
  have h1 := Int.tmod_lt_of_pos a (show (0 : Int) < 1000 by omega)
  have h2 := Int.tmod_lt_of_pos (-a) (show (0 : Int) < 1000 by omega)
  rw [Int.neg_tmod] at h2
  exact ⟨_, by omega, h1, rfl⟩

theorem wrapI_emod (x n : Int) (h : 1 ≤ n) : wrapI x n = x % n := by
  have hb := wrap_bd x n h
  have e : wrapI x n % n = x % n := by
    unfold wrapI
    have h1 : x.tmod n % n = x % n := by
      have := Int.mul_tdiv_add_tmod x n
      have h2 : x % n = (n * x.tdiv n + x.tmod n) % n := by rw [this]
      rw [h2, Int.add_comm, Int.add_mul_emod_self_left]
    split
    · rw [Int.add_emod_right]; exact h1
    · exact h1
  rw [← e, Int.emod_eq_of_lt hb.1 hb.2]

theorem wrapAt_far (W H x y k : Int) (h1 : 1 ≤ W) (h2 : 1 ≤ H) : wrapAt W H (x + k * W) (y - k * H) = wrapAt W H x y := by
  unfold wrapAt
  rw [wrapI_emod _ _ h1, wrapI_emod _ _ h2, wrapI_emod _ _ h1, wrapI_emod _ _ h2, Int.add_mul_emod_self_right, Int.sub_mul_emod_self_right]

theorem wrapAt_zero (W H k : Int) (h1 : 1 ≤ W) (h2 : 1 ≤ H) : wrapAt W H (k * W) (k * H) = 0 := by
  unfold wrapAt
  rw [wrapI_emod _ _ h1, wrapI_emod _ _ h2]
  simp

theorem mul_bd (k W : Int) (h1 : 1 ≤ W) (h2 : W ≤ 9) (k1 : -1000 < k) (k2 : k < 1000) : -9000 ≤ k * W ∧ k * W ≤ 9000 := by
  constructor
  · have : -1000 * W ≤ k * W := Int.mul_le_mul_of_nonneg_right (by omega) (by omega)
    omega
  · have : k * W ≤ 1000 * W := Int.mul_le_mul_of_nonneg_right (by omega) (by omega)
    omega

theorem wrapped_D (W H x y : Int) {b g n : Nat} {ps : List Int} {w : World} (nq : Nat) (h1 : 1 ≤ W) (h2 : 1 ≤ H) (h3 : W ≤ 1024) (h4 : H ≤ 1024) (h5 : W * H ≤ 65536) (hn : W * H = n)
    (himg : Hid (IsImg w 3 66 b g W H n (ps.map (Value.int .i64)))) :
    Calls Try.prog 11 #[.pointer (some ⟨b, 0, none⟩), .int .i64 x, .int .i64 y] (w.drewN nq) fun e w' =>
      e = .returned (.int .i64 (ps.getD (wrapAt W H x y) 0)) ∧ ∃ nq, w' = w.drewN nq :=
  (wrapped_any W H x y b g n ps (w.drewN nq) h1 h2 h3 h4 h5 hn ⟨himg.out.head, himg.out.row, himg.out.len⟩).mono fun e w' ⟨h1, n2, h2⟩ => ⟨h1, nq + n2, by rw [h2]; simp [World.drewN, Nat.add_assoc]⟩

set_option maxHeartbeats 400000 in
theorem wraps_walk (a0 : Int) (a1 : Int) (a2 : Int) (a3 : Int) (a4 : Int) (w : World) (_ : (Lit.int .i64 a0).wf = true) (_ : (Lit.int .i64 a1).wf = true) (_ : (Lit.int .i64 a2).wf = true) (_ : (Lit.int .i64 a3).wf = true) (_ : (Lit.int .i64 a4).wf = true) :
    Calls Try.prog 3 #[.int .i64 a0, .int .i64 a1, .int .i64 a2, .int .i64 a3, .int .i64 a4] w fun e w' => e = .returned (.bool true) ∧ Below w.heap.size w w' := by
  obtain ⟨i0, hi, hz0, hz1, hz2⟩ := info_parts Try.info3
  obtain ⟨W, W1, W2, eW⟩ := side9 a0
  obtain ⟨H, H1, H2, eH⟩ := side9 a1
  obtain ⟨x, x1, x2, ex⟩ := rem1000 a2
  obtain ⟨y, y1, y2, ey⟩ := rem1000 a3
  obtain ⟨k, k1, k2, ek⟩ := rem1000 a4
  have P1 : 1 ≤ W * H := Int.mul_pos (by omega) (by omega)
  have P2 : W * H ≤ 9 * 9 := Int.mul_le_mul W2 H2 (by omega) (by omega)
  go_enter Try.func3, Try.ntmps3
  go_wp2_with (go_at_call 9; refine (awake_any _).mono ?_; rintro e wa ⟨rfl, hb⟩; have HB := Lib.hid hb; clear hb)
  simp only [eW, eH]
  clear eW eH ex ey ek
  go_loopw [11, 12] (fun v i wr => ∃ j : Nat, (j : Int) ≤ W * H ∧ i = .int .i64 j ∧ Hid (wr.ownsRow w.heap.size 3 1 v j ((sevens j).map (Value.int .i64))) ∧ Hid (Below w.heap.size w wr))
    (fun _ i _ => (W * H).toNat - (intOf i).toNat)
  case atStart => exact ⟨0, by omega, rfl, Lib.hid (World.ownsRow_nil _ _ _ _), HB⟩
  case round =>
    obtain ⟨j, hj, rfl, HO, HBr⟩ := hrel
    by_cases hlt : (j : Int) < W * H
    · go_wp2_with (first
        | (at_builtin; refine wpList_append_own _ rfl _ _ 24 rfl w.heap.size 3 i0 (.int .i64 0) 1 8 Try.underlying24 hi hz0 hz1 hz2 rfl (by decide) _ _ _ rfl (HO.out.alloc _) ⟨wr.heap.size, 0, none⟩ 1 1 [.int .i64 (7 * (j : Int))] rfl rfl (cell_one_new _ _ _) ?c2 ?c3 ?c4 ?c5 ?_))
      case c2 => intro u hu; simp at hu; subst hu; rfl
      case c3 => unfold maxLen; omega
      case c4 => omega
      case c5 => have := HBr.out.size; simp; omega
      · intro v' w1 hown' hgrow _
        rw [← sevens_succ] at hown'
        have HO' := Lib.hid hown'
        have HB' := Lib.hid ((HBr.out.alloc HBr.out.size _).grown hgrow (by simp; exact Nat.le_succ_of_le HBr.out.size) (fun q hq => (HO.out.lt q hq).1))
        clear hown' hgrow
        go_wp2
        go_roundw
        case rel => exact ⟨j + 1, by omega, by go_num, HO', HB'⟩
        case measure => simp [intOf]; omega
    · have hn : W * H = (j : Nat) := by omega
      have HN := Lib.hid hn
      obtain ⟨g, cap, rfl⟩ : ∃ g cap, u11 = .slice (some ⟨g, 0, none⟩) j cap := by
        rcases HO.out.2 with ⟨_, h0⟩ | ⟨g, cap, _, h, _⟩
        · omega
        · exact ⟨g, cap, h⟩
      obtain ⟨m1, m2⟩ := mul_bd k W W1 W2 k1 k2
      obtain ⟨m3, m4⟩ := mul_bd k H H1 H2 k1 k2
      have E1 := wrapAt_far W H x y k W1 H1
      have E2 := wrapAt_zero W H k W1 H1
      have E3 : (sevens j)[0]?.getD 0 = 0 := by rw [← List.getD_eq_getElem?_getD, sevens_get j 0 (by omega)]; rfl
      clear hn
      go_wp2_with (first
        | (go_at_call 10; refine (of_ok W H g cap w.heap.size j (sevens j) _ (by omega) (by omega) (by omega) (by omega) (by omega) HN.out (sevens_len j) HO.out).mono ?_; rintro e w1 ⟨rfl, himg, hb, hsz⟩; have HI := Lib.hid himg; have HB1 := Lib.hid (HBr.out.trans (hb.mono HBr.out.size)); clear himg hb)
        | (go_at_call 11; refine (wrapped_D W H _ _ 0 (by omega) (by omega) (by omega) (by omega) (by omega) HN.out HI).mono ?_; rintro e w2 ⟨rfl, nq, rfl⟩)
        | (go_at_call 11; refine (wrapped_D W H _ _ _ (by omega) (by omega) (by omega) (by omega) (by omega) HN.out HI).mono ?_; rintro e w2 ⟨rfl, nq2, rfl⟩))
      go_ret
      exact ⟨rfl, below_drewN' HB1.out _⟩
end Go.Proofs.Ytellbcgibeglbaa

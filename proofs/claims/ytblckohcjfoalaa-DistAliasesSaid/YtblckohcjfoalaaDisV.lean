/-
  The walk of DistAliases.
-/
import Derived.Test.YtblckohcjfoalaaDisU
namespace Go.Proofs.Ytblckohcjfoalaa
open Go.RowKit

theorem place_nat {n : Nat} {T : Int} {f r sl : Nat → Int} (ha : Acc n T f (fun _ => false) r sl) {s : Nat} (hs : s < n) (m : Int) : ∃ t : Nat, t < n ∧ placeOf sl s m = t := by
  obtain ⟨_, _, h1, h2⟩ := ha.fit s hs rfl
  unfold placeOf
  split
  · exact ⟨(sl (3 * s + 1)).toNat, by omega, by omega⟩
  · exact ⟨(sl (3 * s + 2)).toNat, by omega, by omega⟩

theorem cnt_room {n : Nat} {T m p : Int} {f r sl : Nat → Int} {s i : Nat} (ha : Acc n T f (fun _ => false) r sl) (hw : Where n T s m p) (hm : 0 ≤ m) : 0 ≤ cnt T sl s m i ∧ cnt T sl s m i ≤ p := by
  have h1 := pre_bound (T := T) (g := fun t => gives T sl t i) s (fun t ht => by
    have hs : t < n := by
      rcases hw.2 with h | h
      · omega
      · omega
    have := ha.fit t hs rfl
    exact gives_bound this.1 this.2.1)
  have h2 := part_bound (sl := sl) (s := s) (i := i) hm
  have h3 := hw.1
  unfold cnt
  omega

theorem Got.start {w : World} {n : Nat} {T : Int} {sl : Nat → Int} : Got (w.alloc (.cells (madeCells #[.int .i64 0] n) 3)) w.heap.size n T sl 0 0 := by
  refine ⟨madeCells #[.int .i64 0] n, heap_alloc_new w _, by simp [size_madeCells], fun j hj => ?_⟩
  rw [← Array.getElem?_toList, toList_madeCells_one, List.getElem?_replicate, if_pos hj]
  show _ = some (Value.int .i64 (cnt T sl 0 0 j))
  rw [cnt_zero]
  rfl

theorem Got.fin {wr : World} {gb n s : Nat} {T m p : Int} {f r sl : Nat → Int} (h : Got wr gb n T sl s m) (ha : Acc n T f (fun _ => false) r sl) (hw : Where n T s m p) (hT : 0 < T) (hp : ¬ p < n * T) : Fun wr gb 3 n (fun j => .int .i64 (f j * n)) := by
  obtain ⟨b1, b2, b3⟩ := hw.bounds hT
  obtain ⟨e, h1 | h1⟩ := hw
  · exfalso
    have h3 := Int.mul_le_mul_of_nonneg_right (show (s : Int) + 1 ≤ n by omega) (show 0 ≤ T by omega)
    rw [Int.add_mul, Int.one_mul] at h3
    omega
  · obtain ⟨rfl, rfl⟩ := h1
    refine Fun.as h (fun j hj => ?_)
    rw [cnt_zero, cnt_all ha hj]

set_option maxHeartbeats 1000000 in
set_option maxRecDepth 100000 in
theorem aliases_core (a : Option Addr) (n cap : Nat) (f : Nat → Int) (w : World) (hs : Src w a n cap (vals n (fun j => .int .i64 (f j)))) (hr : Rd w a n f) :
    Calls Try.prog 7 #[.slice a n cap] w fun e w' => e = .returned (.bool true) ∧ Below w.heap.size w w' := by
  obtain ⟨V, hV⟩ : ∃ V, verdict n n f = V := ⟨_, rfl⟩
  have HV := Lib.hid hV
  have HS := Lib.hid hs
  have HR := Lib.hid hr
  clear hV hs hr
  by_cases h5 : 60 < n
  · go_enter Try.func7, Try.ntmps7
    go_wp2_with (go_at_call 9; refine (awake _).mono ?_; rintro e w1 ⟨rfl, h⟩; have HB := Lib.hid h; clear h)
    go_ret
    exact ⟨rfl, HB.out⟩
  · by_cases h0 : V = 0
    · subst h0
      have HG : Hid (Good n f) := Lib.hid (verdict_good HV.out)
      obtain ⟨T, hT⟩ : ∃ T, pre f n = T := ⟨_, rfl⟩
      have T0 := HG.out.some
      have n0 := HG.out.pos
      rw [hT] at T0
      have HT0 := Lib.hid hT
      clear hT
      by_cases hT2 : 2000 < T
      · go_enter Try.func7, Try.ntmps7
        go_wp2_with (first
          | (go_at_call 9; refine (awake _).mono ?_; rintro e w1 ⟨rfl, h⟩; have HB := Lib.hid h; clear h)
          | (go_at_call 10; go_loud (refine (check_any _ _ _ _ f _ (HR.out.below HB.out)).mono ?_; rintro e w' ⟨he, rfl⟩; rw [HV.out] at he; subst he))
          | (go_at_call 18; go_loud (refine (total_ref _ _ _ f _ (HR.out.below HB.out) HG.out).mono ?_; rintro e w' ⟨he, rfl⟩; rw [HT0.out] at he; subst he)))
        go_ret
        exact ⟨rfl, HB.out⟩
      · have hmk := run_makeFull (P := Try.prog) Try.underlying22 Try.info3 rfl (n : Int) (by omega) (by omega) (by omega)
        have hN : Hid ((n : Int) * T ≤ 120000 ∧ 0 ≤ (n : Int) * T) := Lib.hid ⟨by
          have := Int.mul_le_mul (show (n : Int) ≤ 60 by omega) (show T ≤ 2000 by omega) (by omega) (by omega)
          omega, Int.mul_nonneg (by omega) (by omega)⟩
        go_enter Try.func7, Try.ntmps7
        go_wp2_with (first
          | (go_at_call 9; refine (awake _).mono ?_; rintro e w1 ⟨rfl, h⟩; have HB := Lib.hid h; clear h)
          | (go_at_call 10; go_loud (refine (check_any _ _ _ _ f _ (HR.out.below HB.out)).mono ?_; rintro e w' ⟨he, rfl⟩; rw [HV.out] at he; subst he))
          | (go_at_call 18; go_loud (refine (total_ref _ _ _ f _ (HR.out.below HB.out) HG.out).mono ?_; rintro e w' ⟨he, rfl⟩; rw [HT0.out] at he; subst he))
          | (go_at_call 11; go_loud (refine (made_good _ _ _ f _ (HS.out.below (Nat.le_refl _) HB.out) HG.out).mono ?_; rintro e w2 h; obtain ⟨b, r, sl, rfl, ht, hacc⟩ := h.has HB.out; rw [HT0.out] at hacc; have HA := Lib.hid hacc; have HT := Lib.hid ht; clear h ht hacc))
          | (go_at_call 19; go_loud (refine (lenT HT.out).mono ?_; rintro e w' ⟨rfl, hw⟩; subst w'))
          | (go_at_call 15; go_loud (refine (totalT HT.out HG.out).mono ?_; rintro e W1 ⟨he, ht⟩; rw [HT0.out] at he; subst he; have HT1 := Lib.hid ht; clear ht)))
        obtain ⟨N, hNe⟩ : ∃ N, (n : Int) * T = N := ⟨_, rfl⟩
        have HGot : Hid (Got (W1.alloc (.cells (madeCells #[.int .i64 0] n) 3)) W1.heap.size n T sl 0 0) := Lib.hid Got.start
        have HBl : Hid (Below W1.heap.size W1 (W1.alloc (.cells (madeCells #[.int .i64 0] n) 3))) := Lib.hid ((Below.refl _ _).alloc (Nat.le_refl _) _)
        obtain ⟨N1, N0⟩ := hN.out
        go_loopw [7] (fun p wr => ∃ (s : Nat) (m P : Int), p = .int .i64 P ∧ Hid (Where n T s m P) ∧ Hid (Got wr W1.heap.size n T sl s m) ∧ Hid (Below W1.heap.size W1 wr)) (fun p _ => ((n : Int) * T).toNat - (intOf p).toNat)
        case atStart => exact ⟨0, 0, 0, rfl, Lib.hid ⟨by simp, .inl ⟨n0, by omega, T0⟩⟩, HGot, HBl⟩
        case round =>
          obtain ⟨s, m, P, rfl, HW, HG2, HB2⟩ := hrel
          obtain ⟨P0, P1, P2⟩ := HW.out.bounds T0
          by_cases hP : P < (n : Int) * T
          · obtain ⟨hsn, m0, m1⟩ := P2 hP
            obtain ⟨t, htn, hpl⟩ := place_nat HA.out hsn m
            obtain ⟨c0, c1⟩ := cnt_room (i := t) HA.out HW.out m0
            have ha : Hid (Calls Try.prog 20 #[.pointer (some ⟨b, 0, none⟩), .int .i64 P] wr fun e w' => e = .returned (.int .i64 t) ∧ Below wr.heap.size wr w') := by
              rw [← hpl]
              exact Lib.hid (alias_in (HT1.out.later HB2.out) HG.out P m s hsn (by rw [HT0.out]; exact HW.out.1) m0 (by rw [HT0.out]; exact m1))
            have hgb : W1.heap.size < wr.heap.size := by
              obtain ⟨cs, k1, _, _⟩ := HG2.out
              exact (Array.getElem?_eq_some_iff.1 k1).1
            obtain ⟨c, hc⟩ : ∃ c, cnt T sl s m t = c := ⟨_, rfl⟩
            rw [hc] at c0 c1
            have Hc := Lib.hid hc
            have Hpl := Lib.hid hpl
            clear hc hpl P2
            go_upto_region 12 with (go_at_call 20; refine ha.out.mono ?_; rintro e w4 ⟨rfl, hb4⟩; have HB4 := Lib.hid hb4; clear hb4)
            have HG4 : Hid (Got w4 W1.heap.size n T sl s m) := Lib.hid (Fun.below HG2.out HB4.out hgb)
            have ct := HG4.out.cell t htn
            have ft := HG4.out.free t
            obtain ⟨s', m', hw', hg'⟩ := HG4.out.step HA.out HW.out hsn m0 m1 htn Hpl.out
            simp only [Hc.out] at ct hg'
            have HW' := Lib.hid hw'
            have HG' := Lib.hid hg'
            have HB' : Hid (Below W1.heap.size W1 (w4.setCell ⟨W1.heap.size, t, none⟩ (.int .i64 (c + 1)))) := Lib.hid ((HB2.out.trans (HB4.out.mono (by omega))).setCell (Nat.le_refl _) _)
            clear hw' hg'
            go_wp2
            go_roundw
            case rel => exact ⟨s', m', P + 1, rfl, HW', HG', HB'⟩
            case measure => simp [intOf]; omega
          · have HF := Lib.hid (HG2.out.fin HA.out HW.out T0 hP)
            have hPe : P = (n : Int) * T := by omega
            subst hPe
            clear P2
            go_wp2
            go_loopw [9] (fun i wr => ∃ k : Nat, k ≤ n ∧ i = .int .i64 k ∧ Hid (Fun wr W1.heap.size 3 n (fun j => .int .i64 (f j * n))) ∧ Hid (Below W1.heap.size W1 wr)) (fun i _ => n - (intOf i).toNat)
            case atStart => exact ⟨0, by omega, rfl, HF, HB2⟩
            case round =>
              obtain ⟨k, hk, rfl, HF2, HB3⟩ := hrel
              by_cases hkn : k < n
              · obtain ⟨x, rfl⟩ : ∃ x, a = some x := by
                  cases a with
                  | none => have := HR.out.1 rfl; omega
                  | some x => exact ⟨x, rfl⟩
                have hc := cell_later (HT1.out.later HB3.out).2 (HR.out.2 x rfl k hkn)
                have gc := HF2.out.cell k hkn
                obtain ⟨X, hX⟩ : ∃ X, f k = X := ⟨_, rfl⟩
                have x0 := HG.out.no k hkn
                have x1 := pre_mono HG.out.no (k + 1) n hkn (Nat.le_refl _)
                have x2 := pre_nonneg HG.out.no k hk
                have x3 : pre f (k + 1) = pre f k + f k := rfl
                rw [HT0.out] at x1
                rw [hX] at hc x0 x3
                simp only [hX] at gc
                have X1 : X ≤ 2000 := by omega
                have X2 : 0 ≤ X * (n : Int) := Int.mul_nonneg x0 (by omega)
                have X3 : X * (n : Int) ≤ 120000 := by
                  have := Int.mul_le_mul X1 (show (n : Int) ≤ 60 by omega) (by omega) (by omega)
                  omega
                have hxx : (X * (n : Int) != X * (n : Int)) = false := by simp
                clear hX x1 x2 x3
                go_upto_region 18 with fail
                go_quiet (fail)
                rename_i nq
                have HB4 : Hid (Below W1.heap.size W1 (wr.drewN nq)) := Lib.hid (below_drewN' HB3.out nq)
                have HF4 := Lib.hid (HF2.out.drewN nq)
                go_wp2
                go_roundw
                case rel => exact ⟨k + 1, by omega, by go_num, HF4, HB4⟩
                case measure => simp [intOf]; omega
              · have HT5 : Hid (HasT w wr b n f sl) := Lib.hid (HT1.out.later HB3.out)
                have hlow : Hid (Calls Try.prog 20 #[.pointer (some ⟨b, 0, none⟩), .int .i64 (-1)] wr fun e w' => e = .returned (.int .i64 (-1)) ∧ w' = wr) := Lib.hid (alias_low (-1) (by omega))
                have hhigh : Hid (Calls Try.prog 20 #[.pointer (some ⟨b, 0, none⟩), .int .i64 N] wr fun e w' => e = .returned (.int .i64 (-1)) ∧ Below wr.heap.size wr w') := Lib.hid (alias_high HT5.out HG.out N (by rw [HT0.out, hNe]; exact Int.le_refl _))
                go_wp2_with (first
                  | (go_at_call 20; refine hlow.out.mono ?_; rintro e w' ⟨rfl, hw⟩; subst w'; clear hlow)
                  | (go_at_call 20; refine hhigh.out.mono ?_; rintro e w5 ⟨rfl, hb5⟩; have HB5 := Lib.hid hb5; clear hb5))
                go_ret
                exact ⟨rfl, HT5.out.2.trans (HB5.out.mono HT5.out.2.size)⟩
    · have hne : (V != 0) = true := bne_iff_ne.2 h0
      go_enter Try.func7, Try.ntmps7
      go_wp2_with (first
        | (go_at_call 9; refine (awake _).mono ?_; rintro e w1 ⟨rfl, h⟩; have HB := Lib.hid h; clear h)
        | (go_at_call 10; go_loud (refine (check_any _ _ _ _ f _ (HR.out.below HB.out)).mono ?_; rintro e w' ⟨he, rfl⟩; rw [HV.out] at he; subst he)))
      go_ret
      exact ⟨rfl, HB.out⟩

theorem aliases (a : Option Addr) (len cap : Nat) (z : List Int) (w : World) (h : IsRow .i64 w a len cap z) :
    Calls Try.prog 7 #[.slice a len cap] w fun e w' => e = .returned (.bool true) ∧ Below w.heap.size w w' :=
  aliases_core a len cap _ w h.src h.rd

end Go.Proofs.Ytblckohcjfoalaa

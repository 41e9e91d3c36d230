/-
  The walk of DistShares.
-/
import Derived.Test.YtblckohcjfoalaaDisM
namespace Go.Proofs.Ytblckohcjfoalaa
open Go.RowKit

/-- the first draw of what lies behind P -/
def cut (P T : Int) : Int := (P * 4294967296 + T - 1) / T

theorem cut_bounds {P T : Int} (hT : 0 < T) : P * 4294967296 ≤ cut P T * T ∧ cut P T * T ≤ P * 4294967296 + T - 1 := by
  have h1 := Int.mul_ediv_add_emod (P * 4294967296 + T - 1) T
  have h2 := Int.emod_nonneg (P * 4294967296 + T - 1) (show T ≠ 0 by omega)
  have h3 := Int.emod_lt_of_pos (P * 4294967296 + T - 1) hT
  unfold cut
  rw [Int.mul_comm] at h1
  omega

theorem cut_facts {S X T C D : Int} (hC : cut S T = C) (hD : cut (S + X) T = D) (s0 : 0 ≤ S) (x0 : 0 < X) (h : S + X ≤ T) (h1 : T ≤ 1073741824) :
    (0 ≤ C ∧ C < D ∧ D ≤ 4294967296) ∧ (S ≤ C * T / 4294967296 ∧ C * T / 4294967296 < S + X) ∧ (S ≤ (D - 1) * T / 4294967296 ∧ (D - 1) * T / 4294967296 < S + X) ∧
    (0 ≤ (D - C) * T ∧ (D - C) * T < X * 4294967296 + T ∧ X * 4294967296 < (D - C) * T + T) := by
  obtain ⟨c1, c2⟩ := cut_bounds (P := S) (show 0 < T by omega)
  obtain ⟨d1, d2⟩ := cut_bounds (P := S + X) (show 0 < T by omega)
  rw [hC] at c1 c2
  rw [hD] at d1 d2
  have e1 : (D - 1) * T = D * T - T := by rw [Int.sub_mul, Int.one_mul]
  have e2 : (D - C) * T = D * T - C * T := by rw [Int.sub_mul]
  have hc0 : 0 ≤ C := by
    rw [← hC]
    exact Int.ediv_nonneg (by omega) (by omega)
  have hcd : C < D := by
    rcases Int.lt_or_le C D with h2 | h2
    · exact h2
    · have := Int.mul_le_mul_of_nonneg_right h2 (show 0 ≤ T by omega)
      omega
  have hd : D ≤ 4294967296 := by
    rcases Int.lt_or_le 4294967296 D with h2 | h2
    · have h3 := Int.mul_le_mul_of_nonneg_right (show (4294967297 : Int) ≤ D by omega) (show 0 ≤ T by omega)
      omega
    · exact h2
  rw [e1, e2]
  generalize D * T = DT at *
  generalize C * T = CT at *
  refine ⟨⟨hc0, hcd, hd⟩, ⟨by omega, by omega⟩, ⟨by omega, by omega⟩, by omega, by omega, by omega⟩

theorem cut_end {T : Int} (h : 0 < T) : cut T T = 4294967296 := by
  obtain ⟨c1, c2⟩ := cut_bounds (P := T) h
  generalize cut T T = C at *
  rcases Int.lt_trichotomy C 4294967296 with h1 | h1 | h1
  · have := Int.mul_le_mul_of_nonneg_right (show C ≤ 4294967295 by omega) (show 0 ≤ T by omega)
    omega
  · exact h1
  · have := Int.mul_le_mul_of_nonneg_right (show 4294967297 ≤ C by omega) (show 0 ≤ T by omega)
    omega

set_option maxHeartbeats 1000000 in
set_option maxRecDepth 100000 in
theorem shares_core (a : Option Addr) (n cap : Nat) (f : Nat → Int) (w : World) (hs : Src w a n cap (vals n (fun j => .int .i64 (f j)))) (hr : Rd w a n f) :
    Calls Try.prog 4 #[.slice a n cap] w fun e w' => e = .returned (.bool true) ∧ Below w.heap.size w w' := by
  obtain ⟨V, hV⟩ : ∃ V, verdict n n f = V := ⟨_, rfl⟩
  have HV := Lib.hid hV
  have HS := Lib.hid hs
  have HR := Lib.hid hr
  clear hV hs hr
  by_cases h5 : 60 < n
  · go_enter Try.func4, Try.ntmps4
    go_wp2_with (go_at_call 9; refine (awake _).mono ?_; rintro e w1 ⟨rfl, h⟩; have HB := Lib.hid h; clear h)
    go_ret
    exact ⟨rfl, HB.out⟩
  · by_cases h0 : V = 0
    · subst h0
      have HG : Hid (Good n f) := Lib.hid (verdict_good HV.out)
      obtain ⟨T, hT⟩ : ∃ T, pre f n = T := ⟨_, rfl⟩
      have T0 := HG.out.some
      have T1 := HG.out.most
      rw [hT] at T0 T1
      have HT0 := Lib.hid hT
      clear hT
      go_enter Try.func4, Try.ntmps4
      go_wp2_with (first
        | (go_at_call 9; refine (awake _).mono ?_; rintro e w1 ⟨rfl, h⟩; have HB := Lib.hid h; clear h)
        | (go_at_call 10; go_loud (refine (check_any _ _ _ _ f _ (HR.out.below HB.out)).mono ?_; rintro e w' ⟨he, rfl⟩; rw [HV.out] at he; subst he))
        | (go_at_call 11; go_loud (refine (made_good _ _ _ f _ (HS.out.below (Nat.le_refl _) HB.out) HG.out).mono ?_; rintro e w2 h; obtain ⟨b, r, sl, rfl, ht, _⟩ := h.has HB.out; have HT := Lib.hid ht; clear h ht))
        | (go_at_call 15; go_loud (refine (totalT HT.out HG.out).mono ?_; rintro e w3 ⟨he, ht⟩; rw [HT0.out] at he; subst he; have HT2 := Lib.hid ht; clear ht)))
      go_loopw [5, 6, 7] (fun fr up i wr => ∃ k : Nat, k ≤ n ∧ fr = .int .u64 (cut (pre f k) T) ∧ up = .int .u64 (pre f k) ∧ i = .int .i64 k ∧ Hid (HasT w wr b n f sl)) (fun _ _ i _ => n - (intOf i).toNat)
      case atStart =>
        refine ⟨0, Nat.zero_le _, ?_, rfl, rfl, HT2⟩
        have h0 : cut (pre f 0) T = 0 := by
          show (0 * 4294967296 + T - 1) / T = 0
          exact Int.ediv_eq_zero_of_lt (by omega) (by omega)
        rw [h0]
      case round =>
        obtain ⟨k, hk, rfl, rfl, rfl, HT3⟩ := hrel
        by_cases hkn : k < n
        · obtain ⟨x, rfl⟩ : ∃ x, a = some x := by
            cases a with
            | none => have := HR.out.1 rfl; omega
            | some x => exact ⟨x, rfl⟩
          have hc := cell_later HT3.out.2 (HR.out.2 x rfl k hkn)
          have hS : Hid (pre f (k + 1) = pre f k + f k) := Lib.hid rfl
          have s0 := pre_nonneg HG.out.no k hk
          have s1 := pre_mono HG.out.no (k + 1) n hkn (Nat.le_refl _)
          have x0 := HG.out.no k hkn
          rw [hS.out, HT0.out] at s1
          obtain ⟨C, hC⟩ : ∃ C, cut (pre f k) T = C := ⟨_, rfl⟩
          obtain ⟨S, hS2⟩ : ∃ S, pre f k = S := ⟨_, rfl⟩
          obtain ⟨X, hX⟩ : ∃ X, f k = X := ⟨_, rfl⟩
          obtain ⟨D, hD⟩ : ∃ D, cut (S + X) T = D := ⟨_, rfl⟩
          rw [hX] at hc s1 x0
          rw [hS2] at s0 s1
          rw [hC, hS2]
          have HC := Lib.hid hC
          have HS2 := Lib.hid hS2
          have HX := Lib.hid hX
          have HD := Lib.hid hD
          clear hC hS2 hX hD
          by_cases hx : X = 0
          · subst hx
            have hDC : Hid (D = C) := Lib.hid (by rw [← HD.out, ← HC.out, Int.add_zero, HS2.out])
            go_upto_region 14 with fail
            generalize (S * 4294967296 + T - 1) / T = D1
            go_wp2
            go_roundw
            case rel => exact ⟨k + 1, by omega, by rw [hS.out, HX.out, HS2.out, Int.add_zero, ← HS2.out, HC.out], by rw [hS.out, HX.out, HS2.out]; simp, by go_num, HT3⟩
            case measure => simp [intOf]; omega
          · obtain ⟨⟨y1, y2, y3⟩, y4, y5, y6⟩ := cut_facts (show cut S T = C by rw [← HS2.out]; exact HC.out) HD.out s0 (by omega) s1 T1
            have HA1 : Hid (At n f C k) := Lib.hid ⟨hkn, by rw [HT0.out, HS2.out]; exact y4.1, by rw [HT0.out, hS.out, HS2.out, HX.out]; exact y4.2⟩
            have HA2 : Hid (At n f (D - 1) k) := Lib.hid ⟨hkn, by rw [HT0.out, HS2.out]; exact y5.1, by rw [HT0.out, hS.out, HS2.out, HX.out]; exact y5.2⟩
            clear y4 y5
            have Y6 := Lib.hid y6
            clear y6
            go_upto_region 14 with fail
            generalize hD2 : ((S + X) * 4294967296 + T - 1) / T = D2
            have hDD : D2 = D := by rw [← hD2]; exact HD.out
            subst hDD
            clear hD2
            go_upto_region 17 with (first
              | (go_at_call 12; refine (pickT HT3.out HG.out C (by omega) (by omega)).mono ?_; rintro e w4 ⟨l, rfl, hl, ht⟩; have hlk := (hl.one HG.out HA1.out).symm; subst hlk; have HT4 := Lib.hid ht; clear hl ht HT3)
              | (go_at_call 12; refine (pickT HT4.out HG.out (D2 - 1) (by omega) (by omega)).mono ?_; rintro e w5 ⟨l, rfl, hl, ht⟩; have hlk := (hl.one HG.out HA2.out).symm; subst hlk; have HT5 := Lib.hid ht; clear hl ht))
            have hc5 := cell_later HT5.out.2 (HR.out.2 x rfl k hkn)
            rw [HX.out] at hc5
            clear hc
            obtain ⟨m0, m1, m2⟩ := Y6.out
            go_quiet (fail)
            clear Y6
            generalize (D2 - C) * T = M at *
            have HT6 : Hid (HasT w (w5.drewN nq) b n f sl) := Lib.hid (HT5.out.drewN nq)
            have HE1 : Hid (cut (pre f (k + 1)) T = D2) := Lib.hid (by rw [hS.out, HX.out, HS2.out]; exact HD.out)
            have HE2 : Hid (pre f (k + 1) = S + X) := Lib.hid (by rw [hS.out, HX.out, HS2.out])
            rcases Int.lt_trichotomy M (X * 4294967296) with q1 | q1 | q1
            · go_wp2
              go_roundw
              case rel => exact ⟨k + 1, by omega, by rw [HE1.out], by rw [HE2.out], by go_num, HT6⟩
              case measure => simp [intOf]; omega
            · subst q1
              go_wp2
              go_roundw
              case rel => exact ⟨k + 1, by omega, by rw [HE1.out], by rw [HE2.out], by go_num, HT6⟩
              case measure => simp [intOf]; omega
            · go_wp2
              go_roundw
              case rel => exact ⟨k + 1, by omega, by rw [HE1.out], by rw [HE2.out], by go_num, HT6⟩
              case measure => simp [intOf]; omega
        · have hkn2 : k = n := by omega
          subst hkn2
          have HE : Hid (cut (pre f k) T = 4294967296) := Lib.hid (by rw [HT0.out]; exact cut_end T0)
          rw [HE.out]
          go_wp2
          go_ret
          exact ⟨rfl, HT3.out.2⟩
    · have hne : (V != 0) = true := bne_iff_ne.2 h0
      go_enter Try.func4, Try.ntmps4
      go_wp2_with (first
        | (go_at_call 9; refine (awake _).mono ?_; rintro e w1 ⟨rfl, h⟩; have HB := Lib.hid h; clear h)
        | (go_at_call 10; go_loud (refine (check_any _ _ _ _ f _ (HR.out.below HB.out)).mono ?_; rintro e w' ⟨he, rfl⟩; rw [HV.out] at he; subst he)))
      go_ret
      exact ⟨rfl, HB.out⟩

theorem shares (a : Option Addr) (len cap : Nat) (z : List Int) (w : World) (h : IsRow .i64 w a len cap z) :
    Calls Try.prog 4 #[.slice a len cap] w fun e w' => e = .returned (.bool true) ∧ Below w.heap.size w w' :=
  shares_core a len cap _ w h.src h.rd

end Go.Proofs.Ytblckohcjfoalaa

/-
  The contract of the document's Pick; the place is one.
-/
import Derived.Test.YtblckohcjfoalaaDisC
namespace Go.Proofs.Ytblckohcjfoalaa
open Go.RowKit

theorem place_one {f : Nat → Int} {n : Nat} (h : ∀ j, j < n → 0 ≤ f j) {k l : Nat} {x : Int} (hk : k < n) (hl : l < n) (a1 : pre f k ≤ x) (a2 : x < pre f (k + 1)) (b1 : pre f l ≤ x) (b2 : x < pre f (l + 1)) : k = l := by
  rcases Nat.lt_trichotomy k l with h1 | h1 | h1
  · have := pre_mono h (k + 1) l (by omega) (by omega); omega
  · exact h1
  · have := pre_mono h (l + 1) k (by omega) (by omega); omega

set_option maxHeartbeats 1000000 in
theorem pick_ref (a : Option Addr) (n cap : Nat) (f : Nat → Int) (d : Int) (w : World) (h : Rd w a n f) (g : Good n f) (hd0 : 0 ≤ d) (hd1 : d < 4294967296) :
    Calls Try.prog 13 #[.slice a n cap, .int .u32 d] w fun e w' =>
      ∃ k : Nat, e = .returned (.int .i64 k) ∧ k < n ∧ pre f k ≤ d * pre f n / 4294967296 ∧ d * pre f n / 4294967296 < pre f (k + 1) ∧ w' = w := by
  have HR := Lib.hid h
  have HG := Lib.hid g
  have g1 := g.few
  have s1 := g.some
  have s2 := g.most
  obtain ⟨T, hT⟩ : ∃ T, pre f n = T := ⟨_, rfl⟩
  rw [hT] at s1 s2
  have m1 : 0 ≤ d * T := Int.mul_nonneg hd0 (by omega)
  have m2 : d * T ≤ 4294967295 * T := Int.mul_le_mul_of_nonneg_right (by omega) (by omega)
  obtain ⟨M, hM⟩ : ∃ M, d * T = M := ⟨_, rfl⟩
  rw [hM] at m1 m2
  obtain ⟨at', hat⟩ : ∃ x, M / 4294967296 = x := ⟨_, rfl⟩
  have m4 : 0 ≤ at' ∧ at' < T := by omega
  obtain ⟨m4, m5⟩ := m4
  have hq : M.tdiv 4294967296 = at' := by rw [Int.tdiv_eq_ediv_of_nonneg m1]; exact hat
  have HT := Lib.hid hT
  have HA := Lib.hid hat
  rw [hT, hM, hat]
  clear h g hT hat
  go_enter Try.func13, Try.ntmps13
  go_wp2_with (go_at_call 18; refine (total_ref _ _ _ f _ HR.out HG.out).mono ?_; rintro e w1 ⟨rfl, rfl⟩; simp only [HT.out])
  go_loopw [6, 7] (fun s i wr => ∃ k : Nat, k ≤ n ∧ s = .int .i64 (pre f k) ∧ i = .int .i64 k ∧ wr = w1 ∧ pre f k ≤ at') (fun _ i _ => n - (intOf i).toNat)
  case atStart => exact ⟨0, Nat.zero_le _, rfl, rfl, rfl, m4⟩
  case round =>
    obtain ⟨k, hk, rfl, rfl, rfl, hp⟩ := hrel
    by_cases hkn : k < n
    · obtain ⟨x, rfl⟩ : ∃ x, a = some x := by
        cases a with
        | none => have := HR.out.1 rfl; omega
        | some x => exact ⟨x, rfl⟩
      have hc := HR.out.2 x rfl k hkn
      have HS : Hid (pre f (k + 1) = pre f k + f k) := Lib.hid rfl
      have p1 := HG.out.no k hkn
      have p2 := pre_nonneg HG.out.no k (by omega)
      have p3 := pre_mono HG.out.no (k + 1) n (by omega) (Nat.le_refl _)
      rw [HS.out, HT.out] at p3
      obtain ⟨S, hS⟩ : ∃ S, pre f k = S := ⟨_, rfl⟩
      obtain ⟨X, hX⟩ : ∃ X, f k = X := ⟨_, rfl⟩
      rw [hS] at p2 p3 hp
      rw [hX] at hc p1 p3
      have HS1 := Lib.hid hS
      simp only [hS, hX] at HS ⊢
      clear hS hX
      by_cases hlt : at' < S + X
      · go_wp2
        go_ret
        exact ⟨k, rfl, hkn, by rw [HS1.out]; exact hp, by rw [HS.out]; exact hlt, rfl⟩
      · go_wp2
        go_roundw
        case rel => exact ⟨k + 1, by omega, by rw [HS.out], by go_num, trivial, by rw [HS.out]; omega⟩
        case measure => simp [intOf]; omega
    · have hkn2 : k = n := by omega
      subst hkn2
      rw [HT.out] at hp
      omega

end Go.Proofs.Ytblckohcjfoalaa

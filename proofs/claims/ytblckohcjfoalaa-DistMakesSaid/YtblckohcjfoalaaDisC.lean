/-
  The contracts of the document's answers: Check, Total, Pick.
-/
import Derived.Test.YtblckohcjfoalaaDisB
namespace Go.Proofs.Ytblckohcjfoalaa
open Go.RowKit

/-- what a slice of whole numbers that came in holds -/
def Rd (w : World) (a : Option Addr) (n : Nat) (f : Nat → Int) : Prop :=
  (a = none → n = 0) ∧ ∀ x, a = some x → ∀ j, j < n → w.cell? (x.add j) = some (.int .i64 (f j))

/-- weight k does not do -/
def bad (f : Nat → Int) (k : Nat) : Prop := f k < 0 ∨ 1073741824 - pre f k < f k

instance (f : Nat → Int) (k : Nat) : Decidable (bad f k) := by unfold bad; infer_instance

/-- what is wrong with weights of so many things -/
def verdict (m : Int) (n : Nat) (f : Nat → Int) : Int :=
  if m ≠ n then 70 else if 4096 < m then 2 else if ∃ k, k < n ∧ bad f k then 2 else if pre f n = 0 then 60 else 0

theorem fine_pre {f : Nat → Int} {n : Nat} (h : ∀ k, k < n → ¬ bad f k) : ∀ k, k ≤ n → 0 ≤ pre f k ∧ pre f k ≤ 1073741824 := by
  intro k
  induction k with
  | zero => intro _; show (0 : Int) ≤ 0 ∧ (0 : Int) ≤ 1073741824; omega
  | succ k ih =>
    intro hk
    have h1 := ih (by omega)
    have h2 := h k (by omega)
    unfold bad at h2
    show 0 ≤ pre f k + f k ∧ pre f k + f k ≤ 1073741824
    omega

theorem ret_int {k : IntKind} {a b : Int} (h : a = b) : Ending.returned (.int k a) = .returned (.int k b) := by rw [h]

theorem verdict_bad {n : Nat} {f : Nat → Int} (h2 : (n : Int) ≤ 4096) (k : Nat) (hk : k < n) (hb : bad f k) : verdict n n f = 2 := by
  unfold verdict; rw [if_neg (by simp), if_neg (by omega), if_pos ⟨k, hk, hb⟩]

theorem verdict_end {n : Nat} {f : Nat → Int} (h2 : (n : Int) ≤ 4096) (hb : ∀ j, j < n → ¬ bad f j) : verdict n n f = if pre f n = 0 then 60 else 0 := by
  unfold verdict; rw [if_neg (by simp), if_neg (by omega), if_neg (fun ⟨j, hj, h⟩ => hb j hj h)]

theorem verdict_good {n : Nat} {f : Nat → Int} (h : verdict n n f = 0) : Good n f := by
  unfold verdict at h
  rw [if_neg (by simp)] at h
  split at h
  · omega
  · rename_i h1
    split at h
    · omega
    · rename_i h2
      split at h
      · omega
      · rename_i h3
        have hb : ∀ k, k < n → ¬ bad f k := fun k hk hb => h2 ⟨k, hk, hb⟩
        have hp := fine_pre hb n (Nat.le_refl _)
        refine ⟨?_, by omega, fun j hj => ?_, by omega, hp.2⟩
        · rcases Nat.eq_zero_or_pos n with h0 | h0
          · subst h0; exact absurd rfl h3
          · exact h0
        · have h4 := hb j hj
          unfold bad at h4
          omega

theorem good_fine {n : Nat} {f : Nat → Int} (g : Good n f) : ∀ k, k < n → ¬ bad f k := by
  intro k hk hb
  have h1 := g.no k hk
  have h2 := pre_mono g.no (k + 1) n (by omega) (Nat.le_refl _)
  have h3 := g.most
  have h4 : pre f (k + 1) = pre f k + f k := rfl
  unfold bad at hb
  omega

theorem good_verdict {n : Nat} {f : Nat → Int} (g : Good n f) : verdict n n f = 0 := by
  have h1 := g.few
  have h2 := g.some
  have h3 := good_fine g
  unfold verdict
  rw [if_neg (by simp), if_neg (by omega), if_neg (fun ⟨k, hk, hb⟩ => h3 k hk hb), if_neg (by omega)]

set_option maxHeartbeats 1000000 in
theorem check_any (m : Int) (a : Option Addr) (n cap : Nat) (f : Nat → Int) (w : World) (h : Rd w a n f) :
    Calls Try.prog 10 #[.int .i64 m, .slice a n cap] w fun e w' => e = .returned (.int .i64 (verdict m n f)) ∧ w' = w := by
  by_cases h1 : m = n
  · subst h1
    by_cases h2 : (4096 : Int) < n
    · have hv : verdict n n f = 2 := by unfold verdict; rw [if_neg (by simp), if_pos h2]
      rw [hv]
      clear hv h
      go_enter Try.func10, Try.ntmps10
      go_wp2
      go_ret
      exact ⟨rfl, rfl⟩
    · have HR := Lib.hid h
      clear h
      obtain ⟨V, hV⟩ : ∃ V, verdict n n f = V := ⟨_, rfl⟩
      rw [hV]
      have HV := Lib.hid hV
      clear hV
      go_enter Try.func10, Try.ntmps10
      go_wp2
      go_loopw [5, 6] (fun s i wr => ∃ k : Nat, k ≤ n ∧ s = .int .i64 (pre f k) ∧ i = .int .i64 k ∧ wr = w ∧ Hid (∀ j, j < k → ¬ bad f j)) (fun _ i _ => n - (intOf i).toNat)
      case atStart => exact ⟨0, Nat.zero_le _, rfl, rfl, rfl, Lib.hid (fun j hj => absurd hj (Nat.not_lt_zero _))⟩
      case round =>
        obtain ⟨k, hk, rfl, rfl, rfl, HB⟩ := hrel
        obtain ⟨p1, p2⟩ := fine_pre HB.out k (Nat.le_refl _)
        by_cases hkn : k < n
        · obtain ⟨x, rfl⟩ : ∃ x, a = some x := by
            cases a with
            | none => have := HR.out.1 rfl; omega
            | some x => exact ⟨x, rfl⟩
          have hc := HR.out.2 x rfl k hkn
          have HS : Hid (pre f (k + 1) = pre f k + f k) := Lib.hid rfl
          have HD : Hid (bad f k ↔ (f k < 0 ∨ 1073741824 - pre f k < f k)) := Lib.hid Iff.rfl
          obtain ⟨S, hS⟩ : ∃ S, pre f k = S := ⟨_, rfl⟩
          obtain ⟨X, hX⟩ : ∃ X, f k = X := ⟨_, rfl⟩
          rw [hS] at p1 p2
          rw [hX] at hc
          simp only [hS, hX] at HS HD ⊢
          have HS1 := Lib.hid hS
          have HX1 := Lib.hid hX
          clear hS hX
          by_cases b1 : X < 0
          · have hv := Lib.hid ((verdict_bad h2 k hkn (HD.out.2 (.inl b1))).symm.trans HV.out)
            go_wp2
            go_ret
            exact ⟨ret_int hv.out, rfl⟩
          · by_cases b2 : 1073741824 - S < X
            · have hv := Lib.hid ((verdict_bad h2 k hkn (HD.out.2 (.inr b2))).symm.trans HV.out)
              go_wp2
              go_ret
              exact ⟨ret_int hv.out, rfl⟩
            · go_wp2
              go_roundw
              case rel =>
                refine ⟨k + 1, by omega, ?_, by go_num, trivial, Lib.hid (fun j hj => ?_)⟩
                · rw [HS.out]
                · by_cases hjk : j = k
                  · subst hjk
                    intro hb
                    have := HD.out.1 hb
                    omega
                  · exact HB.out j (by omega)
              case measure => simp [intOf]; omega
        · have hkn2 : k = n := by omega
          subst hkn2
          have HE := Lib.hid ((verdict_end h2 HB.out).symm.trans HV.out)
          obtain ⟨S, hS⟩ : ∃ S, pre f k = S := ⟨_, rfl⟩
          rw [hS] at p1 p2
          simp only [hS] at HE ⊢
          clear hS
          by_cases h0 : S = 0
          · have hv := Lib.hid ((if_pos h0).symm.trans HE.out)
            clear HE
            subst h0
            go_wp2
            go_ret
            exact ⟨ret_int hv.out, rfl⟩
          · have hv := Lib.hid ((if_neg h0).symm.trans HE.out)
            clear HE
            go_wp2
            go_ret
            exact ⟨ret_int hv.out, rfl⟩
  · have hv : verdict m n f = 70 := by unfold verdict; rw [if_pos h1]
    have hne : (m != (n : Int)) = true := by simpa using h1
    rw [hv]
    clear hv h h1
    go_enter Try.func10, Try.ntmps10
    go_wp2
    go_ret
    exact ⟨rfl, rfl⟩

set_option maxHeartbeats 1000000 in
theorem total_ref (a : Option Addr) (n cap : Nat) (f : Nat → Int) (w : World) (h : Rd w a n f) (g : Good n f) :
    Calls Try.prog 18 #[.slice a n cap] w fun e w' => e = .returned (.int .i64 (pre f n)) ∧ w' = w := by
  have HR := Lib.hid h
  have HG := Lib.hid g
  have g1 := g.few
  clear h g
  go_enter Try.func18, Try.ntmps18
  go_wp2
  go_loopw [3, 4] (fun s i wr => ∃ k : Nat, k ≤ n ∧ s = .int .i64 (pre f k) ∧ i = .int .i64 k ∧ wr = w) (fun _ i _ => n - (intOf i).toNat)
  case atStart => exact ⟨0, Nat.zero_le _, rfl, rfl, rfl⟩
  case round =>
    obtain ⟨k, hk, rfl, rfl, rfl⟩ := hrel
    by_cases hkn : k < n
    · obtain ⟨x, rfl⟩ : ∃ x, a = some x := by
        cases a with
        | none => have := HR.out.1 rfl; omega
        | some x => exact ⟨x, rfl⟩
      have hc := HR.out.2 x rfl k hkn
      have HS : Hid (pre f (k + 1) = pre f k + f k) := Lib.hid rfl
      have p1 := HG.out.no k hkn
      have p2 := pre_nonneg HG.out.no k (by omega)
      have p3 := pre_mono HG.out.no (k + 1) n (by omega) (Nat.le_refl _)
      have p4 := HG.out.most
      rw [HS.out] at p3
      generalize pre f n = T at *
      obtain ⟨S, hS⟩ : ∃ S, pre f k = S := ⟨_, rfl⟩
      obtain ⟨X, hX⟩ : ∃ X, f k = X := ⟨_, rfl⟩
      rw [hS] at p2 p3
      rw [hX] at hc p1 p3
      simp only [hS, hX] at HS ⊢
      clear hS hX
      go_wp2
      go_roundw
      case rel => exact ⟨k + 1, by omega, by rw [HS.out], by go_num, trivial⟩
      case measure => simp [intOf]; omega
    · have hkn2 : k = n := by omega
      subst hkn2
      go_wp2
      go_ret
      exact ⟨rfl, rfl⟩

end Go.Proofs.Ytblckohcjfoalaa

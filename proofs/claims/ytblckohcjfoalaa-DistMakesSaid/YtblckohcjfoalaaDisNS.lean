/-
  The contract of New at one kind of things (S).
-/
import Derived.Test.YtblckohcjfoalaaDisJ
import Derived.Test.YtblckohcjfoalaaDisAS
import Derived.Test.YtblckohcjfoalaaDisCS
namespace Go.Proofs.Ytblckohcjfoalaa
open Go.RowKit

set_option maxHeartbeats 1600000 in
theorem new_S (ai aw : Option Addr) (m mi n cw : Nat) (it : Nat → Value) (f : Nat → Int) (w : World) (hm : m ≤ 5000) (hn : n ≤ 5000) (hi : Src w ai m mi (vals m it)) (hw : Rd w aw n f) :
    Calls Try.prog 21 #[.slice ai m mi, .slice aw n cw] w fun e w' => NewAns 59 9 w w' e m n it f ∧ Below w.heap.size w w' := by
  obtain ⟨V, hV⟩ : ∃ V, verdict m n f = V := ⟨_, rfl⟩
  have HV := Lib.hid hV
  have HI := Lib.hid hi
  have HW := Lib.hid hw
  clear hV hi hw
  by_cases h1 : m = n
  · subst h1
    by_cases h2 : (4096 : Int) < m
    · have hv : Hid (verdict m m f = 2) := Lib.hid (by unfold verdict; rw [if_neg (by simp), if_pos h2])
      go_enter Try.func21, Try.ntmps21
      go_wp2
      go_ret2
      exact ⟨NewAns.bad hv.out (by omega), Below.refl _ _⟩
    · by_cases h3 : m = 0
      · subst h3
        have hv : Hid (verdict (0 : Nat) 0 f = 60) := Lib.hid (by have h4 := verdict_end (n := 0) (f := f) (by omega) (fun j hj => absurd hj (Nat.not_lt_zero _)); rw [h4]; rfl)
        go_enter Try.func21, Try.ntmps21
        go_wp2_with (go_at_call 31; refine (clone_S _ _ _ _ _ HI.out (by omega)).mono ?_; rintro e w1 ⟨v, rfl, hown, hb1⟩; obtain ⟨aV, cV, rfl⟩ := own_val hown; have HB1 := Lib.hid hb1; clear hown hb1)
        have HB2 : Hid (Below w.heap.size w (w1.alloc (.cells #[.slice aV 0 cV, .slice none 0 0, .slice none 0 0] 59))) := Lib.hid (HB1.out.alloc HB1.out.size _)
        go_loopw [7, 26] (fun s i wr => s = .int .i64 0 ∧ i = .int .i64 0 ∧ Hid (Below w.heap.size w wr)) (fun _ _ _ => 0)
        case atStart => exact ⟨rfl, rfl, HB2⟩
        case round =>
          obtain ⟨rfl, rfl, HB3⟩ := hrel
          go_wp2
          go_ret2
          exact ⟨NewAns.bad hv.out (by omega), HB3.out⟩
      · go_enter Try.func21, Try.ntmps21
        go_wp2_with (go_at_call 31; refine (clone_S _ _ _ _ _ HI.out (by omega)).mono ?_; rintro e w1 ⟨v, rfl, hown, hb1⟩; obtain ⟨gI, cI, rfl⟩ := own_form hown (by omega); have HN := Lib.hid (N1.start (T := 59) (f := f) hown hb1); clear hown hb1)
        have hbs : w.heap.size ≤ w1.heap.size := by have := HN.out.lo; have := HN.out.hb; omega
        generalize w1.alloc (.cells #[.slice (some ⟨gI, 0, none⟩) m cI, .slice none 0 0, .slice none 0 0] 59) = W1 at HN ⊢
        generalize w1.heap.size = b at HN hbs ⊢
        obtain ⟨i0, hi, hz0, hz1, hz2⟩ := info_parts Try.info3
        go_loopw [7, 26] (fun s i wr => ∃ (k : Nat) (ve : Value), k ≤ m ∧ s = .int .i64 (pre f k) ∧ i = .int .i64 k ∧ Hid (N1 59 9 w wr b gI m k it f (.slice (some ⟨gI, 0, none⟩) m cI) ve) ∧ Hid (∀ j, j < k → ¬ bad f j)) (fun _ i _ => m - (intOf i).toNat)
        case atStart => exact ⟨0, _, Nat.zero_le _, rfl, rfl, HN, Lib.hid (fun j hj => absurd hj (Nat.not_lt_zero _))⟩
        case round =>
          obtain ⟨k, ve, hk, rfl, rfl, HK, HB⟩ := hrel
          obtain ⟨p1, p2⟩ := fine_pre HB.out k (Nat.le_refl _)
          by_cases hkn : k < m
          · obtain ⟨x, rfl⟩ : ∃ x, aw = some x := by
              cases aw with
              | none => have := HW.out.1 rfl; omega
              | some x => exact ⟨x, rfl⟩
            have hc := cell_later HK.out.below (HW.out.2 x rfl k hkn)
            have HS : Hid (pre f (k + 1) = pre f k + f k) := Lib.hid rfl
            have HD : Hid (bad f k ↔ (f k < 0 ∨ 1073741824 - pre f k < f k)) := Lib.hid Iff.rfl
            obtain ⟨S, hS⟩ : ∃ S, pre f k = S := ⟨_, rfl⟩
            obtain ⟨X, hX⟩ : ∃ X, f k = X := ⟨_, rfl⟩
            rw [hS] at p1 p2
            rw [hX] at hc
            simp only [hS, hX] at HS HD ⊢
            have HS1 := Lib.hid hS
            have HX1 := Lib.hid hX
            clear hS hX
            by_cases b1 : X < 0
            · have hv := Lib.hid (verdict_bad (by omega) k hkn (HD.out.2 (.inl b1)))
              go_wp2
              go_ret2
              exact ⟨NewAns.bad hv.out (by omega), HK.out.below⟩
            · by_cases b2 : 1073741824 - S < X
              · have hv := Lib.hid (verdict_bad (by omega) k hkn (HD.out.2 (.inr b2)))
                go_wp2
                go_ret2
                exact ⟨NewAns.bad hv.out (by omega), HK.out.below⟩
              · obtain ⟨hc1, hf1⟩ := HK.out.cell
                have HA := Lib.hid (HK.out.alloc (.cells #[.int .i64 (S + X)] 3))
                go_wp2_with (at_builtin; go_loud (refine wpList_append_own_at _ rfl _ _ 22 rfl (b + 1) 3 i0 (.int .i64 0) 1 8 Try.underlying22 hi hz0 hz1 hz2 rfl (by decide) _ k (sums f k) rfl HA.out.row ⟨wr.heap.size, 0, none⟩ 1 1 [.int .i64 (S + X)] rfl rfl (new_at wr wr rfl _ _) (by intro u hu; simp at hu; subst hu; rfl) (by unfold maxLen; omega) (by omega) (by have := HA.out.size; omega) ?_; intro v' w2 hown' hgrow _ hat; obtain ⟨aV, cV, rfl⟩ := own_val hown'; obtain ⟨hc2, hf2⟩ := HA.out.kept hgrow; have HN2 : Hid (N1 59 9 w (w2.setCell ⟨b, 1, none⟩ (.slice aV (k + 1) cV)) b gI m (k + 1) it f (.slice (some ⟨gI, 0, none⟩) m cI) (.slice aV (k + 1) cV)) := Lib.hid (HA.out.push (by rw [HS.out]; exact hown') hgrow); clear hown' hgrow hat))
                go_roundw
                case rel =>
                  refine ⟨k + 1, _, by omega, by rw [HS.out], by go_num, HN2, Lib.hid (fun j hj => ?_)⟩
                  by_cases hjk : j = k
                  · subst hjk
                    intro hb
                    have := HD.out.1 hb
                    omega
                  · exact HB.out j (by omega)
                case measure => simp [intOf]; omega
          · have hkn2 : k = m := by omega
            subst hkn2
            have HE := Lib.hid (verdict_end (by omega) HB.out)
            obtain ⟨S, hS⟩ : ∃ S, pre f k = S := ⟨_, rfl⟩
            rw [hS] at p1 p2
            simp only [hS] at HE ⊢
            have HS := Lib.hid hS
            clear hS
            by_cases h0 : S = 0
            · have hv := Lib.hid (HE.out.trans (if_pos h0))
              clear HE
              subst h0
              go_wp2
              go_ret2
              exact ⟨NewAns.bad hv.out (by omega), HK.out.below⟩
            · have hv := Lib.hid (HE.out.trans (if_neg h0))
              have HGd : Hid (Good k f) := Lib.hid (verdict_good hv.out)
              obtain ⟨be, ce, rfl⟩ := own_form HK.out.row (by omega)
              have HF := Lib.hid (own_fun HK.out.row)
              clear HE
              go_wp2_with (go_at_call 32; refine (alias_S _ _ be ce k _ f HK.out.head gI cI rfl HF.out.2.2 HGd.out HK.out.size HF.out.2.1).mono ?_; rintro e w3 ⟨⟨v, rfl⟩, bs, r, sl, z1, z2, z3, z4, z5, z6⟩; have HZ := Lib.hid (HK.out.fin z1 z2 z3 z4 z5 z6); clear z1 z2 z3 z4 z5 z6)
              go_ret2
              exact ⟨⟨fun h => absurd hv.out h, fun _ => ⟨b, gI, be, bs, cI, ce, r, sl, rfl, HZ.out.1⟩⟩, HZ.out.2⟩
  · have hv : Hid (verdict m n f = 70) := Lib.hid (by unfold verdict; rw [if_pos (by omega)])
    have hne : ((m : Int) != (n : Int)) = true := bne_iff_ne.2 (by omega)
    go_enter Try.func21, Try.ntmps21
    go_wp2
    go_ret2
    exact ⟨NewAns.bad hv.out (by omega), Below.refl _ _⟩

end Go.Proofs.Ytblckohcjfoalaa

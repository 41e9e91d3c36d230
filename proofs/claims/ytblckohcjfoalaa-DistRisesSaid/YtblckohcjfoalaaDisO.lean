/-
  The walk of DistRises.
-/
import Derived.Test.YtblckohcjfoalaaDisM
namespace Go.Proofs.Ytblckohcjfoalaa
open Go.RowKit

set_option maxHeartbeats 1600000 in
theorem rises_core (a : Option Addr) (n cap : Nat) (f : Nat → Int) (x y : Int) (w : World) (hs : Src w a n cap (vals n (fun j => .int .i64 (f j)))) (hr : Rd w a n f) (hx : (Lit.int .u32 x).wf = true) (hy : (Lit.int .u32 y).wf = true) :
    Calls Try.prog 5 #[.slice a n cap, .int .u32 x, .int .u32 y] w fun e w' => e = .returned (.bool true) ∧ Below w.heap.size w w' := by
  obtain ⟨x0, x1⟩ := u32_bounds hx
  obtain ⟨y0, y1⟩ := u32_bounds hy
  obtain ⟨V, hV⟩ : ∃ V, verdict n n f = V := ⟨_, rfl⟩
  have HV := Lib.hid hV
  have HS := Lib.hid hs
  have HR := Lib.hid hr
  clear hV hs hr hx hy
  by_cases h5 : 5000 < n
  · go_enter Try.func5, Try.ntmps5
    go_wp2_with (go_at_call 9; refine (awake _).mono ?_; rintro e w1 ⟨rfl, h⟩; have HB := Lib.hid h; clear h)
    go_ret
    exact ⟨rfl, HB.out⟩
  · by_cases h0 : V = 0
    · subst h0
      have HG : Hid (Good n f) := Lib.hid (verdict_good HV.out)
      by_cases hxy : y < x
      · go_enter Try.func5, Try.ntmps5
        go_wp2_with (first
          | (go_at_call 9; refine (awake _).mono ?_; rintro e w1 ⟨rfl, h⟩; have HB := Lib.hid h; clear h)
          | (go_at_call 10; go_loud (refine (check_any _ _ _ _ f _ (HR.out.below HB.out)).mono ?_; rintro e w' ⟨he, rfl⟩; rw [HV.out] at he; subst he))
          | (go_at_call 11; go_loud (refine (made_good _ _ _ f _ (HS.out.below (Nat.le_refl _) HB.out) HG.out).mono ?_; rintro e w2 h; obtain ⟨b, r, sl, rfl, ht, _⟩ := h.has HB.out; have HT := Lib.hid ht; clear h ht))
          | (go_at_call 12; refine (pickT HT.out HG.out y y0 y1).mono ?_; rintro e w3 ⟨k, rfl, hk, ht⟩; have HK := Lib.hid hk; have HT2 := Lib.hid ht; clear hk ht HT)
          | (go_at_call 12; refine (pickT HT2.out HG.out x x0 x1).mono ?_; rintro e w4 ⟨l, rfl, hk, ht⟩; have hkl : k ≤ l := HK.out.rise HG.out hk (by omega); have hln := hk.1; have HT3 := Lib.hid ht; clear hk ht HT2)
          | (go_at_call 12; refine (pickT HT3.out HG.out 0 (by omega) (by omega)).mono ?_; rintro e w5 ⟨m, rfl, hk, ht⟩; have HM := Lib.hid hk; have hp := hk.pos; have HT4 := Lib.hid ht; clear hk ht HT3)
          | (go_at_call 14; go_loud (refine (weightT HT4.out HG.out _ HM.out.1).mono ?_; rintro e w6 ⟨rfl, ht⟩; have HT5 := Lib.hid ht; clear ht)))
        go_ret
        exact ⟨rfl, HT5.out.2⟩
      · go_enter Try.func5, Try.ntmps5
        go_wp2_with (first
          | (go_at_call 9; refine (awake _).mono ?_; rintro e w1 ⟨rfl, h⟩; have HB := Lib.hid h; clear h)
          | (go_at_call 10; go_loud (refine (check_any _ _ _ _ f _ (HR.out.below HB.out)).mono ?_; rintro e w' ⟨he, rfl⟩; rw [HV.out] at he; subst he))
          | (go_at_call 11; go_loud (refine (made_good _ _ _ f _ (HS.out.below (Nat.le_refl _) HB.out) HG.out).mono ?_; rintro e w2 h; obtain ⟨b, r, sl, rfl, ht, _⟩ := h.has HB.out; have HT := Lib.hid ht; clear h ht))
          | (go_at_call 12; refine (pickT HT.out HG.out x x0 x1).mono ?_; rintro e w3 ⟨k, rfl, hk, ht⟩; have HK := Lib.hid hk; have HT2 := Lib.hid ht; clear hk ht HT)
          | (go_at_call 12; refine (pickT HT2.out HG.out y y0 y1).mono ?_; rintro e w4 ⟨l, rfl, hk, ht⟩; have hkl : k ≤ l := HK.out.rise HG.out hk (by omega); have hln := hk.1; have HT3 := Lib.hid ht; clear hk ht HT2)
          | (go_at_call 12; refine (pickT HT3.out HG.out 0 (by omega) (by omega)).mono ?_; rintro e w5 ⟨m, rfl, hk, ht⟩; have HM := Lib.hid hk; have hp := hk.pos; have HT4 := Lib.hid ht; clear hk ht HT3)
          | (go_at_call 14; go_loud (refine (weightT HT4.out HG.out _ HM.out.1).mono ?_; rintro e w6 ⟨rfl, ht⟩; have HT5 := Lib.hid ht; clear ht)))
        go_ret
        exact ⟨rfl, HT5.out.2⟩
    · have hne : (V != 0) = true := bne_iff_ne.2 h0
      go_enter Try.func5, Try.ntmps5
      go_wp2_with (first
        | (go_at_call 9; refine (awake _).mono ?_; rintro e w1 ⟨rfl, h⟩; have HB := Lib.hid h; clear h)
        | (go_at_call 10; go_loud (refine (check_any _ _ _ _ f _ (HR.out.below HB.out)).mono ?_; rintro e w' ⟨he, rfl⟩; rw [HV.out] at he; subst he)))
      go_ret
      exact ⟨rfl, HB.out⟩

theorem rises (a : Option Addr) (len cap : Nat) (z : List Int) (x y : Int) (w : World) (h : IsRow .i64 w a len cap z) (hx : (Lit.int .u32 x).wf = true) (hy : (Lit.int .u32 y).wf = true) :
    Calls Try.prog 5 #[.slice a len cap, .int .u32 x, .int .u32 y] w fun e w' => e = .returned (.bool true) ∧ Below w.heap.size w w' :=
  rises_core a len cap _ x y w h.src h.rd hx hy

end Go.Proofs.Ytblckohcjfoalaa

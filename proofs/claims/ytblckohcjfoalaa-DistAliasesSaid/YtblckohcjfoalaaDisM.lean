/-
  A table that was made, with its contracts; the walks of DistPicks and DistRises.
-/
import Derived.Test.YtblckohcjfoalaaDisK
import Derived.Test.YtblckohcjfoalaaDisL
namespace Go.Proofs.Ytblckohcjfoalaa
open Go.RowKit

/-- a table of numbers lies there that was made behind w0 -/
def HasT (w0 W : World) (b n : Nat) (f sl : Nat → Int) : Prop :=
  (∃ bi be bs ci ce, IsTab W 53 3 b bi be bs ci ce n (fun j => .int .i64 (3 * (j : Int))) f sl ∧ (w0.heap.size ≤ b ∧ b < W.heap.size) ∧ (w0.heap.size ≤ bi ∧ bi < W.heap.size) ∧ (w0.heap.size ≤ be ∧ be < W.heap.size) ∧ (w0.heap.size ≤ bs ∧ bs < W.heap.size)) ∧ Below w0.heap.size w0 W

section
variable {w0 W : World} {b n : Nat} {f sl : Nat → Int}

theorem HasT.drewN (h : HasT w0 W b n f sl) (q : Nat) : HasT w0 (W.drewN q) b n f sl := by
  obtain ⟨⟨bi, be, bs, ci, ce, h1, h2, h3, h4, h5⟩, h6⟩ := h
  exact ⟨⟨bi, be, bs, ci, ce, h1.drewN q, h2, h3, h4, h5⟩, below_drewN' h6 q⟩

theorem HasT.later {W' : World} (h : HasT w0 W b n f sl) (hb : Below W.heap.size W W') : HasT w0 W' b n f sl := by
  obtain ⟨⟨bi, be, bs, ci, ce, h1, h2, h3, h4, h5⟩, h6⟩ := h
  have h7 := h6.size
  have h8 := hb.size
  exact ⟨⟨bi, be, bs, ci, ce, h1.below hb h2.2 h3.2 h4.2 h5.2, ⟨h2.1, by omega⟩, ⟨h3.1, by omega⟩, ⟨h4.1, by omega⟩, ⟨h5.1, by omega⟩⟩, h6.trans (hb.mono h7)⟩

theorem MadeAns.has {w1 w' : World} {e : Ending} (h : MadeAns w1 w' e n f) (h0 : Below w0.heap.size w0 w1) : ∃ b r sl, e = .returned (.pointer (some ⟨b, 0, none⟩)) ∧ HasT w0 w' b n f sl ∧ Acc n (pre f n) f (fun _ => false) r sl := by
  obtain ⟨b, bi, be, bs, ci, ce, r, sl, he, ht, hb⟩ := h
  have h1 := h0.size
  have ht2 := ht.earlier h1
  exact ⟨b, r, sl, he, ⟨⟨bi, be, bs, ci, ce, ht2.tab, ht2.lb, ht2.li, ht2.le, ht2.ls⟩, h0.trans (hb.mono h1)⟩, ht.acc⟩

theorem lenT (h : HasT w0 W b n f sl) : Calls Try.prog 19 #[.pointer (some ⟨b, 0, none⟩)] W fun e w' => e = .returned (.int .i64 n) ∧ w' = W := by
  obtain ⟨⟨bi, be, bs, ci, ce, h1, _⟩, h6⟩ := h
  exact len_I h1

theorem totalT (h : HasT w0 W b n f sl) (g : Good n f) : Calls Try.prog 15 #[.pointer (some ⟨b, 0, none⟩)] W fun e w' => e = .returned (.int .i64 (pre f n)) ∧ HasT w0 w' b n f sl := by
  obtain ⟨⟨bi, be, bs, ci, ce, h1, h2⟩, h6⟩ := h
  refine (total_I h1 g.pos g.few).mono ?_
  rintro e w' ⟨rfl, q, rfl⟩
  exact ⟨rfl, HasT.drewN ⟨⟨bi, be, bs, ci, ce, h1, h2⟩, h6⟩ q⟩

theorem weightT (h : HasT w0 W b n f sl) (g : Good n f) (i : Nat) (hi : i < n) : Calls Try.prog 14 #[.pointer (some ⟨b, 0, none⟩), .int .i64 i] W fun e w' => e = .returned (.int .i64 (f i)) ∧ HasT w0 w' b n f sl := by
  obtain ⟨⟨bi, be, bs, ci, ce, h1, h2⟩, h6⟩ := h
  refine (weight_in_I h1 i hi g.few g).mono ?_
  rintro e w' ⟨rfl, q, rfl⟩
  exact ⟨rfl, HasT.drewN ⟨⟨bi, be, bs, ci, ce, h1, h2⟩, h6⟩ q⟩

/-- thing k is the thing at draw d -/
def At (n : Nat) (f : Nat → Int) (d : Int) (k : Nat) : Prop := k < n ∧ pre f k ≤ d * pre f n / 4294967296 ∧ d * pre f n / 4294967296 < pre f (k + 1)

theorem At.one {d : Int} {k l : Nat} (g : Good n f) (h : At n f d k) (h' : At n f d l) : k = l :=
  place_one g.no h.1 h'.1 h.2.1 h.2.2 h'.2.1 h'.2.2

theorem At.pos {d : Int} {k : Nat} (h : At n f d k) : 0 < f k := by
  have h1 := h.2.1
  have h2 := h.2.2
  have h3 : pre f (k + 1) = pre f k + f k := rfl
  omega

theorem At.rise {d d' : Int} {k l : Nat} (g : Good n f) (h : At n f d k) (h' : At n f d' l) (hd : d ≤ d') : k ≤ l := by
  have h0 : 0 ≤ pre f n := Int.le_of_lt g.some
  have h1 : d * pre f n / 4294967296 ≤ d' * pre f n / 4294967296 := Int.ediv_le_ediv (by omega) (Int.mul_le_mul_of_nonneg_right hd h0)
  rcases Nat.lt_or_ge l k with h2 | h2
  · have h3 := pre_mono g.no (l + 1) k h2 (Nat.le_of_lt h.1)
    have h4 := h.2.1
    have h5 := h'.2.2
    omega
  · exact h2

theorem pickT (h : HasT w0 W b n f sl) (g : Good n f) (d : Int) (hd0 : 0 ≤ d) (hd1 : d < 4294967296) :
    Calls Try.prog 12 #[.pointer (some ⟨b, 0, none⟩), .int .u32 d] W fun e w' => ∃ k : Nat, e = .returned (.int .i64 k) ∧ At n f d k ∧ HasT w0 w' b n f sl := by
  obtain ⟨⟨bi, be, bs, ci, ce, h1, h2⟩, h6⟩ := h
  refine (pick_I h1 g d hd0 hd1).mono ?_
  rintro e w' ⟨k, rfl, k1, k2, k3, q, rfl⟩
  exact ⟨k, rfl, ⟨k1, k2, k3⟩, HasT.drewN ⟨⟨bi, be, bs, ci, ce, h1, h2⟩, h6⟩ q⟩

end

theorem u32_bounds {d : Int} (h : (Lit.int .u32 d).wf = true) : 0 ≤ d ∧ d < 4294967296 := by
  simp [Lit.wf, IntKind.min, IntKind.max, IntKind.signed, IntKind.bits] at h
  omega

set_option maxHeartbeats 1000000 in
theorem picks_core (a : Option Addr) (n cap : Nat) (f : Nat → Int) (d : Int) (w : World) (hs : Src w a n cap (vals n (fun j => .int .i64 (f j)))) (hr : Rd w a n f) (hd : (Lit.int .u32 d).wf = true) :
    Calls Try.prog 3 #[.slice a n cap, .int .u32 d] w fun e w' => e = .returned (.bool true) ∧ Below w.heap.size w w' := by
  obtain ⟨d0, d1⟩ := u32_bounds hd
  obtain ⟨V, hV⟩ : ∃ V, verdict n n f = V := ⟨_, rfl⟩
  have HV := Lib.hid hV
  have HS := Lib.hid hs
  have HR := Lib.hid hr
  clear hV hs hr hd
  by_cases h5 : 5000 < n
  · go_enter Try.func3, Try.ntmps3
    go_wp2_with (go_at_call 9; refine (awake _).mono ?_; rintro e w1 ⟨rfl, h⟩; have HB := Lib.hid h; clear h)
    go_ret
    exact ⟨rfl, HB.out⟩
  · by_cases h0 : V = 0
    · subst h0
      have HG : Hid (Good n f) := Lib.hid (verdict_good HV.out)
      go_enter Try.func3, Try.ntmps3
      go_wp2_with (first
        | (go_at_call 9; refine (awake _).mono ?_; rintro e w1 ⟨rfl, h⟩; have HB := Lib.hid h; clear h)
        | (go_at_call 10; go_loud (refine (check_any _ _ _ _ f _ (HR.out.below HB.out)).mono ?_; rintro e w' ⟨he, rfl⟩; rw [HV.out] at he; subst he))
        | (go_at_call 11; go_loud (refine (made_good _ _ _ f _ (HS.out.below (Nat.le_refl _) HB.out) HG.out).mono ?_; rintro e w2 h; obtain ⟨b, r, sl, rfl, ht, _⟩ := h.has HB.out; have HT := Lib.hid ht; clear h ht))
        | (go_at_call 12; go_loud (refine (pickT HT.out HG.out d d0 d1).mono ?_; rintro e w3 ⟨k, rfl, hk, ht⟩; have HK := Lib.hid hk; have HT2 := Lib.hid ht; clear hk ht))
        | (go_at_call 13; go_loud (refine (pick_ref _ _ _ f d _ (HR.out.below HT2.out.2) HG.out d0 d1).mono ?_; rintro e w' ⟨l, rfl, l1, l2, l3, rfl⟩; obtain rfl := HK.out.one HG.out ⟨l1, l2, l3⟩; clear l1 l2 l3; have hp := HK.out.pos))
        | (go_at_call 14; go_loud (refine (weightT HT2.out HG.out _ HK.out.1).mono ?_; rintro e w4 ⟨rfl, ht⟩; have HT3 := Lib.hid ht; clear ht)))
      go_ret
      exact ⟨rfl, HT3.out.2⟩
    · have hne : (V != 0) = true := bne_iff_ne.2 h0
      go_enter Try.func3, Try.ntmps3
      go_wp2_with (first
        | (go_at_call 9; refine (awake _).mono ?_; rintro e w1 ⟨rfl, h⟩; have HB := Lib.hid h; clear h)
        | (go_at_call 10; go_loud (refine (check_any _ _ _ _ f _ (HR.out.below HB.out)).mono ?_; rintro e w' ⟨he, rfl⟩; rw [HV.out] at he; subst he)))
      go_ret
      exact ⟨rfl, HB.out⟩

theorem picks (a : Option Addr) (len cap : Nat) (z : List Int) (d : Int) (w : World) (h : IsRow .i64 w a len cap z) (hd : (Lit.int .u32 d).wf = true) :
    Calls Try.prog 3 #[.slice a len cap, .int .u32 d] w fun e w' => e = .returned (.bool true) ∧ Below w.heap.size w w' :=
  picks_core a len cap _ d w h.src h.rd hd

end Go.Proofs.Ytblckohcjfoalaa

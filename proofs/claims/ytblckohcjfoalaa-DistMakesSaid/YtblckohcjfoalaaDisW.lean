/-
  The walk of DistMakes.
-/
import Derived.Test.YtblckohcjfoalaaDisK
import Derived.Test.YtblckohcjfoalaaDisL
import Derived.Deep.DeepCutAuto
namespace Go.Proofs.Ytblckohcjfoalaa
open Go.RowKit

/-- a table of texts lies there -/
def HasX (W : World) (b n : Nat) (it : Nat → ByteArray) (f sl : Nat → Int) : Prop := ∃ bi be bs ci ce, IsTab W 59 9 b bi be bs ci ce n (fun j => .string (it j)) f sl

theorem Fun.srcV {w : World} {E : TypeId} {g n : Nat} {F : Nat → Value} (c : Nat) (h : Fun w g E n F) (h1 : ∀ j, (F j).oneCell' = true) : Src w (some ⟨g, 0, none⟩) n c (vals n F) := by
  refine ⟨vals_len _ _, (fun h => by cases h), fun ad had j u hu => ?_, fun u hu => ?_⟩
  · obtain rfl := Option.some.inj had
    have hj : j < n := by
      rcases Nat.lt_or_ge j n with h1 | h1
      · exact h1
      · rw [List.getElem?_eq_none (by rw [vals_len]; exact h1)] at hu; cases hu
    rw [vals_at hj] at hu
    rw [← hu, addr_add0]
    exact h.cell j hj
  · obtain ⟨j, _, rfl⟩ := List.mem_map.1 hu
    exact h1 j

theorem bytes_self (S : ByteArray) : (S == S) = true := by
  cases S with
  | mk d =>
    show (d == d) = true
    exact beq_self_eq_true d

theorem new_made {w w1 w2 w3 : World} {g1 c1 g2 c2 m n : Nat} {it : Nat → ByteArray} {f : Nat → Int} (_ : w.heap.size ≤ w1.heap.size) (_ : Below w.heap.size w w2) (hb2 : Below w2.heap.size w2 w3)
    (ho : w2.ownsRow w1.heap.size 9 1 (.slice (some ⟨g1, 0, none⟩) m c1) m (vals m (fun j => .string (it j)))) (ho2 : w3.ownsRow w2.heap.size 3 1 (.slice (some ⟨g2, 0, none⟩) n c2) n (vals n (fun j => .int .i64 (f j)))) (hm : m ≤ 5000) (hn : n ≤ 5000) :
    Calls Try.prog 21 #[.slice (some ⟨g1, 0, none⟩) m c1, .slice (some ⟨g2, 0, none⟩) n c2] w3 fun e w' => NewAns 59 9 w3 w' e m n (fun j => .string (it j)) f ∧ Below w3.heap.size w3 w' := by
  obtain ⟨a1, a2, a3⟩ := own_fun ho
  obtain ⟨d1, d2, d3⟩ := own_fun ho2
  exact new_S (some ⟨g1, 0, none⟩) (some ⟨g2, 0, none⟩) m c1 n c2 (fun j => .string (it j)) f w3 hm hn (Fun.srcV c1 (a3.below hb2 a2) (fun _ => rfl)) d3.rd

set_option maxHeartbeats 1000000 in
set_option maxRecDepth 100000 in
theorem makes_core (ai aw : Option Addr) (m mi n cw : Nat) (it : Nat → ByteArray) (f : Nat → Int) (i : Int) (w : World) (hs : Src w ai m mi (vals m (fun j => .string (it j)))) (hw : Src w aw n cw (vals n (fun j => .int .i64 (f j)))) (hr : Rd w aw n f) :
    Calls Try.prog 8 #[.slice ai m mi, .slice aw n cw, .int .i64 i] w fun e w' => e = .returned (.bool true) ∧ Below w.heap.size w w' := by
  obtain ⟨V, hV⟩ : ∃ V, verdict m n f = V := ⟨_, rfl⟩
  have HV := Lib.hid hV
  have HI := Lib.hid hs
  have HS := Lib.hid hw
  have HR := Lib.hid hr
  clear hV hs hr hw
  obtain ⟨i0, hi, hz0, hz1, hz2⟩ := info_parts Try.info3
  obtain ⟨i9, hi9, hy0, hy1, hy2⟩ := info_parts Try.info9
  by_cases h5 : 5000 < m
  · go_enter Try.func8, Try.ntmps8
    go_wp2_with (go_at_call 9; refine (awake _).mono ?_; rintro e w1 ⟨rfl, h⟩; have HB := Lib.hid h; clear h)
    go_ret
    exact ⟨rfl, HB.out⟩
  · by_cases h6 : 5000 < n
    · go_enter Try.func8, Try.ntmps8
      go_wp2_with (go_at_call 9; refine (awake _).mono ?_; rintro e w1 ⟨rfl, h⟩; have HB := Lib.hid h; clear h)
      go_ret
      exact ⟨rfl, HB.out⟩
    · by_cases h0 : V = 0
      · subst h0
        have hmn : m = n := by
          have h1 := HV.out
          unfold verdict at h1
          by_cases h2 : (m : Int) ≠ n
          · rw [if_pos h2] at h1; omega
          · omega
        subst hmn
        have HG : Hid (Good m f) := Lib.hid (verdict_good HV.out)
        go_enter Try.func8, Try.ntmps8
        go_upto_region 5 with (go_at_call 9; refine (awake _).mono ?_; rintro e w1 ⟨rfl, h⟩; have HB := Lib.hid h; clear h)
        have HI1 : Hid (Src w1 ai m mi (vals m (fun j => .string (it j)))) := Lib.hid (HI.out.below (Nat.le_refl _) HB.out)
        have hsz1 : w.heap.size ≤ w1.heap.size := HB.out.size
        go_upto_region 6 with (first
          | (at_builtin; go_loud (refine wpList_append_src _ rfl _ _ 43 rfl w1.heap.size 9 i9 (.string ByteArray.empty) _ Try.underlying43 hi9 hy0 hy1 hy2 rfl w1.heap.size 0 0 [] rfl (World.ownsRow_made w1 #[] 0 (Nat.le_refl _) (Nat.zero_le _) rfl) ai m mi _ rfl (HI1.out.below (Nat.le_refl _) ((Below.refl _ _).alloc (Nat.le_refl _) _)) (by unfold maxLen; omega) (by omega) (by simp) ?_; intro g1 c1 w2 hown' hb1; have HB1 := Lib.hid (((Below.refl w1.heap.size w1).alloc (Nat.le_refl _) _).trans hb1); have HO : Hid (w2.ownsRow w1.heap.size 9 1 (.slice (some ⟨g1, 0, none⟩) m c1) m (vals m (fun j => .string (it j)))) := Lib.hid (by simpa using hown'); clear hown' hb1; have HBw2 := Lib.hid (HB.out.trans (HB1.out.mono hsz1)); have HS2 : Hid (Src w2 aw m cw (vals m (fun j => .int .i64 (f j)))) := Lib.hid (HS.out.below (Nat.le_refl _) HBw2.out)))
          | (at_builtin; go_loud (refine wpList_append_src _ rfl _ _ 22 rfl w2.heap.size 3 i0 (.int .i64 0) _ Try.underlying22 hi hz0 hz1 hz2 rfl w2.heap.size 0 0 [] rfl (World.ownsRow_made w2 #[] 0 (Nat.le_refl _) (Nat.zero_le _) rfl) aw m cw _ rfl (HS2.out.below (Nat.le_refl _) ((Below.refl _ _).alloc (Nat.le_refl _) _)) (by unfold maxLen; omega) (by omega) (by simp) ?_; intro g2 c2 w3 hown' hb1; have HB2 := Lib.hid (((Below.refl w2.heap.size w2).alloc (Nat.le_refl _) _).trans hb1); have HO2 : Hid (w3.ownsRow w2.heap.size 3 1 (.slice (some ⟨g2, 0, none⟩) m c2) m (vals m (fun j => .int .i64 (f j)))) := Lib.hid (by simpa using hown'); clear hown' hb1; have HNew := Lib.hid (new_made hsz1 HBw2.out HB2.out HO.out HO2.out (by omega) (by omega))))
          | (go_at_call 21; go_loud (refine HNew.out.mono ?_; rintro e w4 ⟨ha, hb⟩; obtain ⟨b, bi, be, bs, ci, ce, r, sl, rfl, ht⟩ := ha.2 HV.out; have HX : Hid (HasX w4 b m it f sl) := Lib.hid ⟨bi, be, bs, ci, ce, ht.tab⟩; have HBw4 : Hid (Below w.heap.size w w4) := Lib.hid (HBw2.out.trans ((HB2.out.trans (hb.mono HB2.out.size)).mono HBw2.out.size)); clear ha hb ht)))
        obtain ⟨T, hT⟩ : ∃ T, pre f m = T := ⟨_, rfl⟩
        have HT0 := Lib.hid hT
        clear hT
        have hck : Hid (∀ W, Below w.heap.size w W → Calls Try.prog 10 #[.int .i64 m, .slice aw m cw] W fun e w' => e = .returned (.int .i64 0) ∧ w' = W) := Lib.hid (fun W hb => by
          have := check_any (m : Int) aw m cw f W (HR.out.below hb)
          rw [HV.out] at this
          exact this)
        have htr : Hid (∀ W, Below w.heap.size w W → Calls Try.prog 18 #[.slice aw m cw] W fun e w' => e = .returned (.int .i64 T) ∧ w' = W) := Lib.hid (fun W hb => by
          rw [← HT0.out]
          exact total_ref aw m cw f W (HR.out.below hb) HG.out)
        have htt : Hid (Calls Try.prog 24 #[.pointer (some ⟨b, 0, none⟩)] w4 fun e w' => e = .returned (.int .i64 T) ∧ ∃ q, w' = w4.drewN q) := by
          obtain ⟨bi, be, bs, ci, ce, ht⟩ := HX.out
          rw [← HT0.out]
          exact Lib.hid (total_S ht HG.out.pos HG.out.few)
        have hll : Hid (Calls Try.prog 23 #[.pointer (some ⟨b, 0, none⟩)] w4 fun e w' => e = .returned (.int .i64 m) ∧ w' = w4) := by
          obtain ⟨bi, be, bs, ci, ce, ht⟩ := HX.out
          exact Lib.hid (len_S ht)
        by_cases hin : 0 ≤ i ∧ i < (m : Int)
        · obtain ⟨k, rfl⟩ : ∃ k : Nat, i = k := ⟨i.toNat, by omega⟩
          have hk : k < m := by omega
          obtain ⟨S, hS⟩ : ∃ S, it k = S := ⟨_, rfl⟩
          obtain ⟨X, hX⟩ : ∃ X, f k = X := ⟨_, rfl⟩
          have hii : Hid (Calls Try.prog 22 #[.pointer (some ⟨b, 0, none⟩), .int .i64 k] w4 fun e w' => e = .returned (.tuple #[.string S, .bool true]) ∧ w' = w4) := by
            obtain ⟨bi, be, bs, ci, ce, ht⟩ := HX.out
            rw [← hS]
            exact Lib.hid (item_in_S ht k hk)
          have hww : Hid (∀ p q, Calls Try.prog 25 #[.pointer (some ⟨b, 0, none⟩), .int .i64 k] ((w4.drewN p).drewN q) fun e w' => e = .returned (.int .i64 X) ∧ ∃ q2, w' = ((w4.drewN p).drewN q).drewN q2) := by
            obtain ⟨bi, be, bs, ci, ce, ht⟩ := HX.out
            rw [← hX]
            exact Lib.hid (fun p q => weight_in_S ((ht.drewN p).drewN q) k hk HG.out.few HG.out)
          obtain ⟨x, rfl⟩ : ∃ x, aw = some x := by
            cases aw with
            | none => have := HR.out.1 rfl; omega
            | some x => exact ⟨x, rfl⟩
          obtain ⟨y, rfl⟩ : ∃ y, ai = some y := by
            cases ai with
            | none => have := (HI.out.2.1 rfl).1; omega
            | some y => exact ⟨y, rfl⟩
          have hcw := cell_later HBw4.out (HR.out.2 x rfl k hk)
          have hci := cell_later HBw4.out (HI.out.2.2.1 y rfl k _ (vals_at hk))
          rw [hX] at hcw
          rw [hS] at hci
          clear hS hX
          have hss : (S == S) = true := bytes_self S
          go_upto_region 17 with (first
            | (go_at_call 10; refine (hck.out _ HBw4.out).mono ?_; rintro e w' ⟨rfl, hw⟩; subst w')
            | (go_at_call 22; refine hii.out.mono ?_; rintro e w' ⟨rfl, hw⟩; subst w')
            | (go_at_call 23; refine hll.out.mono ?_; rintro e w' ⟨rfl, hw⟩; subst w')
            | (go_at_call 24; refine htt.out.mono ?_; rintro e w' ⟨rfl, q1, rfl⟩)
            | (go_at_call 18; refine (htr.out _ (below_drewN' HBw4.out _)).mono ?_; rintro e w' ⟨rfl, hw⟩; subst w'))
          have hw5 := Lib.hid (hww.out q1)
          have hcw5 : (w4.drewN q1).cell? (x.add k) = some (.int .i64 X) := hcw
          have hci5 : (w4.drewN q1).cell? (y.add k) = some (.string S) := hci
          have HBw5 : Hid (Below w.heap.size w (w4.drewN q1)) := Lib.hid (below_drewN' HBw4.out q1)
          generalize w4.drewN q1 = w5 at hw5 hcw5 hci5 HBw5 ⊢
          clear hcw hci
          go_quiet ((go_at_call 25; exact Calls.quiet_of (hw5.out _)))
          rename_i nq
          go_wp2
          go_ret
          exact ⟨rfl, below_drewN' HBw5.out _⟩
        · have hii : Hid (Calls Try.prog 22 #[.pointer (some ⟨b, 0, none⟩), .int .i64 i] w4 fun e w' => e = .returned (.tuple #[.string ByteArray.empty, .bool false]) ∧ w' = w4) := by
            obtain ⟨bi, be, bs, ci, ce, ht⟩ := HX.out
            exact Lib.hid (item_out_S ht i hin)
          have hww : Hid (∀ q, Calls Try.prog 25 #[.pointer (some ⟨b, 0, none⟩), .int .i64 i] (w4.drewN q) fun e w' => e = .returned (.int .i64 0) ∧ w' = w4.drewN q) := by
            obtain ⟨bi, be, bs, ci, ce, ht⟩ := HX.out
            exact Lib.hid (fun q => weight_out_S (ht.drewN q) i hin)
          by_cases hi0 : 0 ≤ i
          · have hi1 : (m : Int) ≤ i := by omega
            have hd1 : decide (i < (m : Int)) = false := decide_eq_false (by omega)
            go_wp2_with (first
              | (go_at_call 10; refine (hck.out _ HBw4.out).mono ?_; rintro e w' ⟨rfl, hw⟩; subst w')
              | (go_at_call 22; refine hii.out.mono ?_; rintro e w' ⟨rfl, hw⟩; subst w')
              | (go_at_call 23; refine hll.out.mono ?_; rintro e w' ⟨rfl, hw⟩; subst w')
              | (go_at_call 24; refine htt.out.mono ?_; rintro e w' ⟨rfl, q1, rfl⟩)
              | (go_at_call 18; refine (htr.out _ (below_drewN' HBw4.out _)).mono ?_; rintro e w' ⟨rfl, hw⟩; subst w')
              | (go_at_call 25; refine (hww.out _).mono ?_; rintro e w' ⟨rfl, hw⟩; subst w'))
            go_ret
            exact ⟨rfl, below_drewN' HBw4.out _⟩
          · go_wp2_with (first
              | (go_at_call 10; refine (hck.out _ HBw4.out).mono ?_; rintro e w' ⟨rfl, hw⟩; subst w')
              | (go_at_call 22; refine hii.out.mono ?_; rintro e w' ⟨rfl, hw⟩; subst w')
              | (go_at_call 23; refine hll.out.mono ?_; rintro e w' ⟨rfl, hw⟩; subst w')
              | (go_at_call 24; refine htt.out.mono ?_; rintro e w' ⟨rfl, q1, rfl⟩)
              | (go_at_call 18; refine (htr.out _ (below_drewN' HBw4.out _)).mono ?_; rintro e w' ⟨rfl, hw⟩; subst w')
              | (go_at_call 25; refine (hww.out _).mono ?_; rintro e w' ⟨rfl, hw⟩; subst w'))
            go_ret
            exact ⟨rfl, below_drewN' HBw4.out _⟩
      · go_enter Try.func8, Try.ntmps8
        go_upto_region 5 with (go_at_call 9; refine (awake _).mono ?_; rintro e w1 ⟨rfl, h⟩; have HB := Lib.hid h; clear h)
        have HI1 : Hid (Src w1 ai m mi (vals m (fun j => .string (it j)))) := Lib.hid (HI.out.below (Nat.le_refl _) HB.out)
        have hsz1 : w.heap.size ≤ w1.heap.size := HB.out.size
        go_upto_region 6 with (first
          | (at_builtin; go_loud (refine wpList_append_src _ rfl _ _ 43 rfl w1.heap.size 9 i9 (.string ByteArray.empty) _ Try.underlying43 hi9 hy0 hy1 hy2 rfl w1.heap.size 0 0 [] rfl (World.ownsRow_made w1 #[] 0 (Nat.le_refl _) (Nat.zero_le _) rfl) ai m mi _ rfl (HI1.out.below (Nat.le_refl _) ((Below.refl _ _).alloc (Nat.le_refl _) _)) (by unfold maxLen; omega) (by omega) (by simp) ?_; intro g1 c1 w2 hown' hb1; have HB1 := Lib.hid (((Below.refl w1.heap.size w1).alloc (Nat.le_refl _) _).trans hb1); have HO : Hid (w2.ownsRow w1.heap.size 9 1 (.slice (some ⟨g1, 0, none⟩) m c1) m (vals m (fun j => .string (it j)))) := Lib.hid (by simpa using hown'); clear hown' hb1; have HBw2 := Lib.hid (HB.out.trans (HB1.out.mono hsz1)); have HS2 : Hid (Src w2 aw n cw (vals n (fun j => .int .i64 (f j)))) := Lib.hid (HS.out.below (Nat.le_refl _) HBw2.out)))
          | (at_builtin; go_loud (refine wpList_append_src _ rfl _ _ 22 rfl w2.heap.size 3 i0 (.int .i64 0) _ Try.underlying22 hi hz0 hz1 hz2 rfl w2.heap.size 0 0 [] rfl (World.ownsRow_made w2 #[] 0 (Nat.le_refl _) (Nat.zero_le _) rfl) aw n cw _ rfl (HS2.out.below (Nat.le_refl _) ((Below.refl _ _).alloc (Nat.le_refl _) _)) (by unfold maxLen; omega) (by omega) (by simp) ?_; intro g2 c2 w3 hown' hb1; have HB2 := Lib.hid (((Below.refl w2.heap.size w2).alloc (Nat.le_refl _) _).trans hb1); have HO2 : Hid (w3.ownsRow w2.heap.size 3 1 (.slice (some ⟨g2, 0, none⟩) n c2) n (vals n (fun j => .int .i64 (f j)))) := Lib.hid (by simpa using hown'); clear hown' hb1; have HNew := Lib.hid (new_made hsz1 HBw2.out HB2.out HO.out HO2.out (by omega) (by omega))))
          | (go_at_call 21; go_loud (refine HNew.out.mono ?_; rintro e w4 ⟨ha, hb⟩; have he := ha.1 (by rw [HV.out]; exact h0); rw [HV.out] at he; subst he; have HBw4 : Hid (Below w.heap.size w w4) := Lib.hid (HBw2.out.trans ((HB2.out.trans (hb.mono HB2.out.size)).mono HBw2.out.size)); clear ha hb)))
        have hne : (V != 0) = true := bne_iff_ne.2 h0
        have hvv : (V != V) = false := by simp
        go_wp2_with (first
          | (go_at_call 10; go_loud (refine (check_any _ _ _ _ f _ (HR.out.below HBw4.out)).mono ?_; rintro e w' ⟨hx, hw⟩; subst w'; rw [HV.out] at hx; subst hx))
          | (go_at_call 22; go_loud (refine (item_nil_S i).mono ?_; rintro e w' ⟨rfl, hw⟩; subst w'))
          | (go_at_call 23; go_loud (refine len_nil_S.mono ?_; rintro e w' ⟨rfl, hw⟩; subst w'))
          | (go_at_call 24; go_loud (refine total_nil_S.mono ?_; rintro e w' ⟨rfl, hw⟩; subst w'))
          | (go_at_call 25; go_loud (refine (weight_nil_S i).mono ?_; rintro e w' ⟨rfl, hw⟩; subst w'))
          | (go_at_call 26; go_loud (refine (pick_nil_S _).mono ?_; rintro e w' ⟨rfl, hw⟩; subst w'))
          | (go_at_call 27; go_loud (refine (alias_nil_S i).mono ?_; rintro e w' ⟨rfl, hw⟩; subst w')))
        go_ret
        exact ⟨rfl, HBw4.out⟩

theorem strs_vals {w : World} {a : Option Addr} {len cap : Nat} {ss : List ByteArray} (h : IsStrs w a len cap ss) : Src w a len cap (vals len (fun j => .string (ss.getD j ByteArray.empty))) := by
  have h0 := h.src
  have e : (ss.take len).map Value.string = vals len (fun j => .string (ss.getD j ByteArray.empty)) := by
    refine List.ext_getElem? (fun j => ?_)
    have hl : len ≤ ss.length := by
      rcases h with ⟨_, h1, _, h3⟩ | ⟨x, _, h1, _, h3, _⟩
      · omega
      · omega
    rcases Nat.lt_or_ge j len with h1 | h1
    · rw [vals_at h1, List.getElem?_map, List.getElem?_take, if_pos h1, List.getElem?_eq_getElem (by omega)]
      simp [List.getD, show j < ss.length by omega]
    · have e1 : ((ss.take len).map Value.string)[j]? = none := List.getElem?_eq_none (by simp; omega)
      have e2 : (vals len (fun j => Value.string (ss.getD j ByteArray.empty)))[j]? = none := List.getElem?_eq_none (by rw [vals_len]; exact h1)
      rw [e1, e2]
  rw [← e]
  exact h0

theorem makes (a : Option Addr) (len cap : Nat) (z : List ByteArray) (a2 : Option Addr) (len2 cap2 : Nat) (z2 : List Int) (i : Int) (w : World) (h : IsStrs w a len cap z) (h2 : IsRow .i64 w a2 len2 cap2 z2) (_ : (Lit.int .i64 i).wf = true) :
    Calls Try.prog 8 #[.slice a len cap, .slice a2 len2 cap2, .int .i64 i] w fun e w' => e = .returned (.bool true) ∧ Below w.heap.size w w' :=
  makes_core a a2 len cap len2 cap2 _ _ i w (strs_vals h) h2.src h2.rd

end Go.Proofs.Ytblckohcjfoalaa

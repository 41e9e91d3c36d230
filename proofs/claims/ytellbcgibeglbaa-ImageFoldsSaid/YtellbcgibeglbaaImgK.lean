/-
  The walk of ImagePlays.
-/
import Derived.Test.YtellbcgibeglbaaImgJ
import Derived.Test.YtellbcgibeglbaaImgF
import Derived.Deep.DeepCutAuto
namespace Go.Proofs.Ytellbcgibeglbaa
open Go.RowKit

/-- what the rounds keep: the image and the list that is wanted hold the same samples -/
structure Kept (w0 wr : World) (b g gw n : Nat) (W H : Int) (ps : List Int) : Prop where
  img : IsImg wr 3 66 b g W H n (ps.map (Value.int .i64))
  want : wr.heap[gw]? = some (.cells (ps.map (Value.int .i64)).toArray 3 (0, 0))
  below : Below w0.heap.size w0 wr

theorem Kept.alloc {w0 wr : World} {b g gw n : Nat} {W H : Int} {ps : List Int} (h : Kept w0 wr b g gw n W H ps) (o : Obj) : Kept w0 (wr.alloc o) b g gw n W H ps :=
  ⟨⟨by rw [Below.heap_alloc _ _ _ (lt_of_block h.img.head)]; exact h.img.head, by rw [Below.heap_alloc _ _ _ (lt_of_block h.img.row)]; exact h.img.row, h.img.len⟩,
    by rw [Below.heap_alloc _ _ _ (lt_of_block h.want)]; exact h.want, h.below.alloc h.below.size o⟩

theorem Kept.drewN {w0 wr : World} {b g gw n : Nat} {W H : Int} {ps : List Int} (h : Kept w0 wr b g gw n W H ps) (q : Nat) : Kept w0 (wr.drewN q) b g gw n W H ps :=
  ⟨h.img.drewN q, h.want, below_drewN' h.below q⟩

/-- an act's block of the call's own -/
def ActBlock (w : World) (q : Nat) (K X Y V : Int) : Prop := w.heap[q]? = some (.cells #[.int .i64 K, .int .i64 X, .int .i64 Y, .int .i64 V] 46 (0, 0))

theorem ActBlock.cells {w : World} {q : Nat} {K X Y V : Int} (h : ActBlock w q K X Y V) :
    w.cell? ⟨q, 0, none⟩ = some (.int .i64 K) ∧ w.cell? ⟨q, 1, none⟩ = some (.int .i64 X) ∧ w.cell? ⟨q, 2, none⟩ = some (.int .i64 Y) ∧ w.cell? ⟨q, 3, none⟩ = some (.int .i64 V) := by
  unfold ActBlock at h
  simp [World.cell?, h]

/-- behind Set and the store into the wanted list -/
theorem Kept.both {w0 w1 w2 : World} {b g gw n : Nat} {W H : Int} {ps : List Int} (h : Kept w0 w1 b g gw n W H ps) (hg0 : w0.heap.size ≤ g) (hgw0 : w0.heap.size ≤ gw) (hgb : b ≠ gw) (hgg : g ≠ gw) (k : Nat) (V : Int)
    (himg : IsImg w2 3 66 b g W H n ((ps.set k V).map (Value.int .i64))) (hgrow : w1.grownBy w2 (some g)) :
    Kept w0 (w2.setCell ⟨gw, k, none⟩ (.int .i64 V)) b g gw n W H (ps.set k V) := by
  have hb : Below w0.heap.size w0 w2 := h.below.grown hgrow h.below.size (fun q hq => by simp at hq; omega)
  have hw2 : w2.heap[gw]? = some (.cells (ps.map (Value.int .i64)).toArray 3 (0, 0)) := by
    rw [hgrow.block gw (lt_of_block h.want) (by simp; omega)]; exact h.want
  refine ⟨⟨?_, ?_, himg.len⟩, ?_, hb.setCell (by simpa using hgw0) _⟩
  · rw [Below.heap_setCell _ _ _ _ hgb]; exact himg.head
  · rw [Below.heap_setCell _ _ _ _ hgg]; exact himg.row
  · have := row_setCell hw2 k (.int .i64 V)
    rw [this, List.map_set]

theorem want_cell {w : World} {gw n : Nat} {ps : List Int} (h : w.heap[gw]? = some (.cells (ps.map (Value.int .i64)).toArray 3 (0, 0))) (hl : ps.length = n) (k : Nat) (hk : k < n) :
    w.cell? ⟨gw, k, none⟩ = some (.int .i64 (ps.getD k 0)) ∧ w.frozen? ⟨gw, k, none⟩ = false := by
  constructor
  · simp [World.cell?, h, List.getD, show k < ps.length by omega]
  · simp [World.frozen?, h]

theorem Kept.setOther {w0 wr : World} {b g gw n : Nat} {W H : Int} {ps : List Int} (h : Kept w0 wr b g gw n W H ps) {q k : Nat} (hb : b ≠ q) (hg : g ≠ q) (hgw : gw ≠ q) (hq : w0.heap.size ≤ q) (u : Value) :
    Kept w0 (wr.setCell ⟨q, k, none⟩ u) b g gw n W H ps :=
  ⟨⟨by rw [Below.heap_setCell _ _ _ _ hb]; exact h.img.head, by rw [Below.heap_setCell _ _ _ _ hg]; exact h.img.row, h.img.len⟩, by rw [Below.heap_setCell _ _ _ _ hgw]; exact h.want, h.below.setCell (by simpa using hq) u⟩

theorem Kept.below' {w0 wr w' : World} {b g gw n : Nat} {W H : Int} {ps : List Int} (h : Kept w0 wr b g gw n W H ps) (hb : Below wr.heap.size wr w') : Kept w0 w' b g gw n W H ps :=
  ⟨h.img.below hb (lt_of_block h.img.head) (lt_of_block h.img.row), by rw [hb.block _ (lt_of_block h.want)]; exact h.want, h.below.trans (hb.mono h.below.size)⟩

/-- from place j on the copy still holds the samples -/
def Rest (w : World) (q n j : Nat) (ps : List Int) : Prop := ∃ cs : List Value, w.heap[q]? = some (.cells cs.toArray 3 (0, 0)) ∧ ∀ t, j ≤ t → t < n → cs[t]? = some (.int .i64 (ps.getD t 0))

theorem Rest.cell {w : World} {q n j : Nat} {ps : List Int} (h : Rest w q n j ps) (hj : j < n) : w.cell? ⟨q, j, none⟩ = some (.int .i64 (ps.getD j 0)) ∧ w.frozen? ⟨q, j, none⟩ = false := by
  obtain ⟨cs, h1, h2⟩ := h
  constructor
  · simp only [World.cell?, h1]
    simpa using h2 j (Nat.le_refl _) hj
  · simp [World.frozen?, h1]

theorem Rest.store {w : World} {q n j : Nat} {ps : List Int} (h : Rest w q n j ps) (u : Value) : Rest (w.setCell ⟨q, j, none⟩ u) q n (j + 1) ps := by
  obtain ⟨cs, h1, h2⟩ := h
  refine ⟨cs.set j u, row_setCell h1 j u, fun t ht hn => ?_⟩
  rw [List.getElem?_set_ne (by omega)]
  exact h2 t (by omega) hn

theorem Rest.made {w : World} {q n c base : Nat} {ps : List Int} (hl : ps.length = n) (h : w.ownsRow base 3 1 (.slice (some ⟨q, 0, none⟩) n c) n (ps.map (Value.int .i64))) : Rest w q n 0 ps := by
  rcases h.2 with ⟨h0, _⟩ | ⟨g', c', cur, hv, _, hg, _, _, _, ht⟩
  · simp at h0
  · simp at hv
    obtain ⟨rfl, _⟩ := hv
    refine ⟨cur.toList, by simpa using hg, fun t _ hn => ?_⟩
    have e : (cur.toList.take (n * 1))[t]? = cur.toList[t]? := by rw [List.getElem?_take, if_pos (by omega)]
    rw [← e, ht]
    simp [List.getD, show t < ps.length by omega]

/-- Go's own wrapping of a place, as the law reckons it -/
theorem wrap_law (y n : Int) (h : 1 ≤ n) : (y.tmod n + n) % n = wrapI y n := by
  rw [Int.add_emod_right, wrapI_emod _ _ h]
  have := Int.mul_tdiv_add_tmod y n
  have h2 : y % n = (n * y.tdiv n + y.tmod n) % n := by rw [this]
  rw [h2, Int.add_comm, Int.add_mul_emod_self_left]

theorem wrap_law' (y n : Int) (h : 1 ≤ n) : (y % n + n) % n = wrapI y n := by
  rw [Int.add_emod_right, wrapI_emod _ _ h, Int.emod_emod]

theorem rem_bd (x n : Int) (h : 1 ≤ n) : -n < x.tmod n ∧ x.tmod n < n := by
  have h1 := Int.tmod_lt_of_pos x (show 0 < n by omega)
  have h2 := Int.tmod_lt_of_pos (-x) (show 0 < n by omega)
  rw [Int.neg_tmod] at h2
  omega

theorem mod_bd (x n : Int) (h : 1 ≤ n) : 0 ≤ x % n ∧ x % n < n := ⟨Int.emod_nonneg _ (by omega), Int.emod_lt_of_pos _ (by omega)⟩

theorem zeros_ints (n : Nat) : (madeCells #[.int .i64 0] n).toList = (List.replicate n (0 : Int)).map (Value.int .i64) := by
  apply List.ext_getElem
  · simp [madeCells]
  · intro i h1 h2
    simp [madeCells, Nat.mod_one]

set_option maxHeartbeats 1600000 in
set_option maxRecDepth 100000 in
theorem plays_walk (a0 a1 : Int) (v : Option Addr) (len cap : Nat) (w : World) (_ : (Lit.int .i64 a0).wf = true) (_ : (Lit.int .i64 a1).wf = true) (hs : IsActs w v len) :
    Calls Try.prog 6 #[.int .i64 a0, .int .i64 a1, .slice v len cap] w fun e w' => e = .returned (.bool true) ∧ Below w.heap.size w w' := by
  obtain ⟨W, W1, W2, eW⟩ := side9 a0
  obtain ⟨H, H1, H2, eH⟩ := side9 a1
  have P1 : 1 ≤ W * H := Int.mul_pos (by omega) (by omega)
  have P2 : W * H ≤ 9 * 9 := Int.mul_le_mul W2 H2 (by omega) (by omega)
  obtain ⟨n, hn⟩ : ∃ n : Nat, W * H = n := ⟨(W * H).toNat, by omega⟩
  have HN := Lib.hid hn
  have hmk := run_makeFull (P := Try.prog) Try.underlying24 Try.info3 rfl (W * H) (by omega) (by omega) (by omega)
  rw [show (W * H).toNat = n by omega] at hmk
  have hm := hs.1
  have HA := Lib.hid hs.2
  unfold maxLen at hm
  clear hs hn
  go_enter Try.func6, Try.ntmps6
  go_wp2_with (first
    | (go_at_call 9; refine (awake_any _).mono ?_; rintro e wa ⟨rfl, hb⟩; have HB := Lib.hid hb; clear hb)
    | (go_at_call 17; simp only [eW, eH]; refine (new_I W H _ (by omega) (by omega) (by omega) (by omega) (by omega) n HN.out).mono ?_; rintro e w1 ⟨rfl, himg, hb, hsz⟩; have HI := Lib.hid himg; have HB1 := Lib.hid (HB.out.trans (hb.mono HB.out.size)); have HZ := Lib.hid hsz; clear himg hb hsz))
  clear eW eH hmk
  have HK : Hid (Kept w (w1.alloc (.cells (madeCells #[.int .i64 0] n) 3)) (wa.heap.size + 1) wa.heap.size w1.heap.size n W H (List.replicate n 0)) := by
    have hsz := HZ.out
    have hb : Below w1.heap.size w1 (w1.alloc (.cells (madeCells #[.int .i64 0] n) 3)) := (Below.refl _ _).alloc (Nat.le_refl _) _
    refine ⟨?_, ?_, HB1.out.alloc HB1.out.size _⟩
    · rw [← zeros_ints]
      exact HI.out.below hb (by omega) (by omega)
    · rw [← zeros_ints]
      simpa using heap_alloc_new w1 (.cells (madeCells #[.int .i64 0] n) 3)
  have l1 : wa.heap.size < wa.heap.size + 1 := by omega
  have l2 : wa.heap.size + 1 < w1.heap.size := by have := HZ.out; omega
  have l3 : w.heap.size ≤ wa.heap.size := HB.out.size
  clear HI HB HB1 HZ
  generalize wa.heap.size + 1 = b at *
  generalize wa.heap.size = g at *
  generalize w1.heap.size = gw at *
  go_loopw [10] (fun i wr => ∃ (k : Nat) (ps : List Int), k ≤ len ∧ k ≤ 200 ∧ i = .int .i64 k ∧ Hid (Kept w wr b g gw n W H ps))
    (fun i _ => 200 - (intOf i).toNat)
  case atStart => exact ⟨0, _, Nat.zero_le _, by omega, rfl, HK⟩
  case round =>
    obtain ⟨k, ps, hk, hk2, rfl, HKr⟩ := hrel
    by_cases hlt : k < len ∧ k < 200
    · obtain ⟨hlt, hlt2⟩ := hlt
      obtain ⟨ab, aoff, rfl, hacts⟩ := HA.out (by omega)
      obtain ⟨K, X, Y, V, ⟨x1, x2, y1, y2⟩, r0, r1, r2, r3⟩ := hacts k hlt
      have hab : ab < w.heap.size := World.block_lt_of_cell? _ _ r0
      have s0 := (HKr.out.below.cell (p := ⟨ab, aoff + k * 4, none⟩) hab).trans r0
      have s1 := (HKr.out.below.cell (p := ⟨ab, aoff + k * 4 + 1, none⟩) hab).trans r1
      have s2 := (HKr.out.below.cell (p := ⟨ab, aoff + k * 4 + 2, none⟩) hab).trans r2
      have s3 := (HKr.out.below.cell (p := ⟨ab, aoff + k * 4 + 3, none⟩) hab).trans r3
      clear r0 r1 r2 r3 hacts
      by_cases hin : 0 ≤ X ∧ X < W ∧ 0 ≤ Y ∧ Y < H
      · obtain ⟨i1, i2, i3, i4⟩ := hin
        obtain ⟨j1, j2, j3⟩ := inAt_bd i1 i2 i3 i4
        have jk : (Y * W + X).toNat = inAt W X Y := rfl
        have jn : inAt W X Y < n := by have := HN.out; unfold inAt; omega
        have jn2 : Y * W + X < n := by have := HN.out; omega
        have hpl : ps.length = n := by have := HKr.out.img.len; rwa [List.length_map] at this
        have HPL := Lib.hid hpl
        have hwr : wr.heap.size ≠ g := by have := lt_of_block HKr.out.img.row; omega
        have HWR := Lib.hid hwr
        have HWG : Hid (wr.heap.size ≠ gw) := by have := lt_of_block HKr.out.want; exact Lib.hid (by omega)
        have HKa : Hid (Kept w (wr.alloc (.cells #[.int .i64 K, .int .i64 X, .int .i64 Y, .int .i64 V] 46)) b g gw n W H ps) := HKr.out.alloc _
        have HB : Hid (ActBlock (wr.alloc (.cells #[.int .i64 K, .int .i64 X, .int .i64 Y, .int .i64 V] 46)) wr.heap.size K X Y V) := heap_alloc_new wr _
        clear hpl hwr
        by_cases hK : K = 1
        · skip
          have hK1 : (K == 1) = true := by simp [hK]
          clear hK
          go_wp2_with (first
            | (go_at_call 18; refine (inside_yes HKa.out.img i1 i2 i3 i4).mono ?_; rintro e w3 ⟨rfl, rfl⟩)
            | (go_at_call 19; refine (set_in HKa.out.img (by omega) HN.out (by omega) i1 i2 i3 i4).mono ?_; rintro e w4 ⟨rfl, himg, hgrow, hsz⟩
               obtain ⟨t0, t1, t2, t3⟩ := ActBlock.cells (w := w4) (q := wr.heap.size) (K := K) (X := X) (Y := Y) (V := V) (by unfold ActBlock; rw [hgrow.block _ (by simp) (by have := HWR.out; simpa using this)]; exact HB.out)
               have f0 := want_cell (w := w4) (by rw [hgrow.block gw (lt_of_block HKa.out.want) (by simp; omega)]; exact HKa.out.want) HPL.out (inAt W X Y) jn
               obtain ⟨f1, f2⟩ := f0
               have HK5 : Hid (Kept w (w4.setCell ⟨gw, inAt W X Y, none⟩ (.int .i64 V)) b g gw n W H (ps.set (inAt W X Y) V)) := HKa.out.both l3 (by omega) (by omega) (by omega) _ _ himg hgrow
               have HB5 : Hid (ActBlock (w4.setCell ⟨gw, inAt W X Y, none⟩ (.int .i64 V)) wr.heap.size K X Y V) := by
                 refine Lib.hid ?_
                 unfold ActBlock
                 rw [Below.heap_setCell _ _ _ _ HWG.out, hgrow.block _ (by simp) (by have := HWR.out; simpa using this)]
                 exact HB.out
               obtain ⟨t0', t1', t2', t3'⟩ := HB5.out.cells
               clear himg hgrow hsz)
            | (go_at_call 20; refine (at_in HK5.out.img HN.out (by omega) i1 i2 i3 i4).mono ?_; rintro e w6 ⟨rfl, nq, rfl⟩
               obtain ⟨f3, f4⟩ := want_cell HK5.out.want (by rw [List.length_set]; exact HPL.out) (inAt W X Y) jn))
          have HKt : Hid (Kept w ((w4.setCell ⟨gw, inAt W X Y, none⟩ (.int .i64 V)).drewN nq) b g gw n W H (ps.set (inAt W X Y) V)) := HK5.out.drewN nq
          have HBt : Hid (ActBlock ((w4.setCell ⟨gw, inAt W X Y, none⟩ (.int .i64 V)).drewN nq) wr.heap.size K X Y V) := HB5.out
          clear t0 t1 t2 t3 t0' t1' t2' t3' f1 f2 f3 f4 HK5 HB5
          generalize (w4.setCell ⟨gw, inAt W X Y, none⟩ (.int .i64 V)).drewN nq = wt at *
          generalize ps.set (inAt W X Y) V = pz at *

          obtain ⟨t0, t1, t2, t3⟩ := HBt.out.cells
          have hpz : pz.length = n := by have := HKt.out.img.len; rwa [List.length_map] at this
          have HPZ := Lib.hid hpz
          clear hpz
          obtain ⟨d1, d2, d3, d4⟩ := wrapAt_bd W H X Y W1 H1 (by omega)
          have d5 : wrapI Y H * W + wrapI X W < n := by have := HN.out; omega
          have d6 : (wrapI Y H * W + wrapI X W).toNat = wrapAt W H X Y := rfl
          have d7 := wrap_bd X W W1
          have d8 := wrap_bd Y H H1
          have d9 := rem_bd X W W1
          have d10 := rem_bd Y H H1
          have d11 := mod_bd X W W1
          have d12 := mod_bd Y H H1
          have e1 := wrap_law X W W1
          have e2 := wrap_law Y H H1
          have e3 := wrap_law' X W W1
          have e4 := wrap_law' Y H H1
          obtain ⟨f5, f6⟩ := want_cell HKt.out.want HPZ.out (wrapAt W H X Y) (by unfold wrapAt; omega)
          go_quiet ((go_at_call 11; exact Calls.quiet_of (wrapped_any W H X Y b g n pz _ (by omega) (by omega) (by omega) (by omega) (by omega) HN.out (HKt.out.img.drewN _))))
          go_wp2
          go_roundw
          case rel => exact ⟨k + 1, pz, by omega, by omega, by go_num, HKt.out.drewN _⟩
          case measure => simp [intOf]; omega
        · skip
          have hK1 : (K == 1) = false := by simpa using hK
          clear hK
          obtain ⟨t0, t1, t2, t3⟩ := HB.out.cells
          obtain ⟨f1, f2⟩ := want_cell HKa.out.want HPL.out (inAt W X Y) jn
          go_wp2_with (first
            | (go_at_call 18; refine (inside_yes HKa.out.img i1 i2 i3 i4).mono ?_; rintro e w3 ⟨rfl, rfl⟩)
            | (go_at_call 20; refine (at_in HKa.out.img HN.out (by omega) i1 i2 i3 i4).mono ?_; rintro e w6 ⟨rfl, nq, rfl⟩))
          have HKt : Hid (Kept w ((wr.alloc (.cells #[.int .i64 K, .int .i64 X, .int .i64 Y, .int .i64 V] 46)).drewN nq) b g gw n W H ps) := HKa.out.drewN nq
          have HBt : Hid (ActBlock ((wr.alloc (.cells #[.int .i64 K, .int .i64 X, .int .i64 Y, .int .i64 V] 46)).drewN nq) wr.heap.size K X Y V) := HB.out
          clear t0 t1 t2 t3 f1 f2
          generalize (wr.alloc (.cells #[.int .i64 K, .int .i64 X, .int .i64 Y, .int .i64 V] 46)).drewN nq = wt at *
          generalize ps = pz at *

          obtain ⟨t0, t1, t2, t3⟩ := HBt.out.cells
          have hpz : pz.length = n := by have := HKt.out.img.len; rwa [List.length_map] at this
          have HPZ := Lib.hid hpz
          clear hpz
          obtain ⟨d1, d2, d3, d4⟩ := wrapAt_bd W H X Y W1 H1 (by omega)
          have d5 : wrapI Y H * W + wrapI X W < n := by have := HN.out; omega
          have d6 : (wrapI Y H * W + wrapI X W).toNat = wrapAt W H X Y := rfl
          have d7 := wrap_bd X W W1
          have d8 := wrap_bd Y H H1
          have d9 := rem_bd X W W1
          have d10 := rem_bd Y H H1
          have d11 := mod_bd X W W1
          have d12 := mod_bd Y H H1
          have e1 := wrap_law X W W1
          have e2 := wrap_law Y H H1
          have e3 := wrap_law' X W W1
          have e4 := wrap_law' Y H H1
          obtain ⟨f5, f6⟩ := want_cell HKt.out.want HPZ.out (wrapAt W H X Y) (by unfold wrapAt; omega)
          go_quiet ((go_at_call 11; exact Calls.quiet_of (wrapped_any W H X Y b g n pz _ (by omega) (by omega) (by omega) (by omega) (by omega) HN.out (HKt.out.img.drewN _))))
          go_wp2
          go_roundw
          case rel => exact ⟨k + 1, pz, by omega, by omega, by go_num, HKt.out.drewN _⟩
          case measure => simp [intOf]; omega
      · have HIN := Lib.hid hin
        have hcase : ¬ 0 ≤ X ∨ (0 ≤ X ∧ ¬ 0 ≤ Y) ∨ (0 ≤ X ∧ 0 ≤ Y ∧ ¬ X < W) ∨ (0 ≤ X ∧ 0 ≤ Y ∧ X < W ∧ ¬ Y < H) := by omega
        clear hin
        have HKa : Hid (Kept w (wr.alloc (.cells #[.int .i64 K, .int .i64 X, .int .i64 Y, .int .i64 V] 46)) b g gw n W H ps) := HKr.out.alloc _
        have HB : Hid (ActBlock (wr.alloc (.cells #[.int .i64 K, .int .i64 X, .int .i64 Y, .int .i64 V] 46)) wr.heap.size K X Y V) := heap_alloc_new wr _
        have HC := Lib.hid hcase
        clear hcase
        go_upto_region 12 with fail
        go_cut [12] (fun s wx => s = .bool false ∧ wx = wr.alloc (.cells #[.int .i64 K, .int .i64 X, .int .i64 Y, .int .i64 V] 46))
        case first =>
          obtain ⟨t0, t1, t2, t3⟩ := HB.out.cells
          rcases HC.out with q | ⟨q1, q⟩ | ⟨q1, q2, q⟩ | ⟨q1, q2, q3, q⟩
          all_goals (go_wp2_with fail; go_meet; exact ⟨rfl, rfl⟩)
        case rest =>
          obtain ⟨rfl, rfl⟩ := hcut
          obtain ⟨t0, t1, t2, t3⟩ := HB.out.cells
          by_cases hK : K = 1
          · skip
            have hK1 : (K == 1) = true := by simp [hK]
            clear hK
            go_wp2_with (first
              | (go_at_call 18; refine (inside_no HKa.out.img HIN.out).mono ?_; rintro e w3 ⟨rfl, rfl⟩)
              | (go_at_call 19; refine (set_out HKa.out.img HIN.out).mono ?_; rintro e w4 ⟨rfl, rfl⟩)
              | (go_at_call 20; refine (at_out HKa.out.img HIN.out).mono ?_; rintro e w6 ⟨rfl, rfl⟩))
            have HKt := HKa
            have HBt := HB
            clear t0 t1 t2 t3
            generalize wr.alloc (.cells #[.int .i64 K, .int .i64 X, .int .i64 Y, .int .i64 V] 46) = wt at *
            generalize ps = pz at *

            obtain ⟨t0, t1, t2, t3⟩ := HBt.out.cells
            have hpz : pz.length = n := by have := HKt.out.img.len; rwa [List.length_map] at this
            have HPZ := Lib.hid hpz
            clear hpz
            obtain ⟨d1, d2, d3, d4⟩ := wrapAt_bd W H X Y W1 H1 (by omega)
            have d5 : wrapI Y H * W + wrapI X W < n := by have := HN.out; omega
            have d6 : (wrapI Y H * W + wrapI X W).toNat = wrapAt W H X Y := rfl
            have d7 := wrap_bd X W W1
            have d8 := wrap_bd Y H H1
            have d9 := rem_bd X W W1
            have d10 := rem_bd Y H H1
            have d11 := mod_bd X W W1
            have d12 := mod_bd Y H H1
            have e1 := wrap_law X W W1
            have e2 := wrap_law Y H H1
            have e3 := wrap_law' X W W1
            have e4 := wrap_law' Y H H1
            obtain ⟨f5, f6⟩ := want_cell HKt.out.want HPZ.out (wrapAt W H X Y) (by unfold wrapAt; omega)
            go_quiet ((go_at_call 11; exact Calls.quiet_of (wrapped_any W H X Y b g n pz _ (by omega) (by omega) (by omega) (by omega) (by omega) HN.out (HKt.out.img.drewN _))))
            go_wp2
            go_roundw
            case rel => exact ⟨k + 1, pz, by omega, by omega, by go_num, HKt.out.drewN _⟩
            case measure => simp [intOf]; omega
          · skip
            have hK1 : (K == 1) = false := by simpa using hK
            clear hK
            go_wp2_with (first
              | (go_at_call 18; refine (inside_no HKa.out.img HIN.out).mono ?_; rintro e w3 ⟨rfl, rfl⟩)
              | (go_at_call 19; refine (set_out HKa.out.img HIN.out).mono ?_; rintro e w4 ⟨rfl, rfl⟩)
              | (go_at_call 20; refine (at_out HKa.out.img HIN.out).mono ?_; rintro e w6 ⟨rfl, rfl⟩))
            have HKt := HKa
            have HBt := HB
            clear t0 t1 t2 t3
            generalize wr.alloc (.cells #[.int .i64 K, .int .i64 X, .int .i64 Y, .int .i64 V] 46) = wt at *
            generalize ps = pz at *

            obtain ⟨t0, t1, t2, t3⟩ := HBt.out.cells
            have hpz : pz.length = n := by have := HKt.out.img.len; rwa [List.length_map] at this
            have HPZ := Lib.hid hpz
            clear hpz
            obtain ⟨d1, d2, d3, d4⟩ := wrapAt_bd W H X Y W1 H1 (by omega)
            have d5 : wrapI Y H * W + wrapI X W < n := by have := HN.out; omega
            have d6 : (wrapI Y H * W + wrapI X W).toNat = wrapAt W H X Y := rfl
            have d7 := wrap_bd X W W1
            have d8 := wrap_bd Y H H1
            have d9 := rem_bd X W W1
            have d10 := rem_bd Y H H1
            have d11 := mod_bd X W W1
            have d12 := mod_bd Y H H1
            have e1 := wrap_law X W W1
            have e2 := wrap_law Y H H1
            have e3 := wrap_law' X W W1
            have e4 := wrap_law' Y H H1
            obtain ⟨f5, f6⟩ := want_cell HKt.out.want HPZ.out (wrapAt W H X Y) (by unfold wrapAt; omega)
            go_quiet ((go_at_call 11; exact Calls.quiet_of (wrapped_any W H X Y b g n pz _ (by omega) (by omega) (by omega) (by omega) (by omega) HN.out (HKt.out.img.drewN _))))
            go_wp2
            go_roundw
            case rel => exact ⟨k + 1, pz, by omega, by omega, by go_num, HKt.out.drewN _⟩
            case measure => simp [intOf]; omega
    · have hpl : ps.length = n := by have := HKr.out.img.len; rwa [List.length_map] at this
      have HPL := Lib.hid hpl
      clear hpl
      have hone : ∀ u ∈ ps.map (Value.int .i64), u.oneCell' = true := ints_oneCell _ _
      have H1c := Lib.hid hone
      clear hone
      have hend : k = len ∨ (k = 200 ∧ 200 < len) := by omega
      have HE := Lib.hid hend
      clear hend hlt
      go_upto_region 9 with fail
      rcases HE.out with rfl | ⟨rfl, hl200⟩
      all_goals
        go_wp2_with (go_at_call 21; refine (pix_I HKr.out.img (by have := HN.out; omega) (by have := HN.out; omega) H1c.out).mono ?_
                     rintro e w5 ⟨g5, c5, rfl, hown, hb⟩
                     have hq := (hown.lt g5 rfl).1
                     have HR : Hid (Rest w5 g5 n 0 ps) := Rest.made HPL.out hown
                     have HK5 : Hid (Kept w w5 b g gw n W H ps) := HKr.out.below' hb
                     have Q1 : Hid (b ≠ g5 ∧ g ≠ g5 ∧ gw ≠ g5 ∧ w.heap.size ≤ g5) := by
                       have k1 := lt_of_block HKr.out.img.head
                       have k2 := lt_of_block HKr.out.img.row
                       have k3 := lt_of_block HKr.out.want
                       exact Lib.hid ⟨by omega, by omega, by omega, by omega⟩
                     clear hown hb hq)
        go_loopw [184] (fun i wx => ∃ j : Nat, j ≤ n ∧ i = .int .i64 j ∧ Hid (Kept w wx b g gw n W H ps) ∧ Hid (Rest wx g5 n j ps)) (fun i _ => n - (intOf i).toNat)
        case atStart => exact ⟨0, Nat.zero_le _, rfl, HK5, HR⟩
        case round =>
          rename_i wx
          obtain ⟨j, hj, rfl, HKx, HRx⟩ := hrel
          by_cases hjn : j < n
          · have hn81 : n ≤ 81 := by have := HN.out; omega
            obtain ⟨c1, c2⟩ := HRx.out.cell hjn
            obtain ⟨c3, c4⟩ := want_cell HKx.out.want HPL.out j hjn
            go_wp2_with fail
            go_quiet (fail)
            go_wp2
            go_roundw
            case rel => exact ⟨j + 1, by omega, by go_num, (HKx.out.drewN _).setOther Q1.out.1 Q1.out.2.1 Q1.out.2.2.1 Q1.out.2.2.2 _, Rest.store (w := World.drewN _ _) HRx.out _⟩
            case measure => simp [intOf]; omega
          · obtain rfl : j = n := by omega
            have i0 : inAt W 0 0 = 0 := by simp [inAt]
            have hn1 : 0 < j := by have := HN.out; omega
            obtain ⟨c3, c4⟩ := want_cell HKx.out.want HPL.out 0 hn1
            go_wp2_with (go_at_call 20; refine (at_in HKx.out.img HN.out (by omega) (by omega) (by omega) (by omega) (by omega)).mono ?_; rintro e w6 ⟨rfl, nq, rfl⟩)
            go_ret
            exact ⟨rfl, below_drewN' HKx.out.below _⟩
end Go.Proofs.Ytellbcgibeglbaa


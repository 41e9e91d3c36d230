/-
  The walk of DistOwn: a table keeps nothing of what was handed in.
-/
import Derived.Test.YtblckohcjfoalaaDisM
import Derived.Deep.DeepCutAuto
import Derived.Deep.RegionHeld3
namespace Go.Proofs.Ytblckohcjfoalaa
open Go.RowKit

/-- a table of numbers lies at B or behind it -/
def HasG (it : Nat → Value) (B : Nat) (W : World) (b n : Nat) (f sl : Nat → Int) : Prop :=
  ∃ bi be bs ci ce, IsTab W 53 3 b bi be bs ci ce n it f sl ∧ (B ≤ b ∧ b < W.heap.size) ∧ (B ≤ bi ∧ bi < W.heap.size) ∧ (B ≤ be ∧ be < W.heap.size) ∧ (B ≤ bs ∧ bs < W.heap.size)

section
variable {it : Nat → Value} {B : Nat} {W : World} {b n : Nat} {f sl : Nat → Int}

theorem HasG.drewN (h : HasG it B W b n f sl) (q : Nat) : HasG it B (W.drewN q) b n f sl := by
  obtain ⟨bi, be, bs, ci, ce, h1, h2, h3, h4, h5⟩ := h
  exact ⟨bi, be, bs, ci, ce, h1.drewN q, h2, h3, h4, h5⟩

theorem HasG.store (h : HasG it B W b n f sl) (a : Addr) (v : Value) (ha : a.block < B) : HasG it B (W.setCell a v) b n f sl := by
  obtain ⟨bi, be, bs, ci, ce, h1, h2, h3, h4, h5⟩ := h
  have hs : (W.setCell a v).heap.size = W.heap.size := by simp [World.setCell]
  refine ⟨bi, be, bs, ci, ce, ⟨?_, h1.items.otherCell _ _ (by omega), h1.ends.otherCell _ _ (by omega), h1.slots.otherCell _ _ (by omega)⟩, by rw [hs]; exact h2, by rw [hs]; exact h3, by rw [hs]; exact h4, by rw [hs]; exact h5⟩
  rw [Below.heap_setCell _ _ _ _ (by omega)]
  exact h1.head

theorem itemG (h : HasG it B W b n f sl) (i : Nat) (hi : i < n) : Calls Try.prog 17 #[.pointer (some ⟨b, 0, none⟩), .int .i64 i] W fun e w' => e = .returned (.tuple #[it i, .bool true]) ∧ w' = W := by
  obtain ⟨bi, be, bs, ci, ce, h1, _⟩ := h
  exact item_in_I h1 i hi

theorem weightG (h : HasG it B W b n f sl) (g : Good n f) (i : Nat) (hi : i < n) : Calls Try.prog 14 #[.pointer (some ⟨b, 0, none⟩), .int .i64 i] W fun e w' => e = .returned (.int .i64 (f i)) ∧ ∃ q, w' = W.drewN q := by
  obtain ⟨bi, be, bs, ci, ce, h1, _⟩ := h
  exact weight_in_I h1 i hi g.few g

theorem pickG (h : HasG it B W b n f sl) (g : Good n f) (d : Int) (hd0 : 0 ≤ d) (hd1 : d < 4294967296) :
    Calls Try.prog 12 #[.pointer (some ⟨b, 0, none⟩), .int .u32 d] W fun e w' => ∃ k : Nat, e = .returned (.int .i64 k) ∧ At n f d k ∧ ∃ q, w' = W.drewN q := by
  obtain ⟨bi, be, bs, ci, ce, h1, _⟩ := h
  refine (pick_I h1 g d hd0 hd1).mono ?_
  rintro e w' ⟨k, rfl, k1, k2, k3, q, rfl⟩
  exact ⟨k, rfl, ⟨k1, k2, k3⟩, q, rfl⟩
end

/-- a list and one number more -/
def ex (n : Nat) (f : Nat → Int) (x : Int) (j : Nat) : Int := if j < n then f j else x

theorem vals_ex (n : Nat) (f : Nat → Int) (x : Int) : vals n (fun j => .int .i64 (f j)) ++ [.int .i64 x] = vals (n + 1) (fun j => .int .i64 (ex n f x j)) := by
  rw [vals_succ]
  have h1 : ex n f x n = x := by simp [ex]
  rw [h1]
  congr 1
  unfold vals
  refine List.map_congr_left (fun j hj => ?_)
  have := List.mem_range.1 hj
  simp [ex, this]

theorem src_one (W : World) (x : Int) : Src (W.alloc (.cells #[.int .i64 x] 3)) (some ⟨W.heap.size, 0, none⟩) 1 1 [.int .i64 x] := by
  refine ⟨rfl, (fun h => by cases h), fun ad had j u hu => ?_, (fun u hu => by simp at hu; subst hu; rfl)⟩
  obtain rfl := Option.some.inj had
  exact new_at W W rfl _ _ j u hu

theorem own_cap {w : World} {B : Nat} {E : TypeId} {g c n : Nat} {xs : List Value} (h : w.ownsRow B E 1 (.slice (some ⟨g, 0, none⟩) n c) n xs) : n ≤ c := by
  rcases h.2 with ⟨h0, _⟩ | ⟨g', c', cur, h0, h1, h2, h3, h4, h5, h6⟩
  · simp at h0
  · simp at h0
    omega

theorem Fun.short {w : World} {g : Nat} {t : TypeId} {n m : Nat} {f f' : Nat → Value} (h : Fun w g t m f) (hn : n ≤ m) (e : ∀ j, j < n → f j = f' j) : Fun w g t n f' := by
  obtain ⟨cs, h1, h2, h3⟩ := h
  exact ⟨cs, h1, by omega, fun j hj => by rw [h3 j (by omega), e j hj]⟩

theorem ex_lt {n : Nat} {f : Nat → Int} {x : Int} (j : Nat) (h : j < n) : (fun j => Value.int .i64 (ex n f x j)) j = (fun j => Value.int .i64 (f j)) j := by simp [ex, h]

/-- what lies there when the table is made: the two lists, the table, what came in -/
structure OwnW (w W : World) (B g3 g4 b n : Nat) (f sl : Nat → Int) : Prop where
  l3 : ∃ h : Nat → Int, Fun W g3 3 (n + 1) (fun j => .int .i64 (h j))
  l4 : ∃ h : Nat → Int, Fun W g4 3 (n + 1) (fun j => .int .i64 (h j))
  tab : HasG (fun j => .int .i64 (f j)) B W b n f sl
  below : Below w.heap.size w W
  b3 : w.heap.size ≤ g3 ∧ g3 < B
  b4 : w.heap.size ≤ g4 ∧ g4 < B
  ne : g3 ≠ g4

theorem OwnW.store {w W : World} {B g3 g4 b n : Nat} {f sl : Nat → Int} (h : OwnW w W B g3 g4 b n f sl) {k : Nat} (hk : k < n + 1) (x y : Int) :
    OwnW w ((W.setCell ⟨g3, k, none⟩ (.int .i64 x)).setCell ⟨g4, k, none⟩ (.int .i64 y)) B g3 g4 b n f sl := by
  obtain ⟨⟨h3, l3⟩, ⟨h4, l4⟩, tab, below, b3, b4, ne⟩ := h
  refine ⟨⟨upd h3 k x, ?_⟩, ⟨upd h4 k y, ?_⟩, (tab.store _ _ b3.2).store _ _ b4.2, (below.setCell b3.1 _).setCell b4.1 _, b3, b4, ne⟩
  · exact (l3.stored hk (by rw [upd_same]) (fun j _ hj => by rw [upd_other hj])).otherCell _ _ ne
  · exact (l4.otherCell ⟨g3, k, none⟩ (.int .i64 x) (fun e => ne e.symm)).stored hk (by rw [upd_same]) (fun j _ hj => by rw [upd_other hj])

theorem OwnW.drewN {w W : World} {B g3 g4 b n : Nat} {f sl : Nat → Int} (h : OwnW w W B g3 g4 b n f sl) (q : Nat) : OwnW w (W.drewN q) B g3 g4 b n f sl := by
  obtain ⟨⟨h3, l3⟩, ⟨h4, l4⟩, tab, below, b3, b4, ne⟩ := h
  exact ⟨⟨h3, l3.drewN q⟩, ⟨h4, l4.drewN q⟩, tab.drewN q, below_drewN' below q, b3, b4, ne⟩

theorem Rd.drewN {w : World} {a : Option Addr} {n : Nat} {f : Nat → Int} (h : Rd w a n f) (q : Nat) : Rd (w.drewN q) a n f := h

/-- a copy with one number more -/
def Copy (W : World) (B g c n : Nat) (f : Nat → Int) (x : Int) : Prop := B ≤ g ∧ g < W.heap.size ∧ n + 1 ≤ c ∧ Fun W g 3 (n + 1) (fun j => .int .i64 (ex n f x j))

theorem Copy.of {W : World} {B g c n : Nat} {f : Nat → Int} {x : Int} (h : W.ownsRow B 3 1 (.slice (some ⟨g, 0, none⟩) (n + 1) c) (n + 1) (vals n (fun j => .int .i64 (f j)) ++ [.int .i64 x])) : Copy W B g c n f x := by
  rw [vals_ex] at h
  obtain ⟨h1, h2, h3⟩ := own_fun h
  exact ⟨h1, h2, own_cap h, h3⟩

theorem own_make {w W W' : World} {g3 g4 c3 c4 n : Nat} {f : Nat → Int} {e : Ending} {B3 B4 : Nat} (h0 : Below w.heap.size w W) (h3 : Copy W B3 g3 c3 n f (-7)) (h4 : Copy W B4 g4 c4 n f (-8)) (hb3 : w.heap.size ≤ B3) (hb4 : w.heap.size ≤ B4) (hne : g3 ≠ g4) (g : Good n f)
    (ha : NewAns 53 3 W W' e n n (fun j => .int .i64 (f j)) f) (hb : Below W.heap.size W W') :
    ∃ b sl, e = .returned (.tuple #[.pointer (some ⟨b, 0, none⟩), .int .i64 0]) ∧ OwnW w W' W.heap.size g3 g4 b n f sl ∧ W'.cell? ⟨g3, n, none⟩ = some (.int .i64 (-7)) ∧ W'.cell? ⟨g4, n, none⟩ = some (.int .i64 (-8)) := by
  obtain ⟨b, bi, be, bs, ci, ce, r, sl, rfl, ht⟩ := ha.2 (good_verdict g)
  obtain ⟨p1, p2, p3, p4⟩ := h3
  obtain ⟨q1, q2, q3, q4⟩ := h4
  have p5 := p4.below hb p2
  have q5 := q4.below hb q2
  have p6 := p5.cell n (by omega)
  have q6 := q5.cell n (by omega)
  refine ⟨b, sl, rfl, ⟨⟨_, p5⟩, ⟨_, q5⟩, ⟨bi, be, bs, ci, ce, ht.tab, ht.lb, ht.li, ht.le, ht.ls⟩, h0.trans (hb.mono h0.size), ⟨by omega, p2⟩, ⟨by omega, q2⟩, hne⟩, ?_, ?_⟩
  · rw [p6]; simp [ex]
  · rw [q6]; simp [ex]

theorem Copy.fun {W : World} {B g c n : Nat} {f : Nat → Int} {x : Int} (h : Copy W B g c n f x) : Fun W g 3 n (fun j => .int .i64 (f j)) :=
  Fun.short (f := fun j => .int .i64 (ex n f x j)) h.2.2.2 (Nat.le_succ n) (fun j hj => by simp [ex, hj])

theorem own_new {w W : World} {g3 g4 c3 c4 n : Nat} {f : Nat → Int} {B3 B4 : Nat} (h0 : Below w.heap.size w W) (h3 : Copy W B3 g3 c3 n f (-7)) (h4 : Copy W B4 g4 c4 n f (-8)) (hb3 : w.heap.size ≤ B3) (hb4 : w.heap.size ≤ B4) (hne : g3 ≠ g4) (g : Good n f) :
    Calls Try.prog 16 #[.slice (some ⟨g4, 0, none⟩) n c4, .slice (some ⟨g3, 0, none⟩) n c3] W fun e W2 => ∃ b sl, e = .returned (.tuple #[.pointer (some ⟨b, 0, none⟩), .int .i64 0]) ∧ OwnW w W2 W.heap.size g3 g4 b n f sl ∧ W2.cell? ⟨g3, n, none⟩ = some (.int .i64 (-7)) ∧ W2.cell? ⟨g4, n, none⟩ = some (.int .i64 (-8)) := by
  have hn := g.few
  have f4 := Fun.src c4 h4.fun
  have f3 := Fun.rd h3.fun
  have hc := new_I (some ⟨g4, 0, none⟩) (some ⟨g3, 0, none⟩) n c4 n c3 (fun j => .int .i64 (f j)) f W (by omega) (by omega) f4 f3
  refine hc.mono ?_
  rintro e W2 ⟨ha, hb⟩
  exact own_make h0 h3 h4 hb3 hb4 hne g ha hb

set_option maxHeartbeats 1000000 in
set_option maxRecDepth 100000 in
theorem own_core (a : Option Addr) (n cap : Nat) (f : Nat → Int) (w : World) (hs : Src w a n cap (vals n (fun j => .int .i64 (f j)))) (hr : Rd w a n f) :
    Calls Try.prog 6 #[.slice a n cap] w fun e w' => e = .returned (.bool true) ∧ Below w.heap.size w w' := by
  obtain ⟨V, hV⟩ : ∃ V, verdict n n f = V := ⟨_, rfl⟩
  have HV := Lib.hid hV
  have HS := Lib.hid hs
  have HR := Lib.hid hr
  clear hV hs hr
  obtain ⟨i0, hi, hz0, hz1, hz2⟩ := info_parts Try.info3
  by_cases h5 : 500 < n
  · go_enter Try.func6, Try.ntmps6
    go_wp2_with (go_at_call 9; refine (awake _).mono ?_; rintro e w1 ⟨rfl, h⟩; have HB := Lib.hid h; clear h)
    go_ret
    exact ⟨rfl, HB.out⟩
  · by_cases h0 : V = 0
    · subst h0
      have HG : Hid (Good n f) := Lib.hid (verdict_good HV.out)
      go_enter Try.func6, Try.ntmps6
      go_upto_region 5 with (first
        | (go_at_call 9; refine (awake _).mono ?_; rintro e w1 ⟨rfl, h⟩; have HB := Lib.hid h; clear h)
        | (go_at_call 10; go_loud (refine (check_any _ _ _ _ f _ (HR.out.below HB.out)).mono ?_; rintro e w' ⟨he, rfl⟩; rw [HV.out] at he; subst he)))
      have HS1 : Hid (Src w' a n cap (vals n (fun j => .int .i64 (f j)))) := Lib.hid (HS.out.below (Nat.le_refl _) HB.out)
      go_upto_region 6 with (first
        | (at_builtin; refine wpList_append_src _ rfl _ _ 22 rfl w'.heap.size 3 i0 (.int .i64 0) _ Try.underlying22 hi hz0 hz1 hz2 rfl w'.heap.size 0 0 [] rfl (World.ownsRow_made w' #[] 0 (Nat.le_refl _) (Nat.zero_le _) rfl) a n cap _ rfl (HS1.out.below (Nat.le_refl _) ((Below.refl _ _).alloc (Nat.le_refl _) _)) (by unfold maxLen; omega) (by omega) (by simp) ?_; intro g1 c1 w1 hown' hb1; have HB1 := Lib.hid (((Below.refl w'.heap.size w').alloc (Nat.le_refl _) _).trans hb1); have HO : Hid (w1.ownsRow w'.heap.size 3 1 (.slice (some ⟨g1, 0, none⟩) n c1) n (vals n (fun j => .int .i64 (f j)))) := Lib.hid (by simpa using hown'); clear hown' hb1 HS1)
        | (at_builtin; go_loud (refine wpList_append_src _ rfl _ _ 22 rfl w'.heap.size 3 i0 (.int .i64 0) _ Try.underlying22 hi hz0 hz1 hz2 rfl g1 n c1 _ rfl (World.ownsRow.alloc HO.out _) (some ⟨w1.heap.size, 0, none⟩) 1 1 _ rfl (src_one w1 (-7)) (by unfold maxLen; omega) (by omega) (by have := HB1.out.size; simp; omega) ?_; intro g3 c3 w2 hown' hb1; have HB2 := Lib.hid (HB1.out.trans ((Below.refl w'.heap.size w1).alloc HB1.out.size _ |>.trans hb1)); have H3 : Hid (Copy w2 w'.heap.size g3 c3 n f (-7)) := Lib.hid (Copy.of hown'); clear hown' hb1 HO)))
      have HBw : Hid (Below w.heap.size w w2) := Lib.hid (HB.out.trans (HB2.out.mono HB.out.size))
      have HS2 : Hid (Src w2 a n cap (vals n (fun j => .int .i64 (f j)))) := Lib.hid (HS.out.below (Nat.le_refl _) HBw.out)
      have hsz2 : w.heap.size ≤ w2.heap.size := HBw.out.size
      have hsz1 : w.heap.size ≤ w'.heap.size := HB.out.size
      go_upto_region 7 with (first
        | (at_builtin; refine wpList_append_src _ rfl _ _ 22 rfl w2.heap.size 3 i0 (.int .i64 0) _ Try.underlying22 hi hz0 hz1 hz2 rfl w2.heap.size 0 0 [] rfl (World.ownsRow_made w2 #[] 0 (Nat.le_refl _) (Nat.zero_le _) rfl) a n cap _ rfl (HS2.out.below (Nat.le_refl _) ((Below.refl _ _).alloc (Nat.le_refl _) _)) (by unfold maxLen; omega) (by omega) (by simp) ?_; intro g2 c2 w3 hown' hb1; have HB3 := Lib.hid (((Below.refl w2.heap.size w2).alloc (Nat.le_refl _) _).trans hb1); have HO : Hid (w3.ownsRow w2.heap.size 3 1 (.slice (some ⟨g2, 0, none⟩) n c2) n (vals n (fun j => .int .i64 (f j)))) := Lib.hid (by simpa using hown'); clear hown' hb1 HS2)
        | (at_builtin; go_loud (refine wpList_append_src _ rfl _ _ 22 rfl w2.heap.size 3 i0 (.int .i64 0) _ Try.underlying22 hi hz0 hz1 hz2 rfl g2 n c2 _ rfl (World.ownsRow.alloc HO.out _) (some ⟨w3.heap.size, 0, none⟩) 1 1 _ rfl (src_one w3 (-8)) (by unfold maxLen; omega) (by omega) (by have := HB3.out.size; simp; omega) ?_; intro g4 c4 w4 hown' hb1; have HB4 := Lib.hid (HB3.out.trans ((Below.refl w2.heap.size w3).alloc HB3.out.size _ |>.trans hb1)); have H4 : Hid (Copy w4 w2.heap.size g4 c4 n f (-8)) := Lib.hid (Copy.of hown'); clear hown' hb1 HO)))
      have hsz4 : w2.heap.size ≤ w4.heap.size := HB4.out.size
      have hcc3 := H3.out.2.2.1
      have hcc4 := H4.out.2.2.1
      have hI3 : (n : Int) ≤ (c3 : Int) := by omega
      have hI4 : (n : Int) ≤ (c4 : Int) := by omega
      have hne : g3 ≠ g4 := by have := H3.out.2.1; have := H4.out.1; omega
      have HBw4 : Hid (Below w.heap.size w (w4.drewN 1)) := Lib.hid (below_drewN' (HBw.out.trans (HB4.out.mono hsz2)) 1)
      have H3d : Hid (Copy (w4.drewN 1) w'.heap.size g3 c3 n f (-7)) := Lib.hid ⟨H3.out.1, by have := H3.out.2.1; simp; omega, H3.out.2.2.1, (H3.out.2.2.2.below HB4.out H3.out.2.1).drewN 1⟩
      have H4d : Hid (Copy (w4.drewN 1) w2.heap.size g4 c4 n f (-8)) := Lib.hid ⟨H4.out.1, by have := H4.out.2.1; simp; omega, H4.out.2.2.1, H4.out.2.2.2.drewN 1⟩
      have hnc : Hid (Calls Try.prog 16 #[.slice (some ⟨g4, 0, none⟩) n c4, .slice (some ⟨g3, 0, none⟩) n c3] w4.drew fun e W2 => ∃ b sl, e = .returned (.tuple #[.pointer (some ⟨b, 0, none⟩), .int .i64 0]) ∧ OwnW w W2 w4.drew.heap.size g3 g4 b n f sl ∧ W2.cell? ⟨g3, n, none⟩ = some (.int .i64 (-7)) ∧ W2.cell? ⟨g4, n, none⟩ = some (.int .i64 (-8))) := Lib.hid (own_new (W := w4.drew) HBw4.out H3d.out H4d.out hsz1 hsz2 hne HG.out)
      go_region_held3 (fun _ => True) (trivial) (first
        | (go_at_call 16; refine hnc.out.mono ?_; rintro e W2 ⟨b, sl, rfl, how, k3, k4⟩; have HW := Lib.hid how; clear how))
      go_wp2
      generalize w4.drew.heap.size = B at HW
      go_loopw [65] (fun i wr => ∃ k : Nat, k ≤ n + 1 ∧ i = .int .i64 k ∧ Hid (OwnW w wr B g3 g4 b n f sl)) (fun i _ => n + 1 - (intOf i).toNat)
      case atStart => exact ⟨0, by omega, rfl, HW⟩
      case round =>
        obtain ⟨k, hk, rfl, HK⟩ := hrel
        by_cases hkn : k < n + 1
        · obtain ⟨h3, l3⟩ := HK.out.l3
          obtain ⟨h4, l4⟩ := HK.out.l4
          have a3 := l3.cell k hkn
          have a4 := l4.cell k hkn
          have f3 := l3.free k
          have f4 := l4.free k
          have HK2 := Lib.hid (HK.out.store hkn (-9) (-9))
          clear l3 l4
          go_wp2
          go_roundw
          case rel => exact ⟨k + 1, by omega, by go_num, HK2⟩
          case measure => simp [intOf]; omega
        · have hkn2 : k = n + 1 := by omega
          subst hkn2
          rw [show ((n + 1 : Nat) : Int) = (n : Int) + 1 by omega]
          go_wp2
          go_loopw [8] (fun i wr => ∃ k : Nat, k ≤ n ∧ i = .int .i64 k ∧ Hid (OwnW w wr B g3 g4 b n f sl)) (fun i _ => n - (intOf i).toNat)
          case atStart => exact ⟨0, by omega, rfl, HK⟩
          case round =>
            obtain ⟨j, hj, rfl, HJ⟩ := hrel
            by_cases hjn : j < n
            · obtain ⟨x, rfl⟩ : ∃ x, a = some x := by
                cases a with
                | none => have := HR.out.1 rfl; omega
                | some x => exact ⟨x, rfl⟩
              obtain ⟨X, hX⟩ : ∃ X, f j = X := ⟨_, rfl⟩
              have HX := Lib.hid hX
              have hc := cell_later HJ.out.below (HR.out.2 x rfl j hjn)
              rw [hX] at hc
              have tq : Hid (∀ q, Calls Try.prog 14 #[.pointer (some ⟨b, 0, none⟩), .int .i64 j] (wr.drewN q) fun e w' => e = .returned (.int .i64 X) ∧ ∃ q2, w' = (wr.drewN q).drewN q2) :=
                Lib.hid (fun q => by rw [← HX.out]; exact weightG (HJ.out.tab.drewN q) HG.out j hjn)
              have ti : Hid (Calls Try.prog 17 #[.pointer (some ⟨b, 0, none⟩), .int .i64 j] wr fun e w' => e = .returned (.tuple #[.int .i64 X, .bool true]) ∧ w' = wr) := Lib.hid (by rw [← HX.out]; exact itemG HJ.out.tab j hjn)
              have hxx : (X != X) = false := by simp
              clear hX
              go_upto_region 19 with (go_at_call 17; refine ti.out.mono ?_; rintro e w' ⟨rfl, rfl⟩)
              go_quiet ((go_at_call 14; exact Calls.quiet_of (tq.out _)))
              rename_i nq
              have HJ2 := Lib.hid (HJ.out.drewN nq)
              go_wp2
              go_roundw
              case rel => exact ⟨j + 1, by omega, by go_num, HJ2⟩
              case measure => simp [intOf]; omega
            · go_wp2_with (first
                | (go_at_call 12; refine (pickG HJ.out.tab HG.out 0 (by omega) (by omega)).mono ?_; rintro e w5 ⟨k, rfl, hk, q, rfl⟩; have HAk := Lib.hid hk; clear hk)
                | (go_at_call 13; refine (pick_ref _ _ _ f 0 _ ((HR.out.below HJ.out.below).drewN q) HG.out (by omega) (by omega)).mono ?_; rintro e w6 ⟨l, rfl, l1, l2, l3, rfl⟩; have hlk := (HAk.out.one HG.out ⟨l1, l2, l3⟩).symm; subst hlk; clear l1 l2 l3))
              go_ret
              exact ⟨rfl, below_drewN' HJ.out.below _⟩
    · have hne : (V != 0) = true := bne_iff_ne.2 h0
      go_enter Try.func6, Try.ntmps6
      go_wp2_with (first
        | (go_at_call 9; refine (awake _).mono ?_; rintro e w1 ⟨rfl, h⟩; have HB := Lib.hid h; clear h)
        | (go_at_call 10; go_loud (refine (check_any _ _ _ _ f _ (HR.out.below HB.out)).mono ?_; rintro e w' ⟨he, rfl⟩; rw [HV.out] at he; subst he)))
      go_ret
      exact ⟨rfl, HB.out⟩

theorem ownWalk (a : Option Addr) (len cap : Nat) (z : List Int) (w : World) (h : IsRow .i64 w a len cap z) :
    Calls Try.prog 6 #[.slice a len cap] w fun e w' => e = .returned (.bool true) ∧ Below w.heap.size w w' :=
  own_core a len cap _ w h.src h.rd

end Go.Proofs.Ytblckohcjfoalaa
